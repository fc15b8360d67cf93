/-
  Parts of the proof, merged by a program of the prover's own; no condition.
-/
import Derived.Test.YtcfingekgbbclaaGreatDoorKC3
import Derived.LaidMore
import Derived.LaidSub
import Derived.Lay
import Derived.Lib.IndexAny
import Derived.Lib.TrimAscii
import Derived.Lib.TrimUEq
import Derived.Lib.ValidLaws
import Derived.OpenShut
import Derived.ProofKit
import Derived.Shelf.LaysM
import Derived.Shelf.Small.Strs
import Derived.Shelf.Spec.SlicesInsert
import Derived.Shelf.Spec.SlicesInsertGrow
import Derived.Shelf.Spec.TrailingZeros
import Derived.Shelf.Strconv.Itoa3
import Derived.Shelf.Strings.Count
import Derived.Shelf.Strings.Cut
import Derived.Shelf.Strings.IndexAnyAll
import Derived.Shelf.Strings.OnBuilder
import Derived.Shelf.Strings.Search3
import Derived.Shelf.Unicode.ValidAny
import Derived.Shelf.Utf8.RuneCount
import Derived.Shelf.Vars
import Derived.Test.YtcfingekgbbclaaGreatDoorChecked
import Derived.Test.YtcfingekgbbclaaGreatDoorProg
import Derived.Test.YtcfingekgbbclaaGreatDoorRows
namespace Go.Proofs
open Go.Shelf
def Tryz.lays156_ren:Go.Shelf.Ren:=⟨fun | 156=>111 | 165=>142 | 166=>143 | 169=>144 | 240=>171 | 241=>172 | 276=>184 | 277=>185 | n=>n,fun | 31=>54 | 9=>9 | 3=>3 | 4=>4 | 0=>0 | 20=>20 | 72=>121 | 76=>125 | 70=>119 | 37=>38 | 75=>124 | 127=>149 | 164=>157 | 5=>5 | 80=>127 | n=>n,fun | n=>n⟩
theorem Tryz.lays156:Go.Proofs.Lays.n156 Tryz.prog Tryz.lays156_ren:={
 mixed:=by kernel_rfl
 f156:=Tryz.func111.trans (congrArg some (by kernel_rfl))
 f165:=Tryz.func142.trans (congrArg some (by kernel_rfl))
 f166:=Tryz.func143.trans (congrArg some (by kernel_rfl))
 f169:=Tryz.func144.trans (congrArg some (by kernel_rfl))
 f240:=Tryz.func171.trans (congrArg some (by kernel_rfl))
 f241:=Tryz.func172.trans (congrArg some (by kernel_rfl))
 f276:=Tryz.func184.trans (congrArg some (by kernel_rfl))
 f277:=Tryz.func185.trans (congrArg some (by kernel_rfl))
 t0:=Tryz.underlying0
 a0:=Tryz.isAgg0
 z0:=Tryz.sizeOf0
 v0:=Tryz.zeroValue0
 t3:=Tryz.underlying3
 a3:=Tryz.isAgg3
 z3:=Tryz.sizeOf3
 v3:=Tryz.zeroValue3
 t4:=Tryz.underlying4
 a4:=Tryz.isAgg4
 z4:=Tryz.sizeOf4
 v4:=Tryz.zeroValue4
 t9:=Tryz.underlying9
 a9:=Tryz.isAgg9
 z9:=Tryz.sizeOf9
 v9:=Tryz.zeroValue9
 t20:=Tryz.underlying20
 a20:=Tryz.isAgg20
 z20:=Tryz.sizeOf20
 v20:=Tryz.zeroValue20
 t31:=Tryz.underlying54
 a31:=Tryz.isAgg54
 z31:=Tryz.sizeOf54
 v31:=Tryz.zeroValue54
 t37:=Tryz.underlying38
 a37:=Tryz.isAgg38
 z37:=Tryz.sizeOf38
 v37:=Tryz.zeroValue38
 t70:=Tryz.underlying119
 a70:=Tryz.isAgg119
 z70:=Tryz.sizeOf119
 v70:=Tryz.zeroValue119
 t72:=Tryz.underlying121
 a72:=Tryz.isAgg121
 z72:=Tryz.sizeOf121
 v72:=Tryz.zeroValue121
 t75:=Tryz.underlying124
 a75:=Tryz.isAgg124
 z75:=Tryz.sizeOf124
 v75:=Tryz.zeroValue124
 t76:=Tryz.underlying125
 a76:=Tryz.isAgg125
 z76:=Tryz.sizeOf125
 v76:=Tryz.zeroValue125
 t127:=Tryz.underlying149
 a127:=Tryz.isAgg149
 z127:=Tryz.sizeOf149
 v127:=Tryz.zeroValue149
 t164:=Tryz.underlying157
 a164:=Tryz.isAgg157
 z164:=Tryz.sizeOf157
 v164:=Tryz.zeroValue157 }
theorem Tryz.Builder_Extra_156:Builder.Extra Tryz.prog Tryz.lays156_ren:={
 sizeBuilder:=by kernel_rfl
 liesBuilder:=by kernel_rfl
 t5:=Tryz.underlying5
 a5:=Tryz.isAgg5
 z5:=Tryz.sizeOf5
 v5:=Tryz.zeroValue5
 infoByte:=by kernel_rfl
 cellsByte:=by kernel_rfl
 sizeByte:=by kernel_rfl
 neB5:=by decide }
def Tryz.lays195_ren:Go.Shelf.Ren:=⟨fun | 195=>140 | n=>n,fun | 9=>9 | 3=>3 | 0=>0 | 4=>4 | n=>n,fun | n=>n⟩
theorem Tryz.lays195:Go.Proofs.Lays.n195 Tryz.prog Tryz.lays195_ren:={
 mixed:=by kernel_rfl
 f195:=Tryz.func140.trans (congrArg some (by kernel_rfl))
 t0:=Tryz.underlying0
 a0:=Tryz.isAgg0
 z0:=Tryz.sizeOf0
 v0:=Tryz.zeroValue0
 t3:=Tryz.underlying3
 a3:=Tryz.isAgg3
 z3:=Tryz.sizeOf3
 v3:=Tryz.zeroValue3
 t4:=Tryz.underlying4
 a4:=Tryz.isAgg4
 z4:=Tryz.sizeOf4
 v4:=Tryz.zeroValue4
 t9:=Tryz.underlying9
 a9:=Tryz.isAgg9
 z9:=Tryz.sizeOf9
 v9:=Tryz.zeroValue9 }
def Tryz.laysM171_ren:Go.Shelf.Ren:=⟨fun | 171=>51 | 243=>69 | 246=>97 | 283=>129 | 284=>130 | 285=>131 | 286=>132 | 129=>159 | 317=>158 | 318=>160 | 319=>161 | 320=>162 | 337=>177 | 338=>178 | n=>n,fun | 3=>3 | 9=>9 | 2=>2 | 4=>4 | 171=>113 | 0=>0 | 53=>112 | 37=>38 | 5=>5 | 173=>116 | 212=>137 | 51=>23 | 20=>20 | 213=>138 | 46=>53 | 232=>161 | 233=>162 | n=>n,fun | 17=>1 | 18=>4 | 19=>5 | n=>n⟩
theorem Tryz.laysM171:Go.Proofs.LaysM.n171 Tryz.prog Tryz.laysM171_ren:={
 mixed:=by kernel_rfl
 f129:=Tryz.func159.trans (congrArg some (by kernel_rfl))
 f171:=Tryz.func51.trans (congrArg some (by kernel_rfl))
 f243:=Tryz.func69.trans (congrArg some (by kernel_rfl))
 f246:=Tryz.func97.trans (congrArg some (by kernel_rfl))
 f283:=Tryz.func129.trans (congrArg some (by kernel_rfl))
 f284:=Tryz.func130.trans (congrArg some (by kernel_rfl))
 f285:=Tryz.func131.trans (congrArg some (by kernel_rfl))
 f286:=Tryz.func132.trans (congrArg some (by kernel_rfl))
 f317:=Tryz.func158.trans (congrArg some (by kernel_rfl))
 f318:=Tryz.func160.trans (congrArg some (by kernel_rfl))
 f319:=Tryz.func161.trans (congrArg some (by kernel_rfl))
 f320:=Tryz.func162.trans (congrArg some (by kernel_rfl))
 f337:=Tryz.func177.trans (congrArg some (by kernel_rfl))
 f338:=Tryz.func178.trans (congrArg some (by kernel_rfl))
 t0:=Tryz.underlying0
 a0:=Tryz.isAgg0
 z0:=Tryz.sizeOf0
 v0:=Tryz.zeroValue0
 t2:=Tryz.underlying2
 a2:=Tryz.isAgg2
 z2:=Tryz.sizeOf2
 v2:=Tryz.zeroValue2
 t3:=Tryz.underlying3
 a3:=Tryz.isAgg3
 z3:=Tryz.sizeOf3
 v3:=Tryz.zeroValue3
 t4:=Tryz.underlying4
 a4:=Tryz.isAgg4
 z4:=Tryz.sizeOf4
 v4:=Tryz.zeroValue4
 t5:=Tryz.underlying5
 a5:=Tryz.isAgg5
 z5:=Tryz.sizeOf5
 v5:=Tryz.zeroValue5
 t9:=Tryz.underlying9
 a9:=Tryz.isAgg9
 z9:=Tryz.sizeOf9
 v9:=Tryz.zeroValue9
 t20:=Tryz.underlying20
 a20:=Tryz.isAgg20
 z20:=Tryz.sizeOf20
 v20:=Tryz.zeroValue20
 t37:=Tryz.underlying38
 a37:=Tryz.isAgg38
 z37:=Tryz.sizeOf38
 v37:=Tryz.zeroValue38
 t46:=Tryz.underlying53
 a46:=Tryz.isAgg53
 z46:=Tryz.sizeOf53
 v46:=Tryz.zeroValue53
 t51:=Tryz.underlying23
 a51:=Tryz.isAgg23
 z51:=Tryz.sizeOf23
 v51:=Tryz.zeroValue23
 t53:=Tryz.underlying112
 a53:=Tryz.isAgg112
 z53:=Tryz.sizeOf112
 v53:=Tryz.zeroValue112
 t171:=Tryz.underlying113
 a171:=Tryz.isAgg113
 z171:=Tryz.sizeOf113
 v171:=Tryz.zeroValue113
 t173:=Tryz.underlying116
 a173:=Tryz.isAgg116
 z173:=Tryz.sizeOf116
 v173:=Tryz.zeroValue116
 t212:=Tryz.underlying137
 a212:=Tryz.isAgg137
 z212:=Tryz.sizeOf137
 v212:=Tryz.zeroValue137
 t213:=Tryz.underlying138
 a213:=Tryz.isAgg138
 z213:=Tryz.sizeOf138
 t232:=Tryz.underlying161
 a232:=Tryz.isAgg161
 z232:=Tryz.sizeOf161
 v232:=Tryz.zeroValue161
 t233:=Tryz.underlying162
 a233:=Tryz.isAgg162
 z233:=Tryz.sizeOf162
 v233:=Tryz.zeroValue162
 g17:=by kernel_rfl
 g18:=by kernel_rfl
 g19:=by kernel_rfl
 i0:=by kernel_rfl
 i2:=by kernel_rfl
 i3:=by kernel_rfl
 i4:=by kernel_rfl
 i5:=by kernel_rfl
 i9:=by kernel_rfl
 i20:=by kernel_rfl
 i37:=by kernel_rfl
 i46:=by kernel_rfl
 i51:=by kernel_rfl
 i53:=by kernel_rfl
 i171:=by kernel_rfl
 i173:=by kernel_rfl
 i212:=by kernel_rfl
 i232:=by kernel_rfl
 i233:=by kernel_rfl
 m17:=by kernel_rfl
 m18:=by kernel_rfl
 m19:=by kernel_rfl }
def Tryz.lays143_ren:Go.Shelf.Ren:=⟨fun | 143=>154 | 219=>99 | 217=>100 | 225=>103 | 224=>102 | 267=>133 | 266=>134 | 314=>163 | n=>n,fun | 9=>9 | 3=>3 | 4=>4 | 5=>5 | 46=>53 | 146=>140 | 51=>23 | n=>n,fun | 1=>0 | n=>n⟩
theorem Tryz.lays143:Go.Proofs.Lays.n143 Tryz.prog Tryz.lays143_ren:={
 mixed:=by kernel_rfl
 f143:=Tryz.func154.trans (congrArg some (by kernel_rfl))
 f217:=Tryz.func100.trans (congrArg some (by kernel_rfl))
 f219:=Tryz.func99.trans (congrArg some (by kernel_rfl))
 f224:=Tryz.func102.trans (congrArg some (by kernel_rfl))
 f225:=Tryz.func103.trans (congrArg some (by kernel_rfl))
 f266:=Tryz.func134.trans (congrArg some (by kernel_rfl))
 f267:=Tryz.func133.trans (congrArg some (by kernel_rfl))
 f314:=Tryz.func163.trans (congrArg some (by kernel_rfl))
 t3:=Tryz.underlying3
 a3:=Tryz.isAgg3
 z3:=Tryz.sizeOf3
 v3:=Tryz.zeroValue3
 t4:=Tryz.underlying4
 a4:=Tryz.isAgg4
 z4:=Tryz.sizeOf4
 v4:=Tryz.zeroValue4
 t5:=Tryz.underlying5
 a5:=Tryz.isAgg5
 z5:=Tryz.sizeOf5
 v5:=Tryz.zeroValue5
 t9:=Tryz.underlying9
 a9:=Tryz.isAgg9
 z9:=Tryz.sizeOf9
 v9:=Tryz.zeroValue9
 t46:=Tryz.underlying53
 a46:=Tryz.isAgg53
 z46:=Tryz.sizeOf53
 v46:=Tryz.zeroValue53
 t51:=Tryz.underlying23
 a51:=Tryz.isAgg23
 z51:=Tryz.sizeOf23
 v51:=Tryz.zeroValue23
 t146:=Tryz.underlying140
 a146:=Tryz.isAgg140
 z146:=Tryz.sizeOf140
 v146:=Tryz.zeroValue140
 g1:=by kernel_rfl }
def Tryz.lays145_ren:Go.Shelf.Ren:=⟨fun | 145=>54 | 220=>72 | 219=>99 | 217=>100 | 225=>103 | 224=>102 | 267=>133 | 266=>134 | 314=>163 | n=>n,fun | 9=>9 | 4=>4 | 59=>57 | 3=>3 | 5=>5 | 46=>53 | 146=>140 | 51=>23 | n=>n,fun | 1=>0 | n=>n⟩
theorem Tryz.lays145:Go.Proofs.Lays.n145 Tryz.prog Tryz.lays145_ren:={
 mixed:=by kernel_rfl
 f145:=Tryz.func54.trans (congrArg some (by kernel_rfl))
 f217:=Tryz.func100.trans (congrArg some (by kernel_rfl))
 f219:=Tryz.func99.trans (congrArg some (by kernel_rfl))
 f220:=Tryz.func72.trans (congrArg some (by kernel_rfl))
 f224:=Tryz.func102.trans (congrArg some (by kernel_rfl))
 f225:=Tryz.func103.trans (congrArg some (by kernel_rfl))
 f266:=Tryz.func134.trans (congrArg some (by kernel_rfl))
 f267:=Tryz.func133.trans (congrArg some (by kernel_rfl))
 f314:=Tryz.func163.trans (congrArg some (by kernel_rfl))
 t3:=Tryz.underlying3
 a3:=Tryz.isAgg3
 z3:=Tryz.sizeOf3
 v3:=Tryz.zeroValue3
 t4:=Tryz.underlying4
 a4:=Tryz.isAgg4
 z4:=Tryz.sizeOf4
 v4:=Tryz.zeroValue4
 t5:=Tryz.underlying5
 a5:=Tryz.isAgg5
 z5:=Tryz.sizeOf5
 v5:=Tryz.zeroValue5
 t9:=Tryz.underlying9
 a9:=Tryz.isAgg9
 z9:=Tryz.sizeOf9
 v9:=Tryz.zeroValue9
 t46:=Tryz.underlying53
 a46:=Tryz.isAgg53
 z46:=Tryz.sizeOf53
 v46:=Tryz.zeroValue53
 t51:=Tryz.underlying23
 a51:=Tryz.isAgg23
 z51:=Tryz.sizeOf23
 v51:=Tryz.zeroValue23
 t59:=Tryz.underlying57
 a59:=Tryz.isAgg57
 z59:=Tryz.sizeOf57
 v59:=Tryz.zeroValue57
 t146:=Tryz.underlying140
 a146:=Tryz.isAgg140
 z146:=Tryz.sizeOf140
 v146:=Tryz.zeroValue140
 g1:=by kernel_rfl }
def Tryz.lays138_ren:Go.Shelf.Ren:=⟨fun | 138=>166 | 195=>140 | 218=>181 | 143=>154 | 219=>99 | 217=>100 | 225=>103 | 224=>102 | 267=>133 | 266=>134 | 314=>163 | n=>n,fun | 9=>9 | 3=>3 | 4=>4 | 5=>5 | 0=>0 | 46=>53 | 146=>140 | 51=>23 | n=>n,fun | 1=>0 | n=>n⟩
theorem Tryz.lays138:Go.Proofs.Lays.n138 Tryz.prog Tryz.lays138_ren:={
 mixed:=by kernel_rfl
 f138:=Tryz.func166.trans (congrArg some (by kernel_rfl))
 f143:=Tryz.func154.trans (congrArg some (by kernel_rfl))
 f195:=Tryz.func140.trans (congrArg some (by kernel_rfl))
 f217:=Tryz.func100.trans (congrArg some (by kernel_rfl))
 f218:=Tryz.func181.trans (congrArg some (by kernel_rfl))
 f219:=Tryz.func99.trans (congrArg some (by kernel_rfl))
 f224:=Tryz.func102.trans (congrArg some (by kernel_rfl))
 f225:=Tryz.func103.trans (congrArg some (by kernel_rfl))
 f266:=Tryz.func134.trans (congrArg some (by kernel_rfl))
 f267:=Tryz.func133.trans (congrArg some (by kernel_rfl))
 f314:=Tryz.func163.trans (congrArg some (by kernel_rfl))
 t0:=Tryz.underlying0
 a0:=Tryz.isAgg0
 z0:=Tryz.sizeOf0
 v0:=Tryz.zeroValue0
 t3:=Tryz.underlying3
 a3:=Tryz.isAgg3
 z3:=Tryz.sizeOf3
 v3:=Tryz.zeroValue3
 t4:=Tryz.underlying4
 a4:=Tryz.isAgg4
 z4:=Tryz.sizeOf4
 v4:=Tryz.zeroValue4
 t5:=Tryz.underlying5
 a5:=Tryz.isAgg5
 z5:=Tryz.sizeOf5
 v5:=Tryz.zeroValue5
 t9:=Tryz.underlying9
 a9:=Tryz.isAgg9
 z9:=Tryz.sizeOf9
 v9:=Tryz.zeroValue9
 t46:=Tryz.underlying53
 a46:=Tryz.isAgg53
 z46:=Tryz.sizeOf53
 v46:=Tryz.zeroValue53
 t51:=Tryz.underlying23
 a51:=Tryz.isAgg23
 z51:=Tryz.sizeOf23
 v51:=Tryz.zeroValue23
 t146:=Tryz.underlying140
 a146:=Tryz.isAgg140
 z146:=Tryz.sizeOf140
 v146:=Tryz.zeroValue140
 g1:=by kernel_rfl }
def Tryz.lays196_ren:Go.Shelf.Ren:=⟨fun | 196=>139 | 259=>167 | n=>n,fun | 9=>9 | 4=>4 | 3=>3 | 5=>5 | 12=>12 | 119=>144 | 0=>0 | 46=>53 | 139=>147 | 138=>146 | 53=>112 | n=>n,fun | 3=>2 | 4=>3 | n=>n⟩
theorem Tryz.lays196:Go.Proofs.Lays.n196 Tryz.prog Tryz.lays196_ren:={
 mixed:=by kernel_rfl
 f196:=Tryz.func139.trans (congrArg some (by kernel_rfl))
 f259:=Tryz.func167.trans (congrArg some (by kernel_rfl))
 t0:=Tryz.underlying0
 a0:=Tryz.isAgg0
 z0:=Tryz.sizeOf0
 v0:=Tryz.zeroValue0
 t3:=Tryz.underlying3
 a3:=Tryz.isAgg3
 z3:=Tryz.sizeOf3
 v3:=Tryz.zeroValue3
 t4:=Tryz.underlying4
 a4:=Tryz.isAgg4
 z4:=Tryz.sizeOf4
 v4:=Tryz.zeroValue4
 t5:=Tryz.underlying5
 a5:=Tryz.isAgg5
 z5:=Tryz.sizeOf5
 v5:=Tryz.zeroValue5
 t9:=Tryz.underlying9
 a9:=Tryz.isAgg9
 z9:=Tryz.sizeOf9
 v9:=Tryz.zeroValue9
 t12:=Tryz.underlying12
 a12:=Tryz.isAgg12
 z12:=Tryz.sizeOf12
 v12:=Tryz.zeroValue12
 t46:=Tryz.underlying53
 a46:=Tryz.isAgg53
 z46:=Tryz.sizeOf53
 v46:=Tryz.zeroValue53
 t53:=Tryz.underlying112
 a53:=Tryz.isAgg112
 z53:=Tryz.sizeOf112
 v53:=Tryz.zeroValue112
 t119:=Tryz.underlying144
 a119:=Tryz.isAgg144
 z119:=Tryz.sizeOf144
 t138:=Tryz.underlying146
 a138:=Tryz.isAgg146
 z138:=Tryz.sizeOf146
 v138:=Tryz.zeroValue146
 t139:=Tryz.underlying147
 a139:=Tryz.isAgg147
 z139:=Tryz.sizeOf147
 v139:=Tryz.zeroValue147
 g3:=by kernel_rfl
 g4:=by kernel_rfl }
def Tryz.lays2_21_ren:Go.Shelf.Ren:=⟨fun | 21=>187 | 27=>190 | 28=>191 | 35=>192 | 39=>193 | n=>n,fun | 22=>105 | 3=>3 | 4=>4 | 0=>0 | n=>n,fun | n=>n⟩
theorem Tryz.lays2_21:Go.Proofs.Lays2.n21 Tryz.prog Tryz.lays2_21_ren:={
 mixed:=by kernel_rfl
 f21:=Tryz.func187.trans (congrArg some (by kernel_rfl))
 f27:=Tryz.func190.trans (congrArg some (by kernel_rfl))
 f28:=Tryz.func191.trans (congrArg some (by kernel_rfl))
 f35:=Tryz.func192.trans (congrArg some (by kernel_rfl))
 f39:=Tryz.func193.trans (congrArg some (by kernel_rfl))
 t0:=Tryz.underlying0
 a0:=Tryz.isAgg0
 z0:=Tryz.sizeOf0
 v0:=Tryz.zeroValue0
 t3:=Tryz.underlying3
 a3:=Tryz.isAgg3
 z3:=Tryz.sizeOf3
 v3:=Tryz.zeroValue3
 t4:=Tryz.underlying4
 a4:=Tryz.isAgg4
 z4:=Tryz.sizeOf4
 v4:=Tryz.zeroValue4
 t22:=Tryz.underlying105
 a22:=Tryz.isAgg105
 z22:=Tryz.sizeOf105
 v22:=Tryz.zeroValue105
 i3:=by kernel_rfl }
def Tryz.lays7_27_ren:Go.Shelf.Ren:=⟨fun | 27=>162 | 28=>177 | 29=>178 | n=>n,fun | 25=>53 | 3=>3 | 27=>23 | 22=>112 | 4=>4 | 53=>161 | 0=>0 | 5=>5 | 54=>162 | n=>n,fun | 0=>4 | 1=>5 | n=>n⟩
theorem Tryz.lays7_27:Go.Proofs.Lays7.n27 Tryz.prog Tryz.lays7_27_ren:={
 mixed:=by kernel_rfl
 f27:=Tryz.func162.trans (congrArg some (by kernel_rfl))
 f28:=Tryz.func177.trans (congrArg some (by kernel_rfl))
 f29:=Tryz.func178.trans (congrArg some (by kernel_rfl))
 t0:=Tryz.underlying0
 a0:=Tryz.isAgg0
 z0:=Tryz.sizeOf0
 v0:=Tryz.zeroValue0
 i0:=by kernel_rfl
 t3:=Tryz.underlying3
 a3:=Tryz.isAgg3
 z3:=Tryz.sizeOf3
 v3:=Tryz.zeroValue3
 i3:=by kernel_rfl
 t4:=Tryz.underlying4
 a4:=Tryz.isAgg4
 z4:=Tryz.sizeOf4
 v4:=Tryz.zeroValue4
 i4:=by kernel_rfl
 t5:=Tryz.underlying5
 a5:=Tryz.isAgg5
 z5:=Tryz.sizeOf5
 v5:=Tryz.zeroValue5
 i5:=by kernel_rfl
 t22:=Tryz.underlying112
 a22:=Tryz.isAgg112
 z22:=Tryz.sizeOf112
 v22:=Tryz.zeroValue112
 i22:=by kernel_rfl
 t25:=Tryz.underlying53
 a25:=Tryz.isAgg53
 z25:=Tryz.sizeOf53
 v25:=Tryz.zeroValue53
 i25:=by kernel_rfl
 t27:=Tryz.underlying23
 a27:=Tryz.isAgg23
 z27:=Tryz.sizeOf23
 v27:=Tryz.zeroValue23
 i27:=by kernel_rfl
 t53:=Tryz.underlying161
 a53:=Tryz.isAgg161
 z53:=Tryz.sizeOf161
 v53:=Tryz.zeroValue161
 i53:=by kernel_rfl
 t54:=Tryz.underlying162
 a54:=Tryz.isAgg162
 z54:=Tryz.sizeOf162
 g0:=by kernel_rfl
 g1:=by kernel_rfl }
def Tryz.lays137_ren:Go.Shelf.Ren:=⟨fun | 137=>73 | 217=>100 | 266=>134 | n=>n,fun | 9=>9 | 5=>5 | 3=>3 | n=>n,fun | n=>n⟩
theorem Tryz.lays137:Go.Proofs.Lays.n137 Tryz.prog Tryz.lays137_ren:={
 mixed:=by kernel_rfl
 f137:=Tryz.func73.trans (congrArg some (by kernel_rfl))
 f217:=Tryz.func100.trans (congrArg some (by kernel_rfl))
 f266:=Tryz.func134.trans (congrArg some (by kernel_rfl))
 t3:=Tryz.underlying3
 a3:=Tryz.isAgg3
 z3:=Tryz.sizeOf3
 v3:=Tryz.zeroValue3
 t5:=Tryz.underlying5
 a5:=Tryz.isAgg5
 z5:=Tryz.sizeOf5
 v5:=Tryz.zeroValue5
 t9:=Tryz.underlying9
 a9:=Tryz.isAgg9
 z9:=Tryz.sizeOf9
 v9:=Tryz.zeroValue9 }
def Tryz.lays153_ren:Go.Shelf.Ren:=⟨fun | 153=>58 | 152=>75 | 226=>76 | 227=>77 | 228=>78 | 137=>73 | 119=>101 | 224=>102 | 225=>103 | 217=>100 | 266=>134 | n=>n,fun | 9=>9 | 3=>3 | 4=>4 | 5=>5 | 21=>21 | 117=>73 | 116=>72 | 0=>0 | 46=>53 | 124=>98 | n=>n,fun | n=>n⟩
theorem Tryz.lays153:Go.Proofs.Lays.n153 Tryz.prog Tryz.lays153_ren:={
 mixed:=by kernel_rfl
 f119:=Tryz.func101.trans (congrArg some (by kernel_rfl))
 f137:=Tryz.func73.trans (congrArg some (by kernel_rfl))
 f152:=Tryz.func75.trans (congrArg some (by kernel_rfl))
 f153:=Tryz.func58.trans (congrArg some (by kernel_rfl))
 f217:=Tryz.func100.trans (congrArg some (by kernel_rfl))
 f224:=Tryz.func102.trans (congrArg some (by kernel_rfl))
 f225:=Tryz.func103.trans (congrArg some (by kernel_rfl))
 f226:=Tryz.func76.trans (congrArg some (by kernel_rfl))
 f227:=Tryz.func77.trans (congrArg some (by kernel_rfl))
 f228:=Tryz.func78.trans (congrArg some (by kernel_rfl))
 f266:=Tryz.func134.trans (congrArg some (by kernel_rfl))
 t0:=Tryz.underlying0
 a0:=Tryz.isAgg0
 z0:=Tryz.sizeOf0
 v0:=Tryz.zeroValue0
 t3:=Tryz.underlying3
 a3:=Tryz.isAgg3
 z3:=Tryz.sizeOf3
 v3:=Tryz.zeroValue3
 t4:=Tryz.underlying4
 a4:=Tryz.isAgg4
 z4:=Tryz.sizeOf4
 v4:=Tryz.zeroValue4
 t5:=Tryz.underlying5
 a5:=Tryz.isAgg5
 z5:=Tryz.sizeOf5
 v5:=Tryz.zeroValue5
 t9:=Tryz.underlying9
 a9:=Tryz.isAgg9
 z9:=Tryz.sizeOf9
 v9:=Tryz.zeroValue9
 t21:=Tryz.underlying21
 a21:=Tryz.isAgg21
 z21:=Tryz.sizeOf21
 v21:=Tryz.zeroValue21
 t46:=Tryz.underlying53
 a46:=Tryz.isAgg53
 z46:=Tryz.sizeOf53
 v46:=Tryz.zeroValue53
 t116:=Tryz.underlying72
 a116:=Tryz.isAgg72
 z116:=Tryz.sizeOf72
 t117:=Tryz.underlying73
 a117:=Tryz.isAgg73
 z117:=Tryz.sizeOf73
 v117:=Tryz.zeroValue73
 t124:=Tryz.underlying98
 a124:=Tryz.isAgg98
 z124:=Tryz.sizeOf98
 v124:=Tryz.zeroValue98 }
end Go.Proofs
namespace Go.Proofs.YtcfingekgbbclaaGreatDoor.E
open Go Go.Proofs Go.Sort
set_option linter.unusedVariables false
set_option linter.unusedSimpArgs false
set_option maxRecDepth 100000
theorem gk_tab {C:Cfg} {St:Nat→Prop} {w:World} {g:Nat} {k:IntKind} {zs:List Int} (hG:GOK C St w) (hc:C.G=GX) (h:GX.tab g=some (k,zs)):∃ e x,w.heap[g]? = some (.cells (zs.map fun z=>Value.int k z).toArray e x):=(hG.1 g k zs (by rw [hc];exact h)).2
theorem gk_len {C:Cfg} {St:Nat→Prop} {w:World} (hG:GOK C St w) (hc:C.G=GX):∃ m,w.cell? ⟨0,0,none⟩=some (.int .i64 m):=(hG.2 _ (by rw [hc];rfl)).2
theorem gk_cell {w:World} {g:Nat} {zs:List Int} {k:IntKind} {e:TypeId} {x} (h:w.heap[g]? = some (.cells (zs.map fun z=>Value.int k z).toArray e x)) (i:Nat) (hi:i<zs.length):w.cell? ⟨g,i,none⟩=some (.int k (zs.getD i 0)):=by
 simp [World.cell?,h,List.getD_eq_getElem?_getD,List.getElem?_eq_getElem hi]
theorem gk_utf8 {C:Cfg} {St:Nat→Prop} {w:World} (hG:GOK C St w) (hc:C.G=GX):Lib.Utf8Tabs 2 3 w:=by
 obtain ⟨e1,x1,h1⟩:=gk_tab (g:=2) (k:=.u8) (zs:=Lib.firstTab) hG hc rfl
 obtain ⟨e2,x2,h2⟩:=gk_tab (g:=3) (k:=.u8) (zs:=accTab) hG hc rfl
 refine ⟨fun c hc=>?_,fun i hi=>⟨?_,?_⟩⟩
 ·rw [gk_cell h1 c (by simp [Lib.firstTab];omega)]
  simp [Lib.firstTab,List.getD_eq_getElem?_getD,List.getElem?_eq_getElem,hc]
 ·rw [gk_cell h2 (2*i) (by simp [accTab];omega)]
  have:2*i<32:=by omega
  simp [accTab,List.getD_eq_getElem?_getD,this]
 ·rw [gk_cell h2 (2*i+1) (by simp [accTab];omega)]
  have:2*i+1<32:=by omega
  have e:(2*i+1) / 2=i:=by omega
  have e2:¬ (2*i+1) % 2=0:=by omega
  simp [accTab,List.getD_eq_getElem?_getD,this,e,e2]
theorem gk_pow {C:Cfg} {St:Nat→Prop} {w:World} (hG:GOK C St w) (hc:C.G=GX):Lib.TabIs Tryz.prog w "internal/strconv.uint64pow10" .u64 Lib.pow10Tab:=by
 obtain ⟨e1,x1,h1⟩:=gk_tab (g:=1) (k:=.u64) (zs:=Lib.pow10Tab) hG hc rfl
 unfold Lib.TabIs World.var?
 rw [show Tryz.prog.globalNamed "internal/strconv.uint64pow10" = some 1 by kernel_rfl]
 simp only [Option.bind_some,h1]
theorem x_sidx:XFact Tryz.prog GX 154 X_sidx:=by
 refine XFact.fix (pf:=X_sidx0) _ (xfact_of_calls (fn:=Tryz.f154) (by kernel_rfl) (by kernel_rfl) (by kernel_rfl) ?_)
 intro args ret Hc h
 unfold X_sidx0 at h
 split at h
 ·rename_i s p
  obtain ⟨h0,h⟩:=tr_need h
  obtain ⟨rfl,rfl⟩:=tr_ret h
  refine ⟨rfl,rfl,fun C hP hCG Γ w Vs hG hlt hc=>?_⟩
  obtain ⟨U,V,rfl,hu,hv⟩:=hc.arr2
  obtain ⟨s',rfl,rfl⟩:=hu.inv_str
  obtain ⟨p',rfl,rfl⟩:=hv.inv_str
  obtain ⟨m,hm⟩:=gk_len hG hCG
  have hs:=maxL h0
  refine (Any.strings_Index Tryz.lays143 s' p' m w (by simp at hs;omega) hm).mono ?_
  rintro e w' ⟨rfl,rfl⟩
  exact ⟨_,rfl,RowKit.Below.refl _ _,VP.mk_int _ _⟩
 ·cases h
theorem x_scut:XFact Tryz.prog GX 54 X_scut:=by
 refine XFact.fix (pf:=X_scut0) _ (xfact_of_calls (fn:=Tryz.f54) (by kernel_rfl) (by kernel_rfl) (by kernel_rfl) ?_)
 intro args ret Hc h
 unfold X_scut0 at h
 split at h
 ·rename_i s p
  obtain ⟨h0,h⟩:=tr_need h
  obtain ⟨rfl,rfl⟩:=tr_ret h
  refine ⟨rfl,rfl,fun C hP hCG Γ w Vs hG hlt hc=>?_⟩
  obtain ⟨U,V,rfl,hu,hv⟩:=hc.arr2
  obtain ⟨s',rfl,rfl⟩:=hu.inv_str
  obtain ⟨p',rfl,rfl⟩:=hv.inv_str
  obtain ⟨m,hm⟩:=gk_len hG hCG
  have hs:=maxL h0
  refine (Any.strings_Cut Tryz.lays145 s' p' m w (by simp at hs;omega) hm).mono ?_
  rintro e w' ⟨rfl,n,rfl⟩
  exact ⟨_,rfl,below_drewN _ _,VP.mk_tup3 (VP.mk_str _) (VP.mk_str _) (VP.mk_bool _)⟩
 ·cases h
theorem x_scnt:XFact Tryz.prog GX 166 X_scnt:=by
 refine XFact.fix (pf:=X_scnt0) _ (xfact_of_calls (fn:=Tryz.f166) (by kernel_rfl) (by kernel_rfl) (by kernel_rfl) ?_)
 intro args ret Hc h
 unfold X_scnt0 at h
 split at h
 ·rename_i s p
  obtain ⟨h0,h⟩:=tr_need h
  obtain ⟨rfl,rfl⟩:=tr_ret h
  refine ⟨rfl,rfl,fun C hP hCG Γ w Vs hG hlt hc=>?_⟩
  obtain ⟨U,V,rfl,hu,hv⟩:=hc.arr2
  obtain ⟨s',rfl,rfl⟩:=hu.inv_str
  obtain ⟨p',rfl,hp⟩:=hv.inv_str
  obtain ⟨c,rfl⟩:∃ c,p=[c]:=by
   match p,h0 with
   | [c],_=>exact ⟨c,rfl⟩
  have hp':p'=⟨#[c]⟩:=by
   cases p' with
   | mk d=>congr 1;exact Array.toList_inj.1 hp
  subst hp'
  refine (Any.strings_Count_one Tryz.lays138 s' c w).mono ?_
  rintro e w' ⟨rfl,rfl⟩
  exact ⟨_,rfl,RowKit.Below.refl _ _,VP.mk_int _ _⟩
 ·cases h
theorem x_itoa:XFact Tryz.prog GX 51 X_itoa:=by
 refine XFact.fix (pf:=X_itoa0) _ (xfact_of_calls (fn:=Tryz.f51) (by kernel_rfl) (by kernel_rfl) (by kernel_rfl) ?_)
 intro args ret Hc h
 unfold X_itoa0 at h
 split at h
 ·rename_i n
  obtain ⟨h0,h⟩:=tr_need h
  obtain ⟨rfl,rfl⟩:=tr_ret h
  refine ⟨rfl,rfl,fun C hP hCG Γ w Vs hG hlt hc=>?_⟩
  obtain ⟨U,rfl,hu⟩:=hc.arr1
  obtain rfl:=hu.inv_int
  obtain ⟨hb0,hb1⟩:=ltN_iff.1 h0
  refine (Any.strconv_Itoa Tryz.laysM171 n (by omega) (by omega) w (gk_pow hG hCG)).mono ?_
  rintro e w' ⟨rfl,k,os,rfl⟩
  refine ⟨_,rfl,(below_drewN w k).trans (show RowKit.Below w.heap.size _ _ from below_grow (w.drewN k) os),?_⟩
  have:Lib.itoa n=Lib.decDigits n.toNat:=by unfold Lib.itoa;rw [if_neg (by omega)]
  rw [this]
  exact VP.mk_str _
 ·cases h
theorem str_row {l:LL} (h:l.all isS=true):l=strE (l.map elS):=by
 unfold strE
 rw [List.map_map]
 symm
 rw [List.map_congr_left (g:=id)]
 ·simp
 ·intro x hx
  have:=List.all_eq_true.1 h x hx
  unfold isS at this
  split at this
  ·rfl
  ·cases this
theorem x_sjoin:XFact Tryz.prog GX 111 X_sjoin:=by
 refine XFact.fix (pf:=X_sjoin0) _ (xfact_of_calls (fn:=Tryz.f111) (by kernel_rfl) (by kernel_rfl) (by kernel_rfl) ?_)
 intro args ret Hc h
 unfold X_sjoin0 at h
 split at h
 ·rename_i z t l p
  obtain ⟨h0,h⟩:=tr_need h
  obtain ⟨h1,h⟩:=tr_need h
  obtain ⟨h2,h⟩:=tr_need h
  obtain ⟨rfl,rfl⟩:=tr_ret h
  refine ⟨rfl,rfl,fun C hP hCG Γ w Vs hG hlt hc=>?_⟩
  obtain ⟨U,V,rfl,hu,hv⟩:=hc.arr2
  obtain ⟨p',rfl,rfl⟩:=hv.inv_str
  have hlen:=maxL h1
  have hn:=maxL h2
  have hs:=hu.inv_s
  have none':∀ (a:Option Addr) (cap:Nat),l=[]→Calls Tryz.prog 111 #[.slice a 0 cap,.string p'] w fun e w'=>∃ V,e = .returned V∧RowKit.Below w.heap.size w w'∧VP Γ (shpOf []) w' (.s (.str (Lib.join (l.map elS) p'.data.toList))) V:=by
   intro a cap hl
   subst hl
   refine (Any.strings_Join_none Tryz.lays156 Tryz.Builder_Extra_156 a cap p' w).mono ?_
   rintro e w' ⟨rfl,rfl⟩
   exact ⟨_,rfl,RowKit.Below.refl _ _,VP.mk_str _⟩
  cases hs with
  | nil=>exact none' _ _ rfl
  | emp=>exact none' _ _ rfl
  | sl _ _ g off n cap sz Vc hn' hcap hm ht hg hl' hcl hvl=>
   subst hn'
   have hrow:=str_row h0
   have hsz:∀ i (h:i<l.length),∃ b:ByteArray,(l[i])=[SV.str b.data.toList]∧w.cell? ⟨g,off+i,none⟩=some (.string b):=by
    intro i hi
    have hx:=List.all_eq_true.1 h0 (l[i]) (List.getElem_mem hi)
    unfold isS at hx
    split at hx
    ·rename_i x he
     have hc1:=hcl i hi 0 (by rw [he];simp)
     have hv1:=hvl i hi 0 (by rw [he];simp)
     simp only [he,List.getElem_cons_zero] at hv1
     obtain ⟨b,hb,rfl⟩:=hv1.inv_str
     rw [hb] at hc1
     exact ⟨b,he,by simpa using hc1⟩
    ·cases hx
   obtain ⟨xs,hxs,hcx⟩:∃ xs:List ByteArray,xs.map (·.data.toList)=l.map elS∧∀ (j:Nat) x,xs[j]? = some x→w.cell? ⟨g,off+j,none⟩=some (.string x):=by
    refine ⟨(l.map elS).map fun s=>⟨s.toArray⟩,by simp [Function.comp_def],?_⟩
    intro j x hx
    simp only [List.getElem?_map] at hx
    cases hj:l[j]? with
    | none=>simp [hj] at hx
    | some el=>
     obtain ⟨hj1,rfl⟩:=List.getElem?_eq_some_iff.1 hj
     obtain ⟨b,hb,hc2⟩:=hsz j hj1
     simp only [hj,Option.map_some,Option.some.injEq] at hx
     rw [hb] at hx
     simp [elS,SV.gS] at hx
     rw [←hx]
     exact hc2
   have hll:xs.length=l.length:=by
    have:=congrArg List.length hxs
    simpa using this
   rw [←hxs] at hlen ⊢
   have hb:g<w.heap.size:=hlt g hg
   have hmx:l.length≤140737488355328:=by omega
   refine (hll ▸ Any.strings_Join Tryz.lays156 Tryz.Builder_Extra_156 g off cap xs p' w hcx hb (by omega) (by omega) (by omega)).mono ?_
   rintro e w' ⟨rfl,hw⟩
   exact ⟨_,rfl,hw,VP.mk_str _⟩
 ·cases h
theorem and15 (x:Nat) (h:x<65536):bAnd .u64 (x:Int) 15=((x % 16:Nat):Int):=by
 unfold bAnd
 rw [show IntKind.bits .u64=64 from rfl,show (15:Int)=((15:Nat):Int) from rfl,bvand 64 x 15 (by omega) (by omega),show x &&& 15=x % 16 from Nat.and_two_pow_sub_one_eq_mod x 4]
 exact wu64_id (by omega) (by omega)
theorem shr4 (x:Nat):shrI .u64 (x:Int) 4=((x / 16:Nat):Int):=by
 unfold shrI
 show Int.fdiv (x:Int) 16=_
 rw [Int.fdiv_eq_ediv_of_nonneg _ (by omega)]
 omega
theorem digit16 (d:Nat) (h:d<16):bAt (([48,49,50,51,52,53,54,55,56,57,97,98,99,100,101,102,103,104,105,106,107,108,109,110,111,112,113,114,115,116]:List UInt8)++([117,118,119,120,121,122]:List UInt8)) (d:Int)=((hexD d).toNat:Int):=by
 have:∀ d:Fin 16,bAt (([48,49,50,51,52,53,54,55,56,57,97,98,99,100,101,102,103,104,105,106,107,108,109,110,111,112,113,114,115,116]:List UInt8)++([117,118,119,120,121,122]:List UInt8)) (d.val:Int)=((hexD d.val).toNat:Int):=by decide
 exact this ⟨d,h⟩
def dRow (i:Nat) (s:By):LL:=List.replicate i [SV.int .u8 0]++s.map u8el
theorem dRow_len (i:Nat) (s:By):(dRow i s).length=i+s.length:=by simp [dRow]
theorem dRow_set (i:Nat) (s:By) (c:UInt8):List.set (dRow (i+1) s) i (putAt (List.getD (dRow (i+1) s) i []) 0 [SV.int .u8 (c.toNat:Int)])=dRow i (c::s):=by
 have hg:List.getD (dRow (i+1) s) i []=[SV.int .u8 0]:=by
  unfold dRow
  rw [List.getD_eq_getElem?_getD,List.getElem?_append_left (by simp),List.getElem?_replicate_of_lt (by omega)]
  rfl
 rw [hg]
 unfold dRow
 rw [List.replicate_succ',List.append_assoc,List.set_append_right _ _ (by simp),List.length_replicate,Nat.sub_self]
 rfl
theorem fbits_loop {R:Type} (z t:Bool) (l:LL) {k0:Bool→Bool→LL→Int→Int→LL→Option R}:∀ (v i n:Nat) (s:By),v<65536→v<n→i+s.length=65→(hexN v).length+s.length≤60→
  ∃ (u i':Nat) (s':By),u<16∧hexD u::s'=hexN v++s∧i'+s'.length=65∧fbits_l0 LF n z t l (v:Int) (i:Int) (dRow i s) k0=k0 z t l (u:Int) (i':Int) (dRow i' s'):=by
 intro v
 induction v using Nat.strongRecOn with
 | _ v ih=>
  intro i n s hv hn hs hb
  obtain ⟨n,rfl⟩:∃ m,n=m+1:=⟨n-1,by omega⟩
  rw [fbits_l0_s]
  unfold fbits_l0f
  by_cases h:v<16
  ·refine ⟨v,i,s,h,by rw [hexN_one h];rfl,hs,?_⟩
   rw [ltI_t (by omega)]
   rfl
  ·have hm:=hexN_more h
   have hlen:(hexN v).length=(hexN (v / 16)).length+1:=by rw [hm];simp
   obtain ⟨j,rfl⟩:∃ j,i=j+1:=⟨i-1,by omega⟩
   have e1:wi64 (((j+1:Nat):Int)-1)=(j:Int):=by rw [wi64_id (by omega) (by omega)];omega
   obtain ⟨u,i',s',h1,h2,h3,h4⟩:=ih (v / 16) (by omega) j n (hexD (v % 16)::s) (by omega) (by omega) (by rw [List.length_cons];omega) (by rw [List.length_cons];omega)
   refine ⟨u,i',s',h1,by rw [h2,hm];simp,h3,?_⟩
   rw [ltI_f (by omega),Bool.not_false,cond_true,and15 v hv]
   simp only [vl]
   rw [shr4,e1,Int.toNat_natCast,inR_t (by omega) (by omega),digit16 _ (by omega),inR_t (by omega) (by omega)]
   simp only [cond_true]
   rw [dRow_set,dRow_len,show (decide (j<j+1+s.length))=true from decide_eq_true (by omega)]
   exact h4
theorem fbits_run {R:Type} {k0:By→LL→Option R} (z t:Bool) (l:LL) (v:Int) (h0:ltN v 65536=true):∃ l',fbits LF z t l v k0=k0 (hexN v.toNat) l':=by
 obtain ⟨hb0,hb1⟩:=ltN_iff.1 h0
 obtain ⟨v,rfl⟩:=Int.eq_ofNat_of_zero_le hb0
 have hLF:=LF_big
 have hl:=hexN_len v (by omega)
 rw [Int.toNat_natCast]
 unfold fbits
 have hr:(List.replicate 65 [SV.int .u8 (0:Int)])=dRow 65 []:=by unfold dRow;rw [List.map_nil,List.append_nil]
 rw [hr]
 obtain ⟨u,i,s,h1,h2,h3,h4⟩:=fbits_loop (R:=R) z t l v 65 LF [] (by omega) (by omega) rfl (by rw [List.length_nil];omega)
 rw [List.append_nil] at h2
 have hls:s.length≤3:=by have:=congrArg List.length h2;rw [List.length_cons] at this;omega
 obtain ⟨j,rfl⟩:∃ j,i=j+1:=⟨i-1,by omega⟩
 refine ⟨dRow j (hexD u::s),?_⟩
 rw [show ((16:Int)==16)=true from rfl,cond_true,cond_true]
 refine Eq.trans h4 ?_
 have e1:wi64 (((j+1:Nat):Int)-1)=(j:Int):=by rw [wi64_id (by omega) (by omega)];omega
 simp only [vl]
 rw [e1,Int.toNat_natCast,inR_t (by omega) (by omega),digit16 u h1,inR_t (by omega) (by omega)]
 simp only [cond_true]
 have hlen:(hexD u::s).length=s.length+1:=rfl
 have hcut:((dRow j (hexD u::s)).drop j).take (65-j)=(hexD u::s).map u8el:=by
  unfold dRow
  rw [List.drop_left' (by simp),List.take_of_length_le (by rw [List.length_map,hlen];omega)]
 rw [dRow_set,dRow_len,dRow_len,show (decide (j<j+1+s.length))=true from decide_eq_true (by omega),hlen,show (decide (j+(s.length+1)=65))=true from decide_eq_true (by omega),sub3_t (by omega) (by omega) (by omega),hcut,all_isU8,map_elU8,h2]
 rfl
theorem fbits_spec (z t:Bool) (l:LL) (v:Int) (h0:ltN v 65536=true):∃ r H,fbits LF z t l v (fun r0 l1=>rv (.tup [.fl 0,.s (.str r0)]) [.arr true 5 1 [],.arr false 138 1 l1])=rv r H∧r.stab [1,0] H = .tup [.s (.sl true true 1 []),.s (.str (hexN v.toNat))]:=by
 obtain ⟨l',e⟩:=fbits_run (k0:=(fun r0 l1=>rv (.tup [.fl 0,.s (.str r0)]) [.arr true 5 1 [],.arr false 138 1 l1])) z t l v h0
 exact ⟨_,_,e,rfl⟩
theorem gk_bruijn {C:Cfg} {St:Nat→Prop} {w:World} (hG:GOK C St w) (hc:C.G=GX):TabAt 5 Lib.deBruijn64tab w:=by
 obtain ⟨e1,x1,h1⟩:=gk_tab (g:=5) (k:=.u8) (zs:=Lib.deBruijn64tab.map fun n:Nat=>(n:Int)) hG hc rfl
 intro j hj
 rw [gk_cell h1 j (by rw [List.length_map];exact hj)]
 simp [List.getD_eq_getElem?_getD,List.getElem?_eq_getElem hj]
theorem x_tz:XFact Tryz.prog GX 162 X_tz:=by
 refine XFact.fix (pf:=X_tz0) _ (xfact_of_calls (fn:=Tryz.f162) (by kernel_rfl) (by kernel_rfl) (by kernel_rfl) ?_)
 intro args ret Hc h
 unfold X_tz0 at h
 split at h
 ·rename_i x
  obtain ⟨h0,h⟩:=tr_need h
  obtain ⟨rfl,rfl⟩:=tr_ret h
  obtain rfl:x=16:=eq_of_beq h0
  refine ⟨rfl,rfl,fun C hP hCG Γ w Vs hG hlt hc=>?_⟩
  obtain ⟨U,rfl,hu⟩:=hc.arr1
  obtain rfl:=hu.inv_int
  refine (Any7.bits_TrailingZeros Tryz.lays7_27 16 (by omega) w (fun _=>gk_bruijn hG hCG)).mono ?_
  rintro e w' ⟨rfl,rfl⟩
  exact ⟨_,rfl,RowKit.Below.refl _ _,VP.mk_int _ _⟩
 ·cases h
theorem x_ispow:XFact Tryz.prog GX 161 X_ispow:=by
 refine XFact.fix (pf:=X_ispow0) _ (xfact_of_stab [] (C₀:=c_ispow LF) (XFacts.ok (l:=[]) rfl trivial) (okFns_of rfl (by kernel_rfl)) follows ?_)
 intro args ret Hc h
 unfold X_ispow0 at h
 split at h
 ·rename_i x
  obtain ⟨h0,h⟩:=tr_need h
  obtain ⟨rfl,rfl⟩:=tr_ret h
  obtain rfl:x=16:=eq_of_beq h0
  exact ⟨rfl,rfl,rfl,1,_,_,ispow_ev LF noY () 0,rfl⟩
 ·cases h
theorem x_fbits:XFact Tryz.prog GX 132 X_fbits:=by
 refine XFact.fix (pf:=X_fbits0) _ (xfact_of_stab [1,0] (C₀:=c_fbits LF) (XFacts.ok (l:=[(161,X_ispow),(162,X_tz)]) rfl ⟨x_ispow,x_tz,trivial⟩) (okFns_of rfl (by kernel_rfl)) follows ?_)
 intro args ret Hc h
 unfold X_fbits0 at h
 split at h
 ·rename_i ds_z ds_t ds v b neg app
  obtain ⟨h0,h⟩:=tr_need h
  obtain ⟨h1,h⟩:=tr_need h
  obtain ⟨h2,h⟩:=tr_need h
  obtain ⟨h3,h⟩:=tr_need h
  obtain ⟨rfl,rfl⟩:=tr_ret h
  obtain rfl:b=16:=eq_of_beq h1
  obtain rfl:neg=false:=by simpa using h2
  obtain rfl:app=false:=by simpa using h3
  obtain ⟨r,H,e,hs⟩:=fbits_spec ds_z ds_t ds v h0
  exact ⟨rfl,rfl,rfl,1,r,H,(fbits_ev LF noY () 0 ds_z ds_t ds v).trans e,hs⟩
 ·cases h
theorem x_ifmtu:XFact Tryz.prog GX 157 X_ifmtu:=by
 refine XFact.fix (pf:=X_ifmtu0) _ (xfact_of_stab [] (C₀:=c_ifmtu LF) (XFacts.ok (l:=[(132,X_fbits)]) rfl ⟨x_fbits,trivial⟩) (okFns_of rfl (by kernel_rfl)) follows ?_)
 intro args ret Hc h
 unfold X_ifmtu0 at h
 split at h
 ·rename_i v b
  obtain ⟨h0,h⟩:=tr_need h
  obtain ⟨h1,h⟩:=tr_need h
  obtain ⟨rfl,rfl⟩:=tr_ret h
  obtain rfl:b=16:=eq_of_beq h1
  have e:ifmtu LF v (fun r0=>rv (.s (.str r0)) [])=rv (.s (.str (hexN v.toNat))) []:=by
   unfold ifmtu
   rw [h0]
   rfl
  exact ⟨rfl,rfl,rfl,1,_,_,(ifmtu_ev LF noY () 0 v).trans e,rfl⟩
 ·cases h
theorem x_fmtu:XFact Tryz.prog GX 128 X_fmtu:=by
 refine XFact.fix (pf:=X_fmtu0) _ (xfact_of_stab [] (C₀:=c_fmtu LF) (XFacts.ok (l:=[(157,X_ifmtu)]) rfl ⟨x_ifmtu,trivial⟩) (okFns_of rfl (by kernel_rfl)) follows ?_)
 intro args ret Hc h
 unfold X_fmtu0 at h
 split at h
 ·rename_i v b
  obtain ⟨h0,h⟩:=tr_need h
  obtain ⟨h1,h⟩:=tr_need h
  obtain ⟨rfl,rfl⟩:=tr_ret h
  obtain rfl:b=16:=eq_of_beq h1
  have e:fmtu LF v (fun r0=>rv (.s (.str r0)) [])=rv (.s (.str (hexN v.toNat))) []:=by
   unfold fmtu
   rw [h0]
   rfl
  exact ⟨rfl,rfl,rfl,1,_,_,(fmtu_ev LF noY () 0 v).trans e,rfl⟩
 ·cases h
end Go.Proofs.YtcfingekgbbclaaGreatDoor.E
namespace Go.Proofs.YtcfingekgbbclaaGreatDoor.E
open Go Go.Proofs
set_option linter.unusedVariables false
theorem v6j_sp (z t:Bool) (l:LL) (h0:l.all isU16=true) (h1:Nat.ble l.length 8=true):∃ r H,v6j LF z t l (fun r0 l1=>rv (.s (.str r0)) [.arr true 9 1 l1])=rv r H∧r.stab [] H = .s (.str (joinH (l.map elN))):=by
 obtain ⟨l',e⟩:=v6j_spec (k0:=(fun r0 l1=>rv (.s (.str r0)) [.arr true 9 1 l1])) z t l h0 h1
 exact ⟨_,_,e,rfl⟩
theorem v6f_sp (a0 a1 a2 a3 a4 a5 a6 a7:Int) (h0:ok8 a0 a1 a2 a3 a4 a5 a6 a7=true):∃ r H,v6f LF a0 a1 a2 a3 a4 a5 a6 a7 (fun r0 l1=>rv (.s (.str r0)) [.arr false 25 1 l1])=rv r H∧r.stab [] H = .s (.str (v6Fmt (n8 a0 a1 a2 a3 a4 a5 a6 a7))):=by
 obtain ⟨l',e⟩:=v6f_spec (k0:=(fun r0 l1=>rv (.s (.str r0)) [.arr false 25 1 l1])) a0 a1 a2 a3 a4 a5 a6 a7 h0
 exact ⟨_,_,e,rfl⟩
def v6V (s:By):PV:=.tup [.agg [.s (.int .u16 (v6c 0 s)),.s (.int .u16 (v6c 1 s)),.s (.int .u16 (v6c 2 s)),.s (.int .u16 (v6c 3 s)),.s (.int .u16 (v6c 4 s)),.s (.int .u16 (v6c 5 s)),.s (.int .u16 (v6c 6 s)),.s (.int .u16 (v6c 7 s))],.s (.bool (v6B s).isSome)]
theorem v6p_sp (s:By) (h0:small s.length=true):∃ r H,v6p LF s (fun r0 r1 r2 r3 r4 r5 r6 r7 r8 l9 l10=>rv (.tup [.agg [.s (.int .u16 r0),.s (.int .u16 r1),.s (.int .u16 r2),.s (.int .u16 r3),.s (.int .u16 r4),.s (.int .u16 r5),.s (.int .u16 r6),.s (.int .u16 r7)],.s (.bool r8)]) [.arr false 25 1 l9,.arr false 25 1 l10])=rv r H∧r.stab [0,0] H=v6V s:=by
 obtain ⟨l,l',e⟩:=v6p_spec (k0:=(fun r0 r1 r2 r3 r4 r5 r6 r7 r8 l9 l10=>rv (.tup [.agg [.s (.int .u16 r0),.s (.int .u16 r1),.s (.int .u16 r2),.s (.int .u16 r3),.s (.int .u16 r4),.s (.int .u16 r5),.s (.int .u16 r6),.s (.int .u16 r7)],.s (.bool r8)]) [.arr false 25 1 l9,.arr false 25 1 l10])) s h0
 exact ⟨_,_,e,rfl⟩
end Go.Proofs.YtcfingekgbbclaaGreatDoor.E
namespace Go.Proofs.YtcfingekgbbclaaGreatDoor.E
open Go Go.Proofs 
set_option linter.unusedVariables false
set_option maxRecDepth 100000
section
variable {σ R : Type} (lf : Nat) (cl : CallT) (yh : Yh σ) (s : σ) (k : Out → St σ → Option R)
noncomputable abbrev b_hparse:Code:=bodyOf Tryz.f81
noncomputable def c_hparse (lf:Nat):Cfg:=mkCfg lf [81] (lookK [(16,[2,0,4,41,0,0])]) [(59,X_hpre),(105,X_haddr),(106,X_hdec),(107,X_tsufc),(90,X_numeric),(108,X_pnum),(109,X_ssplitM),(110,X_lasc),(111,X_sjoin)] (lookK [(28,[2,0]),(25,[2,0]),(27,[2,0]),(26,[2,10,64]),(24,[2,10,59]),(23,[2,10]),(22,[2,5,41,0,0]),(21,[2,5,41,0,0]),(20,[2,0]),(19,[2,5,0,1,0,37,0,0,10]),(18,[2,5,0,1,0,37,0,0]),(17,[2,5,0,0,39,0,0]),(16,[2,5,41,0,0,0]),(15,[2,5,41,0,0]),(14,[2,5]),(13,[2,0]),(12,[2,0]),(11,[2,3,37]),(10,[2,3,0]),(9,[2,1,32]),(8,[2,1]),(7,[2,0]),(6,[2,1,27]),(5,[2,1,0]),(2,[2,0]),(4,[2,0]),(3,[0,1,16]),(1,[0,1,11]),(0,[0,1])]) [59,106,107,90,108,110,111] (lookK [(3,[2,10]),(1,[2,5]),(2,[2,5,41,0,0]),(0,[0,1])]) (some [2,0]) [] [] []
noncomputable def hparse_l0f {R:Type} (lf n:Nat) (self:Nat→Int→Int→LL→Option R) (l_m0:Nat) (n1 n2:Int) (l3:LL) (k0:Int→LL→Option R) (k1:Nat→LL→Option R):Option R:=cond (ltI n2 n1) (cond (inR n2 l_m0) (cond (okE tStr l3 (0+(Int.toNat n2)) 0) (vl (gX l3 (0+(Int.toNat n2)) 0) fun s'33=>cond (small (List.length s'33)) (vl (↑((toAsc s'33)).2:Int) fun n'35=>cond (n'35 != (0:Int)) (k0 n'35 l3) (cond (inR n2 l_m0) (cond (decide ((0+(Int.toNat n2))<(List.length l3))) (vl (List.set l3 (0+(Int.toNat n2)) (putAt (List.getD l3 (0+(Int.toNat n2)) []) 0 [(SV.str ((toAsc s'33)).1)])) fun l'36=>self l_m0 n1 (wi64 (n2+(1:Int))) l'36) (none)) (none))) (none)) (none)) (none)) (k1 l_m0 l3)
noncomputable def hparse_l0 {R:Type} (lf n:Nat) (l_m0:Nat) (n1 n2:Int) (l3:LL) (k0:Int→LL→Option R) (k1:Nat→LL→Option R):Option R:=recN (α:=Nat→Int→Int→LL→Option R) (fun _ _ _ _=>none) (fun n self l_m0 n1 n2 l3=>hparse_l0f lf n self l_m0 n1 n2 l3 k0 k1) n l_m0 n1 n2 l3
theorem hparse_l0_s {R:Type} (lf n:Nat) (l_m0:Nat) (n1 n2:Int) (l3:LL) (k0:Int→LL→Option R) (k1:Nat→LL→Option R):hparse_l0 lf (n+1) l_m0 n1 n2 l3 k0 k1=hparse_l0f lf n (fun l_m0 n1 n2 l3=>hparse_l0 lf n l_m0 n1 n2 l3 k0 k1) l_m0 n1 n2 l3 k0 k1:=rfl
theorem hparse_l0_eq (n:Nat) (l_m0:Nat) (n1 n2:Int) (l3:LL):loopK 2 ((c_hparse lf).keep 16) (bd (c_hparse lf) cl yh (cd [1,1,1,1,1,1,1,0,1,0,0] b_hparse)) n ⟨gp [(2,.ptr 0 0 0),(5,.vw 1 0 l_m0),(41,.vw 1 0 l_m0),(0,.s (.int .i64 n1)),(0,.s (.int .i64 n2))] 31,[.box [.s (.int .i64 (0:Int)),.s (.str ([]:List UInt8)),.s (.int .u32 (0:Int)),.s (.int .u16 (0:Int)),.s (.int .u16 (0:Int)),.s (.int .u16 (0:Int)),.s (.int .u16 (0:Int)),.s (.int .u16 (0:Int)),.s (.int .u16 (0:Int)),.s (.int .u16 (0:Int)),.s (.int .u16 (0:Int))],.arr false 9 1 l3],s⟩ k =
 hparse_l0 lf n l_m0 n1 n2 l3 (fun n0 l1=>k .ret ⟨gp [(2,.ptr 0 0 0),(0,.s (.int .i64 n0))] 80,[.box [.s (.int .i64 (0:Int)),.s (.str ([]:List UInt8)),.s (.int .u32 (0:Int)),.s (.int .u16 (0:Int)),.s (.int .u16 (0:Int)),.s (.int .u16 (0:Int)),.s (.int .u16 (0:Int)),.s (.int .u16 (0:Int)),.s (.int .u16 (0:Int)),.s (.int .u16 (0:Int)),.s (.int .u16 (0:Int))],.arr false 9 1 l1],s⟩) (fun l_m0 l1=>k (.exit 1) ⟨gp [(2,.ptr 0 0 0),(5,.vw 1 0 l_m0)] 75,[.box [.s (.int .i64 (0:Int)),.s (.str ([]:List UInt8)),.s (.int .u32 (0:Int)),.s (.int .u16 (0:Int)),.s (.int .u16 (0:Int)),.s (.int .u16 (0:Int)),.s (.int .u16 (0:Int)),.s (.int .u16 (0:Int)),.s (.int .u16 (0:Int)),.s (.int .u16 (0:Int)),.s (.int .u16 (0:Int))],.arr false 9 1 l1],s⟩):=by
 induction n generalizing l_m0 n1 n2 l3 with
 | zero=>rfl
 | succ n ih=>rw [hparse_l0_s];unfold hparse_l0f;exact (Eq.trans (by kernel_rfl) (cond_congr (cond_congr (cond_congr (vl_congr fun s'33=>(cond_congr (vl_congr fun n'35=>(cond_congr rfl (cond_congr (cond_congr (vl_congr fun l'36=>(ih l_m0 n1 (wi64 (n2+(1:Int))) l'36)) rfl) rfl))) rfl)) rfl) rfl) rfl))
noncomputable def hparse {R:Type} (lf:Nat) (raw0:By) (k0:Int→By→Int→Int→Int→Int→Int→Int→Int→Int→Int→Int→Int→By→Int→Int→Int→Int→Int→Int→Int→Int→Int→Option R) (k1:Int→By→Int→Int→By→LL→Option R):Option R:=cond (ltI (1024:Int) (↑(List.length raw0):Int)) (k0 0 ([]:List UInt8) 0 0 0 0 0 0 0 0 0 3 0 ([]:List UInt8) 0 0 0 0 0 0 0 0 0) (cond (small (List.length raw0)) (cond (List.isPrefixOf (([91]:List UInt8)) raw0) (cond (small (List.length raw0)) (cond (isBr raw0) (vl (↑(HostV.kind ((addrH raw0)).1):Int) fun n'12=>vl (HostV.name ((addrH raw0)).1) fun s'13=>vl (↑(HostV.v4 ((addrH raw0)).1):Int) fun n'14=>vl (↑(List.getD (HostV.v6 ((addrH raw0)).1) 0 0):Int) fun n'15=>vl (↑(List.getD (HostV.v6 ((addrH raw0)).1) 1 0):Int) fun n'16=>vl (↑(List.getD (HostV.v6 ((addrH raw0)).1) 2 0):Int) fun n'17=>vl (↑(List.getD (HostV.v6 ((addrH raw0)).1) 3 0):Int) fun n'18=>vl (↑(List.getD (HostV.v6 ((addrH raw0)).1) 4 0):Int) fun n'19=>vl (↑(List.getD (HostV.v6 ((addrH raw0)).1) 5 0):Int) fun n'20=>vl (↑(List.getD (HostV.v6 ((addrH raw0)).1) 6 0):Int) fun n'21=>vl (↑(List.getD (HostV.v6 ((addrH raw0)).1) 7 0):Int) fun n'22=>vl (↑((addrH raw0)).2:Int) fun n'23=>k0 n'12 s'13 n'14 n'15 n'16 n'17 n'18 n'19 n'20 n'21 n'22 n'23 n'12 s'13 n'14 n'15 n'16 n'17 n'18 n'19 n'20 n'21 n'22) (none)) (none)) (cond (small (List.length raw0)) (cond (not (Option.isSome (pctB raw0))) (k0 0 ([]:List UInt8) 0 0 0 0 0 0 0 0 0 14 0 ([]:List UInt8) 0 0 0 0 0 0 0 0 0) (cond (small (List.length (pctV raw0))) (vl (tsuf (pctV raw0) (([46]:List UInt8))) fun s'25=>cond (small (List.length s'25)) (cond (numericB s'25) (cond (small (List.length s'25)) (vl (↑(optN (pnB s'25)):Int) fun n'29=>cond (not (Option.isSome (pnB s'25))) (k0 0 ([]:List UInt8) 0 0 0 0 0 0 0 0 0 14 0 ([]:List UInt8) 0 0 0 0 0 0 0 0 0) (k0 2 ([]:List UInt8) n'29 0 0 0 0 0 0 0 0 0 2 ([]:List UInt8) n'29 0 0 0 0 0 0 0 0)) (none)) (cond (small (List.length s'25)) (cond (1==1) (vl (strE (pcs (List.getD (([46]:List UInt8)) 0 0) s'25)) fun l'31=>hparse_l0 lf lf (List.length (pcs (List.getD (([46]:List UInt8)) 0 0) s'25)) (↑(List.length (pcs (List.getD (([46]:List UInt8)) 0 0) s'25)):Int) 0 l'31 (fun n'37 l'38=>k1 0 ([]:List UInt8) n'37 0 ([]:List UInt8) l'38) (fun l_m'39 l'40=>cond (List.all (List.take l_m'39 (List.drop 0 l'40)) isS) (cond (small (List.length (Lib.join (List.map elS (List.take l_m'39 (List.drop 0 l'40))) (([46]:List UInt8))))) (cond (small (List.length (List.take l_m'39 (List.drop 0 l'40)))) (vl (Lib.join (List.map elS (List.take l_m'39 (List.drop 0 l'40))) (([46]:List UInt8))) fun s'42=>cond (ltI (253:Int) (↑(List.length s'42):Int)) (k1 0 ([]:List UInt8) 3 0 ([]:List UInt8) l'40) (cond (small (List.length s'42)) (cond (numericB s'42) (k1 0 ([]:List UInt8) 14 0 ([]:List UInt8) l'40) (k1 1 s'42 0 1 s'42 l'40)) (none))) (none)) (none)) (none))) (none)) (none))) (none)) (none))) (none))) (none))
theorem hparse_ev (d:Nat) (raw0:By):evC (c_hparse lf) (d+1) σ yh 81 [.s (.str raw0)] [] s=hparse lf raw0 (fun r0 r1 r2 r3 r4 r5 r6 r7 r8 r9 r10 r11 n12 s13 n14 n15 n16 n17 n18 n19 n20 n21 n22=>some (.tup [.agg [.s (.int .i64 r0),.s (.str r1),.s (.int .u32 r2),.s (.int .u16 r3),.s (.int .u16 r4),.s (.int .u16 r5),.s (.int .u16 r6),.s (.int .u16 r7),.s (.int .u16 r8),.s (.int .u16 r9),.s (.int .u16 r10)],.s (.int .i64 r11)],[.box [.s (.int .i64 n12),.s (.str s13),.s (.int .u32 n14),.s (.int .u16 n15),.s (.int .u16 n16),.s (.int .u16 n17),.s (.int .u16 n18),.s (.int .u16 n19),.s (.int .u16 n20),.s (.int .u16 n21),.s (.int .u16 n22)]],s)) (fun r0 r1 r2 n3 s4 l5=>some (.tup [.agg [.s (.int .i64 r0),.s (.str r1),.s (.int .u32 (0:Int)),.s (.int .u16 (0:Int)),.s (.int .u16 (0:Int)),.s (.int .u16 (0:Int)),.s (.int .u16 (0:Int)),.s (.int .u16 (0:Int)),.s (.int .u16 (0:Int)),.s (.int .u16 (0:Int)),.s (.int .u16 (0:Int))],.s (.int .i64 r2)],[.box [.s (.int .i64 n3),.s (.str s4),.s (.int .u32 (0:Int)),.s (.int .u16 (0:Int)),.s (.int .u16 (0:Int)),.s (.int .u16 (0:Int)),.s (.int .u16 (0:Int)),.s (.int .u16 (0:Int)),.s (.int .u16 (0:Int)),.s (.int .u16 (0:Int)),.s (.int .u16 (0:Int))],.arr false 9 1 l5],s)):=by
 refine (evC_eq (fn:=Tryz.f81) (by kernel_rfl) (by kernel_rfl) (by kernel_rfl)).trans ?_
 generalize evC (c_hparse lf) d=cl
 unfold hparse;exact (Eq.trans (by kernel_rfl) (cond_congr rfl (cond_congr (cond_congr (cond_congr (cond_congr (vl_congr fun n'12=>(vl_congr fun s'13=>(vl_congr fun n'14=>(vl_congr fun n'15=>(vl_congr fun n'16=>(vl_congr fun n'17=>(vl_congr fun n'18=>(vl_congr fun n'19=>(vl_congr fun n'20=>(vl_congr fun n'21=>(vl_congr fun n'22=>(vl_congr fun n'23=>rfl)))))))))))) rfl) rfl) (cond_congr (cond_congr rfl (cond_congr (vl_congr fun s'25=>(cond_congr (cond_congr (cond_congr (vl_congr fun n'29=>(cond_congr rfl rfl)) rfl) (cond_congr (cond_congr (vl_congr fun l'31=>((hparse_l0_eq lf cl yh s (blkK 1 (seqK (c_hparse lf) cl yh (cd [1,1,1,1,1,1,1,1] b_hparse) (retK (c_hparse lf) Tryz.f81))) lf (List.length (pcs (List.getD (([46]:List UInt8)) 0 0) s'25)) (↑(List.length (pcs (List.getD (([46]:List UInt8)) 0 0) s'25)):Int) 0 l'31).trans (by kernel_rfl))) rfl) rfl)) rfl)) rfl)) rfl)) rfl)))
noncomputable abbrev b_lprop:Code:=bodyOf Tryz.f126
noncomputable def c_lprop (lf:Nat):Cfg:=mkCfg lf [126] (lookK [(6,[0,1,0,1,10,0,0])]) [(155,X_pdec),(141,X_penc)] (lookK [(13,[2]),(12,[0,3,0,2]),(11,[0,2,1,10,0,0]),(10,[0,2,1,10,0,0]),(9,[2]),(8,[0,2,1,1,8,0,0,8]),(7,[0,2,1,1,8,0,0]),(6,[0,2,1,10,0,0,0]),(5,[0,2,1,10,0,0]),(4,[0,2,1]),(3,[2]),(2,[0,2,11]),(1,[0,2,0]),(0,[0])]) [141] (lookK [(0,[0,2,1]),(1,[0,2,1,10,0,0])]) (some [2]) [] [] []
noncomputable def lprop_l0f {R:Type} (lf n:Nat) (self:By→Bool→LL→Bool→Int→Int→Option R) (s0:By) (points_z1:Bool) (points2:LL) (basic3:Bool) (n4 n5:Int) (k0:Unit→Option R) (k1:By→Bool→LL→Bool→Option R):Option R:=cond (ltI n5 n4) (cond (inR n5 (List.length points2)) (cond (okE tI64 points2 (Int.toNat n5) 0) (vl (gE points2 (Int.toNat n5) 0) fun n'1=>cond (not (ltI n'1 (65:Int))) (cond (not (ltI (90:Int) n'1)) (k0 ()) (cond basic3 (self s0 points_z1 points2 (ltI n'1 (128:Int)) n4 (wi64 (n5+(1:Int)))) (self s0 points_z1 points2 false n4 (wi64 (n5+(1:Int)))))) (cond basic3 (self s0 points_z1 points2 (ltI n'1 (128:Int)) n4 (wi64 (n5+(1:Int)))) (self s0 points_z1 points2 false n4 (wi64 (n5+(1:Int)))))) (none)) (none)) (k1 s0 points_z1 points2 basic3)
noncomputable def lprop_l0 {R:Type} (lf n:Nat) (s0:By) (points_z1:Bool) (points2:LL) (basic3:Bool) (n4 n5:Int) (k0:Unit→Option R) (k1:By→Bool→LL→Bool→Option R):Option R:=recN (α:=By→Bool→LL→Bool→Int→Int→Option R) (fun _ _ _ _ _ _=>none) (fun n self s0 points_z1 points2 basic3 n4 n5=>lprop_l0f lf n self s0 points_z1 points2 basic3 n4 n5 k0 k1) n s0 points_z1 points2 basic3 n4 n5
theorem lprop_l0_s {R:Type} (lf n:Nat) (s0:By) (points_z1:Bool) (points2:LL) (basic3:Bool) (n4 n5:Int) (k0:Unit→Option R) (k1:By→Bool→LL→Bool→Option R):lprop_l0 lf (n+1) s0 points_z1 points2 basic3 n4 n5 k0 k1=lprop_l0f lf n (fun s0 points_z1 points2 basic3 n4 n5=>lprop_l0 lf n s0 points_z1 points2 basic3 n4 n5 k0 k1) s0 points_z1 points2 basic3 n4 n5 k0 k1:=rfl
theorem lprop_l0_eq (n:Nat) (s0:By) (points_z1:Bool) (points2:LL) (basic3:Bool) (n4 n5:Int):loopK 0 ((c_lprop lf).keep 6) (bd (c_lprop lf) cl yh (cd [1,1,1,1,0,1,0,0] b_lprop)) n ⟨gp [(0,.s (.str s0)),(2,.s (.sl points_z1 points_z1 1 points2)),(1,.s (.bool basic3)),(10,.s (.sl points_z1 points_z1 1 points2)),(0,.s (.int .i64 n4)),(0,.s (.int .i64 n5))] 31,[],s⟩ k =
 lprop_l0 lf n s0 points_z1 points2 basic3 n4 n5 (fun _=>k .ret ⟨gp [(2,.s (.bool false))] 47,[],s⟩) (fun s0 points_z1 points2 basic3=>k (.exit 0) ⟨gp [(0,.s (.str s0)),(2,.s (.sl points_z1 points_z1 1 points2)),(1,.s (.bool basic3))] 44,[],s⟩):=by
 induction n generalizing s0 points_z1 points2 basic3 n4 n5 with
 | zero=>rfl
 | succ n ih=>rw [lprop_l0_s];unfold lprop_l0f;exact (Eq.trans (by kernel_rfl) (cond_congr (cond_congr (cond_congr (vl_congr fun n'1=>(cond_congr (cond_congr rfl (cond_congr (ih s0 points_z1 points2 (ltI n'1 (128:Int)) n4 (wi64 (n5+(1:Int)))) (ih s0 points_z1 points2 false n4 (wi64 (n5+(1:Int)))))) (cond_congr (ih s0 points_z1 points2 (ltI n'1 (128:Int)) n4 (wi64 (n5+(1:Int)))) (ih s0 points_z1 points2 false n4 (wi64 (n5+(1:Int))))))) rfl) rfl) rfl))
noncomputable def lprop {R:Type} (lf:Nat) (s0:By) (k0:Bool→Option R):Option R:=cond (small (List.length s0)) (cond ((↑((decP s0)).2:Int) != (0:Int)) (k0 false) (lprop_l0 lf lf s0 (List.isEmpty ((decP s0)).1) (natR ((decP s0)).1) true (↑(List.length (natR ((decP s0)).1)):Int) 0 (fun _=>k0 false) (fun s'2 points_z'3 points'4 basic'5=>cond (List.all points'4 isI64) (vl ((encI (List.map elI points'4))).1 fun s'8=>vl (↑((encI (List.map elI points'4))).2:Int) fun n'9=>cond (not basic'5) (cond (n'9==(0:Int)) (k0 (s'8==s'2)) (k0 false)) (k0 false)) (none)))) (none)
theorem lprop_ev (d:Nat) (s0:By):evC (c_lprop lf) (d+1) σ yh 126 [.s (.str s0)] [] s=lprop lf s0 (fun r0=>some (.s (.bool r0),[],s)):=by
 refine (evC_eq (fn:=Tryz.f126) (by kernel_rfl) (by kernel_rfl) (by kernel_rfl)).trans ?_
 generalize evC (c_lprop lf) d=cl
 unfold lprop;exact (Eq.trans (by kernel_rfl) (cond_congr (cond_congr rfl ((lprop_l0_eq lf cl yh s (blkK 0 (seqK (c_lprop lf) cl yh (cd [1,1,1,1,1] b_lprop) (retK (c_lprop lf) Tryz.f126))) lf s0 (List.isEmpty ((decP s0)).1) (natR ((decP s0)).1) true (↑(List.length (natR ((decP s0)).1)):Int) 0).trans (by kernel_rfl))) rfl))
noncomputable abbrev b_lval:Code:=bodyOf Tryz.f92
noncomputable def c_lval (lf:Nat):Cfg:=mkCfg lf [92] (lookK [(4,[0,1,26,0])]) [(57,X_cpre),(126,X_lprop)] (lookK [(11,[2]),(10,[5,0]),(9,[0,28,0]),(8,[2]),(7,[0,28,0,28]),(6,[0,3,24,0]),(5,[0,2,25,0]),(4,[0,28,0,0]),(3,[0,28,0]),(2,[2]),(1,[0,26]),(0,[0])]) [57,126] (lookK [(0,[0]),(1,[0,28,0])]) (some [2]) [] [] []
noncomputable def lval_l0f {R:Type} (lf n:Nat) (self:By→Int→Int→Option R) (s0:By) (n1 n2:Int) (k0:Unit→Option R) (k1:By→Option R):Option R:=cond (ltI n2 n1) (cond (inR n2 (List.length s0)) (cond (not (ltI (bAt s0 n2) (97:Int))) (cond (not (not (ltI (122:Int) (bAt s0 n2)))) (cond (not (ltI (bAt s0 n2) (48:Int))) (cond (not (not (ltI (57:Int) (bAt s0 n2)))) (cond ((bAt s0 n2) != (45:Int)) (cond ((bAt s0 n2) != (95:Int)) (k0 ()) (self s0 n1 (wi64 (n2+(1:Int))))) (self s0 n1 (wi64 (n2+(1:Int))))) (self s0 n1 (wi64 (n2+(1:Int))))) (cond ((bAt s0 n2) != (45:Int)) (cond ((bAt s0 n2) != (95:Int)) (k0 ()) (self s0 n1 (wi64 (n2+(1:Int))))) (self s0 n1 (wi64 (n2+(1:Int)))))) (self s0 n1 (wi64 (n2+(1:Int))))) (cond (not (ltI (bAt s0 n2) (48:Int))) (cond (not (not (ltI (57:Int) (bAt s0 n2)))) (cond ((bAt s0 n2) != (45:Int)) (cond ((bAt s0 n2) != (95:Int)) (k0 ()) (self s0 n1 (wi64 (n2+(1:Int))))) (self s0 n1 (wi64 (n2+(1:Int))))) (self s0 n1 (wi64 (n2+(1:Int))))) (cond ((bAt s0 n2) != (45:Int)) (cond ((bAt s0 n2) != (95:Int)) (k0 ()) (self s0 n1 (wi64 (n2+(1:Int))))) (self s0 n1 (wi64 (n2+(1:Int))))))) (none)) (k1 s0)
noncomputable def lval_l0 {R:Type} (lf n:Nat) (s0:By) (n1 n2:Int) (k0:Unit→Option R) (k1:By→Option R):Option R:=recN (α:=By→Int→Int→Option R) (fun _ _ _=>none) (fun n self s0 n1 n2=>lval_l0f lf n self s0 n1 n2 k0 k1) n s0 n1 n2
theorem lval_l0_s {R:Type} (lf n:Nat) (s0:By) (n1 n2:Int) (k0:Unit→Option R) (k1:By→Option R):lval_l0 lf (n+1) s0 n1 n2 k0 k1=lval_l0f lf n (fun s0 n1 n2=>lval_l0 lf n s0 n1 n2 k0 k1) s0 n1 n2 k0 k1:=rfl
theorem lval_l0_eq (n:Nat) (s0:By) (n1 n2:Int):loopK 0 ((c_lval lf).keep 4) (bd (c_lval lf) cl yh (cd [1,1,0,1,0,0] b_lval)) n ⟨gp [(0,.s (.str s0)),(28,.s (.int .i64 n1)),(0,.s (.int .i64 n2))] 41,[],s⟩ k =
 lval_l0 lf n s0 n1 n2 (fun _=>k .ret ⟨gp [(2,.s (.bool false))] 69,[],s⟩) (fun s0=>k (.exit 0) ⟨gp [(0,.s (.str s0))] 71,[],s⟩):=by
 induction n generalizing s0 n1 n2 with
 | zero=>rfl
 | succ n ih=>rw [lval_l0_s];unfold lval_l0f;exact (Eq.trans (by kernel_rfl) (cond_congr (cond_congr (cond_congr (cond_congr (cond_congr (cond_congr (cond_congr (cond_congr rfl (ih s0 n1 (wi64 (n2+(1:Int))))) (ih s0 n1 (wi64 (n2+(1:Int))))) (ih s0 n1 (wi64 (n2+(1:Int))))) (cond_congr (cond_congr rfl (ih s0 n1 (wi64 (n2+(1:Int))))) (ih s0 n1 (wi64 (n2+(1:Int)))))) (ih s0 n1 (wi64 (n2+(1:Int))))) (cond_congr (cond_congr (cond_congr (cond_congr rfl (ih s0 n1 (wi64 (n2+(1:Int))))) (ih s0 n1 (wi64 (n2+(1:Int))))) (ih s0 n1 (wi64 (n2+(1:Int))))) (cond_congr (cond_congr rfl (ih s0 n1 (wi64 (n2+(1:Int))))) (ih s0 n1 (wi64 (n2+(1:Int))))))) rfl) rfl))
noncomputable def lval {R:Type} (lf:Nat) (s0:By) (k0:Bool→Option R):Option R:=cond (ltI (↑(List.length s0):Int) (1:Int)) (k0 false) (cond (ltI (63:Int) (↑(List.length s0):Int)) (k0 false) (cond (inR (0:Int) (List.length s0)) (cond ((bAt s0 (0:Int))==(45:Int)) (k0 false) (vl (wi64 ((↑(List.length s0):Int)-(1:Int))) fun n'1=>cond (inR n'1 (List.length s0)) (cond ((bAt s0 n'1)==(45:Int)) (k0 false) (lval_l0 lf lf s0 (↑(List.length s0):Int) 0 (fun _=>k0 false) (fun s'2=>cond (small (List.length s'2)) (vl (cutp s'2 (([120,110,45,45]:List UInt8))) fun s'3=>cond (not (List.isPrefixOf (([120,110,45,45]:List UInt8)) s'2)) (k0 true) (cond (small (List.length s'3)) (k0 (properB s'3)) (none))) (none)))) (none))) (none)))
theorem lval_ev (d:Nat) (s0:By):evC (c_lval lf) (d+1) σ yh 92 [.s (.str s0)] [] s=lval lf s0 (fun r0=>some (.s (.bool r0),[],s)):=by
 refine (evC_eq (fn:=Tryz.f92) (by kernel_rfl) (by kernel_rfl) (by kernel_rfl)).trans ?_
 generalize evC (c_lval lf) d=cl
 unfold lval;exact (Eq.trans (by kernel_rfl) (cond_congr rfl (cond_congr rfl (cond_congr (cond_congr rfl (vl_congr fun n'1=>(cond_congr (cond_congr rfl ((lval_l0_eq lf cl yh s (blkK 0 (seqK (c_lval lf) cl yh (cd [1,1,1] b_lval) (retK (c_lval lf) Tryz.f92))) lf s0 (↑(List.length s0):Int) 0).trans (by kernel_rfl))) rfl))) rfl))))
noncomputable abbrev b_lasc:Code:=bodyOf Tryz.f110
noncomputable def c_lasc (lf:Nat):Cfg:=mkCfg lf [110] (lookK [(9,[2,0,1,20])]) [(139,X_uvalid),(140,X_ucount),(56,X_lowc),(141,X_penc),(92,X_lval)] (lookK [(18,[2,0]),(17,[2,0]),(16,[4,41]),(15,[4]),(14,[2,0]),(13,[8,32]),(12,[8,0]),(11,[5,20]),(10,[5,1,18]),(9,[5,20,0,0]),(8,[5,20]),(7,[4,0]),(6,[4,19]),(5,[0,3]),(2,[2,0]),(4,[2,0]),(3,[0,13]),(1,[0,9]),(0,[0])]) [139,140,56,141,92] (lookK [(1,[5]),(2,[5,20]),(0,[0])]) (some [2,0]) [] [] []
noncomputable def lasc_l0f {R:Type} (lf n:Nat) (self:LL→By→Nat→Option R) (l0:LL) (s1:By) (m2:Nat) (k0:LL→By→Nat→Option R):Option R:=cond (decide (m2<(List.length s1))) (vl ((Utf8.decode ⟨List.toArray s1⟩ m2)).1 fun n'4=>cond (roomy ((List.length l0)+1)) (self (l0++[[(SV.int .i64 (wi64 n'4))]]) s1 (m2+((Utf8.decode ⟨List.toArray s1⟩ m2)).2)) (none)) (k0 l0 s1 m2)
noncomputable def lasc_l0 {R:Type} (lf n:Nat) (l0:LL) (s1:By) (m2:Nat) (k0:LL→By→Nat→Option R):Option R:=recN (α:=LL→By→Nat→Option R) (fun _ _ _=>none) (fun n self l0 s1 m2=>lasc_l0f lf n self l0 s1 m2 k0) n l0 s1 m2
theorem lasc_l0_s {R:Type} (lf n:Nat) (l0:LL) (s1:By) (m2:Nat) (k0:LL→By→Nat→Option R):lasc_l0 lf (n+1) l0 s1 m2 k0=lasc_l0f lf n (fun l0 s1 m2=>lasc_l0 lf n l0 s1 m2 k0) l0 s1 m2 k0:=rfl
theorem lasc_l0_eq (n:Nat) (l0:LL) (s1:By) (m2:Nat):loopK 2 ((c_lasc lf).keep 9) (bd (c_lasc lf) cl yh (cd [1,1,1,0,1,0,1,0,1,0,0] b_lasc)) n ⟨gp [(5,.fl 0),(20,.it 1)] 21,[.arr true 3 1 l0,.iter s1 m2],s⟩ k =
 lasc_l0 lf n l0 s1 m2 (fun l0 s1 m2=>k (.exit 1) ⟨gp [(5,.fl 0)] 42,[.arr true 3 1 l0,.iter s1 m2],s⟩):=by
 induction n generalizing l0 s1 m2 with
 | zero=>rfl
 | succ n ih=>rw [lasc_l0_s];unfold lasc_l0f;exact (Eq.trans (by kernel_rfl) (cond_congr (vl_congr fun n'4=>(cond_congr (ih (l0++[[(SV.int .i64 (wi64 n'4))]]) s1 (m2+((Utf8.decode ⟨List.toArray s1⟩ m2)).2)) rfl)) rfl))
noncomputable def lasc {R:Type} (lf:Nat) (s0:By) (k0:By→Int→Option R) (k1:By→Int→LL→By→Nat→Option R):Option R:=cond (small (List.length s0)) (cond (not (Option.isSome (ptsB s0))) (k0 ([]:List UInt8) 4) (cond (small (List.length s0)) (vl (↑(Lib.runeCountL s0):Int) fun n'1=>cond (ltI (256:Int) n'1) (k0 ([]:List UInt8) 3) (cond (small (List.length s0)) (cond (small (List.length s0)) (vl (↑(Lib.runeCountL s0):Int) fun n'3=>cond (ltI n'3 (↑(List.length s0):Int)) (lasc_l0 lf lf [] (lower s0) 0 (fun l'5 s'6 m'7=>cond (List.all l'5 isI64) (vl ((encI (List.map elI l'5))).1 fun s'8=>vl (↑((encI (List.map elI l'5))).2:Int) fun n'9=>cond (n'9 != (0:Int)) (k1 ([]:List UInt8) 14 l'5 s'6 m'7) (cond (catOk 4 (List.length s'8)) (vl ((([120,110,45,45]:List UInt8))++s'8) fun s'10=>cond (small (List.length s'10)) (cond (not (validL s'10)) (k1 ([]:List UInt8) 14 l'5 s'6 m'7) (k1 s'10 0 l'5 s'6 m'7)) (none)) (none))) (none))) (cond (small (List.length (lower s0))) (cond (not (validL (lower s0))) (k0 ([]:List UInt8) 14) (k0 (lower s0) 0)) (none))) (none)) (none))) (none))) (none)
theorem lasc_ev (d:Nat) (s0:By):evC (c_lasc lf) (d+1) σ yh 110 [.s (.str s0)] [] s=lasc lf s0 (fun r0 r1=>some (.tup [.s (.str r0),.s (.int .i64 r1)],[],s)) (fun r0 r1 l2 s3 m4=>some (.tup [.s (.str r0),.s (.int .i64 r1)],[.arr true 3 1 l2,.iter s3 m4],s)):=by
 refine (evC_eq (fn:=Tryz.f110) (by kernel_rfl) (by kernel_rfl) (by kernel_rfl)).trans ?_
 generalize evC (c_lasc lf) d=cl
 unfold lasc;exact (Eq.trans (by kernel_rfl) (cond_congr (cond_congr rfl (cond_congr (vl_congr fun n'1=>(cond_congr rfl (cond_congr (cond_congr (vl_congr fun n'3=>(cond_congr ((lasc_l0_eq lf cl yh s (blkK 1 (seqK (c_lasc lf) cl yh (cd [1,1,1,0,1,0,1,1] b_lasc) (seqK (c_lasc lf) cl yh (cd [1,1,1,1] b_lasc) (retK (c_lasc lf) Tryz.f110)))) lf [] (lower s0) 0).trans (by kernel_rfl)) (cond_congr (cond_congr rfl rfl) rfl))) rfl) rfl))) rfl)) rfl))
noncomputable abbrev b_hdig:Code:=bodyOf Tryz.f136
noncomputable def c_hdig (lf:Nat):Cfg:=mkCfg lf [136] (lookK []) [] (lookK [(7,[2]),(2,[2]),(4,[2]),(6,[2]),(5,[0,23]),(3,[0,12]),(1,[0,2]),(0,[0])]) [] (lookK [(0,[])]) (some [2]) [] [] []
noncomputable def hdig_j0 {R:Type} (b0:Int) (b1:Bool) (k0:Int→Option R) (k1:Int→Bool→Option R):Option R:=cond b1 (vl (wi64 (wu8 (b0-(97:Int)))) fun n'1=>vl (wi64 (n'1+(10:Int))) fun n'2=>k0 n'2) (cond (not (ltI b0 (65:Int))) (cond (not (ltI (70:Int) b0)) (vl (wi64 (wu8 (b0-(65:Int)))) fun n'3=>vl (wi64 (n'3+(10:Int))) fun n'4=>k0 n'4) (k1 b0 (not (ltI (70:Int) b0)))) (k1 b0 false))
abbrev hdig_j0_P (b:Code):Prop:=∀ (k:Out→St σ→Option R) (b0:Int) (b1:Bool),evCode (c_hdig lf) cl yh b ⟨gp [(0,.s (.int .u8 b0)),(12,.s (.bool b1))] 21,[],s⟩ k=hdig_j0 b0 b1 (fun n0=>k .ret ⟨gp [(2,.s (.int .i64 n0))] 32,[],s⟩) (fun b0 b1=>k .normal ⟨gp [(0,.s (.int .u8 b0)),(23,.s (.bool b1))] 10,[],s⟩)
theorem hdig_j0_eq:hdig_j0_P (R:=R) lf cl yh s (cd [1,0,0,1,1,1] b_hdig):=by
 intro k b0 b1;unfold hdig_j0;kernel_rfl
noncomputable def hdig_j1 {R:Type} (b0:Int) (b1:Bool) (k0:Int→Option R) (k1:Int→Bool→Option R):Option R:=cond b1 (vl (wi64 (wu8 (b0-(48:Int)))) fun n'0=>k0 n'0) (cond (not (ltI b0 (97:Int))) (hdig_j0 b0 (not (ltI (102:Int) b0)) (fun n'5=>k0 n'5) (fun b'6 b'7=>k1 b'6 b'7)) (hdig_j0 b0 false (fun n'8=>k0 n'8) (fun b'9 b'10=>k1 b'9 b'10)))
abbrev hdig_j1_P (b:Code):Prop:=∀ (k:Out→St σ→Option R) (b0:Int) (b1:Bool),evCode (c_hdig lf) cl yh b ⟨gp [(0,.s (.int .u8 b0)),(2,.s (.bool b1))] 31,[],s⟩ k=hdig_j1 b0 b1 (fun n0=>k .ret ⟨gp [(2,.s (.int .i64 n0))] 32,[],s⟩) (fun b0 b1=>k .normal ⟨gp [(0,.s (.int .u8 b0)),(23,.s (.bool b1))] 10,[],s⟩)
theorem hdig_j1_eq (b_100111:Code) (h_hdig_j0:hdig_j0_P (R:=R) lf cl yh s b_100111):hdig_j1_P (R:=R) lf cl yh s (cd [1,0,0,1] (putC [1,0,0,1,1,1] b_100111 b_hdig)):=by
 intro k b0 b1;unfold hdig_j1;exact (Eq.trans (by kernel_rfl) (cond_congr (vl_congr fun n'0=>rfl) (cond_congr ((h_hdig_j0 k b0 (not (ltI (102:Int) b0))).trans (by kernel_rfl)) ((h_hdig_j0 k b0 false).trans (by kernel_rfl)))))
theorem hdig_j1_fu:hdig_j1_P (R:=R) lf cl yh s (cd [1,0,0,1] b_hdig):=by
 intro k b0 b1;exact Eq.trans (by kernel_rfl) (hdig_j1_eq lf cl yh s (cd [1,0,0,1,1,1] b_hdig) (hdig_j0_eq lf cl yh s) k b0 b1)
noncomputable def hdig {R:Type} (lf:Nat) (b0:Int) (k0:Int→Option R):Option R:=cond (not (ltI b0 (48:Int))) (hdig_j1 b0 (not (ltI (57:Int) b0)) (fun n'11=>k0 n'11) (fun b'12 b'13=>k0 (-1))) (hdig_j1 b0 false (fun n'14=>k0 n'14) (fun b'15 b'16=>k0 (-1)))
theorem hdig_eq (b_1001:Code) (h_hdig_j1:hdig_j1_P (R:=PV × List Blk × σ) lf cl yh s b_1001) (b0:Int):evCode (c_hdig lf) cl yh (cd [] (putC [1,0,0,1] b_1001 b_hdig)) ⟨[.s (.int .u8 b0)]++tps 34,[],s⟩ (retK (c_hdig lf) Tryz.f136)=hdig lf b0 (fun r0=>some (.s (.int .i64 r0),[],s)):=by
 unfold hdig;exact let K0:=(blkK 0 (seqK (c_hdig lf) cl yh (cd [1,1] b_hdig) (retK (c_hdig lf) Tryz.f136)));(Eq.trans (by kernel_rfl) (cond_congr ((h_hdig_j1 K0 b0 (not (ltI (57:Int) b0))).trans (by kernel_rfl)) ((h_hdig_j1 K0 b0 false).trans (by kernel_rfl))))
theorem hdig_ev (d:Nat) (b0:Int):evC (c_hdig lf) (d+1) σ yh 136 [.s (.int .u8 b0)] [] s=hdig lf b0 (fun r0=>some (.s (.int .i64 r0),[],s)):=
 (evC_eq (fn:=Tryz.f136) (by kernel_rfl) (by kernel_rfl) (by kernel_rfl)).trans (Eq.trans (by kernel_rfl) (hdig_eq lf (evC (c_hdig lf) d) yh s (cd [1,0,0,1] b_hdig) (hdig_j1_fu lf (evC (c_hdig lf) d) yh s) b0))
noncomputable abbrev b_hdec:Code:=bodyOf Tryz.f106
noncomputable def c_hdec (lf:Nat):Cfg:=mkCfg lf [106] (lookK [(3,[0,1,0,0,0])]) [(136,X_hdig)] (lookK [(14,[2,0]),(4,[0,3,0]),(13,[0,3,0]),(12,[0,3,0]),(11,[2,0]),(10,[0,3,0,0,0,39]),(9,[0,3,0,0,0]),(8,[2,0]),(7,[0,3,0,25]),(6,[0,3,0]),(5,[0,3,0,14]),(3,[0,3,0,8]),(2,[0,3,0]),(1,[0,3]),(0,[0])]) [136] (lookK [(0,[4]),(1,[0,3,0])]) (some [2,0]) [] [] []
noncomputable def hdec_l0f {R:Type} (lf n:Nat) (self:By→Int→LL→Option R) (s0:By) (i1:Int) (l2:LL) (k0:LL→Option R) (k1:LL→Option R):Option R:=cond (ltI i1 (↑(List.length s0):Int)) (cond (inR i1 (List.length s0)) (cond ((bAt s0 i1) != (37:Int)) (cond (inR i1 (List.length s0)) (cond (roomy ((List.length l2)+1)) (self s0 (wi64 (i1+(1:Int))) (l2++[[(SV.int .u8 (bAt s0 i1))]])) (none)) (none)) (cond (not (ltI (wi64 (i1+(2:Int))) (↑(List.length s0):Int))) (k0 l2) (cond (inR (wi64 (i1+(1:Int))) (List.length s0)) (vl (bAt s0 (wi64 (i1+(1:Int)))) fun n'2=>cond (inR n'2 256) (cond (inR (wi64 (i1+(2:Int))) (List.length s0)) (vl (bAt s0 (wi64 (i1+(2:Int)))) fun n'3=>cond (inR n'3 256) (cond (ltI (digI (u8n n'2)) (0:Int)) (k0 l2) (cond (ltI (digI (u8n n'3)) (0:Int)) (k0 l2) (vl (wi64 ((16:Int)*(digI (u8n n'2)))) fun n'4=>vl (wi64 (n'4+(digI (u8n n'3)))) fun n'5=>cond (roomy ((List.length l2)+1)) (vl (wi64 ((wi64 (i1+(2:Int)))+(1:Int))) fun n'6=>self s0 n'6 (l2++[[(SV.int .u8 (wu8 n'5))]])) (none)))) (none)) (none)) (none)) (none)))) (none)) (k1 l2)
noncomputable def hdec_l0 {R:Type} (lf n:Nat) (s0:By) (i1:Int) (l2:LL) (k0:LL→Option R) (k1:LL→Option R):Option R:=recN (α:=By→Int→LL→Option R) (fun _ _ _=>none) (fun n self s0 i1 l2=>hdec_l0f lf n self s0 i1 l2 k0 k1) n s0 i1 l2
theorem hdec_l0_s {R:Type} (lf n:Nat) (s0:By) (i1:Int) (l2:LL) (k0:LL→Option R) (k1:LL→Option R):hdec_l0 lf (n+1) s0 i1 l2 k0 k1=hdec_l0f lf n (fun s0 i1 l2=>hdec_l0 lf n s0 i1 l2 k0 k1) s0 i1 l2 k0 k1:=rfl
theorem hdec_l0_eq (n:Nat) (s0:By) (i1:Int) (l2:LL):loopK 1 ((c_hdec lf).keep 3) (bd (c_hdec lf) cl yh (cd [1,0,1,1,0,1,0,0] b_hdec)) n ⟨gp [(0,.s (.str s0)),(3,.fl 0),(0,.s (.int .i64 i1))] 54,[.arr false 5 1 l2],s⟩ k =
 hdec_l0 lf n s0 i1 l2 (fun l0=>k .ret ⟨gp [(2,.s (.str ([]:List UInt8))),(0,.s (.bool false))] 56,[.arr false 5 1 l0],s⟩) (fun l0=>k (.exit 0) ⟨gp [(4,.fl 0)] 55,[.arr false 5 1 l0],s⟩):=by
 induction n generalizing s0 i1 l2 with
 | zero=>rfl
 | succ n ih=>rw [hdec_l0_s];unfold hdec_l0f;exact (Eq.trans (by kernel_rfl) (cond_congr (cond_congr (cond_congr (cond_congr (cond_congr (ih s0 (wi64 (i1+(1:Int))) (l2++[[(SV.int .u8 (bAt s0 i1))]])) rfl) rfl) (cond_congr rfl (cond_congr (vl_congr fun n'2=>(cond_congr (cond_congr (vl_congr fun n'3=>(cond_congr (cond_congr rfl (cond_congr rfl (vl_congr fun n'4=>(vl_congr fun n'5=>(cond_congr (vl_congr fun n'6=>(ih s0 n'6 (l2++[[(SV.int .u8 (wu8 n'5))]]))) rfl))))) rfl)) rfl) rfl)) rfl))) rfl) rfl))
noncomputable def hdec {R:Type} (lf:Nat) (s0:By) (k0:By→Bool→LL→Option R):Option R:=cond ((decide ((0:Int)≤(↑(List.length s0):Int)))&&(roomy (Int.toNat (↑(List.length s0):Int)))) (hdec_l0 lf lf s0 0 [] (fun l'7=>k0 ([]:List UInt8) false l'7) (fun l'8=>cond (List.all l'8 isU8) (k0 (List.map elU8 l'8) true l'8) (none))) (none)
theorem hdec_ev (d:Nat) (s0:By):evC (c_hdec lf) (d+1) σ yh 106 [.s (.str s0)] [] s=hdec lf s0 (fun r0 r1 l2=>some (.tup [.s (.str r0),.s (.bool r1)],[.arr false 5 1 l2],s)):=by
 refine (evC_eq (fn:=Tryz.f106) (by kernel_rfl) (by kernel_rfl) (by kernel_rfl)).trans ?_
 generalize evC (c_hdec lf) d=cl
 unfold hdec;exact (Eq.trans (by kernel_rfl) (cond_congr ((hdec_l0_eq lf cl yh s (blkK 0 (seqK (c_hdec lf) cl yh (cd [1,0,1,1,1] b_hdec) (retK (c_hdec lf) Tryz.f106))) lf s0 0 []).trans (by kernel_rfl)) rfl))
noncomputable def c_haddr (lf:Nat):Cfg:=mkCfg lf [105] (lookK []) [(135,X_v6p)] (lookK [(6,[2,0]),(5,[2,0]),(4,[2,2,15]),(3,[2,2,0]),(2,[0,1,1,8]),(1,[0,1,1]),(0,[0,1])]) [] (lookK []) (some [2,0]) [] [] []
noncomputable def haddr {R:Type} (lf:Nat) (s0:By) (k0:Int→Int→Int→Int→Int→Int→Int→Int→Int→Int→Int→LL→Option R) (k1:Unit→Option R):Option R:=vl (wi64 ((↑(List.length s0):Int)-(1:Int))) fun n'1=>cond (inR n'1 (List.length s0)) (cond ((bAt s0 n'1)==(93:Int)) (cond (sub3 (1:Int) n'1 (List.length s0)) (cond (small (List.length (cut s0 (1:Int) n'1))) (vl (↑(v6c 0 (cut s0 (1:Int) n'1)):Int) fun n'2=>vl (↑(v6c 1 (cut s0 (1:Int) n'1)):Int) fun n'3=>vl (↑(v6c 2 (cut s0 (1:Int) n'1)):Int) fun n'4=>vl (↑(v6c 3 (cut s0 (1:Int) n'1)):Int) fun n'5=>vl (↑(v6c 4 (cut s0 (1:Int) n'1)):Int) fun n'6=>vl (↑(v6c 5 (cut s0 (1:Int) n'1)):Int) fun n'7=>vl (↑(v6c 6 (cut s0 (1:Int) n'1)):Int) fun n'8=>vl (↑(v6c 7 (cut s0 (1:Int) n'1)):Int) fun n'9=>cond (Option.isSome (v6B (cut s0 (1:Int) n'1))) (k0 3 n'2 n'3 n'4 n'5 n'6 n'7 n'8 n'9 0 3 [[(SV.int .u16 n'2)],[(SV.int .u16 n'3)],[(SV.int .u16 n'4)],[(SV.int .u16 n'5)],[(SV.int .u16 n'6)],[(SV.int .u16 n'7)],[(SV.int .u16 n'8)],[(SV.int .u16 n'9)]]) (k0 0 0 0 0 0 0 0 0 0 14 0 [[(SV.int .u16 n'2)],[(SV.int .u16 n'3)],[(SV.int .u16 n'4)],[(SV.int .u16 n'5)],[(SV.int .u16 n'6)],[(SV.int .u16 n'7)],[(SV.int .u16 n'8)],[(SV.int .u16 n'9)]])) (none)) (none)) (k1 ())) (none)
theorem haddr_ev (d:Nat) (s0:By):evC (c_haddr lf) (d+1) σ yh 105 [.s (.str s0)] [] s=haddr lf s0 (fun r0 r1 r2 r3 r4 r5 r6 r7 r8 r9 n10 l11=>some (.tup [.agg [.s (.int .i64 r0),.s (.str ([]:List UInt8)),.s (.int .u32 (0:Int)),.s (.int .u16 r1),.s (.int .u16 r2),.s (.int .u16 r3),.s (.int .u16 r4),.s (.int .u16 r5),.s (.int .u16 r6),.s (.int .u16 r7),.s (.int .u16 r8)],.s (.int .i64 r9)],[.box [.s (.int .i64 n10),.s (.str ([]:List UInt8)),.s (.int .u32 (0:Int)),.s (.int .u16 r1),.s (.int .u16 r2),.s (.int .u16 r3),.s (.int .u16 r4),.s (.int .u16 r5),.s (.int .u16 r6),.s (.int .u16 r7),.s (.int .u16 r8)],.arr false 25 1 l11],s)) (fun _=>some (.tup [.agg [.s (.int .i64 (0:Int)),.s (.str ([]:List UInt8)),.s (.int .u32 (0:Int)),.s (.int .u16 (0:Int)),.s (.int .u16 (0:Int)),.s (.int .u16 (0:Int)),.s (.int .u16 (0:Int)),.s (.int .u16 (0:Int)),.s (.int .u16 (0:Int)),.s (.int .u16 (0:Int)),.s (.int .u16 (0:Int))],.s (.int .i64 (14:Int))],[.box [.s (.int .i64 (0:Int)),.s (.str ([]:List UInt8)),.s (.int .u32 (0:Int)),.s (.int .u16 (0:Int)),.s (.int .u16 (0:Int)),.s (.int .u16 (0:Int)),.s (.int .u16 (0:Int)),.s (.int .u16 (0:Int)),.s (.int .u16 (0:Int)),.s (.int .u16 (0:Int)),.s (.int .u16 (0:Int))]],s)):=by
 refine (evC_eq (fn:=Tryz.f105) (by kernel_rfl) (by kernel_rfl) (by kernel_rfl)).trans ?_
 generalize evC (c_haddr lf) d=cl
 unfold haddr;kernel_rfl
noncomputable def c_hval (lf:Nat):Cfg:=mkCfg lf [46] (lookK []) [(64,X_hvn)] (lookK [(9,[2]),(4,[2]),(6,[2]),(8,[2]),(7,[1,31]),(5,[1,1,1,16]),(3,[1,1,1,0]),(2,[1,1,1]),(1,[1,1]),(0,[1])]) [64] (lookK [(0,[])]) (some [2]) [] [] []
noncomputable def hval {R:Type} (lf:Nat) (h0:Int) (h1:By) (h2 h3 h4 h5 h6 h7 h8 h9 h10:Int) (k0:Bool→Int→By→Int→Int→Int→Int→Int→Int→Int→Int→Int→LL→Option R):Option R:=cond (h0==(1:Int)) (cond (small (List.length h1)) (cond (validN h1) (cond (h2==(0:Int)) (k0 ((h3==(0:Int))&&((h4==(0:Int))&&((h5==(0:Int))&&((h6==(0:Int))&&((h7==(0:Int))&&((h8==(0:Int))&&((h9==(0:Int))&&((h10==(0:Int))&&true)))))))) h0 h1 h2 h3 h4 h5 h6 h7 h8 h9 h10 (List.replicate 8 [(SV.int .u16 (0:Int))])) (k0 false h0 h1 h2 h3 h4 h5 h6 h7 h8 h9 h10 (List.replicate 8 [(SV.int .u16 (0:Int))]))) (k0 false h0 h1 h2 h3 h4 h5 h6 h7 h8 h9 h10 (List.replicate 8 [(SV.int .u16 (0:Int))]))) (none)) (cond (h0==(2:Int)) (cond (h1==([]:List UInt8)) (k0 ((h3==(0:Int))&&((h4==(0:Int))&&((h5==(0:Int))&&((h6==(0:Int))&&((h7==(0:Int))&&((h8==(0:Int))&&((h9==(0:Int))&&((h10==(0:Int))&&true)))))))) h0 h1 h2 h3 h4 h5 h6 h7 h8 h9 h10 (List.replicate 8 [(SV.int .u16 (0:Int))])) (k0 false h0 h1 h2 h3 h4 h5 h6 h7 h8 h9 h10 (List.replicate 8 [(SV.int .u16 (0:Int))]))) (cond (h0==(3:Int)) (cond (h1==([]:List UInt8)) (k0 (h2==(0:Int)) h0 h1 h2 h3 h4 h5 h6 h7 h8 h9 h10 (List.replicate 8 [(SV.int .u16 (0:Int))])) (k0 false h0 h1 h2 h3 h4 h5 h6 h7 h8 h9 h10 (List.replicate 8 [(SV.int .u16 (0:Int))]))) (k0 false h0 h1 h2 h3 h4 h5 h6 h7 h8 h9 h10 (List.replicate 8 [(SV.int .u16 (0:Int))]))))
theorem hval_ev (d:Nat) (h0:Int) (h1:By) (h2 h3 h4 h5 h6 h7 h8 h9 h10:Int):evC (c_hval lf) (d+1) σ yh 46 [.agg [.s (.int .i64 h0),.s (.str h1),.s (.int .u32 h2),.s (.int .u16 h3),.s (.int .u16 h4),.s (.int .u16 h5),.s (.int .u16 h6),.s (.int .u16 h7),.s (.int .u16 h8),.s (.int .u16 h9),.s (.int .u16 h10)]] [] s=hval lf h0 h1 h2 h3 h4 h5 h6 h7 h8 h9 h10 (fun r0 n1 s2 n3 n4 n5 n6 n7 n8 n9 n10 n11 l12=>some (.s (.bool r0),[.box [.s (.int .i64 n1),.s (.str s2),.s (.int .u32 n3),.s (.int .u16 n4),.s (.int .u16 n5),.s (.int .u16 n6),.s (.int .u16 n7),.s (.int .u16 n8),.s (.int .u16 n9),.s (.int .u16 n10),.s (.int .u16 n11)],.arr false 25 1 l12],s)):=by
 refine (evC_eq (fn:=Tryz.f46) (by kernel_rfl) (by kernel_rfl) (by kernel_rfl)).trans ?_
 generalize evC (c_hval lf) d=cl
 unfold hval;kernel_rfl
noncomputable def c_hfmt (lf:Nat):Cfg:=mkCfg lf [50] (lookK []) [(46,X_hval),(67,X_v4f),(68,X_v6f)] (lookK [(7,[2]),(2,[2]),(4,[2]),(6,[2]),(5,[1,11]),(3,[1,5]),(1,[1,1]),(0,[1])]) [46,67,68] (lookK [(0,[1])]) (some [2]) [] [] []
noncomputable def hfmt {R:Type} (lf:Nat) (h0:Int) (h1:By) (h2 h3 h4 h5 h6 h7 h8 h9 h10:Int) (k0:By→Int→By→Int→Int→Int→Int→Int→Int→Int→Int→Int→Option R):Option R:=cond (small (List.length h1)) (cond (ltN h2 4294967296) (cond (ok8 h3 h4 h5 h6 h7 h8 h9 h10) (cond (not (validH (mkH h0 h1 h2 (n8 h3 h4 h5 h6 h7 h8 h9 h10)))) (k0 ([]:List UInt8) h0 h1 h2 h3 h4 h5 h6 h7 h8 h9 h10) (cond (h0==(1:Int)) (k0 h1 h0 h1 h2 h3 h4 h5 h6 h7 h8 h9 h10) (cond (h0==(2:Int)) (cond (ltN h2 4294967296) (k0 (v4Fmt (Int.toNat h2)) h0 h1 h2 h3 h4 h5 h6 h7 h8 h9 h10) (none)) (cond (ok8 h3 h4 h5 h6 h7 h8 h9 h10) (vl (v6Fmt (n8 h3 h4 h5 h6 h7 h8 h9 h10)) fun s'0=>cond (catOk 1 (List.length s'0)) (vl ((([91]:List UInt8))++s'0) fun s'1=>cond (catOk (List.length s'1) 1) (vl (s'1++(([93]:List UInt8))) fun s'2=>k0 s'2 h0 h1 h2 h3 h4 h5 h6 h7 h8 h9 h10) (none)) (none)) (none))))) (none)) (none)) (none)
theorem hfmt_ev (d:Nat) (h0:Int) (h1:By) (h2 h3 h4 h5 h6 h7 h8 h9 h10:Int):evC (c_hfmt lf) (d+1) σ yh 50 [.agg [.s (.int .i64 h0),.s (.str h1),.s (.int .u32 h2),.s (.int .u16 h3),.s (.int .u16 h4),.s (.int .u16 h5),.s (.int .u16 h6),.s (.int .u16 h7),.s (.int .u16 h8),.s (.int .u16 h9),.s (.int .u16 h10)]] [] s=hfmt lf h0 h1 h2 h3 h4 h5 h6 h7 h8 h9 h10 (fun r0 n1 s2 n3 n4 n5 n6 n7 n8 n9 n10 n11=>some (.s (.str r0),[.box [.s (.int .i64 n1),.s (.str s2),.s (.int .u32 n3),.s (.int .u16 n4),.s (.int .u16 n5),.s (.int .u16 n6),.s (.int .u16 n7),.s (.int .u16 n8),.s (.int .u16 n9),.s (.int .u16 n10),.s (.int .u16 n11)]],s)):=by
 refine (evC_eq (fn:=Tryz.f50) (by kernel_rfl) (by kernel_rfl) (by kernel_rfl)).trans ?_
 generalize evC (c_hfmt lf) d=cl
 unfold hfmt;kernel_rfl
end
end Go.Proofs.YtcfingekgbbclaaGreatDoor.E
namespace Go.Proofs.YtcfingekgbbclaaGreatDoor.E
open Go Go.Proofs 
set_option linter.unusedVariables false
set_option maxRecDepth 100000
section
variable {σ R : Type} (lf : Nat) (cl : CallT) (yh : Yh σ) (s : σ) (k : Out → St σ → Option R)
noncomputable def c_pthr (lf:Nat):Cfg:=mkCfg lf [182] (lookK []) [] (lookK [(2,[2]),(1,[1,1]),(0,[1])]) [] (lookK []) (some [2]) [] [] []
noncomputable def pthr {R:Type} (lf:Nat) (b:Int) (k0:Int→Option R):Option R:=k0 b
theorem pthr_ev (d:Nat) (b:Int):evC (c_pthr lf) (d+1) σ yh 182 [.s (.int .i64 b)] [] s=pthr lf b (fun n0=>some (.fnr (Fn.func 188) [] [.ptr 1 0 0,.ptr 0 0 0],[.box [.s (.int .i64 n0)],.box [.s (.int .i64 (0:Int))]],s)):=by
 refine (evC_eq (fn:=Tryz.f182) (by kernel_rfl) (by kernel_rfl) (by kernel_rfl)).trans ?_
 generalize evC (c_pthr lf) d=cl
 unfold pthr;kernel_rfl
noncomputable def c_pnext (lf:Nat):Cfg:=mkCfg lf [188] (lookK []) [] (lookK [(2,[2]),(1,[0,0]),(0,[0,0])]) [] (lookK []) (some [2]) [] [] []
noncomputable def pnext {R:Type} (lf:Nat) (k b:Int) (k0:Int→Int→Int→Option R):Option R:=vl (wi64 ((wi64 (k+(36:Int)))-b)) fun n'0=>vl (if ((26:Int)<(if ((1:Int) > n'0) then (1:Int) else n'0)) then (26:Int) else (if ((1:Int) > n'0) then (1:Int) else n'0)) fun n'1=>k0 n'1 (wi64 (k+(36:Int))) b
theorem pnext_ev (d:Nat) (k b:Int):evC (c_pnext lf) (d+1) σ yh 188 [.ptr 0 0 0,.ptr 1 0 0] [.box [.s (.int .i64 k)],.box [.s (.int .i64 b)]] s=pnext lf k b (fun r0 n1 n2=>some (.s (.int .i64 r0),[.box [.s (.int .i64 n1)],.box [.s (.int .i64 n2)]],s)):=by
 refine (evC_eq (fn:=Tryz.f188) (by kernel_rfl) (by kernel_rfl) (by kernel_rfl)).trans ?_
 generalize evC (c_pnext lf) d=cl
 unfold pnext;kernel_rfl
noncomputable abbrev b_papp:Code:=bodyOf Tryz.f169
noncomputable def c_papp (lf:Nat):Cfg:=mkCfg lf [169] (lookK [(2,[0,0,4,0])]) [(182,X_pthr),(183,X_pdig)] (lookK [(6,[0,0,5]),(5,[0,0,5,0]),(4,[6]),(3,[0,0,5,0,6]),(2,[0,0,5,0]),(1,[0,0,5]),(0,[0,0,0])]) [183] (lookK [(0,[6]),(1,[0,0,5])]) (some [6]) [(188,X_pnext)] [] [188]
noncomputable def papp_l0f {R:Type} (lf n:Nat) (self:Int→Bool→LL→Int→Int→Option R) (q0:Int) (z1:Bool) (l2:LL) (n3 n4:Int) (k0:Bool→LL→Int→Int→Option R):Option R:=cond (ltN n4 1000000000000) (cond (ltN n3 1000000) (cond (ltI q0 (thrI n4 n3)) (cond (ltN q0 36) (vl (↑(UInt8.toNat (dig36 (Int.toNat q0))):Int) fun n'1=>cond (roomy ((List.length l2)+1)) (k0 z1 (l2++[[(SV.int .u8 n'1)]]) n3 (Int.add n4 (36:Int))) (none)) (none)) (vl (wi64 (q0-(thrI n4 n3))) fun n'2=>vl (wi64 ((36:Int)-(thrI n4 n3))) fun n'3=>cond (n'3 != (0:Int)) (vl (wi64 ((thrI n4 n3)+(Int.tmod n'2 n'3))) fun n'4=>cond (ltN n'4 36) (vl (↑(UInt8.toNat (dig36 (Int.toNat n'4))):Int) fun n'5=>cond (roomy ((List.length l2)+1)) (vl (wi64 (q0-(thrI n4 n3))) fun n'6=>vl (wi64 ((36:Int)-(thrI n4 n3))) fun n'7=>cond (n'7 != (0:Int)) (vl (wi64 (Int.tdiv n'6 n'7)) fun n'8=>self n'8 z1 (l2++[[(SV.int .u8 n'5)]]) n3 (Int.add n4 (36:Int))) (none)) (none)) (none)) (none))) (none)) (none)
noncomputable def papp_l0 {R:Type} (lf n:Nat) (q0:Int) (z1:Bool) (l2:LL) (n3 n4:Int) (k0:Bool→LL→Int→Int→Option R):Option R:=recN (α:=Int→Bool→LL→Int→Int→Option R) (fun _ _ _ _ _=>none) (fun n self q0 z1 l2 n3 n4=>papp_l0f lf n self q0 z1 l2 n3 n4 k0) n q0 z1 l2 n3 n4
theorem papp_l0_s {R:Type} (lf n:Nat) (q0:Int) (z1:Bool) (l2:LL) (n3 n4:Int) (k0:Bool→LL→Int→Int→Option R):papp_l0 lf (n+1) q0 z1 l2 n3 n4 k0=papp_l0f lf n (fun q0 z1 l2 n3 n4=>papp_l0 lf n q0 z1 l2 n3 n4 k0) q0 z1 l2 n3 n4 k0:=rfl
theorem papp_l0_eq (n:Nat) (q0:Int) (z1:Bool) (l2:LL) (n3 n4:Int):loopK 3 ((c_papp lf).keep 2) (bd (c_papp lf) cl yh (cd [1,1,0,0] b_papp)) n ⟨gp [(0,.fl 0),(0,.s (.int .i64 q0)),(5,.fnr (Fn.func 188) [] [.ptr 2 0 0,.ptr 1 0 0])] 31,[.arr z1 5 1 l2,.box [.s (.int .i64 n3)],.box [.s (.int .i64 n4)]],s⟩ k =
 papp_l0 lf n q0 z1 l2 n3 n4 (fun z0 l1 n2 n3=>k .ret ⟨gp [(6,.fl 0)] 32,[.arr z0 5 1 l1,.box [.s (.int .i64 n2)],.box [.s (.int .i64 n3)]],s⟩):=by
 induction n generalizing q0 z1 l2 n3 n4 with
 | zero=>rfl
 | succ n ih=>rw [papp_l0_s];unfold papp_l0f;exact (Eq.trans (by kernel_rfl) (cond_congr (cond_congr (cond_congr (cond_congr (vl_congr fun n'1=>(cond_congr rfl rfl)) rfl) (vl_congr fun n'2=>(vl_congr fun n'3=>(cond_congr (vl_congr fun n'4=>(cond_congr (vl_congr fun n'5=>(cond_congr (vl_congr fun n'6=>(vl_congr fun n'7=>(cond_congr (vl_congr fun n'8=>(ih n'8 z1 (l2++[[(SV.int .u8 n'5)]]) n3 (Int.add n4 (36:Int)))) rfl))) rfl)) rfl)) rfl)))) rfl) rfl))
noncomputable def papp {R:Type} (lf:Nat) (q b:Int) (z:Bool) (l:LL) (k0:Bool→LL→Int→Int→Option R):Option R:=papp_l0 lf lf q z l b 0 (fun z'9 l'10 n'11 n'12=>k0 z'9 l'10 n'11 n'12)
theorem papp_ev (d:Nat) (q b:Int) (z:Bool) (l:LL):evC (c_papp lf) (d+1) σ yh 169 [.fl 0,.s (.int .i64 q),.s (.int .i64 b)] [.arr z 5 1 l] s=papp lf q b z l (fun z0 l1 n2 n3=>some (.fl 0,[.arr z0 5 1 l1,.box [.s (.int .i64 n2)],.box [.s (.int .i64 n3)]],s)):=by
 refine (evC_eq (fn:=Tryz.f169) (by kernel_rfl) (by kernel_rfl) (by kernel_rfl)).trans ?_
 generalize evC (c_papp lf) d=cl
 unfold papp;exact (Eq.trans (by kernel_rfl) ((papp_l0_eq lf cl yh s (blkK 0 (retK (c_papp lf) Tryz.f169)) lf q z l b 0).trans (by kernel_rfl)))
noncomputable abbrev b_penc:Code:=bodyOf Tryz.f141
noncomputable def c_penc (lf:Nat):Cfg:=mkCfg lf [141] (lookK [(29,[0,1,0,0,2,0,0,0,0,61,0,0]),(21,[0,1,0,0,2,0,0,0,0,0,38,0,0]),(17,[0,1,0,0,2,0,0,0,0]),(5,[0,1,0,0,15,0,0])]) [(168,X_ppoint),(170,X_padapt)] (lookK [(40,[2,0]),(18,[0,3,2,0,0,0,0]),(39,[0,3,2,0,0,0,0]),(38,[0,3,2,0,0,0,0,61,0,0]),(32,[0,3,2,0,0,0,0,61,0,0]),(37,[0,3,2,0,0,0,0,61,0,0]),(36,[0,3,2,0,0,0,0,61,0,0]),(35,[0,3,2,0,1,0,61,0,0]),(34,[0,3,2,0,0,1,61,0,0]),(33,[0,3,2,0,0,0,0,61,0,0,9]),(31,[0,3,2,0,0,0,0,4,56,0,0,3]),(30,[0,3,2,0,0,0,0,4,56,0,0]),(29,[0,3,2,0,0,0,0,61,0,0,0]),(28,[0,3,2,0,0,0,0,61,0,0]),(27,[0,3,2,0,0,0,0]),(26,[0,3,2,1,0,0,0]),(25,[0,3,2,0,0,0,0,0,38,0,0]),(24,[0,3,2,0,0,0,0,0,38,0,0]),(23,[0,3,2,0,0,0,0,0,1,36,0,0,5]),(22,[0,3,2,0,0,0,0,0,1,36,0,0]),(21,[0,3,2,0,0,0,0,0,38,0,0,0]),(20,[0,3,2,0,0,0,0,0,38,0,0]),(19,[0,3,2,0,0,0,0,0]),(17,[0,3,2,0,0,0,0,36]),(16,[0,3,2,0,0,0,0]),(15,[0,3,2,0,0,0]),(14,[0,3,2]),(13,[0,3,2,32]),(12,[0,3,2]),(11,[0,3,15,0,0]),(10,[0,3,15,0,0]),(9,[0,3,1,13,0,0,7]),(8,[2,0]),(7,[0,3,1,13,0,0,5]),(6,[0,3,1,13,0,0]),(5,[0,3,15,0,0,0]),(4,[0,3,15,0,0]),(3,[0,3]),(2,[2,0]),(1,[0,18]),(0,[0])]) [168,170] (lookK [(2,[4]),(3,[0,3,2,0,0,0,0]),(6,[0,3,2,0,0,0,0]),(7,[0,3,2,0,0,0,0,61,0,0]),(8,[0,3,2,0,0,0,0,61,0,0]),(4,[0,3,2,0,0,0,0,0]),(5,[0,3,2,0,0,0,0,0,38,0,0]),(0,[0,3]),(1,[0,3,15,0,0])]) (some [2,0]) [(169,X_papp)] [] [169]
noncomputable def penc_l0f {R:Type} (lf n:Nat) (self:Bool→Bool→LL→Int→Int→LL→Option R) (points_z0 points_t1:Bool) (points2:LL) (n3 n4:Int) (l5:LL) (k0:LL→Option R) (k1:Bool→Bool→LL→LL→Option R):Option R:=cond (ltI n4 n3) (cond (inR n4 (List.length points2)) (cond (okE tI64 points2 (Int.toNat n4) 0) (vl (gE points2 (Int.toNat n4) 0) fun n'1=>cond (not (ptI n'1)) (k0 l5) (cond (ltI n'1 (128:Int)) (cond (roomy ((List.length l5)+1)) (self points_z0 points_t1 points2 n3 (wi64 (n4+(1:Int))) (l5++[[(SV.int .u8 (wu8 n'1))]])) (none)) (self points_z0 points_t1 points2 n3 (wi64 (n4+(1:Int))) l5))) (none)) (none)) (k1 points_z0 points_t1 points2 l5)
noncomputable def penc_l0 {R:Type} (lf n:Nat) (points_z0 points_t1:Bool) (points2:LL) (n3 n4:Int) (l5:LL) (k0:LL→Option R) (k1:Bool→Bool→LL→LL→Option R):Option R:=recN (α:=Bool→Bool→LL→Int→Int→LL→Option R) (fun _ _ _ _ _ _=>none) (fun n self points_z0 points_t1 points2 n3 n4 l5=>penc_l0f lf n self points_z0 points_t1 points2 n3 n4 l5 k0 k1) n points_z0 points_t1 points2 n3 n4 l5
theorem penc_l0_s {R:Type} (lf n:Nat) (points_z0 points_t1:Bool) (points2:LL) (n3 n4:Int) (l5:LL) (k0:LL→Option R) (k1:Bool→Bool→LL→LL→Option R):penc_l0 lf (n+1) points_z0 points_t1 points2 n3 n4 l5 k0 k1=penc_l0f lf n (fun points_z0 points_t1 points2 n3 n4 l5=>penc_l0 lf n points_z0 points_t1 points2 n3 n4 l5 k0 k1) points_z0 points_t1 points2 n3 n4 l5 k0 k1:=rfl
theorem penc_l0_eq (n:Nat) (points_z0 points_t1:Bool) (points2:LL) (n3 n4:Int) (l5:LL):loopK 1 ((c_penc lf).keep 5) (bd (c_penc lf) cl yh (cd [1,1,1,0,1,0,0] b_penc)) n ⟨gp [(0,.s (.sl points_z0 points_t1 1 points2)),(3,.fl 0),(15,.s (.sl points_z0 points_t1 1 points2)),(0,.s (.int .i64 n3)),(0,.s (.int .i64 n4))] 84,[.arr true 5 1 l5],s⟩ k =
 penc_l0 lf n points_z0 points_t1 points2 n3 n4 l5 (fun l0=>k .ret ⟨gp [(2,.s (.str ([]:List UInt8))),(0,.s (.int .i64 (2:Int)))] 103,[.arr true 5 1 l0],s⟩) (fun points_z0 points_t1 points2 l3=>k (.exit 0) ⟨gp [(0,.s (.sl points_z0 points_t1 1 points2)),(3,.fl 0)] 102,[.arr true 5 1 l3],s⟩):=by
 induction n generalizing points_z0 points_t1 points2 n3 n4 l5 with
 | zero=>rfl
 | succ n ih=>rw [penc_l0_s];unfold penc_l0f;exact (Eq.trans (by kernel_rfl) (cond_congr (cond_congr (cond_congr (vl_congr fun n'1=>(cond_congr rfl (cond_congr (cond_congr (ih points_z0 points_t1 points2 n3 (wi64 (n4+(1:Int))) (l5++[[(SV.int .u8 (wu8 n'1))]])) rfl) (ih points_z0 points_t1 points2 n3 (wi64 (n4+(1:Int))) l5)))) rfl) rfl) rfl))
noncomputable def penc_l1f {R:Type} (lf n:Nat) (self:Bool→Bool→LL→Int→Int→Int→Int→Int→Int→Int→Int→LL→Option R) (points_z0 points_t1:Bool) (points2:LL) (basic3 n4 delta5 bias6 done7 m8 n9 n10:Int) (l11:LL) (k0:Bool→Bool→LL→Int→Int→Int→Int→Int→Int→LL→Option R):Option R:=cond (ltI n10 n9) (cond (inR n10 (List.length points2)) (cond (okE tI64 points2 (Int.toNat n10) 0) (vl (gE points2 (Int.toNat n10) 0) fun n'9=>cond (not (ltI n'9 n4)) (vl (if (n'9<m8) then n'9 else m8) fun n'10=>self points_z0 points_t1 points2 basic3 n4 delta5 bias6 done7 n'10 n9 (wi64 (n10+(1:Int))) l11) (self points_z0 points_t1 points2 basic3 n4 delta5 bias6 done7 m8 n9 (wi64 (n10+(1:Int))) l11)) (none)) (none)) (k0 points_z0 points_t1 points2 basic3 n4 delta5 bias6 done7 m8 l11)
noncomputable def penc_l1 {R:Type} (lf n:Nat) (points_z0 points_t1:Bool) (points2:LL) (basic3 n4 delta5 bias6 done7 m8 n9 n10:Int) (l11:LL) (k0:Bool→Bool→LL→Int→Int→Int→Int→Int→Int→LL→Option R):Option R:=recN (α:=Bool→Bool→LL→Int→Int→Int→Int→Int→Int→Int→Int→LL→Option R) (fun _ _ _ _ _ _ _ _ _ _ _ _=>none) (fun n self points_z0 points_t1 points2 basic3 n4 delta5 bias6 done7 m8 n9 n10 l11=>penc_l1f lf n self points_z0 points_t1 points2 basic3 n4 delta5 bias6 done7 m8 n9 n10 l11 k0) n points_z0 points_t1 points2 basic3 n4 delta5 bias6 done7 m8 n9 n10 l11
theorem penc_l1_s {R:Type} (lf n:Nat) (points_z0 points_t1:Bool) (points2:LL) (basic3 n4 delta5 bias6 done7 m8 n9 n10:Int) (l11:LL) (k0:Bool→Bool→LL→Int→Int→Int→Int→Int→Int→LL→Option R):penc_l1 lf (n+1) points_z0 points_t1 points2 basic3 n4 delta5 bias6 done7 m8 n9 n10 l11 k0=penc_l1f lf n (fun points_z0 points_t1 points2 basic3 n4 delta5 bias6 done7 m8 n9 n10 l11=>penc_l1 lf n points_z0 points_t1 points2 basic3 n4 delta5 bias6 done7 m8 n9 n10 l11 k0) points_z0 points_t1 points2 basic3 n4 delta5 bias6 done7 m8 n9 n10 l11 k0:=rfl
theorem penc_l1_eq (n:Nat) (points_z0 points_t1:Bool) (points2:LL) (basic3 n4 delta5 bias6 done7 m8 n9 n10:Int) (l11:LL):loopK 1 ((c_penc lf).keep 21) (bd (c_penc lf) cl yh (cd [1,1,1,1,1,1,1,0,1,0,0,1,0,0,1,0,1,0,0] b_penc)) n ⟨gp [(0,.s (.sl points_z0 points_t1 1 points2)),(3,.fl 0),(2,.s (.int .i64 basic3)),(0,.s (.int .i64 n4)),(0,.s (.int .i64 delta5)),(0,.s (.int .i64 bias6)),(0,.s (.int .i64 done7)),(0,.s (.int .i64 m8)),(38,.s (.sl points_z0 points_t1 1 points2)),(0,.s (.int .i64 n9)),(0,.s (.int .i64 n10))] 53,[.arr true 5 1 l11],s⟩ k =
 penc_l1 lf n points_z0 points_t1 points2 basic3 n4 delta5 bias6 done7 m8 n9 n10 l11 (fun points_z0 points_t1 points2 basic3 n4 delta5 bias6 done7 m8 l9=>k (.exit 4) ⟨gp [(0,.s (.sl points_z0 points_t1 1 points2)),(3,.fl 0),(2,.s (.int .i64 basic3)),(0,.s (.int .i64 n4)),(0,.s (.int .i64 delta5)),(0,.s (.int .i64 bias6)),(0,.s (.int .i64 done7)),(0,.s (.int .i64 m8))] 94,[.arr true 5 1 l9],s⟩):=by
 induction n generalizing points_z0 points_t1 points2 basic3 n4 delta5 bias6 done7 m8 n9 n10 l11 with
 | zero=>rfl
 | succ n ih=>rw [penc_l1_s];unfold penc_l1f;exact (Eq.trans (by kernel_rfl) (cond_congr (cond_congr (cond_congr (vl_congr fun n'9=>(cond_congr (vl_congr fun n'10=>(ih points_z0 points_t1 points2 basic3 n4 delta5 bias6 done7 n'10 n9 (wi64 (n10+(1:Int))) l11)) (ih points_z0 points_t1 points2 basic3 n4 delta5 bias6 done7 m8 n9 (wi64 (n10+(1:Int))) l11))) rfl) rfl) rfl))
noncomputable def penc_l2f {R:Type} (lf n:Nat) (self:Bool→Bool→LL→Int→Int→Int→Int→Int→Int→Int→LL→Option R) (points_z0 points_t1:Bool) (points2:LL) (basic3 n4 delta5 bias6 done7 n8 n9:Int) (l10:LL) (k0:Bool→Bool→LL→Int→Int→Int→Int→Int→LL→Option R):Option R:=cond (ltI n9 n8) (cond (inR n9 (List.length points2)) (cond (okE tI64 points2 (Int.toNat n9) 0) (vl (gE points2 (Int.toNat n9) 0) fun n'26=>cond (ltI n'26 n4) (vl (wi64 (delta5+(1:Int))) fun n'27=>self points_z0 points_t1 points2 basic3 n4 n'27 bias6 done7 n8 (wi64 (n9+(1:Int))) l10) (cond (n'26==n4) (cond (ltN delta5 1152921504606846976) (cond (ltN bias6 1000000) (cond (Nat.ble (List.length l10) 100000) (vl (List.append l10 (List.map u8el (encNum (Int.toNat delta5) 0 (Int.toNat bias6)))) fun l'29=>vl (wi64 (done7+(1:Int))) fun n'30=>cond (ltN delta5 1152921504606846976) (cond (ltN n'30 1000000) (cond (ltI (0:Int) n'30) (vl (↑(adapt (Int.toNat delta5) (Int.toNat n'30) (done7==basic3)):Int) fun n'31=>vl (wi64 (done7+(1:Int))) fun n'32=>self points_z0 points_t1 points2 basic3 n4 0 n'31 n'32 n8 (wi64 (n9+(1:Int))) l'29) (none)) (none)) (none)) (none)) (none)) (none)) (self points_z0 points_t1 points2 basic3 n4 delta5 bias6 done7 n8 (wi64 (n9+(1:Int))) l10))) (none)) (none)) (k0 points_z0 points_t1 points2 basic3 n4 delta5 bias6 done7 l10)
noncomputable def penc_l2 {R:Type} (lf n:Nat) (points_z0 points_t1:Bool) (points2:LL) (basic3 n4 delta5 bias6 done7 n8 n9:Int) (l10:LL) (k0:Bool→Bool→LL→Int→Int→Int→Int→Int→LL→Option R):Option R:=recN (α:=Bool→Bool→LL→Int→Int→Int→Int→Int→Int→Int→LL→Option R) (fun _ _ _ _ _ _ _ _ _ _ _=>none) (fun n self points_z0 points_t1 points2 basic3 n4 delta5 bias6 done7 n8 n9 l10=>penc_l2f lf n self points_z0 points_t1 points2 basic3 n4 delta5 bias6 done7 n8 n9 l10 k0) n points_z0 points_t1 points2 basic3 n4 delta5 bias6 done7 n8 n9 l10
theorem penc_l2_s {R:Type} (lf n:Nat) (points_z0 points_t1:Bool) (points2:LL) (basic3 n4 delta5 bias6 done7 n8 n9:Int) (l10:LL) (k0:Bool→Bool→LL→Int→Int→Int→Int→Int→LL→Option R):penc_l2 lf (n+1) points_z0 points_t1 points2 basic3 n4 delta5 bias6 done7 n8 n9 l10 k0=penc_l2f lf n (fun points_z0 points_t1 points2 basic3 n4 delta5 bias6 done7 n8 n9 l10=>penc_l2 lf n points_z0 points_t1 points2 basic3 n4 delta5 bias6 done7 n8 n9 l10 k0) points_z0 points_t1 points2 basic3 n4 delta5 bias6 done7 n8 n9 l10 k0:=rfl
theorem penc_l2_eq (n:Nat) (points_z0 points_t1:Bool) (points2:LL) (basic3 n4 delta5 bias6 done7 n8 n9:Int) (l10:LL):loopK 1 ((c_penc lf).keep 29) (bd (c_penc lf) cl yh (cd [1,1,1,1,1,1,1,0,1,0,0,1,0,0,1,1,1,1,0,1,0,0] b_penc)) n ⟨gp [(0,.s (.sl points_z0 points_t1 1 points2)),(3,.fl 0),(2,.s (.int .i64 basic3)),(0,.s (.int .i64 n4)),(0,.s (.int .i64 delta5)),(0,.s (.int .i64 bias6)),(0,.s (.int .i64 done7)),(61,.s (.sl points_z0 points_t1 1 points2)),(0,.s (.int .i64 n8)),(0,.s (.int .i64 n9))] 31,[.arr true 5 1 l10],s⟩ k =
 penc_l2 lf n points_z0 points_t1 points2 basic3 n4 delta5 bias6 done7 n8 n9 l10 (fun points_z0 points_t1 points2 basic3 n4 delta5 bias6 done7 l8=>k (.exit 6) ⟨gp [(0,.s (.sl points_z0 points_t1 1 points2)),(3,.fl 0),(2,.s (.int .i64 basic3)),(0,.s (.int .i64 n4)),(0,.s (.int .i64 delta5)),(0,.s (.int .i64 bias6)),(0,.s (.int .i64 done7))] 95,[.arr true 5 1 l8],s⟩):=by
 induction n generalizing points_z0 points_t1 points2 basic3 n4 delta5 bias6 done7 n8 n9 l10 with
 | zero=>rfl
 | succ n ih=>rw [penc_l2_s];unfold penc_l2f;exact (Eq.trans (by kernel_rfl) (cond_congr (cond_congr (cond_congr (vl_congr fun n'26=>(cond_congr (vl_congr fun n'27=>(ih points_z0 points_t1 points2 basic3 n4 n'27 bias6 done7 n8 (wi64 (n9+(1:Int))) l10)) (cond_congr (cond_congr (cond_congr (cond_congr (vl_congr fun l'29=>(vl_congr fun n'30=>(cond_congr (cond_congr (cond_congr (vl_congr fun n'31=>(vl_congr fun n'32=>(ih points_z0 points_t1 points2 basic3 n4 0 n'31 n'32 n8 (wi64 (n9+(1:Int))) l'29))) rfl) rfl) rfl))) rfl) rfl) rfl) (ih points_z0 points_t1 points2 basic3 n4 delta5 bias6 done7 n8 (wi64 (n9+(1:Int))) l10)))) rfl) rfl) rfl))
noncomputable def penc_l3f {R:Type} (lf n:Nat) (self:Bool→Bool→LL→Int→Int→Int→Int→Int→LL→Option R) (points_z0 points_t1:Bool) (points2:LL) (basic3 n4 delta5 bias6 done7:Int) (l8:LL) (k0:LL→Option R):Option R:=cond (ltI done7 (↑(List.length points2):Int)) (penc_l1 lf lf points_z0 points_t1 points2 basic3 n4 delta5 bias6 done7 1114112 (↑(List.length points2):Int) 0 l8 (fun points_z'11 points_t'12 points'13 basic'14 n'15 delta'16 bias'17 done'18 m'19 l'20=>vl (wi64 (done'18+(1:Int))) fun n'23=>vl (wi64 ((wi64 (m'19-n'15))*n'23)) fun n'24=>penc_l2 lf lf points_z'11 points_t'12 points'13 basic'14 m'19 (wi64 (delta'16+n'24)) bias'17 done'18 (↑(List.length points'13):Int) 0 l'20 (fun points_z'33 points_t'34 points'35 basic'36 n'37 delta'38 bias'39 done'40 l'41=>vl (wi64 (delta'38+(1:Int))) fun n'42=>vl (wi64 (n'37+(1:Int))) fun n'43=>self points_z'33 points_t'34 points'35 basic'36 n'43 n'42 bias'39 done'40 l'41))) (k0 l8)
noncomputable def penc_l3 {R:Type} (lf n:Nat) (points_z0 points_t1:Bool) (points2:LL) (basic3 n4 delta5 bias6 done7:Int) (l8:LL) (k0:LL→Option R):Option R:=recN (α:=Bool→Bool→LL→Int→Int→Int→Int→Int→LL→Option R) (fun _ _ _ _ _ _ _ _ _=>none) (fun n self points_z0 points_t1 points2 basic3 n4 delta5 bias6 done7 l8=>penc_l3f lf n self points_z0 points_t1 points2 basic3 n4 delta5 bias6 done7 l8 k0) n points_z0 points_t1 points2 basic3 n4 delta5 bias6 done7 l8
theorem penc_l3_s {R:Type} (lf n:Nat) (points_z0 points_t1:Bool) (points2:LL) (basic3 n4 delta5 bias6 done7:Int) (l8:LL) (k0:LL→Option R):penc_l3 lf (n+1) points_z0 points_t1 points2 basic3 n4 delta5 bias6 done7 l8 k0=penc_l3f lf n (fun points_z0 points_t1 points2 basic3 n4 delta5 bias6 done7 l8=>penc_l3 lf n points_z0 points_t1 points2 basic3 n4 delta5 bias6 done7 l8 k0) points_z0 points_t1 points2 basic3 n4 delta5 bias6 done7 l8 k0:=rfl
theorem penc_l3_eq (n:Nat) (points_z0 points_t1:Bool) (points2:LL) (basic3 n4 delta5 bias6 done7:Int) (l8:LL):loopK 1 ((c_penc lf).keep 17) (bd (c_penc lf) cl yh (cd [1,1,1,1,1,1,1,0,1,0,0] b_penc)) n ⟨gp [(0,.s (.sl points_z0 points_t1 1 points2)),(3,.fl 0),(2,.s (.int .i64 basic3)),(0,.s (.int .i64 n4)),(0,.s (.int .i64 delta5)),(0,.s (.int .i64 bias6)),(0,.s (.int .i64 done7))] 95,[.arr true 5 1 l8],s⟩ k =
 penc_l3 lf n points_z0 points_t1 points2 basic3 n4 delta5 bias6 done7 l8 (fun l0=>k (.exit 2) ⟨gp [(4,.fl 0)] 102,[.arr true 5 1 l0],s⟩):=by
 induction n generalizing points_z0 points_t1 points2 basic3 n4 delta5 bias6 done7 l8 with
 | zero=>rfl
 | succ n ih=>rw [penc_l3_s];unfold penc_l3f;exact (Eq.trans (by kernel_rfl) (cond_congr ((penc_l1_eq lf cl yh s (blkK 4 (seqK (c_penc lf) cl yh (cd [1,1,1,1,1,1,1,0,1,0,0,1,0,0,1,1] b_penc) (blkK 3 (seqK (c_penc lf) cl yh (cd [1,1,1,1,1,1,1,0,1,0,0,1,1] b_penc) (lpK 1 ((c_penc lf).keep 17) (bd (c_penc lf) cl yh (cd [1,1,1,1,1,1,1,0,1,0,0] b_penc)) n k))))) lf points_z0 points_t1 points2 basic3 n4 delta5 bias6 done7 1114112 (↑(List.length points2):Int) 0 l8).trans (congr rfl (fx10 fun points_z'11 points_t'12 points'13 basic'14 n'15 delta'16 bias'17 done'18 m'19 l'20=>(Eq.trans (by kernel_rfl) (vl_congr fun n'23=>(vl_congr fun n'24=>((penc_l2_eq lf cl yh s (blkK 6 (seqK (c_penc lf) cl yh (cd [1,1,1,1,1,1,1,0,1,0,0,1,0,0,1,1,1,1,1] b_penc) (blkK 3 (seqK (c_penc lf) cl yh (cd [1,1,1,1,1,1,1,0,1,0,0,1,1] b_penc) (lpK 1 ((c_penc lf).keep 17) (bd (c_penc lf) cl yh (cd [1,1,1,1,1,1,1,0,1,0,0] b_penc)) n k))))) lf points_z'11 points_t'12 points'13 basic'14 m'19 (wi64 (delta'16+n'24)) bias'17 done'18 (↑(List.length points'13):Int) 0 l'20).trans (congr rfl (fx9 fun points_z'33 points_t'34 points'35 basic'36 n'37 delta'38 bias'39 done'40 l'41=>(Eq.trans (by kernel_rfl) (vl_congr fun n'42=>(vl_congr fun n'43=>(ih points_z'33 points_t'34 points'35 basic'36 n'43 n'42 bias'39 done'40 l'41))))))))))))) rfl))
noncomputable def penc {R:Type} (lf:Nat) (p_z p_t:Bool) (p:LL) (k0:Unit→Option R) (k1:By→Int→LL→Option R):Option R:=cond (ltI (256:Int) (↑(List.length p):Int)) (k0 ()) (penc_l0 lf lf p_z p_t p (↑(List.length p):Int) 0 [] (fun l'2=>k1 ([]:List UInt8) 2 l'2) (fun points_z'3 points_t'4 points'5 l'6=>vl (↑(List.length l'6):Int) fun n'8=>cond (ltI (0:Int) n'8) (cond (roomy ((List.length l'6)+1)) (penc_l3 lf lf points_z'3 points_t'4 points'5 n'8 128 0 72 n'8 (l'6++[[(SV.int .u8 (45:Int))]]) (fun l'44=>cond (List.all l'44 isU8) (k1 (List.map elU8 l'44) 0 l'44) (none))) (none)) (penc_l3 lf lf points_z'3 points_t'4 points'5 n'8 128 0 72 n'8 l'6 (fun l'45=>cond (List.all l'45 isU8) (k1 (List.map elU8 l'45) 0 l'45) (none)))))
theorem penc_ev (d:Nat) (p_z p_t:Bool) (p:LL):evC (c_penc lf) (d+1) σ yh 141 [.s (.sl p_z p_t 1 p)] [] s=penc lf p_z p_t p (fun _=>some (.tup [.s (.str ([]:List UInt8)),.s (.int .i64 (3:Int))],[],s)) (fun r0 r1 l2=>some (.tup [.s (.str r0),.s (.int .i64 r1)],[.arr true 5 1 l2],s)):=by
 refine (evC_eq (fn:=Tryz.f141) (by kernel_rfl) (by kernel_rfl) (by kernel_rfl)).trans ?_
 generalize evC (c_penc lf) d=cl
 unfold penc;exact let K0:=(blkK 2 (seqK (c_penc lf) cl yh (cd [1,1,1,1,1,1,1,1] b_penc) (retK (c_penc lf) Tryz.f141)));(Eq.trans (by kernel_rfl) (cond_congr rfl ((penc_l0_eq lf cl yh s (blkK 0 (seqK (c_penc lf) cl yh (cd [1,1,1,1] b_penc) (retK (c_penc lf) Tryz.f141))) lf p_z p_t p (↑(List.length p):Int) 0 []).trans (congr (congr rfl (by kernel_rfl)) (fx4 fun points_z'3 points_t'4 points'5 l'6=>(Eq.trans (by kernel_rfl) (vl_congr fun n'8=>(cond_congr (cond_congr ((penc_l3_eq lf cl yh s K0 lf points_z'3 points_t'4 points'5 n'8 128 0 72 n'8 (l'6++[[(SV.int .u8 (45:Int))]])).trans (by kernel_rfl)) rfl) ((penc_l3_eq lf cl yh s K0 lf points_z'3 points_t'4 points'5 n'8 128 0 72 n'8 l'6).trans (by kernel_rfl))))))))))
end
end Go.Proofs.YtcfingekgbbclaaGreatDoor.E
namespace Go.Proofs.YtcfingekgbbclaaGreatDoor.E
open Go Go.Proofs
set_option linter.unusedVariables false
set_option linter.unusedSimpArgs false
theorem thrI_nat (k b:Nat):thrI ((36*k:Nat):Int) (b:Int)=(thr k b:Int):=by
 unfold thrI thr
 omega
theorem pthr_spec {R:Type} {k0:Int→Option R} (b:Int):pthr LF b k0=k0 b:=rfl
theorem pnext_spec {R:Type} {k0:Int→Int→Int→Option R} (k b:Int) (h0:ltN k 1000000000000=true) (h1:ltN b 1000000=true):pnext LF k b k0=k0 (thrI k b) (Int.add k 36) b:=by
 obtain ⟨a0,a1⟩:=ltN_iff.1 h0
 obtain ⟨b0,b1⟩:=ltN_iff.1 h1
 unfold pnext
 have e1:wi64 (k+36)=k+36:=wi64_id (by omega) (by omega)
 have e2:wi64 (k+36-b)=k+36-b:=wi64_id (by omega) (by omega)
 simp only [vl,e1,e2]
 have:(if (26:Int)<(if (1:Int) > k+36-b then (1:Int) else k+36-b) then (26:Int) else (if (1:Int) > k+36-b then (1:Int) else k+36-b))=thrI k b:=by
  unfold thrI
  split<;>split<;>omega
 rw [this]
 rfl
theorem encNum_lt {q k b:Nat} (h:q<thr k b):encNum q k b=[dig36 q]:=by rw [encNum,dif_pos h]
theorem encNum_ge {q k b:Nat} (h:¬ q<thr k b):encNum q k b=dig36 (thr k b+(q-thr k b) % (36-thr k b))::encNum ((q-thr k b) / (36-thr k b)) (k+1) b:=by rw [encNum,dif_neg h]
theorem div_ten {x y m:Nat} (hy:10≤y) (h:x<10*m):x / y<m:=by
 have h1:x / y≤x / 10:=Nat.div_le_div_left hy (by omega)
 omega
theorem encNum_len (b:Nat):∀ (r q k:Nat),q<10 ^ r→(encNum q k b).length≤r+1:=by
 intro r
 induction r with
 | zero=>
  intro q k h
  have ht:=thr_range k b
  rw [encNum_lt (by simp at h;omega)]
  simp
 | succ r ih=>
  intro q k h
  have ht:=thr_range k b
  by_cases hq:q<thr k b
  ·rw [encNum_lt hq];simp
  ·rw [encNum_ge hq,List.length_cons]
   have:=ih ((q-thr k b) / (36-thr k b)) (k+1) (div_ten (by omega) (by rw [Nat.pow_succ] at h;omega))
   omega
theorem papp_loop (z:Bool) (b:Nat) (hb:b<1000000):∀ (r q k n:Nat) (l:LL),q<10 ^ r→q<1152921504606846976→k+r≤1000→r<n→l.length+r≤200000→
  ∃ (n2 n3:Int),∀ (R:Type) (k0:Bool→LL→Int→Int→Option R),papp_l0 LF n (q:Int) z l (b:Int) ((36*k:Nat):Int) k0=k0 z (l++(encNum q k b).map u8el) n2 n3:=by
 have fin:∀ (q k n:Nat) (l:LL),q<thr k b→k≤1000→l.length≤200000→∃ (n2 n3:Int),∀ (R:Type) (k0:Bool→LL→Int→Int→Option R),papp_l0 LF (n+1) (q:Int) z l (b:Int) ((36*k:Nat):Int) k0=k0 z (l++(encNum q k b).map u8el) n2 n3:=by
  intro q k n l hq hk hl
  have ht:=thr_range k b
  refine ⟨(b:Int),Int.add ((36*k:Nat):Int) 36,fun R k0=>?_⟩
  rw [papp_l0_s]
  unfold papp_l0f
  rw [ltN_t (by omega) (by omega),ltN_t (by omega) (by omega),thrI_nat,ltI_t (by omega),ltN_t (by omega) (by omega),encNum_lt hq]
  simp only [vl,cond_true,Int.toNat_natCast]
  rw [roomy_of (by omega)]
  rfl
 intro r
 induction r with
 | zero=>
  intro q k n l h _ hk hn hl
  have ht:=thr_range k b
  obtain ⟨n,rfl⟩:∃ m,n=m+1:=⟨n-1,by omega⟩
  exact fin q k n l (by simp at h;omega) (by omega) (by omega)
 | succ r ih=>
  intro q k n l h hq60 hk hn hl
  have ht:=thr_range k b
  obtain ⟨n,rfl⟩:∃ m,n=m+1:=⟨n-1,by omega⟩
  by_cases hq:q<thr k b
  ·exact fin q k n l hq (by omega) (by omega)
  ·have hd:(q-thr k b) / (36-thr k b)<10 ^ r:=div_ten (by omega) (by rw [Nat.pow_succ] at h;omega)
   have hd2:(q-thr k b) / (36-thr k b)≤q:=Nat.le_trans (Nat.div_le_self _ _) (by omega)
   have hm2:(q-thr k b) % (36-thr k b)<36-thr k b:=Nat.mod_lt _ (by omega)
   obtain ⟨n2,n3,e⟩:=ih ((q-thr k b) / (36-thr k b)) (k+1) n (l++[u8el (dig36 (thr k b+(q-thr k b) % (36-thr k b)))]) hd (by omega) (by omega) (by omega) (by rw [List.length_append,List.length_singleton];omega)
   refine ⟨n2,n3,fun R k0=>?_⟩
   rw [papp_l0_s]
   unfold papp_l0f
   have c1:wi64 ((q:Int)-(thr k b:Int))=((q-thr k b:Nat):Int):=by rw [wi64_id (by omega) (by omega)];omega
   have c2:wi64 ((36:Int)-(thr k b:Int))=((36-thr k b:Nat):Int):=by rw [wi64_id (by omega) (by omega)];omega
   have c3:Int.tmod ((q-thr k b:Nat):Int) ((36-thr k b:Nat):Int)=(((q-thr k b) % (36-thr k b):Nat):Int):=tmod_nat _ _
   have c4:Int.tdiv ((q-thr k b:Nat):Int) ((36-thr k b:Nat):Int)=(((q-thr k b) / (36-thr k b):Nat):Int):=tdiv_nat _ _
   have c7:((((36-thr k b:Nat):Int)) != 0)=true:=by rw [bne_iff_ne];omega
   rw [ltN_t (by omega) (by omega),ltN_t (by omega) (by omega),thrI_nat,ltI_f (by omega)]
   simp only [vl,c1,c2,c3,c4,c7,cond_true,cond_false]
   rw [encNum_ge hq]
   generalize hA:(q-thr k b) / (36-thr k b)=A at *
   generalize hB:(q-thr k b) % (36-thr k b)=B at *
   have c5:wi64 ((thr k b:Int)+(B:Int))=((thr k b+B:Nat):Int):=by rw [wi64_id (by omega) (by omega)];rfl
   have c6:wi64 (A:Int)=(A:Int):=wi64_id (by omega) (by omega)
   rw [c5,c6,ltN_t (by omega) (by omega),roomy_of (by omega),Int.toNat_natCast,show Int.add ((36*k:Nat):Int) 36=((36*(k+1):Nat):Int) from (by show ((36*k:Nat):Int)+36=_;omega)]
   refine Eq.trans (e R k0) ?_
   simp [List.append_assoc]
theorem papp_spec (q b:Int) (z:Bool) (l:LL) (h0:ltN q 1152921504606846976=true) (h1:ltN b 1000000=true) (h2:Nat.ble l.length 100000=true) :
  ∃ (n2 n3:Int),∀ (R:Type) (k0:Bool→LL→Int→Int→Option R),papp LF q b z l k0=k0 z (List.append l ((encNum q.toNat 0 b.toNat).map u8el)) n2 n3:=by
 obtain ⟨a0,a1⟩:=ltN_iff.1 h0
 obtain ⟨b0,b1⟩:=ltN_iff.1 h1
 obtain ⟨q,rfl⟩:=Int.eq_ofNat_of_zero_le a0
 obtain ⟨b,rfl⟩:=Int.eq_ofNat_of_zero_le b0
 have hl:=Nat.le_of_ble_eq_true h2
 have hLF:=LF_big
 obtain ⟨n2,n3,e⟩:=papp_loop z b (by omega) 19 q 0 LF l (by omega) (by omega) (by omega) (by omega) (by omega)
 exact ⟨n2,n3,fun R k0=>e R _⟩
def i64E (l:List Int):LL:=l.map fun x=>[SV.int .i64 x]
def natE (l:List Nat):LL:=l.map fun x:Nat=>[SV.int .i64 (x:Int)]
theorem natE_i64E (l:List Nat):i64E (l.map fun n:Nat=>(n:Int))=natE l:=by simp [i64E,natE,Function.comp_def]
theorem i64E_len (l:List Int):(i64E l).length=l.length:=by simp [i64E]
theorem natE_len (l:List Nat):(natE l).length=l.length:=by simp [natE]
theorem natE_app (a b:List Nat):natE (a++b)=natE a++natE b:=by simp [natE]
theorem okE_i64 {l:List Int} {i:Nat} (h:i<l.length):okE tI64 (i64E l) i 0=true:=by
 unfold okE i64E tI64
 simp [List.getD_eq_getElem?_getD,h,okS,SV.has]
theorem gE_i64 (l:List Int) (i:Nat) (h:i<l.length):gE (i64E l) i 0=l.getD i 0:=by
 unfold gE gC i64E
 simp [List.getD_eq_getElem?_getD,List.getElem?_eq_getElem h,SV.gI]
theorem okE_nat {l:List Nat} {i:Nat} (h:i<l.length):okE tI64 (natE l) i 0=true:=by
 rw [←natE_i64E];exact okE_i64 (by simpa using h)
theorem gE_nat (l:List Nat) (i:Nat) (h:i<l.length):gE (natE l) i 0=(l.getD i 0:Int):=by
 rw [←natE_i64E,gE_i64 _ _ (by simpa using h)]
 simp [List.getD_eq_getElem?_getD,h]
theorem i64_row {l:LL} (h:l.all isI64=true):∃ P:List Int,l=i64E P:=by
 induction l with
 | nil=>exact ⟨[],rfl⟩
 | cons x r ih=>
  simp only [List.all_cons,Bool.and_eq_true] at h
  obtain ⟨P,rfl⟩:=ih h.2
  have hx:=h.1
  unfold isI64 at hx
  split at hx
  ·rename_i n
   exact ⟨n::P,rfl⟩
  ·cases hx
theorem elI_i64E (P:List Int):(i64E P).map elI=P:=by
 unfold i64E
 rw [List.map_map]
 conv=>rhs;rw [←List.map_id P]
 apply List.map_congr_left
 intro x _
 simp [elI,SV.gI]
theorem drop_int (l:List Int) (i:Nat) (h:i<l.length):l.drop i=l.getD i 0::l.drop (i+1):=by
 rw [List.getD_eq_getElem?_getD,List.getElem?_eq_getElem h,Option.getD_some,List.getElem_cons_drop]
theorem drop_nat (l:List Nat) (i:Nat) (h:i<l.length):l.drop i=l.getD i 0::l.drop (i+1):=by
 rw [List.getD_eq_getElem?_getD,List.getElem?_eq_getElem h,Option.getD_some,List.getElem_cons_drop]
theorem adGo_le:∀ (r d k:Nat),d<456*35 ^ r→adGo d k≤k+36*r+36:=by
 intro r
 induction r with
 | zero=>
  intro d k h
  rw [adGo_small (by simp at h;omega)]
  have:36*d / (d+38)≤36:=by
   apply Nat.div_le_of_le_mul
   rw [Nat.add_mul];omega
  omega
 | succ r ih=>
  intro d k h
  by_cases hd:455<d
  ·rw [adGo_big hd]
   have h1:d / 35<456*35 ^ r:=by
    rw [Nat.pow_succ] at h
    omega
   have:=ih (d / 35) (k+36) h1
   omega
  ·rw [adGo_small hd]
   have:36*d / (d+38)≤36:=by
    apply Nat.div_le_of_le_mul
    rw [Nat.add_mul];omega
   omega
theorem adapt_le (d c:Nat) (f:Bool) (h:d<1152921504606846976):adapt d c f≤500:=by
 unfold adapt
 have hx:∀ x:Nat,x≤d→adGo (x+x / c) 0≤500:=by
  intro x hx
  have:=Nat.div_le_self x c
  have:=adGo_le 11 (x+x / c) 0 (by omega)
  omega
 cases f with
 | true=>exact hx _ (Nat.div_le_self _ _)
 | false=>exact hx _ (Nat.div_le_self _ _)
theorem encNum_20 {q k b:Nat} (h:q<1152921504606846976):(encNum q k b).length≤20:=encNum_len b 19 q k (by omega)
theorem penc_in (z t:Bool) (pts:List Nat) (basic m:Nat) (hm:m≤1114112) (hl:pts.length≤256):∀ (r i n:Nat) (s:EncS),i+r=pts.length→r<n→s.delta+r≤1000000000000→s.bias≤500→s.out.length+20*r≤90000→s.done+r≤1000→basic≤256→
  (∀ (R:Type) (k0:Bool→Bool→LL→Int→Int→Int→Int→Int→LL→Option R),penc_l2 LF n z t (natE pts) (basic:Int) (m:Int) (s.delta:Int) (s.bias:Int) (s.done:Int) (pts.length:Int) (i:Int) (s.out.map u8el) k0 =
   k0 z t (natE pts) (basic:Int) (m:Int) ((encIn m basic (pts.drop i) s).delta:Int) ((encIn m basic (pts.drop i) s).bias:Int) ((encIn m basic (pts.drop i) s).done:Int) ((encIn m basic (pts.drop i) s).out.map u8el))∧
  (encIn m basic (pts.drop i) s).bias≤500∧(encIn m basic (pts.drop i) s).out.length≤s.out.length+20*(pts.drop i).countP (· == m)∧(encIn m basic (pts.drop i) s).done=s.done+(pts.drop i).countP (· == m)∧
  (encIn m basic (pts.drop i) s).delta≤(if 0<(pts.drop i).countP (· == m) then r else s.delta+r):=by
 intro r
 induction r with
 | zero=>
  intro i n s hi hn h1 h2 h3 h4 hb
  obtain ⟨n,rfl⟩:∃ m,n=m+1:=⟨n-1,by omega⟩
  rw [List.drop_of_length_le (by omega)]
  refine ⟨fun R k0=>?_,h2,by simp [encIn],by simp [encIn],by simp [encIn]⟩
  rw [penc_l2_s]
  unfold penc_l2f
  rw [ltI_f (by omega)]
  rfl
 | succ r ih=>
  intro i n s hi hn h1 h2 h3 h4 hb
  obtain ⟨n,rfl⟩:∃ m,n=m+1:=⟨n-1,by omega⟩
  rw [drop_nat pts i (by omega)]
  have hg:=gE_nat pts i (by omega)
  have ok:=okE_nat (l:=pts) (i:=i) (by omega)
  generalize pts.getD i 0=p at *
  have e1:wi64 ((i:Int)+1)=((i+1:Nat):Int):=by rw [wi64_id (by omega) (by omega)];rfl
  have e2:wi64 ((s.delta:Int)+1)=((s.delta+1:Nat):Int):=by rw [wi64_id (by omega) (by omega)];rfl
  have e3:wi64 ((s.done:Int)+1)=((s.done+1:Nat):Int):=by rw [wi64_id (by omega) (by omega)];rfl
  by_cases hp:p<m
  ·have hne:(p==m)=false:=by rw [beq_eq_false_iff_ne];omega
   have hs:encIn m basic (p::pts.drop (i+1)) s=encIn m basic (pts.drop (i+1)) { s with delta:=s.delta+1 }:=by rw [encIn,if_pos hp]
   obtain ⟨q1,q2,q3,q4,q5⟩:=ih (i+1) n { s with delta:=s.delta+1 } (by omega) (by omega) (by simp only;omega) h2 (by simp only;omega) (by simp only;omega) hb
   rw [hs,List.countP_cons_of_neg (by rw [hne];simp)]
   refine ⟨fun R k0=>?_,q2,q3,q4,?_⟩
   ·rw [penc_l2_s]
    unfold penc_l2f
    rw [ltI_t (by omega),natE_len,inR_t (by omega) (by omega),Int.toNat_natCast,ok]
    simp only [cond_true,vl,hg,e1,e2]
    rw [ltI_t (by omega),cond_true]
    exact q1 R k0
   ·simp only at q5
    split at q5<;>split<;>omega
  ·by_cases hq:p=m
   ·subst hq
    have hn20:=encNum_20 (q:=s.delta) (k:=0) (b:=s.bias) (by omega)
    have had:=adapt_le s.delta (s.done+1) (s.done==basic) (by omega)
    have hs:encIn p basic (p::pts.drop (i+1)) s=encIn p basic (pts.drop (i+1)) { delta:=0,bias:=adapt s.delta (s.done+1) (s.done==basic),done:=s.done+1,out:=s.out++encNum s.delta 0 s.bias }:=by rw [encIn,if_neg hp,if_pos rfl]
    obtain ⟨q1,q2,q3,q4,q5⟩:=ih (i+1) n { delta:=0,bias:=adapt s.delta (s.done+1) (s.done==basic),done:=s.done+1,out:=s.out++encNum s.delta 0 s.bias } (by omega) (by omega) (by simp only;omega) had (by simp only [List.length_append];omega) (by simp only;omega) hb
    rw [hs,List.countP_cons_of_pos (by simp)]
    refine ⟨fun R k0=>?_,q2,?_,?_,?_⟩
    ·rw [penc_l2_s]
     unfold penc_l2f
     have hbeq:((s.done:Int)==(basic:Int))=(s.done==basic):=by
      rw [Bool.eq_iff_iff,beq_iff_eq,beq_iff_eq];omega
     rw [ltI_t (by omega),natE_len,inR_t (by omega) (by omega),Int.toNat_natCast,ok]
     simp only [cond_true,vl,hg,e1,e3]
     rw [ltI_f (by omega),cond_false,beq_self_eq_true,cond_true,ltN_t (by omega) (by omega),ltN_t (by omega) (by omega),List.length_map,Nat.ble_eq_true_of_le (show s.out.length≤100000 by omega),ltN_t (by omega) (by omega),ltI_t (by omega),hbeq]
     simp only [cond_true,Int.toNat_natCast]
     have hrow:List.append (s.out.map u8el) ((encNum s.delta 0 s.bias).map u8el)=(s.out++encNum s.delta 0 s.bias).map u8el:=by rw [List.map_append];rfl
     rw [hrow]
     exact q1 R k0
    ·simp only [List.length_append] at q3;omega
    ·simp only at q4;omega
    ·simp only at q5
     rw [if_pos (by omega)]
     split at q5<;>omega
   ·have hne:(p==m)=false:=by rw [beq_eq_false_iff_ne];omega
    have hs:encIn m basic (p::pts.drop (i+1)) s=encIn m basic (pts.drop (i+1)) s:=by rw [encIn,if_neg hp,if_neg hq]
    obtain ⟨q1,q2,q3,q4,q5⟩:=ih (i+1) n s (by omega) (by omega) (by omega) h2 (by omega) (by omega) hb
    rw [hs,List.countP_cons_of_neg (by rw [hne];simp)]
    refine ⟨fun R k0=>?_,q2,q3,q4,?_⟩
    ·rw [penc_l2_s]
     unfold penc_l2f
     rw [ltI_t (by omega),natE_len,inR_t (by omega) (by omega),Int.toNat_natCast,ok]
     simp only [cond_true,vl,hg,e1]
     rw [ltI_f (by omega),cond_false,show ((p:Int)==(m:Int))=false by rw [beq_eq_false_iff_ne];omega,cond_false]
     exact q1 R k0
    ·split at q5<;>split<;>omega
theorem penc_least {R:Type} {k0:Bool→Bool→LL→Int→Int→Int→Int→Int→Int→LL→Option R} (z t:Bool) (pts:List Nat) (hl:pts.length≤256) (n0:Nat) (basic delta bias done:Int) (l:LL):∀ (r i n m:Nat),i+r=pts.length→r<n→
  penc_l1 LF n z t (natE pts) basic (n0:Int) delta bias done (m:Int) (pts.length:Int) (i:Int) l k0=k0 z t (natE pts) basic (n0:Int) delta bias done ((leastP n0 (pts.drop i) m:Nat):Int) l:=by
 intro r
 induction r with
 | zero=>
  intro i n m hi hn
  obtain ⟨n,rfl⟩:∃ m,n=m+1:=⟨n-1,by omega⟩
  rw [penc_l1_s]
  unfold penc_l1f
  rw [ltI_f (by omega),List.drop_of_length_le (by omega)]
  rfl
 | succ r ih=>
  intro i n m hi hn
  obtain ⟨n,rfl⟩:∃ m,n=m+1:=⟨n-1,by omega⟩
  have hg:=gE_nat pts i (by omega)
  have ok:=okE_nat (l:=pts) (i:=i) (by omega)
  rw [penc_l1_s,drop_nat pts i (by omega)]
  unfold penc_l1f
  generalize pts.getD i 0=p at *
  have e1:wi64 ((i:Int)+1)=((i+1:Nat):Int):=by rw [wi64_id (by omega) (by omega)];rfl
  rw [ltI_t (by omega),natE_len,inR_t (by omega) (by omega),Int.toNat_natCast,ok]
  simp only [cond_true,vl,hg,e1,leastP]
  by_cases h:n0≤p
  ·rw [if_pos h,ltI_f (by omega),Bool.not_false,cond_true]
   have:(if (p:Int)<(m:Int) then (p:Int) else (m:Int))=((min m p:Nat):Int):=by split<;>omega
   rw [this]
   exact ih (i+1) n (min m p) (by omega) (by omega)
  ·rw [if_neg h,ltI_t (by omega),Bool.not_true,cond_false]
   exact ih (i+1) n m (by omega) (by omega)
theorem leastP_spec (n:Nat):∀ (l:List Nat) (m:Nat),(leastP n l m=m∨(leastP n l m∈l∧n≤leastP n l m))∧leastP n l m≤m∧∀ p∈l,n≤p→leastP n l m≤p
 | [],m=>⟨.inl rfl,Nat.le_refl _,fun p h=>by cases h⟩
 | q::r,m=>by
  obtain ⟨h1,h2,h3⟩:=leastP_spec n r (if n≤q then min m q else m)
  simp only [leastP]
  by_cases hq:n≤q
  ·rw [if_pos hq] at h1 h2 h3 ⊢
   refine ⟨?_,by omega,fun p hp hn=>?_⟩
   ·rcases h1 with h1 | ⟨h1,h1'⟩
    ·by_cases hm:m≤q
     ·left;omega
     ·right;exact ⟨by rw [h1,show min m q=q by omega];simp,by omega⟩
    ·right;exact ⟨List.mem_cons_of_mem _ h1,h1'⟩
   ·rcases List.mem_cons.1 hp with rfl | hp
    ·omega
    ·exact h3 p hp hn
  ·rw [if_neg hq] at h1 h2 h3 ⊢
   refine ⟨?_,h2,fun p hp hn=>?_⟩
   ·rcases h1 with h1 | ⟨h1,h1'⟩
    ·left;exact h1
    ·right;exact ⟨List.mem_cons_of_mem _ h1,h1'⟩
   ·rcases List.mem_cons.1 hp with rfl | hp
    ·omega
    ·exact h3 p hp hn
theorem cnt_step {n m:Nat} (hnm:n≤m):∀ l:List Nat,(∀ p∈l,n≤p→m≤p)→l.countP (fun p=>decide (p<m+1))=l.countP (fun p=>decide (p<n))+l.countP (· == m)
 | [],_=>rfl
 | p::l,h=>by
  have ih:=cnt_step hnm l (fun q hq=>h q (List.mem_cons_of_mem _ hq))
  have hp:=h p List.mem_cons_self
  simp only [List.countP_cons,ih]
  by_cases h1:p<n
  ·have:(p==m)=false:=by rw [beq_eq_false_iff_ne];omega
   rw [this]
   simp [h1,show p<m+1 by omega]
   omega
  ·by_cases h2:p=m
   ·subst h2
    simp [h1]
    omega
   ·have:(p==m)=false:=by rw [beq_eq_false_iff_ne];exact h2
    have:=hp (by omega)
    rw [‹(p==m)=false›]
    simp [h1,show ¬ p<m+1 by omega]
theorem cnt_lt {n:Nat} {l:List Nat} (h:l.countP (fun p=>decide (p<n))<l.length):∃ p∈l,n≤p:=by
 apply Classical.byContradiction
 intro hc
 have:l.countP (fun p=>decide (p<n))=l.length:=by
  rw [List.countP_eq_length]
  intro p hp
  apply decide_eq_true
  apply Classical.byContradiction
  intro h2
  exact hc ⟨p,hp,by omega⟩
 omega
theorem penc_out (z t:Bool) (pts:List Nat) (basic:Nat) (hl:pts.length≤256) (hb:basic≤256) (hall:∀ p∈pts,p≤1114111):∀ (f n n':Nat) (s:EncS),s.done=pts.countP (fun p=>decide (p<n))→pts.length≤s.done+f→f<n'→s.delta≤300→s.bias≤500→s.out.length+20*(pts.length-s.done)≤80000→n≤1114112→
  ∀ (R:Type) (k0:LL→Option R),penc_l3 LF n' z t (natE pts) (basic:Int) (n:Int) (s.delta:Int) (s.bias:Int) (s.done:Int) (s.out.map u8el) k0=k0 ((encOut pts basic f n s).out.map u8el):=by
 intro f
 have hLF:=LF_big
 induction f with
 | zero=>
  intro n n' s hd hf hn h1 h2 h3 h4 R k0
  obtain ⟨n',rfl⟩:∃ m,n'=m+1:=⟨n'-1,by omega⟩
  rw [penc_l3_s]
  unfold penc_l3f
  rw [natE_len,ltI_f (by omega)]
  rfl
 | succ f ih=>
  intro n n' s hd hf hn h1 h2 h3 h4 R k0
  obtain ⟨n',rfl⟩:∃ m,n'=m+1:=⟨n'-1,by omega⟩
  rw [penc_l3_s]
  unfold penc_l3f
  rw [natE_len]
  have hcl:pts.countP (fun p=>decide (p<n))≤pts.length:=List.countP_le_length
  by_cases hlt:s.done<pts.length
  ·obtain ⟨p0,hp0,hp1⟩:=cnt_lt (n:=n) (l:=pts) (by omega)
   obtain ⟨g1,g2,g3⟩:=leastP_spec n pts 1114112
   have g4:=g3 p0 hp0 hp1
   have g5:=hall p0 hp0
   have hmem:leastP n pts 1114112∈pts∧n≤leastP n pts 1114112:=by
    rcases g1 with g1 | g1
    ·omega
    ·exact g1
   have he:encOut pts basic (f+1) n s=encOut pts basic f (leastP n pts 1114112+1) { encIn (leastP n pts 1114112) basic pts { s with delta:=s.delta+(leastP n pts 1114112-n)*(s.done+1) } with delta:=(encIn (leastP n pts 1114112) basic pts { s with delta:=s.delta+(leastP n pts 1114112-n)*(s.done+1) }).delta+1 }:=by
    rw [encOut,if_pos hlt]
   rw [he,ltI_t (by omega),cond_true]
   have hleast:=fun (K:Bool→Bool→LL→Int→Int→Int→Int→Int→Int→LL→Option R)=>penc_least (k0:=K) z t pts hl n (basic:Int) (s.delta:Int) (s.bias:Int) (s.done:Int) (s.out.map u8el) pts.length 0 LF 1114112 (by omega) (by omega)
   rw [List.drop_zero] at hleast
   refine Eq.trans (hleast _) ?_
   generalize leastP n pts 1114112=m at *
   have hmul:(m-n)*(s.done+1)≤1114112*256:=Nat.mul_le_mul (by omega) (by omega)
   have e1:wi64 ((s.done:Int)+1)=((s.done+1:Nat):Int):=by rw [wi64_id (by omega) (by omega)];rfl
   have e2:wi64 ((m:Int)-(n:Int))=((m-n:Nat):Int):=by rw [wi64_id (by omega) (by omega)];omega
   have e3:wi64 (((m-n:Nat):Int)*((s.done+1:Nat):Int))=(((m-n)*(s.done+1):Nat):Int):=by
    rw [←Int.natCast_mul]
    exact wi64_id (by omega) (by omega)
   have e4:wi64 ((s.delta:Int)+(((m-n)*(s.done+1):Nat):Int))=((s.delta+(m-n)*(s.done+1):Nat):Int):=by
    rw [wi64_id (by omega) (by omega)];rfl
   simp only [vl,e1,e2,e3,e4]
   have hin:=penc_in z t pts basic m (by omega) hl pts.length 0 LF { s with delta:=s.delta+(m-n)*(s.done+1) } (by omega) (by omega) (by simp only;omega) h2 (by simp only;omega) (by simp only;omega) hb
   rw [List.drop_zero] at hin
   obtain ⟨q1,q2,q3,q4,q5⟩:=hin
   rw [natE_len]
   refine Eq.trans (q1 R _) ?_
   have hcnt:0<pts.countP (· == m):=List.countP_pos_iff.2 ⟨m,hmem.1,by simp⟩
   rw [if_pos hcnt] at q5
   have hstep:=cnt_step hmem.2 pts g3
   generalize encIn m basic pts { s with delta:=s.delta+(m-n)*(s.done+1) } = s' at *
   simp only at q3 q4
   have e5:wi64 ((s'.delta:Int)+1)=((s'.delta+1:Nat):Int):=by rw [wi64_id (by omega) (by omega)];rfl
   have e6:wi64 ((m:Int)+1)=((m+1:Nat):Int):=by rw [wi64_id (by omega) (by omega)];rfl
   have hcl2:pts.countP (fun p=>decide (p<m+1))≤pts.length:=List.countP_le_length
   simp only [e5,e6]
   exact ih (m+1) n' { s' with delta:=s'.delta+1 } (by simp only;omega) (by simp only;omega) (by omega) (by simp only;omega) q2 (by simp only;omega) (by omega) R k0
  ·rw [ltI_f (by omega)]
   rw [encOut,if_neg hlt]
   rfl
def basicI (l:List Int):By:=(l.filter fun x=>decide (x<128)).map fun x=>UInt8.ofNat x.toNat
theorem u8_row (x:Int) (h0:0≤x) (h:x<128):[SV.int .u8 (wu8 x)]=u8el (UInt8.ofNat x.toNat):=by
 unfold u8el
 have e:wu8 x=x:=by unfold wu8;exact Int.emod_eq_of_lt h0 (show x<256 by omega)
 rw [e]
 have:((UInt8.ofNat x.toNat).toNat:Int)=x:=by simp;omega
 rw [this]
theorem ptI_nonneg {x:Int} (h:ptI x=true):0≤x∧x≤1114111:=by
 cases x with
 | negSucc m=>cases h
 | ofNat m=>
  have:isPt m=true:=h
  unfold isPt at this
  simp only [Bool.and_eq_true,Nat.ble_eq] at this
  simp only [Int.ofNat_eq_natCast]
  omega
theorem penc_basic (z t:Bool) (P:List Int) (hl:P.length≤256):∀ (r i n:Nat) (out:By),i+r=P.length→r<n→out.length+r≤1000→
  ((P.drop i).all ptI=true→∀ (R:Type) (k0:LL→Option R) (k1:Bool→Bool→LL→LL→Option R),penc_l0 LF n z t (i64E P) (P.length:Int) (i:Int) (out.map u8el) k0 k1=k1 z t (i64E P) ((out++basicI (P.drop i)).map u8el))∧
  ((P.drop i).all ptI=false→∃ l,∀ (R:Type) (k0:LL→Option R) (k1:Bool→Bool→LL→LL→Option R),penc_l0 LF n z t (i64E P) (P.length:Int) (i:Int) (out.map u8el) k0 k1=k0 l):=by
 intro r
 induction r with
 | zero=>
  intro i n out hi hn ho
  obtain ⟨n,rfl⟩:∃ m,n=m+1:=⟨n-1,by omega⟩
  rw [List.drop_of_length_le (by omega)]
  refine ⟨fun _ R k0 k1=>?_,fun h=>(by cases h)⟩
  rw [penc_l0_s]
  unfold penc_l0f
  rw [ltI_f (by omega)]
  simp [basicI]
 | succ r ih=>
  intro i n out hi hn ho
  obtain ⟨n,rfl⟩:∃ m,n=m+1:=⟨n-1,by omega⟩
  have hg:=gE_i64 P i (by omega)
  have ok:=okE_i64 (l:=P) (i:=i) (by omega)
  rw [drop_int P i (by omega)]
  generalize P.getD i 0=x at *
  have e1:wi64 ((i:Int)+1)=((i+1:Nat):Int):=by rw [wi64_id (by omega) (by omega)];rfl
  cases hx:ptI x with
  | false=>
   refine ⟨fun h=>?_,fun _=>⟨out.map u8el,fun R k0 k1=>?_⟩⟩
   ·rw [List.all_cons,hx] at h;cases h
   ·rw [penc_l0_s]
    unfold penc_l0f
    rw [ltI_t (by omega),i64E_len,inR_t (by omega) (by omega),Int.toNat_natCast,ok]
    simp only [cond_true,vl,hg,hx,Bool.not_false]
  | true=>
   obtain ⟨p0,p1⟩:=ptI_nonneg hx
   rw [List.all_cons,hx,Bool.true_and]
   by_cases h128:x<128
   ·have hbs:basicI (x::P.drop (i+1))=UInt8.ofNat x.toNat::basicI (P.drop (i+1)):=by
     unfold basicI;rw [List.filter_cons_of_pos (by simpa using h128)];rfl
    have hrow:out.map u8el++[[SV.int .u8 (wu8 x)]]=(out++[UInt8.ofNat x.toNat]).map u8el:=by rw [u8_row x p0 h128];simp
    obtain ⟨q1,q2⟩:=ih (i+1) n (out++[UInt8.ofNat x.toNat]) (by omega) (by omega) (by simp;omega)
    have step:∀ (R:Type) (k0:LL→Option R) (k1:Bool→Bool→LL→LL→Option R),penc_l0 LF (n+1) z t (i64E P) (P.length:Int) (i:Int) (out.map u8el) k0 k1=penc_l0 LF n z t (i64E P) (P.length:Int) ((i+1:Nat):Int) ((out++[UInt8.ofNat x.toNat]).map u8el) k0 k1:=by
     intro R k0 k1
     rw [penc_l0_s]
     unfold penc_l0f
     rw [ltI_t (by omega),i64E_len,inR_t (by omega) (by omega),Int.toNat_natCast,ok]
     simp only [cond_true,vl,hg,hx,Bool.not_true,cond_false,e1]
     rw [ltI_t h128,List.length_map,roomy_of (by omega),hrow]
     rfl
    refine ⟨fun h R k0 k1=>?_,fun h=>?_⟩
    ·rw [step,q1 h,hbs];simp
    ·obtain ⟨l,e⟩:=q2 h
     exact ⟨l,fun R k0 k1=>by rw [step];exact e R k0 k1⟩
   ·have hbs:basicI (x::P.drop (i+1))=basicI (P.drop (i+1)):=by
     unfold basicI;rw [List.filter_cons_of_neg (by simpa using h128)]
    obtain ⟨q1,q2⟩:=ih (i+1) n out (by omega) (by omega) (by omega)
    have step:∀ (R:Type) (k0:LL→Option R) (k1:Bool→Bool→LL→LL→Option R),penc_l0 LF (n+1) z t (i64E P) (P.length:Int) (i:Int) (out.map u8el) k0 k1=penc_l0 LF n z t (i64E P) (P.length:Int) ((i+1:Nat):Int) (out.map u8el) k0 k1:=by
     intro R k0 k1
     rw [penc_l0_s]
     unfold penc_l0f
     rw [ltI_t (by omega),i64E_len,inR_t (by omega) (by omega),Int.toNat_natCast,ok]
     simp only [cond_true,vl,hg,hx,Bool.not_true,cond_false,e1]
     rw [ltI_f (by omega)]
     rfl
    refine ⟨fun h R k0 k1=>?_,fun h=>?_⟩
    ·rw [step,q1 h,hbs]
    ·obtain ⟨l,e⟩:=q2 h
     exact ⟨l,fun R k0 k1=>by rw [step];exact e R k0 k1⟩
theorem pts_nat {P:List Int} (h:P.all ptI=true):∃ pts:List Nat,P=pts.map (fun n:Nat=>(n:Int))∧pts.all isPt=true∧∀ p∈pts,p≤1114111:=by
 induction P with
 | nil=>exact ⟨[],rfl,rfl,by simp⟩
 | cons x P ih=>
  rw [List.all_cons,Bool.and_eq_true] at h
  obtain ⟨pts,rfl,h1,h2⟩:=ih h.2
  obtain ⟨p0,p1⟩:=ptI_nonneg h.1
  obtain ⟨m,rfl⟩:=Int.eq_ofNat_of_zero_le p0
  refine ⟨m::pts,rfl,?_,?_⟩
  ·rw [List.all_cons,h1,Bool.and_true];exact h.1
  ·intro p hp
   rcases List.mem_cons.1 hp with rfl | hp
   ·omega
   ·exact h2 p hp
theorem basicI_nat (pts:List Nat):basicI (pts.map fun n:Nat=>(n:Int))=basicB pts:=by
 unfold basicI basicB
 induction pts with
 | nil=>rfl
 | cons p r ih=>
  rw [List.map_cons]
  by_cases h:p<128
  ·rw [List.filter_cons_of_pos (by simp;omega),List.filter_cons_of_pos (by simpa using h),List.map_cons,List.map_cons,ih]
   rfl
  ·rw [List.filter_cons_of_neg (by simp;omega),List.filter_cons_of_neg (by simpa using h),ih]
theorem basicB_len (pts:List Nat):(basicB pts).length=pts.countP (fun p=>decide (p<128)):=by
 unfold basicB
 rw [List.length_map,List.countP_eq_length_filter]
theorem penc_cases (z t:Bool) (P:List Int):(encI P=([],3)∧∀ (R:Type) (k0:Unit→Option R) (k1:By→Int→LL→Option R),penc LF z t (i64E P) k0 k1=k0 ())∨
  (∃ l,∀ (R:Type) (k0:Unit→Option R) (k1:By→Int→LL→Option R),penc LF z t (i64E P) k0 k1=k1 (encI P).1 ((encI P).2:Nat) l):=by
 have hLF:=LF_big
 by_cases hl:256<P.length
 ·refine .inl ⟨by unfold encI;rw [if_pos hl],fun R k0 k1=>?_⟩
  unfold penc
  rw [i64E_len,ltI_t (by omega)]
  rfl
 ·right
  obtain ⟨q1,q2⟩:=penc_basic z t P (by omega) P.length 0 LF [] (by omega) (by omega) (by simp;omega)
  rw [List.drop_zero] at q1 q2
  cases ha:P.all ptI with
  | false=>
   obtain ⟨l,e⟩:=q2 ha
   refine ⟨l,fun R k0 k1=>?_⟩
   unfold penc
   rw [i64E_len,ltI_f (by omega),cond_false]
   refine Eq.trans (e R _ _) ?_
   unfold encI
   rw [if_neg hl,ha]
   rfl
  | true=>
   obtain ⟨pts,rfl,hp1,hp2⟩:=pts_nat ha
   rw [List.length_map] at hl
   have hen:encI (pts.map fun n:Nat=>(n:Int))=encP pts:=by
    unfold encI
    rw [List.length_map,if_neg hl,ha]
    simp [Function.comp_def]
   have hbl:=basicB_len pts
   have hbc:pts.countP (fun p=>decide (p<128))≤pts.length:=List.countP_le_length
   have main:∀ (o:By),o.length≤300→∀ (R:Type) (k0:LL→Option R),penc_l3 LF LF z t (natE pts) ((basicB pts).length:Int) 128 0 72 ((basicB pts).length:Int) (o.map u8el) k0=k0 ((encOut pts (basicB pts).length 256 128 { delta:=0,bias:=72,done:=(basicB pts).length,out:=o }).out.map u8el):=by
    intro o ho R k0
    exact penc_out z t pts (basicB pts).length (by omega) (by omega) hp2 256 128 LF { delta:=0,bias:=72,done:=(basicB pts).length,out:=o } hbl (by simp only;omega) (by omega) (by simp) (by simp) (by simp only;omega) (by omega) R k0
   have he2:encP pts=((encOut pts (basicB pts).length 256 128 { delta:=0,bias:=72,done:=(basicB pts).length,out:=if (basicB pts).isEmpty then [] else basicB pts++[45] }).out,0):=by
    unfold encP
    rw [if_neg hl,hp1]
    rfl
   refine ⟨(encP pts).1.map u8el,fun R k0 k1=>?_⟩
   unfold penc
   rw [i64E_len,List.length_map,ltI_f (by omega),cond_false,hen]
   have q1':=q1 ha R
   rw [List.length_map] at q1'
   refine Eq.trans (q1' _ _) ?_
   rw [List.nil_append,basicI_nat,natE_i64E]
   simp only [vl,List.length_map]
   by_cases hbe:basicB pts=[]
   ·rw [hbe,List.length_nil,ltI_f (by omega),cond_false]
    have mm:=main [] (by simp) R
    rw [hbe,List.length_nil] at mm
    rw [List.map_nil] at mm
    refine Eq.trans (mm _) ?_
    rw [hbe] at he2
    rw [he2]
    simp only [List.isEmpty_nil,if_true,List.length_nil]
    rw [all_isU8,map_elU8]
    rfl
   ·have hpos:0<(basicB pts).length:=List.length_pos_iff.2 hbe
    rw [ltI_t (by omega),cond_true,roomy_of (by omega),cond_true]
    have hrow:(basicB pts).map u8el++[[SV.int .u8 (45:Int)]]=(basicB pts++[45]).map u8el:=by rw [List.map_append];rfl
    rw [hrow]
    refine Eq.trans (main (basicB pts++[45]) (by simp;omega) R _) ?_
    rw [he2,if_neg (by simpa using hbe)]
    rw [all_isU8,map_elU8]
    rfl
theorem penc_sp (z t:Bool) (p:LL) (h0:p.all isI64=true):∃ r H,penc LF z t p (fun _=>rv (.tup [.s (.str []),.s (.int .i64 3)]) []) (fun r0 r1 l=>rv (.tup [.s (.str r0),.s (.int .i64 r1)]) [.arr true 5 1 l])=rv r H∧
  r.stab [0,0] H = .tup [.s (.str (encI (p.map elI)).1),.s (.int .i64 ((encI (p.map elI)).2:Nat))]:=by
 obtain ⟨P,rfl⟩:=i64_row h0
 rw [elI_i64E]
 rcases penc_cases z t P with ⟨h1,h2⟩ | ⟨l,h2⟩
 ·exact ⟨_,_,h2 _ _ _,by rw [h1];rfl⟩
 ·exact ⟨_,_,h2 _ _ _,rfl⟩
end Go.Proofs.YtcfingekgbbclaaGreatDoor.E
namespace Go.Proofs.YtcfingekgbbclaaGreatDoor.E
open Go Go.Proofs 
set_option linter.unusedVariables false
set_option maxRecDepth 100000
section
variable {σ R : Type} (lf : Nat) (cl : CallT) (yh : Yh σ) (s : σ) (k : Out → St σ → Option R)
noncomputable abbrev b_dnum:Code:=bodyOf Tryz.f186
noncomputable def c_dnum (lf:Nat):Cfg:=mkCfg lf [186] (lookK [(3,[0,1,0,0])]) [(182,X_pthr),(189,X_pval)] (lookK [(17,[2]),(16,[0,2,0,53]),(15,[0,2,0]),(14,[2]),(13,[0,2,0,1,45]),(12,[0,2,0,0,0]),(11,[2]),(10,[0,2,0,0,41]),(9,[0,2,0,0]),(8,[0,2,0,0]),(7,[2]),(6,[0,2,0,0,18]),(5,[0,2,0,0]),(4,[2]),(3,[0,2,0,11]),(2,[0,2,0]),(1,[0,2]),(0,[0])]) [189] (lookK [(0,[2]),(1,[0,2,0])]) (some [2]) [(188,X_pnext)] [] [188]
noncomputable def dnum_l0f {R:Type} (lf n:Nat) (self:Int→By→Int→Int→Int→Bool→Bool→LL→Int→Option R) (w0:Int) (s1:By) (n2 n3 n4:Int) (b5 z6:Bool) (l7:LL) (n8:Int) (k0:Int→By→Int→Int→Int→Bool→Bool→LL→Int→Option R):Option R:=cond (s1==([]:List UInt8)) (k0 4 s1 n2 n3 n4 b5 z6 l7 n8) (cond (inR (0:Int) (List.length s1)) (cond (inR (bAt s1 (0:Int)) 256) (vl (val36I (u8n (bAt s1 (0:Int)))) fun n'1=>cond (ltI n'1 (0:Int)) (k0 4 s1 n2 n3 n4 b5 z6 l7 n8) (cond (sub3 (1:Int) (↑(List.length s1):Int) (List.length s1)) (vl (cut s1 (1:Int) (↑(List.length s1):Int)) fun s'3=>vl (wi64 (n3+(wi64 (n'1*w0)))) fun n'5=>cond (ltI (1099511627776:Int) n'5) (k0 19 s'3 n2 n'5 n4 b5 z6 l7 n8) (cond (ltN n8 1000000000000) (cond (ltN n4 1000000) (cond (ltI n'1 (thrI n8 n4)) (k0 0 s'3 n2 n'5 n4 b5 z6 l7 (Int.add n8 (36:Int))) (vl (wi64 ((36:Int)-(thrI n8 n4))) fun n'6=>cond (ltI (1099511627776:Int) (wi64 (w0*n'6))) (k0 19 s'3 n2 n'5 n4 b5 z6 l7 (Int.add n8 (36:Int))) (self (wi64 (w0*n'6)) s'3 n2 n'5 n4 b5 z6 l7 (Int.add n8 (36:Int))))) (none)) (none))) (none))) (none)) (none))
noncomputable def dnum_l0 {R:Type} (lf n:Nat) (w0:Int) (s1:By) (n2 n3 n4:Int) (b5 z6:Bool) (l7:LL) (n8:Int) (k0:Int→By→Int→Int→Int→Bool→Bool→LL→Int→Option R):Option R:=recN (α:=Int→By→Int→Int→Int→Bool→Bool→LL→Int→Option R) (fun _ _ _ _ _ _ _ _ _=>none) (fun n self w0 s1 n2 n3 n4 b5 z6 l7 n8=>dnum_l0f lf n self w0 s1 n2 n3 n4 b5 z6 l7 n8 k0) n w0 s1 n2 n3 n4 b5 z6 l7 n8
theorem dnum_l0_s {R:Type} (lf n:Nat) (w0:Int) (s1:By) (n2 n3 n4:Int) (b5 z6:Bool) (l7:LL) (n8:Int) (k0:Int→By→Int→Int→Int→Bool→Bool→LL→Int→Option R):dnum_l0 lf (n+1) w0 s1 n2 n3 n4 b5 z6 l7 n8 k0=dnum_l0f lf n (fun w0 s1 n2 n3 n4 b5 z6 l7 n8=>dnum_l0 lf n w0 s1 n2 n3 n4 b5 z6 l7 n8 k0) w0 s1 n2 n3 n4 b5 z6 l7 n8 k0:=rfl
theorem dnum_l0_eq (n:Nat) (w0:Int) (s1:By) (n2 n3 n4:Int) (b5 z6:Bool) (l7:LL) (n8:Int):loopK 4 ((c_dnum lf).keep 3) (bd (c_dnum lf) cl yh (cd [1,1,1,0,0] b_dnum)) n ⟨gp [(0,.ptr 0 0 0),(2,.fnr (Fn.func 188) [] [.ptr 3 0 0,.ptr 2 0 0]),(0,.s (.int .i64 w0))] 54,[.box [.s (.str s1),.fl 1,.s (.int .i64 n2),.s (.int .i64 n3),.s (.int .i64 n4),.s (.bool b5)],.arr z6 3 1 l7,.box [.s (.int .i64 n4)],.box [.s (.int .i64 n8)]],s⟩ k =
 dnum_l0 lf n w0 s1 n2 n3 n4 b5 z6 l7 n8 (fun n0 s1 n2 n3 n4 b5 z6 l7 n8=>k .ret ⟨gp [(2,.s (.int .i64 n0))] 56,[.box [.s (.str s1),.fl 1,.s (.int .i64 n2),.s (.int .i64 n3),.s (.int .i64 n4),.s (.bool b5)],.arr z6 3 1 l7,.box [.s (.int .i64 n4)],.box [.s (.int .i64 n8)]],s⟩):=by
 induction n generalizing w0 s1 n2 n3 n4 b5 z6 l7 n8 with
 | zero=>rfl
 | succ n ih=>rw [dnum_l0_s];unfold dnum_l0f;exact (Eq.trans (by kernel_rfl) (cond_congr rfl (cond_congr (cond_congr (vl_congr fun n'1=>(cond_congr rfl (cond_congr (vl_congr fun s'3=>(vl_congr fun n'5=>(cond_congr rfl (cond_congr (cond_congr (cond_congr rfl (vl_congr fun n'6=>(cond_congr rfl (ih (wi64 (w0*n'6)) s'3 n2 n'5 n4 b5 z6 l7 (Int.add n8 (36:Int)))))) rfl) rfl)))) rfl))) rfl) rfl)))
noncomputable def dnum {R:Type} (lf:Nat) (rest:By) (n i b:Int) (st z:Bool) (l:LL) (k0:Int→By→Int→Int→Int→Bool→Bool→LL→Int→Option R):Option R:=dnum_l0 lf lf 1 rest n i b st z l 0 (fun n'7 s'8 n'9 n'10 n'11 b'12 z'13 l'14 n'15=>k0 n'7 s'8 n'9 n'10 n'11 b'12 z'13 l'14 n'15)
theorem dnum_ev (d:Nat) (rest:By) (n i b:Int) (st z:Bool) (l:LL):evC (c_dnum lf) (d+1) σ yh 186 [.ptr 0 0 0] [.box [.s (.str rest),.fl 1,.s (.int .i64 n),.s (.int .i64 i),.s (.int .i64 b),.s (.bool st)],.arr z 3 1 l] s=dnum lf rest n i b st z l (fun r0 s1 n2 n3 n4 b5 z6 l7 n8=>some (.s (.int .i64 r0),[.box [.s (.str s1),.fl 1,.s (.int .i64 n2),.s (.int .i64 n3),.s (.int .i64 n4),.s (.bool b5)],.arr z6 3 1 l7,.box [.s (.int .i64 n4)],.box [.s (.int .i64 n8)]],s)):=by
 refine (evC_eq (fn:=Tryz.f186) (by kernel_rfl) (by kernel_rfl) (by kernel_rfl)).trans ?_
 generalize evC (c_dnum lf) d=cl
 unfold dnum;exact (Eq.trans (by kernel_rfl) ((dnum_l0_eq lf cl yh s (blkK 0 (retK (c_dnum lf) Tryz.f186)) lf 1 rest n i b st z l 0).trans (by kernel_rfl)))
noncomputable def c_dstep (lf:Nat):Cfg:=mkCfg lf [175] (lookK []) [(170,X_padapt),(168,X_ppoint)] (lookK [(16,[2]),(15,[]),(14,[0]),(13,[2]),(12,[0,67]),(11,[2]),(10,[0,4,60]),(9,[0,4]),(8,[0,4]),(7,[0,4]),(6,[0,4]),(5,[0,2,1]),(4,[2]),(3,[0,2,0,8]),(2,[0,2,0]),(1,[0,2]),(0,[0])]) [170,168] (lookK []) (some [2]) [(186,X_dnum),(187,X_sins)] [] [186,187]
noncomputable def dstep {R:Type} (lf:Nat) (rest:By) (n i b:Int) (st z:Bool) (l:LL) (k0:Int→By→Int→Int→Int→Bool→Bool→LL→Option R):Option R:=cond (small (List.length rest)) (cond (ltN b 1000000) (cond (ltN i 1099511627777) (cond ((numE b rest i) != (0:Int)) (k0 (numE b rest i) (numR b rest i) n (numI b rest i) b st z l) (vl (wi64 ((↑(List.length l):Int)+(1:Int))) fun n'1=>vl (wi64 ((numI b rest i)-i)) fun n'4=>cond (ltN n'4 1152921504606846976) (cond (ltN n'1 1000000) (cond (ltI (0:Int) n'1) (vl (↑(adapt (Int.toNat n'4) (Int.toNat n'1) (not st)):Int) fun n'5=>cond (n'1 != (0:Int)) (vl (wi64 (Int.tdiv (numI b rest i) n'1)) fun n'7=>cond (n'1 != (0:Int)) (vl (Int.tmod (numI b rest i) n'1) fun n'9=>cond (not (ptI (wi64 (n+n'7)))) (k0 2 (numR b rest i) (wi64 (n+n'7)) n'9 n'5 true z l) (cond (ltI (256:Int) n'1) (k0 3 (numR b rest i) (wi64 (n+n'7)) n'9 n'5 true z l) (cond (ltN n'9 (Nat.add (List.length l) 1)) (cond (Nat.ble (List.length l) 100000) (vl (insR l (Int.toNat n'9) (wi64 (n+n'7))) fun l'11=>k0 0 (numR b rest i) (wi64 (n+n'7)) (wi64 (n'9+(1:Int))) n'5 true z l'11) (none)) (none)))) (none)) (none)) (none)) (none)) (none))) (none)) (none)) (none)
theorem dstep_ev (d:Nat) (rest:By) (n i b:Int) (st z:Bool) (l:LL):evC (c_dstep lf) (d+1) σ yh 175 [.ptr 0 0 0] [.box [.s (.str rest),.fl 1,.s (.int .i64 n),.s (.int .i64 i),.s (.int .i64 b),.s (.bool st)],.arr z 3 1 l] s=dstep lf rest n i b st z l (fun r0 s1 n2 n3 n4 b5 z6 l7=>some (.s (.int .i64 r0),[.box [.s (.str s1),.fl 1,.s (.int .i64 n2),.s (.int .i64 n3),.s (.int .i64 n4),.s (.bool b5)],.arr z6 3 1 l7],s)):=by
 refine (evC_eq (fn:=Tryz.f175) (by kernel_rfl) (by kernel_rfl) (by kernel_rfl)).trans ?_
 generalize evC (c_dstep lf) d=cl
 unfold dstep;kernel_rfl
noncomputable abbrev b_pdec:Code:=bodyOf Tryz.f155
noncomputable def c_pdec (lf:Nat):Cfg:=mkCfg lf [155] (lookK [(20,[2,0,1]),(13,[0,1,0,1,0,22,0]),(4,[0,1,0,9,0])]) [(80,X_lastb)] (lookK [(24,[2,0]),(23,[2,0]),(22,[5,2,59]),(21,[5,2]),(20,[5,58]),(19,[2,0]),(18,[5,53]),(17,[5]),(16,[0,4,0,22,0]),(15,[0,4,0,22,0]),(14,[0,4,0,0,21,0]),(13,[0,4,0,22,0,0]),(12,[0,4,0,22,0]),(11,[0,4,0,21]),(10,[0,4,0]),(9,[0,4]),(8,[0,12,0]),(7,[2,0]),(6,[0,12,0,5]),(5,[0,3,8,0]),(4,[0,12,0,0]),(3,[0,12,0]),(2,[2,0]),(1,[0,10]),(0,[0])]) [80] (lookK [(4,[5]),(5,[5]),(2,[0,4,0]),(3,[0,4,0,22,0]),(0,[0]),(1,[0,12,0])]) (some [2,0]) [(175,X_dstep)] [] [175] (nt:=[(152,1,3,1)])
noncomputable def pdec_l0f {R:Type} (lf n:Nat) (self:By→Int→Int→Option R) (s0:By) (n1 n2:Int) (k0:Unit→Option R) (k1:By→Option R):Option R:=cond (ltI n2 n1) (cond (inR n2 (List.length s0)) (cond (not (ltI (bAt s0 n2) (128:Int))) (k0 ()) (self s0 n1 (wi64 (n2+(1:Int))))) (none)) (k1 s0)
noncomputable def pdec_l0 {R:Type} (lf n:Nat) (s0:By) (n1 n2:Int) (k0:Unit→Option R) (k1:By→Option R):Option R:=recN (α:=By→Int→Int→Option R) (fun _ _ _=>none) (fun n self s0 n1 n2=>pdec_l0f lf n self s0 n1 n2 k0 k1) n s0 n1 n2
theorem pdec_l0_s {R:Type} (lf n:Nat) (s0:By) (n1 n2:Int) (k0:Unit→Option R) (k1:By→Option R):pdec_l0 lf (n+1) s0 n1 n2 k0 k1=pdec_l0f lf n (fun s0 n1 n2=>pdec_l0 lf n s0 n1 n2 k0 k1) s0 n1 n2 k0 k1:=rfl
theorem pdec_l0_eq (n:Nat) (s0:By) (n1 n2:Int):loopK 0 ((c_pdec lf).keep 4) (bd (c_pdec lf) cl yh (cd [1,1,0,1,0,0] b_pdec)) n ⟨gp [(0,.s (.str s0)),(12,.s (.int .i64 n1)),(0,.s (.int .i64 n2))] 59,[],s⟩ k =
 pdec_l0 lf n s0 n1 n2 (fun _=>k .ret ⟨gp [(2,.fl 0),(0,.s (.int .i64 (4:Int)))] 70,[.arr true 3 1 []],s⟩) (fun s0=>k (.exit 0) ⟨gp [(0,.s (.str s0))] 73,[],s⟩):=by
 induction n generalizing s0 n1 n2 with
 | zero=>rfl
 | succ n ih=>rw [pdec_l0_s];unfold pdec_l0f;exact (Eq.trans (by kernel_rfl) (cond_congr (cond_congr (cond_congr rfl (ih s0 n1 (wi64 (n2+(1:Int))))) rfl) rfl))
noncomputable def pdec_l1f {R:Type} (lf n:Nat) (self:By→Int→Int→LL→Option R) (s0:By) (kk1 n2:Int) (l3:LL) (k0:By→Int→LL→Option R):Option R:=cond (ltI n2 kk1) (cond (inR n2 (List.length s0)) (cond (roomy ((List.length l3)+1)) (self s0 kk1 (wi64 (n2+(1:Int))) (l3++[[(SV.int .i64 (wi64 (bAt s0 n2)))]])) (none)) (none)) (k0 s0 kk1 l3)
noncomputable def pdec_l1 {R:Type} (lf n:Nat) (s0:By) (kk1 n2:Int) (l3:LL) (k0:By→Int→LL→Option R):Option R:=recN (α:=By→Int→Int→LL→Option R) (fun _ _ _ _=>none) (fun n self s0 kk1 n2 l3=>pdec_l1f lf n self s0 kk1 n2 l3 k0) n s0 kk1 n2 l3
theorem pdec_l1_s {R:Type} (lf n:Nat) (s0:By) (kk1 n2:Int) (l3:LL) (k0:By→Int→LL→Option R):pdec_l1 lf (n+1) s0 kk1 n2 l3 k0=pdec_l1f lf n (fun s0 kk1 n2 l3=>pdec_l1 lf n s0 kk1 n2 l3 k0) s0 kk1 n2 l3 k0:=rfl
theorem pdec_l1_eq (n:Nat) (s0:By) (kk1 n2:Int) (l3:LL):loopK 2 ((c_pdec lf).keep 13) (bd (c_pdec lf) cl yh (cd [1,1,1,1,0,1,1,0,0,1,0,0] b_pdec)) n ⟨gp [(0,.s (.str s0)),(4,.ptr 1 0 0),(0,.s (.int .i64 kk1)),(22,.s (.int .i64 kk1)),(0,.s (.int .i64 n2))] 43,[.arr true 3 1 l3,.box [.s (.str s0),.fl 0,.s (.int .i64 (128:Int)),.s (.int .i64 (0:Int)),.s (.int .i64 (72:Int)),.s (.bool false)]],s⟩ k =
 pdec_l1 lf n s0 kk1 n2 l3 (fun s0 kk1 l2=>k (.exit 2) ⟨gp [(0,.s (.str s0)),(4,.ptr 1 0 0),(0,.s (.int .i64 kk1))] 67,[.arr true 3 1 l2,.box [.s (.str s0),.fl 0,.s (.int .i64 (128:Int)),.s (.int .i64 (0:Int)),.s (.int .i64 (72:Int)),.s (.bool false)]],s⟩):=by
 induction n generalizing s0 kk1 n2 l3 with
 | zero=>rfl
 | succ n ih=>rw [pdec_l1_s];unfold pdec_l1f;exact (Eq.trans (by kernel_rfl) (cond_congr (cond_congr (cond_congr (ih s0 kk1 (wi64 (n2+(1:Int))) (l3++[[(SV.int .i64 (wi64 (bAt s0 n2)))]])) rfl) rfl) rfl))
noncomputable def pdec_l2f {R:Type} (lf n:Nat) (self:LL→By→Int→Int→Int→Bool→Option R) (l0:LL) (s1:By) (n2 n3 n4:Int) (b5:Bool) (k0:Int→LL→By→Int→Int→Int→Bool→Option R) (k1:LL→By→Int→Int→Int→Bool→Option R):Option R:=cond (not (s1==([]:List UInt8))) (cond (small (List.length s1)) (cond (ltN n4 1000000) (cond (ltN n3 1099511627777) (cond (ltN n2 1152921504606846976) (cond (Nat.ble (List.length l0) 100000) (vl ((dsStep (DS.mk s1 n2 n3 n4 b5 l0))).1 fun n'10=>vl (DS.l ((dsStep (DS.mk s1 n2 n3 n4 b5 l0))).2) fun l'11=>cond (n'10 != (0:Int)) (k0 n'10 l'11 (DS.rest ((dsStep (DS.mk s1 n2 n3 n4 b5 l0))).2) (DS.n ((dsStep (DS.mk s1 n2 n3 n4 b5 l0))).2) (DS.i ((dsStep (DS.mk s1 n2 n3 n4 b5 l0))).2) (DS.b ((dsStep (DS.mk s1 n2 n3 n4 b5 l0))).2) (DS.st ((dsStep (DS.mk s1 n2 n3 n4 b5 l0))).2)) (self l'11 (DS.rest ((dsStep (DS.mk s1 n2 n3 n4 b5 l0))).2) (DS.n ((dsStep (DS.mk s1 n2 n3 n4 b5 l0))).2) (DS.i ((dsStep (DS.mk s1 n2 n3 n4 b5 l0))).2) (DS.b ((dsStep (DS.mk s1 n2 n3 n4 b5 l0))).2) (DS.st ((dsStep (DS.mk s1 n2 n3 n4 b5 l0))).2))) (none)) (none)) (none)) (none)) (none)) (k1 l0 s1 n2 n3 n4 b5)
noncomputable def pdec_l2 {R:Type} (lf n:Nat) (l0:LL) (s1:By) (n2 n3 n4:Int) (b5:Bool) (k0:Int→LL→By→Int→Int→Int→Bool→Option R) (k1:LL→By→Int→Int→Int→Bool→Option R):Option R:=recN (α:=LL→By→Int→Int→Int→Bool→Option R) (fun _ _ _ _ _ _=>none) (fun n self l0 s1 n2 n3 n4 b5=>pdec_l2f lf n self l0 s1 n2 n3 n4 b5 k0 k1) n l0 s1 n2 n3 n4 b5
theorem pdec_l2_s {R:Type} (lf n:Nat) (l0:LL) (s1:By) (n2 n3 n4:Int) (b5:Bool) (k0:Int→LL→By→Int→Int→Int→Bool→Option R) (k1:LL→By→Int→Int→Int→Bool→Option R):pdec_l2 lf (n+1) l0 s1 n2 n3 n4 b5 k0 k1=pdec_l2f lf n (fun l0 s1 n2 n3 n4 b5=>pdec_l2 lf n l0 s1 n2 n3 n4 b5 k0 k1) l0 s1 n2 n3 n4 b5 k0 k1:=rfl
theorem pdec_l2_eq (n:Nat) (l0:LL) (s1:By) (n2 n3 n4:Int) (b5:Bool):loopK 2 ((c_pdec lf).keep 20) (bd (c_pdec lf) cl yh (cd [1,1,1,1,1,1,0,0,0] b_pdec)) n ⟨gp [(5,.ptr 1 0 0)] 68,[.arr true 3 1 l0,.box [.s (.str s1),.fl 0,.s (.int .i64 n2),.s (.int .i64 n3),.s (.int .i64 n4),.s (.bool b5)]],s⟩ k =
 pdec_l2 lf n l0 s1 n2 n3 n4 b5 (fun n0 l1 s2 n3 n4 n5 b6=>k .ret ⟨gp [(2,.fl 2),(0,.s (.int .i64 n0))] 70,[.arr true 3 1 l1,.box [.s (.str s2),.fl 0,.s (.int .i64 n3),.s (.int .i64 n4),.s (.int .i64 n5),.s (.bool b6)],.arr true 3 1 []],s⟩) (fun l0 s1 n2 n3 n4 b5=>k (.exit 4) ⟨gp [(5,.ptr 1 0 0)] 68,[.arr true 3 1 l0,.box [.s (.str s1),.fl 0,.s (.int .i64 n2),.s (.int .i64 n3),.s (.int .i64 n4),.s (.bool b5)]],s⟩):=by
 induction n generalizing l0 s1 n2 n3 n4 b5 with
 | zero=>rfl
 | succ n ih=>rw [pdec_l2_s];unfold pdec_l2f;exact (Eq.trans (by kernel_rfl) (cond_congr (cond_congr (cond_congr (cond_congr (cond_congr (cond_congr (vl_congr fun n'10=>(vl_congr fun l'11=>(cond_congr rfl (ih l'11 (DS.rest ((dsStep (DS.mk s1 n2 n3 n4 b5 l0))).2) (DS.n ((dsStep (DS.mk s1 n2 n3 n4 b5 l0))).2) (DS.i ((dsStep (DS.mk s1 n2 n3 n4 b5 l0))).2) (DS.b ((dsStep (DS.mk s1 n2 n3 n4 b5 l0))).2) (DS.st ((dsStep (DS.mk s1 n2 n3 n4 b5 l0))).2))))) rfl) rfl) rfl) rfl) rfl) rfl))
noncomputable def pdec {R:Type} (lf:Nat) (s0:By) (k0:Int→Option R) (k1:Int→LL→By→Int→Int→Int→Bool→Option R) (k2:LL→By→Int→Int→Int→Bool→Option R):Option R:=cond (ltI (1024:Int) (↑(List.length s0):Int)) (k0 3) (pdec_l0 lf lf s0 (↑(List.length s0):Int) 0 (fun _=>k0 4) (fun s'0=>cond (small (List.length s'0)) (vl (lastI (u8n (45:Int)) s'0) fun n'4=>cond (ltI (0:Int) n'4) (pdec_l1 lf lf s'0 n'4 0 [] (fun s'5 kk'6 l'7=>vl (wi64 (kk'6+(1:Int))) fun n'8=>cond (sub3 n'8 (↑(List.length s'5):Int) (List.length s'5)) (vl (cut s'5 n'8 (↑(List.length s'5):Int)) fun s'9=>cond (ltI (256:Int) (↑(List.length l'7):Int)) (k1 3 l'7 s'9 128 0 72 false) (pdec_l2 lf lf l'7 s'9 128 0 72 false (fun n'12 l'13 s'14 n'15 n'16 n'17 b'18=>k1 n'12 l'13 s'14 n'15 n'16 n'17 b'18) (fun l'19 s'20 n'21 n'22 n'23 b'24=>k2 l'19 s'20 n'21 n'22 n'23 b'24))) (none))) (pdec_l2 lf lf [] s'0 128 0 72 false (fun n'25 l'26 s'27 n'28 n'29 n'30 b'31=>k1 n'25 l'26 s'27 n'28 n'29 n'30 b'31) (fun l'32 s'33 n'34 n'35 n'36 b'37=>k2 l'32 s'33 n'34 n'35 n'36 b'37))) (none)))
theorem pdec_ev (d:Nat) (s0:By):evC (c_pdec lf) (d+1) σ yh 155 [.s (.str s0)] [] s=pdec lf s0 (fun r0=>some (.tup [.fl 0,.s (.int .i64 r0)],[.arr true 3 1 []],s)) (fun r0 l1 s2 n3 n4 n5 b6=>some (.tup [.fl 2,.s (.int .i64 r0)],[.arr true 3 1 l1,.box [.s (.str s2),.fl 0,.s (.int .i64 n3),.s (.int .i64 n4),.s (.int .i64 n5),.s (.bool b6)],.arr true 3 1 []],s)) (fun l0 s1 n2 n3 n4 b5=>some (.tup [.fl 0,.s (.int .i64 (0:Int))],[.arr true 3 1 l0,.box [.s (.str s1),.fl 0,.s (.int .i64 n2),.s (.int .i64 n3),.s (.int .i64 n4),.s (.bool b5)]],s)):=by
 refine (evC_eq (fn:=Tryz.f155) (by kernel_rfl) (by kernel_rfl) (by kernel_rfl)).trans ?_
 generalize evC (c_pdec lf) d=cl
 unfold pdec;exact let K0:=(blkK 4 (seqK (c_pdec lf) cl yh (cd [1,1,1,1,1,1,1] b_pdec) (retK (c_pdec lf) Tryz.f155)));(Eq.trans (by kernel_rfl) (cond_congr rfl ((pdec_l0_eq lf cl yh s (blkK 0 (seqK (c_pdec lf) cl yh (cd [1,1,1] b_pdec) (retK (c_pdec lf) Tryz.f155))) lf s0 (↑(List.length s0):Int) 0).trans (congr (congr rfl (by kernel_rfl)) (fx1 fun s'0=>(Eq.trans (by kernel_rfl) (cond_congr (vl_congr fun n'4=>(cond_congr ((pdec_l1_eq lf cl yh s (blkK 2 (seqK (c_pdec lf) cl yh (cd [1,1,1,1,0,1,1,0,1] b_pdec) (seqK (c_pdec lf) cl yh (cd [1,1,1,1,1] b_pdec) (retK (c_pdec lf) Tryz.f155)))) lf s'0 n'4 0 []).trans (congr rfl (fx3 fun s'5 kk'6 l'7=>(Eq.trans (by kernel_rfl) (vl_congr fun n'8=>(cond_congr (vl_congr fun s'9=>(cond_congr rfl ((pdec_l2_eq lf cl yh s K0 lf l'7 s'9 128 0 72 false).trans (by kernel_rfl)))) rfl)))))) ((pdec_l2_eq lf cl yh s K0 lf [] s'0 128 0 72 false).trans (by kernel_rfl)))) rfl)))))))
noncomputable abbrev b_ilastb:Code:=bodyOf Tryz.f104
noncomputable def c_ilastb (lf:Nat):Cfg:=mkCfg lf [104] (lookK [(2,[0,0,2,0])]) [] (lookK [(6,[4]),(3,[0,0,3]),(5,[4]),(4,[0,0,3,11]),(2,[0,0,3,4]),(1,[0,0,3]),(0,[0,0])]) [] (lookK [(0,[]),(1,[0,0,3])]) (some [4]) [] [] []
noncomputable def ilastb_l0f {R:Type} (lf n:Nat) (self:By→Int→Int→Option R) (s0:By) (c1 i2:Int) (k0:Int→Option R) (k1:Unit→Option R):Option R:=cond (not (ltI i2 (0:Int))) (cond (inR i2 (List.length s0)) (cond ((bAt s0 i2)==c1) (k0 i2) (self s0 c1 (wi64 (i2-(1:Int))))) (none)) (k1 ())
noncomputable def ilastb_l0 {R:Type} (lf n:Nat) (s0:By) (c1 i2:Int) (k0:Int→Option R) (k1:Unit→Option R):Option R:=recN (α:=By→Int→Int→Option R) (fun _ _ _=>none) (fun n self s0 c1 i2=>ilastb_l0f lf n self s0 c1 i2 k0 k1) n s0 c1 i2
theorem ilastb_l0_s {R:Type} (lf n:Nat) (s0:By) (c1 i2:Int) (k0:Int→Option R) (k1:Unit→Option R):ilastb_l0 lf (n+1) s0 c1 i2 k0 k1=ilastb_l0f lf n (fun s0 c1 i2=>ilastb_l0 lf n s0 c1 i2 k0 k1) s0 c1 i2 k0 k1:=rfl
theorem ilastb_l0_eq (n:Nat) (s0:By) (c1 i2:Int):loopK 0 ((c_ilastb lf).keep 2) (bd (c_ilastb lf) cl yh (cd [1,0,1,0,0] b_ilastb)) n ⟨gp [(0,.s (.str s0)),(0,.s (.int .u8 c1)),(3,.s (.int .i64 i2))] 13,[],s⟩ k =
 ilastb_l0 lf n s0 c1 i2 (fun n0=>k .ret ⟨gp [(4,.s (.int .i64 n0))] 14,[],s⟩) (fun _=>k (.exit 0) ⟨gp [] 19,[],s⟩):=by
 induction n generalizing s0 c1 i2 with
 | zero=>rfl
 | succ n ih=>rw [ilastb_l0_s];unfold ilastb_l0f;exact (Eq.trans (by kernel_rfl) (cond_congr (cond_congr (cond_congr rfl (ih s0 c1 (wi64 (i2-(1:Int))))) rfl) rfl))
noncomputable def ilastb {R:Type} (lf:Nat) (s0:By) (c1:Int) (k0:Int→Option R):Option R:=vl (wi64 ((↑(List.length s0):Int)-(1:Int))) fun n'1=>ilastb_l0 lf lf s0 c1 n'1 (fun n'2=>k0 n'2) (fun _=>k0 (-1))
theorem ilastb_ev (d:Nat) (s0:By) (c1:Int):evC (c_ilastb lf) (d+1) σ yh 104 [.s (.str s0),.s (.int .u8 c1)] [] s=ilastb lf s0 c1 (fun r0=>some (.s (.int .i64 r0),[],s)):=by
 refine (evC_eq (fn:=Tryz.f104) (by kernel_rfl) (by kernel_rfl) (by kernel_rfl)).trans ?_
 generalize evC (c_ilastb lf) d=cl
 unfold ilastb;exact (Eq.trans (by kernel_rfl) (vl_congr fun n'1=>((ilastb_l0_eq lf cl yh s (blkK 0 (seqK (c_ilastb lf) cl yh (cd [1,1] b_ilastb) (retK (c_ilastb lf) Tryz.f104))) lf s0 c1 n'1).trans (by kernel_rfl))))
noncomputable def c_lastb (lf:Nat):Cfg:=mkCfg lf [80] (lookK []) [(104,X_ilastb)] (lookK [(1,[4]),(0,[0,0])]) [104] (lookK []) (some [4]) [] [] []
noncomputable def lastb {R:Type} (lf:Nat) (s0:By) (c1:Int) (k0:Int→Option R):Option R:=cond (small (List.length s0)) (cond (inR c1 256) (k0 (lastI (u8n c1) s0)) (none)) (none)
theorem lastb_ev (d:Nat) (s0:By) (c1:Int):evC (c_lastb lf) (d+1) σ yh 80 [.s (.str s0),.s (.int .u8 c1)] [] s=lastb lf s0 c1 (fun r0=>some (.s (.int .i64 r0),[],s)):=by
 refine (evC_eq (fn:=Tryz.f80) (by kernel_rfl) (by kernel_rfl) (by kernel_rfl)).trans ?_
 generalize evC (c_lastb lf) d=cl
 unfold lastb;kernel_rfl
end
end Go.Proofs.YtcfingekgbbclaaGreatDoor.E
namespace Go.Proofs.YtcfingekgbbclaaGreatDoor.E
open Go Go.Proofs
set_option linter.unusedVariables false
set_option linter.unusedSimpArgs false
theorem val36I_range (c:UInt8):-1≤val36I c∧val36I c≤35:=by
 unfold val36I val36
 have:=c.toNat_lt
 split
 ·rename_i n h
  split at h
  ·simp only [Option.some.injEq] at h;omega
  ·split at h
   ·simp only [Option.some.injEq] at h;omega
   ·split at h
    ·simp only [Option.some.injEq] at h;omega
    ·cases h
 ·omega
theorem thrI_range (k b:Int):1≤thrI k b∧thrI k b≤26:=by unfold thrI;omega
theorem mul_range {x w:Int} (h0:0≤x) (h1:x≤35) (w0:0≤w) (w1:w≤1099511627776):0≤x*w∧x*w≤38482906972160:=by
 refine ⟨Int.mul_nonneg h0 w0,?_⟩
 have:=Int.mul_le_mul h1 w1 w0 (show (0:Int)≤35 by omega)
 omega
theorem dnGo_bd (b:Int):∀ (s:By) (i w k:Int),0≤i→0≤w→w≤1099511627776→(dnGo b s i w k).1=0→i≤(dnGo b s i w k).2.2∧(dnGo b s i w k).2.2≤1099511627776∧(dnGo b s i w k).2.1.length<s.length
 | [],i,w,k,_,_,_,h=>by simp [dnGo] at h
 | c::r,i,w,k,hi,hw,hw1,h=>by
  have hv:=val36I_range c
  have ht:=thrI_range k b
  unfold dnGo at h ⊢
  split at h
  ·simp at h
  ·rename_i h1
   rw [if_neg h1]
   have hm:=mul_range (by omega) hv.2 hw hw1
   split at h
   ·simp at h
   ·rename_i h2
    rw [if_neg h2]
    split at h
    ·rename_i h3
     rw [if_pos h3]
     refine ⟨by simp only;omega,by simp only;omega,by simp⟩
    ·rename_i h3
     rw [if_neg h3]
     split at h
     ·simp at h
     ·rename_i h4
      rw [if_neg h4]
      obtain ⟨q1,q2,q3⟩:=dnGo_bd b r (i+val36I c*w) (w*(36-thrI k b)) (k+36) (by omega) (Int.mul_nonneg hw (by omega)) (by omega) h
      exact ⟨by omega,q2,by rw [List.length_cons];omega⟩
theorem dnum_loop (n2:Int) (b:Int) (st z:Bool) (l:LL) (hb0:0≤b) (hb1:b<1000000):∀ (s:By) (n:Nat) (i w k:Int),s.length<n→s.length≤1000000000→0≤i→i≤1099511627776→0≤w→w≤1099511627776→0≤k→k+36*s.length≤100000000000→
  ∃ k',∀ (R:Type) (k0:Int→By→Int→Int→Int→Bool→Bool→LL→Int→Option R),dnum_l0 LF n w s n2 i b st z l k k0=k0 (dnGo b s i w k).1 (dnGo b s i w k).2.1 n2 (dnGo b s i w k).2.2 b st z l k':=by
 intro s
 induction s with
 | nil=>
  intro n i w k hn hs hi hi1 hw hw1 hk hk1
  obtain ⟨n,rfl⟩:∃ m,n=m+1:=⟨n-1,by omega⟩
  refine ⟨k,fun R k0=>?_⟩
  rw [dnum_l0_s]
  rfl
 | cons c r ih=>
  intro n i w k hn hs hi hi1 hw hw1 hk hk1
  obtain ⟨n,rfl⟩:∃ m,n=m+1:=⟨n-1,by omega⟩
  rw [List.length_cons] at hn hs hk1
  have hv:=val36I_range c
  have ht:=thrI_range k b
  have hu:u8n (bAt (c::r) 0)=c:=by unfold u8n bAt;simp
  have hin:inR (bAt (c::r) 0) 256=true:=by rw [bAt_zero];have:=c.toNat_lt;exact inR_t (by omega) (by simp;omega)
  have hcut:cut (c::r) 1 ((c::r).length:Int)=r:=by
   have:=cut_nat (c::r) 1 (c::r).length
   rw [show ((1:Nat):Int)=1 from rfl] at this
   rw [this,List.take_length]
   rfl
  have hne:((c::r)==([]:By))=false:=rfl
  have start:∀ (R:Type) (k0:Int→By→Int→Int→Int→Bool→Bool→LL→Int→Option R),dnum_l0 LF (n+1) w (c::r) n2 i b st z l k k0 =
    cond (ltI (val36I c) 0) (k0 4 (c::r) n2 i b st z l k)
     (vl (wi64 (i+(wi64 (val36I c*w)))) fun n'5=>cond (ltI 1099511627776 n'5) (k0 19 r n2 n'5 b st z l k)
      (cond (ltI (val36I c) (thrI k b)) (k0 0 r n2 n'5 b st z l (Int.add k 36))
       (vl (wi64 (36-(thrI k b))) fun n'6=>cond (ltI 1099511627776 (wi64 (w*n'6))) (k0 19 r n2 n'5 b st z l (Int.add k 36)) (dnum_l0 LF n (wi64 (w*n'6)) r n2 n'5 b st z l (Int.add k 36) k0)))):=by
   intro R k0
   rw [dnum_l0_s]
   unfold dnum_l0f
   rw [hne,hin,inR_t (by omega) (by rw [List.length_cons];omega),sub3_t (by omega) (by rw [List.length_cons];omega) (by omega),hcut,hu,ltN_t (by omega) (by omega),ltN_t (by omega) (by omega)]
   rfl
  unfold dnGo
  by_cases h1:val36I c<0
  ·rw [if_pos h1]
   refine ⟨k,fun R k0=>?_⟩
   rw [start,ltI_t h1]
   rfl
  ·rw [if_neg h1]
   have hm:=mul_range (by omega) hv.2 hw hw1
   have e1:wi64 (val36I c*w)=val36I c*w:=wi64_id (by omega) (by omega)
   have e2:wi64 (i+val36I c*w)=i+val36I c*w:=wi64_id (by omega) (by omega)
   by_cases h2:1099511627776<i+val36I c*w
   ·rw [if_pos h2]
    refine ⟨k,fun R k0=>?_⟩
    rw [start,ltI_f (by omega),e1,e2]
    simp only [vl,cond_false]
    rw [ltI_t h2]
    rfl
   ·rw [if_neg h2]
    by_cases h3:val36I c<thrI k b
    ·rw [if_pos h3]
     refine ⟨Int.add k 36,fun R k0=>?_⟩
     rw [start,ltI_f (by omega),e1,e2]
     simp only [vl,cond_false]
     rw [ltI_f (by omega),ltI_t h3]
     rfl
    ·rw [if_neg h3]
     have e3:wi64 (36-thrI k b)=36-thrI k b:=wi64_id (by omega) (by omega)
     have hm2:=mul_range (x:=36-thrI k b) (by omega) (by omega) hw hw1
     rw [Int.mul_comm] at hm2
     have e4:wi64 (w*(36-thrI k b))=w*(36-thrI k b):=wi64_id (by omega) (by omega)
     by_cases h4:1099511627776<w*(36-thrI k b)
     ·rw [if_pos h4]
      refine ⟨Int.add k 36,fun R k0=>?_⟩
      rw [start,ltI_f (by omega),e1,e2]
      simp only [vl,cond_false]
      rw [ltI_f (by omega),ltI_f (by omega),e3,e4,ltI_t h4]
      rfl
     ·rw [if_neg h4]
      obtain ⟨k',e⟩:=ih n (i+val36I c*w) (w*(36-thrI k b)) (k+36) (by omega) (by omega) (by omega) (by omega) (by omega) (by omega) (by omega) (by omega)
      refine ⟨k',fun R k0=>?_⟩
      rw [start,ltI_f (by omega),e1,e2]
      simp only [vl,cond_false]
      rw [ltI_f (by omega),ltI_f (by omega),e3,e4,ltI_f (by omega)]
      exact e R k0
theorem dnum_spec (rest:By) (n i b:Int) (st z:Bool) (l:LL) (h0:small rest.length=true) (h1:ltN b 1000000=true) (h2:ltN i 1099511627777=true) :
  ∃ k',∀ (R:Type) (k0:Int→By→Int→Int→Int→Bool→Bool→LL→Int→Option R),dnum LF rest n i b st z l k0=k0 (numE b rest i) (numR b rest i) n (numI b rest i) b st z l k':=by
 have hs:=maxL h0
 obtain ⟨b0,b1⟩:=ltN_iff.1 h1
 obtain ⟨i0,i1⟩:=ltN_iff.1 h2
 have hLF:=LF_big
 obtain ⟨k',e⟩:=dnum_loop n b st z l b0 (by omega) rest LF i 1 0 (by omega) (by omega) i0 (by omega) (by omega) (by omega) (by omega) (by omega)
 exact ⟨k',fun R k0=>e R _⟩
theorem dstep_spec {R:Type} {k0:Int→By→Int→Int→Int→Bool→Bool→LL→Option R} (rest:By) (n i b:Int) (st z:Bool) (l:LL) (h0:small rest.length=true) (h1:ltN b 1000000=true) (h2:ltN i 1099511627777=true) (h3:ltN n 1152921504606846976=true) (h4:Nat.ble l.length 100000=true) :
  dstep LF rest n i b st z l k0=k0 (dsStep ⟨rest,n,i,b,st,l⟩).1 (dsStep ⟨rest,n,i,b,st,l⟩).2.rest (dsStep ⟨rest,n,i,b,st,l⟩).2.n (dsStep ⟨rest,n,i,b,st,l⟩).2.i (dsStep ⟨rest,n,i,b,st,l⟩).2.b (dsStep ⟨rest,n,i,b,st,l⟩).2.st z (dsStep ⟨rest,n,i,b,st,l⟩).2.l:=by
 obtain ⟨i0,i1⟩:=ltN_iff.1 h2
 obtain ⟨n0,n1⟩:=ltN_iff.1 h3
 have hl:=Nat.le_of_ble_eq_true h4
 unfold dstep dsStep
 rw [h0,h1,h2]
 simp only [cond_true]
 by_cases he:numE b rest i=0
 ·rw [if_pos he,he]
  obtain ⟨q1,q2,q3⟩:=dnGo_bd b rest i 1 0 i0 (by omega) (by omega) he
  have q1':i≤numI b rest i:=q1
  have q2':numI b rest i≤1099511627776:=q2
  have e1:wi64 ((l.length:Int)+1)=(l.length:Int)+1:=wi64_id (by omega) (by omega)
  simp only [vl]
  rw [e1]
  generalize numI b rest i=x at *
  have hx0:0≤x:=by omega
  obtain ⟨X,rfl⟩:=Int.eq_ofNat_of_zero_le hx0
  have e2:wi64 ((X:Int)-i)=(X:Int)-i:=wi64_id (by omega) (by omega)
  have ec:((l.length:Int)+1)=((l.length+1:Nat):Int):=rfl
  have ed:Int.tdiv (X:Int) ((l.length+1:Nat):Int)=((X / (l.length+1):Nat):Int):=tdiv_nat _ _
  have em:Int.tmod (X:Int) ((l.length+1:Nat):Int)=((X % (l.length+1):Nat):Int):=tmod_nat _ _
  have hd:=Nat.div_le_self X (l.length+1)
  have hm:=Nat.mod_lt X (show 0<l.length+1 by omega)
  rw [e2,ec,ed,em]
  generalize hA:X / (l.length+1)=A at *
  generalize hB:X % (l.length+1)=B at *
  have e3:wi64 (A:Int)=(A:Int):=wi64_id (by omega) (by omega)
  have e4:wi64 (n+(A:Int))=n+(A:Int):=wi64_id (by omega) (by omega)
  have e5:wi64 ((B:Int)+1)=(B:Int)+1:=wi64_id (by omega) (by omega)
  have c0:((0:Int) != 0)=false:=rfl
  have c1:((((l.length+1:Nat):Int)) != 0)=true:=by rw [bne_iff_ne];omega
  rw [e3,e4,e5,c0,ltN_t (by omega) (by omega),ltN_t (by omega) (by omega),ltI_t (by omega),c1]
  simp only [cond_true,cond_false]
  cases hp:ptI (n+(A:Int)) with
  | false=>simp
  | true=>
   simp only [Bool.not_true,cond_false,if_true]
   by_cases h256:(256:Int)<((l.length+1:Nat):Int)
   ·rw [if_pos h256,ltI_t h256]
    rfl
   ·rw [if_neg h256,ltI_f (by omega),cond_false,ltN_t (by omega) (by show (B:Int)<((l.length+1:Nat):Int);omega),h4]
    rfl
 ·rw [if_neg he,show (numE b rest i != 0)=true from bne_iff_ne.2 he]
  rfl
theorem lastI_ge (c:UInt8):∀ l:By,-1≤lastI c l
 | []=>by simp [lastI]
 | b::r=>by
  have:=lastI_ge c r
  unfold lastI
  split
  ·split<;>omega
  ·omega
theorem lastI_snoc (c b:UInt8):∀ l:By,lastI c (l++[b])=if b=c then (l.length:Int) else lastI c l
 | []=>by
  by_cases h:b=c<;>simp [lastI,h]
 | a::l=>by
  have ih:=lastI_snoc c b l
  rw [List.cons_append,lastI,ih]
  by_cases h:b=c
  ·rw [if_pos h,if_pos h,if_neg (by omega)]
   simp
  ·rw [if_neg h,if_neg h]
   rfl
theorem ilastb_loop {R:Type} {k0:Int→Option R} {k1:Unit→Option R} (s:By) (c:UInt8) (hs:s.length≤1000000000):∀ (m n:Nat),m≤s.length→m<n→
  ilastb_l0 LF n s (c.toNat:Int) ((m:Int)-1) k0 k1=if lastI c (s.take m)<0 then k1 () else k0 (lastI c (s.take m)):=by
 intro m
 induction m with
 | zero=>
  intro n hm hn
  obtain ⟨n,rfl⟩:∃ m,n=m+1:=⟨n-1,by omega⟩
  rw [ilastb_l0_s]
  unfold ilastb_l0f
  rw [ltI_t (by omega)]
  rfl
 | succ m ih=>
  intro n hm hn
  obtain ⟨n,rfl⟩:∃ m,n=m+1:=⟨n-1,by omega⟩
  rw [ilastb_l0_s]
  unfold ilastb_l0f
  have e0:(((m+1:Nat):Int)-1)=(m:Int):=by omega
  have e1:wi64 ((m:Int)-1)=(m:Int)-1:=wi64_id (by omega) (by omega)
  have ht:s.take (m+1)=s.take m++[s.getD m 0]:=by
   rw [List.take_add_one,List.getD_eq_getElem?_getD,List.getElem?_eq_getElem (by omega)]
   rfl
  rw [e0,e1,ltI_f (by omega),inR_t (by omega) (by omega),bAt_nat,ht,lastI_snoc]
  simp only [Bool.not_false,cond_true]
  by_cases h:s.getD m 0=c
  ·rw [if_pos h,h,beq_self_eq_true,cond_true,List.length_take,Nat.min_eq_left (by omega),if_neg (by omega)]
  ·have hne:(((s.getD m 0).toNat:Int)==(c.toNat:Int))=false:=by
    rw [beq_eq_false_iff_ne]
    intro he
    exact h (UInt8.toNat.inj (Int.ofNat.inj he))
   rw [if_neg h,hne,cond_false]
   exact ih n (by omega) (by omega)
theorem u8n_back {c:Int} (h:inR c 256=true):c=((u8n c).toNat:Int):=by
 simp only [inR,Bool.and_eq_true,decide_eq_true_eq] at h
 unfold u8n
 simp
 omega
theorem ilastb_spec {R:Type} {k0:Int→Option R} (s:By) (c:Int) (h0:small s.length=true) (h1:inR c 256=true):ilastb LF s c k0=k0 (lastI (u8n c) s):=by
 have hs:=maxL h0
 have hLF:=LF_big
 have hc:=u8n_back h1
 generalize u8n c=d at *
 subst hc
 unfold ilastb
 have e1:wi64 ((s.length:Int)-1)=(s.length:Int)-1:=wi64_id (by omega) (by omega)
 simp only [vl]
 rw [e1]
 refine Eq.trans (ilastb_loop s d (by omega) s.length LF (by omega) (by omega)) ?_
 rw [List.take_length]
 have:=lastI_ge d s
 by_cases h:lastI d s<0
 ·rw [if_pos h,show lastI d s = -1 by omega]
 ·rw [if_neg h]
theorem lastb_spec {R:Type} {k0:Int→Option R} (s:By) (c:Int) (h0:small s.length=true) (h1:inR c 256=true):lastb LF s c k0=k0 (lastI (u8n c) s):=by
 unfold lastb
 rw [h0,h1]
 rfl
theorem lastDash_eq:∀ s:By,(45∈s→lastI 45 s=(lastDash s:Int))∧(45∉s→lastI 45 s = -1∧lastDash s=0)
 | []=>⟨fun h=>(by cases h),fun _=>⟨rfl,rfl⟩⟩
 | b::r=>by
  obtain ⟨h1,h2⟩:=lastDash_eq r
  unfold lastI lastDash
  by_cases hr:45∈r
  ·have:=h1 hr
   rw [if_pos hr,if_neg (by omega),this]
   exact ⟨fun _=>by simp,fun h=>absurd (List.mem_cons_of_mem _ hr) h⟩
  ·obtain ⟨q1,q2⟩:=h2 hr
   rw [if_neg hr,if_pos (by omega)]
   refine ⟨fun h=>?_,fun h=>?_⟩
   ·rcases List.mem_cons.1 h with h | h
    ·rw [if_pos h.symm];rfl
    ·exact absurd h hr
   ·rw [if_neg (fun hb=>h (by rw [hb];exact List.mem_cons_self))]
    exact ⟨rfl,rfl⟩
theorem val36I_none {c:UInt8} (h:val36 c=none):val36I c = -1:=by unfold val36I;rw [h]
theorem val36I_some {c:UInt8} {x:Nat} (h:val36 c=some x):val36I c=x:=by unfold val36I;rw [h]
theorem dnGo_nat (b:Nat):∀ (s:By) (i w k:Nat),dnGo (b:Int) s (i:Int) (w:Int) ((36*k:Nat):Int)=((((decNum b s i w k).2.2:Nat):Int),(dnGo (b:Int) s (i:Int) (w:Int) ((36*k:Nat):Int)).2)∧
  ((decNum b s i w k).2.2=0→(dnGo (b:Int) s (i:Int) (w:Int) ((36*k:Nat):Int)).2=((decNum b s i w k).2.1,((decNum b s i w k).1:Int)))
 | [],i,w,k=>⟨rfl,fun h=>by simp [decNum] at h⟩
 | c::r,i,w,k=>by
  unfold dnGo decNum
  cases hv:val36 c with
  | none=>
   rw [val36I_none hv,if_pos (by omega)]
   exact ⟨rfl,fun h=>by simp at h⟩
  | some x=>
   rw [val36I_some hv,if_neg (by omega),thrI_nat]
   have e1:(i:Int)+(x:Int)*(w:Int)=((i+x*w:Nat):Int):=by push_cast;rfl
   have ht:=thr_range k b
   have e2:(w:Int)*(36-(thr k b:Int))=((w*(36-thr k b):Nat):Int):=by
    rw [show (36:Int)-(thr k b:Int)=((36-thr k b:Nat):Int) by omega];push_cast;rfl
   have e3:((36*k:Nat):Int)+36=((36*(k+1):Nat):Int):=by omega
   have hsat:satB=1099511627776:=by decide
   rw [e1,e2,e3,hsat]
   simp only
   generalize i+x*w=I
   generalize w*(36-thr k b)=W
   by_cases h2:1099511627776<I
   ·rw [if_pos (by omega),if_pos h2]
    exact ⟨rfl,fun h=>by simp at h⟩
   ·rw [if_neg (by omega),if_neg h2]
    by_cases h3:x<thr k b
    ·rw [if_pos (by omega),if_pos h3]
     exact ⟨rfl,fun _=>rfl⟩
    ·rw [if_neg (by omega),if_neg h3]
     by_cases h4:1099511627776<W
     ·rw [if_pos (by omega),if_pos h4]
      exact ⟨rfl,fun h=>by simp at h⟩
     ·rw [if_neg (by omega),if_neg h4]
      exact dnGo_nat b r I W (k+1)
theorem insR_nat (l:List Nat) (i n:Nat):insR (natE l) i (n:Int)=natE (insAt l i n):=by
 unfold insR insAt natE
 rw [List.map_append,List.map_take,List.map_cons,List.map_drop]
theorem num_nat (b:Nat) (s:By) (i:Nat):numE (b:Int) s (i:Int)=((decNum b s i 1 0).2.2:Int)∧((decNum b s i 1 0).2.2=0→numR (b:Int) s (i:Int)=(decNum b s i 1 0).2.1∧numI (b:Int) s (i:Int)=((decNum b s i 1 0).1:Int)):=by
 obtain ⟨h1,h2⟩:=dnGo_nat b s i 1 0
 have e:dnGo (b:Int) s (i:Int) 1 0=dnGo (b:Int) s (i:Int) ((1:Nat):Int) ((36*0:Nat):Int):=rfl
 unfold numE numR numI
 rw [e]
 refine ⟨by rw [h1],fun h=>?_⟩
 have:=h2 h
 rw [this]
 exact ⟨rfl,rfl⟩
theorem ds_ok (s:By) (pts:List Nat) (n i b:Nat) (st:Bool) (h:(decNum b s i 1 0).2.2=0) (hi:i≤(decNum b s i 1 0).1) (hp:isPt (n+(decNum b s i 1 0).1 / (pts.length+1))=true) (hc:¬ 256<pts.length+1) :
  dsStep ⟨s,(n:Int),(i:Int),(b:Int),st,natE pts⟩=(0,⟨(decNum b s i 1 0).2.1,((n+(decNum b s i 1 0).1 / (pts.length+1):Nat):Int),(((decNum b s i 1 0).1 % (pts.length+1)+1:Nat):Int),((adapt ((decNum b s i 1 0).1-i) (pts.length+1) (!st):Nat):Int),true,natE (insAt pts ((decNum b s i 1 0).1 % (pts.length+1)) (n+(decNum b s i 1 0).1 / (pts.length+1)))⟩):=by
 obtain ⟨h1,h2⟩:=num_nat b s i
 obtain ⟨h3,h4⟩:=h2 h
 unfold dsStep
 simp only
 rw [h1,h,if_pos (show ((0:Nat):Int)=0 from rfl),h3,h4,natE_len]
 generalize (decNum b s i 1 0).1=X at *
 have ec:((pts.length:Int)+1)=((pts.length+1:Nat):Int):=rfl
 have ed:Int.tdiv (X:Int) ((pts.length+1:Nat):Int)=((X / (pts.length+1):Nat):Int):=tdiv_nat _ _
 have em:Int.tmod (X:Int) ((pts.length+1:Nat):Int)=((X % (pts.length+1):Nat):Int):=tmod_nat _ _
 have en:(n:Int)+((X / (pts.length+1):Nat):Int)=((n+X / (pts.length+1):Nat):Int):=rfl
 rw [ec,ed,em,en,ptI_nat,hp,if_pos rfl,if_neg (by omega),Int.toNat_natCast,insR_nat,Int.toNat_natCast,show ((X:Int)-(i:Int)).toNat=X-i by omega]
 rfl
theorem ds_err (s:By) (pts:List Nat) (n i b:Nat) (st:Bool):((decNum b s i 1 0).2.2≠0→(dsStep ⟨s,(n:Int),(i:Int),(b:Int),st,natE pts⟩).1=((decNum b s i 1 0).2.2:Int))∧
  ((decNum b s i 1 0).2.2=0→isPt (n+(decNum b s i 1 0).1 / (pts.length+1))=false→(dsStep ⟨s,(n:Int),(i:Int),(b:Int),st,natE pts⟩).1=2)∧
  ((decNum b s i 1 0).2.2=0→isPt (n+(decNum b s i 1 0).1 / (pts.length+1))=true→256<pts.length+1→(dsStep ⟨s,(n:Int),(i:Int),(b:Int),st,natE pts⟩).1=3):=by
 obtain ⟨h1,h2⟩:=num_nat b s i
 have ec:(((natE pts).length:Int)+1)=((pts.length+1:Nat):Int):=by rw [natE_len];rfl
 have ed:∀ X:Nat,Int.tdiv (X:Int) ((pts.length+1:Nat):Int)=((X / (pts.length+1):Nat):Int):=fun X=>tdiv_nat _ _
 have en:∀ A:Nat,(n:Int)+(A:Int)=((n+A:Nat):Int):=fun A=>rfl
 refine ⟨fun h=>?_,fun h hp=>?_,fun h hp hc=>?_⟩
 ·unfold dsStep
  simp only
  rw [h1,if_neg (by omega)]
 ·obtain ⟨h3,h4⟩:=h2 h
  unfold dsStep
  simp only
  rw [h1,h,if_pos (show ((0:Nat):Int)=0 from rfl),h4,ec,ed,en,ptI_nat,hp,if_neg (by simp)]
 ·obtain ⟨h3,h4⟩:=h2 h
  unfold dsStep
  simp only
  rw [h1,h,if_pos (show ((0:Nat):Int)=0 from rfl),h4,ec,ed,en,ptI_nat,hp,if_pos rfl,if_pos (by omega)]
theorem decGoP_nil (pts:List Nat) (n i b:Nat) (f:Bool):decGoP [] pts n i b f=(pts,0):=by rw [decGoP];rfl
theorem decGoP_err {s:By} (hs:s≠[]) (pts:List Nat) (n i b:Nat) (f:Bool) (h:(decNum b s i 1 0).2.2≠0):decGoP s pts n i b f=([],(decNum b s i 1 0).2.2):=by
 rw [decGoP,dif_neg hs]
 simp only
 rw [dif_neg h]
theorem decGoP_step {s:By} (hs:s≠[]) (pts:List Nat) (n i b:Nat) (f:Bool) (h:(decNum b s i 1 0).2.2=0):decGoP s pts n i b f =
  if isPt (n+(decNum b s i 1 0).1 / (pts.length+1)) then (if 256<pts.length+1 then ([],3) else decGoP (decNum b s i 1 0).2.1 (insAt pts ((decNum b s i 1 0).1 % (pts.length+1)) (n+(decNum b s i 1 0).1 / (pts.length+1))) (n+(decNum b s i 1 0).1 / (pts.length+1)) ((decNum b s i 1 0).1 % (pts.length+1)+1) (adapt ((decNum b s i 1 0).1-i) (pts.length+1) f) false) else ([],2):=by
 rw [decGoP,dif_neg hs]
 simp only
 rw [dif_pos h]
theorem insAt_len (l:List Nat) (i n:Nat):(insAt l i n).length=l.length+1:=by
 unfold insAt
 rw [List.length_append,List.length_cons,List.length_take,List.length_drop]
 omega
theorem pdec_loop:∀ (r:Nat) (s:By) (pts:List Nat) (n i b f:Nat) (st:Bool),s.length≤r→r<f→s.length≤1000000→pts.length≤256→n≤1114111→i≤1000→b≤500→
  ((decGoP s pts n i b (!st)).2=0→∃ s' n' i' b' st',∀ (R:Type) (k0:Int→LL→By→Int→Int→Int→Bool→Option R) (k1:LL→By→Int→Int→Int→Bool→Option R),pdec_l2 LF f (natE pts) s (n:Int) (i:Int) (b:Int) st k0 k1=k1 (natE (decGoP s pts n i b (!st)).1) s' n' i' b' st')∧
  ((decGoP s pts n i b (!st)).2≠0→(decGoP s pts n i b (!st)).1=[]∧∃ l s' n' i' b' st',∀ (R:Type) (k0:Int→LL→By→Int→Int→Int→Bool→Option R) (k1:LL→By→Int→Int→Int→Bool→Option R),pdec_l2 LF f (natE pts) s (n:Int) (i:Int) (b:Int) st k0 k1=k0 ((decGoP s pts n i b (!st)).2:Nat) l s' n' i' b' st'):=by
 intro r
 induction r with
 | zero=>
  intro s pts n i b f st h hf _ _ _ _ _
  obtain ⟨f,rfl⟩:∃ m,f=m+1:=⟨f-1,by omega⟩
  have hs:s=[]:=List.length_eq_zero_iff.1 (by omega)
  subst hs
  rw [decGoP_nil]
  refine ⟨fun _=>⟨[],n,i,b,st,fun R k0 k1=>?_⟩,fun h=>absurd rfl h⟩
  rw [pdec_l2_s]
  rfl
 | succ r ih=>
  intro s pts n i b f st h hf h1 h2 h3 h4 h5
  obtain ⟨f,rfl⟩:∃ m,f=m+1:=⟨f-1,by omega⟩
  by_cases hs:s=[]
  ·subst hs
   rw [decGoP_nil]
   refine ⟨fun _=>⟨[],n,i,b,st,fun R k0 k1=>?_⟩,fun h=>absurd rfl h⟩
   rw [pdec_l2_s]
   rfl
  ·have start:∀ (R:Type) (k0:Int→LL→By→Int→Int→Int→Bool→Option R) (k1:LL→By→Int→Int→Int→Bool→Option R),pdec_l2 LF (f+1) (natE pts) s (n:Int) (i:Int) (b:Int) st k0 k1 =
     cond ((dsStep ⟨s,n,i,b,st,natE pts⟩).1 != 0) (k0 (dsStep ⟨s,n,i,b,st,natE pts⟩).1 (dsStep ⟨s,n,i,b,st,natE pts⟩).2.l (dsStep ⟨s,n,i,b,st,natE pts⟩).2.rest (dsStep ⟨s,n,i,b,st,natE pts⟩).2.n (dsStep ⟨s,n,i,b,st,natE pts⟩).2.i (dsStep ⟨s,n,i,b,st,natE pts⟩).2.b (dsStep ⟨s,n,i,b,st,natE pts⟩).2.st)
      (pdec_l2 LF f (dsStep ⟨s,n,i,b,st,natE pts⟩).2.l (dsStep ⟨s,n,i,b,st,natE pts⟩).2.rest (dsStep ⟨s,n,i,b,st,natE pts⟩).2.n (dsStep ⟨s,n,i,b,st,natE pts⟩).2.i (dsStep ⟨s,n,i,b,st,natE pts⟩).2.b (dsStep ⟨s,n,i,b,st,natE pts⟩).2.st k0 k1):=by
    intro R k0 k1
    rw [pdec_l2_s]
    unfold pdec_l2f
    rw [show (s==([]:By))=false from beq_eq_false_iff_ne.2 hs,small_t (by omega),ltN_t (by omega) (by omega),ltN_t (by omega) (by omega),ltN_t (by omega) (by omega),natE_len,Nat.ble_eq_true_of_le (show pts.length≤100000 by omega)]
    rfl
   obtain ⟨d1,d2,d3⟩:=ds_err s pts n i b st
   have hok:=ds_ok s pts n i b st
   generalize dsStep ⟨s,n,i,b,st,natE pts⟩=D at *
   by_cases he:(decNum b s i 1 0).2.2=0
   ·rw [decGoP_step hs pts n i b (!st) he]
    obtain ⟨m1,m2⟩:=num_nat b s i
    obtain ⟨m3,m4⟩:=m2 he
    have hE:numE (b:Int) s (i:Int)=0:=by rw [m1,he];rfl
    obtain ⟨q1,q2,q3⟩:=dnGo_bd b s i 1 0 (by omega) (by omega) (by omega) hE
    have q1':(i:Int)≤numI (b:Int) s (i:Int):=q1
    have q2':numI (b:Int) s (i:Int)≤1099511627776:=q2
    have q3':(numR (b:Int) s (i:Int)).length<s.length:=q3
    rw [m4] at q1' q2'
    rw [m3] at q3'
    cases hp:isPt (n+(decNum b s i 1 0).1 / (pts.length+1)) with
    | false=>
     rw [if_neg (by simp)]
     refine ⟨fun h=>by simp at h,fun _=>⟨rfl,D.2.l,D.2.rest,D.2.n,D.2.i,D.2.b,D.2.st,fun R k0 k1=>?_⟩⟩
     ·rw [start,d2 he hp]
      rfl
    | true=>
     rw [if_pos rfl]
     by_cases hc:256<pts.length+1
     ·rw [if_pos hc]
      refine ⟨fun h=>by simp at h,fun _=>⟨rfl,D.2.l,D.2.rest,D.2.n,D.2.i,D.2.b,D.2.st,fun R k0 k1=>?_⟩⟩
      rw [start,d3 he hp hc]
      rfl
     ·rw [if_neg hc]
      have hok:=hok he (by omega) hp hc
      have hn':n+(decNum b s i 1 0).1 / (pts.length+1)≤1114111:=by
       unfold isPt at hp
       simp only [Bool.and_eq_true,Nat.ble_eq] at hp
       exact hp.1
      have hmod:=Nat.mod_lt (decNum b s i 1 0).1 (show 0<pts.length+1 by omega)
      have had:=adapt_le ((decNum b s i 1 0).1-i) (pts.length+1) (!st) (by omega)
      have:=ih (decNum b s i 1 0).2.1 (insAt pts ((decNum b s i 1 0).1 % (pts.length+1)) (n+(decNum b s i 1 0).1 / (pts.length+1))) (n+(decNum b s i 1 0).1 / (pts.length+1)) ((decNum b s i 1 0).1 % (pts.length+1)+1) (adapt ((decNum b s i 1 0).1-i) (pts.length+1) (!st)) f true (by omega) (by omega) (by omega) (by rw [insAt_len];omega) hn' (by omega) had
      obtain ⟨p1,p2⟩:=this
      refine ⟨fun h=>?_,fun h=>?_⟩
      ·obtain ⟨s',n',i',b',st',e⟩:=p1 h
       refine ⟨s',n',i',b',st',fun R k0 k1=>?_⟩
       rw [start,hok]
       exact e R k0 k1
      ·obtain ⟨pe,l,s',n',i',b',st',e⟩:=p2 h
       refine ⟨pe,l,s',n',i',b',st',fun R k0 k1=>?_⟩
       rw [start,hok]
       exact e R k0 k1
   ·rw [decGoP_err hs pts n i b (!st) he]
    refine ⟨fun h=>absurd h he,fun _=>⟨rfl,D.2.l,D.2.rest,D.2.n,D.2.i,D.2.b,D.2.st,fun R k0 k1=>?_⟩⟩
    rw [start,d1 he,show (((decNum b s i 1 0).2.2:Int) != 0)=true by rw [bne_iff_ne];omega]
    rfl
theorem natR_natE (l:List Nat):natR l=natE l:=rfl
theorem pdec_ascii {R:Type} {k0:Unit→Option R} {k1:By→Option R} (s:By) (hs:s.length≤1000000):∀ (r i n:Nat),i+r=s.length→r<n→
  pdec_l0 LF n s (s.length:Int) (i:Int) k0 k1=if (s.drop i).any (fun b=>Nat.ble 128 b.toNat) then k0 () else k1 s:=by
 intro r
 induction r with
 | zero=>
  intro i n hi hn
  obtain ⟨n,rfl⟩:∃ m,n=m+1:=⟨n-1,by omega⟩
  rw [pdec_l0_s]
  unfold pdec_l0f
  rw [ltI_f (by omega),List.drop_of_length_le (by omega)]
  rfl
 | succ r ih=>
  intro i n hi hn
  obtain ⟨n,rfl⟩:∃ m,n=m+1:=⟨n-1,by omega⟩
  rw [pdec_l0_s]
  unfold pdec_l0f
  have e1:wi64 ((i:Int)+1)=((i+1:Nat):Int):=by rw [wi64_id (by omega) (by omega)];rfl
  rw [ltI_t (by omega),inR_t (by omega) (by omega),bAt_nat,drop_cons s i (by omega),e1,List.any_cons]
  simp only [cond_true]
  generalize s.getD i 0=b
  by_cases h:128≤b.toNat
  ·rw [ltI_f (by omega),Nat.ble_eq_true_of_le h]
   rfl
  ·have:Nat.ble 128 b.toNat=false:=by rw [Bool.eq_false_iff,ne_eq,Nat.ble_eq];exact h
   rw [ltI_t (by omega),this,Bool.false_or]
   exact ih (i+1) n (by omega) (by omega)
theorem pdec_copy {R:Type} {k0:By→Int→LL→Option R} (s:By) (hs:s.length≤1000000) (k:Nat) (hk:k≤s.length):∀ (r i n:Nat) (l:List Nat),i+r=k→r<n→l.length=i→
  pdec_l1 LF n s (k:Int) (i:Int) (natE l) k0=k0 s (k:Int) (natE (l++((s.take k).drop i).map (·.toNat))):=by
 intro r
 induction r with
 | zero=>
  intro i n l hi hn hl
  obtain ⟨n,rfl⟩:∃ m,n=m+1:=⟨n-1,by omega⟩
  rw [pdec_l1_s]
  unfold pdec_l1f
  rw [ltI_f (by omega),List.drop_of_length_le (by rw [List.length_take];omega)]
  simp
 | succ r ih=>
  intro i n l hi hn hl
  obtain ⟨n,rfl⟩:∃ m,n=m+1:=⟨n-1,by omega⟩
  rw [pdec_l1_s]
  unfold pdec_l1f
  have e1:wi64 ((i:Int)+1)=((i+1:Nat):Int):=by rw [wi64_id (by omega) (by omega)];rfl
  have hd:(s.take k).drop i=s.getD i 0::(s.take k).drop (i+1):=by
   rw [drop_cons (s.take k) i (by rw [List.length_take];omega)]
   congr 1
   rw [List.getD_eq_getElem?_getD,List.getD_eq_getElem?_getD,List.getElem?_take_of_lt (by omega)]
  rw [ltI_t (by omega),inR_t (by omega) (by omega),bAt_nat,hd,natE_len,roomy_of (by omega),e1]
  simp only [cond_true]
  generalize s.getD i 0=b
  have hb:=b.toNat_lt
  have e2:wi64 (b.toNat:Int)=(b.toNat:Int):=wi64_id (by omega) (by omega)
  have hrow:natE l++[[SV.int .i64 (wi64 (b.toNat:Int))]]=natE (l++[b.toNat]):=by rw [e2,natE_app];rfl
  rw [hrow,ih (i+1) n _ (by omega) (by omega) (by simp;omega)]
  simp
theorem lastDash_lt:∀ s:By,lastDash s≤s.length-1
 | []=>by simp [lastDash]
 | b::r=>by
  have:=lastDash_lt r
  unfold lastDash
  split
  ·rename_i h
   have:0<r.length:=List.length_pos_of_mem h
   rw [List.length_cons];omega
  ·omega
theorem pdec_cases (s:By) (h0:small s.length=true):(∃ e,decP s=([],e)∧∀ (R:Type) (k0:Int→Option R) (k1:Int→LL→By→Int→Int→Int→Bool→Option R) (k2:LL→By→Int→Int→Int→Bool→Option R),pdec LF s k0 k1 k2=k0 (e:Nat))∨
  (∃ e l s' n' i' b' st',decP s=([],e)∧∀ (R:Type) (k0:Int→Option R) (k1:Int→LL→By→Int→Int→Int→Bool→Option R) (k2:LL→By→Int→Int→Int→Bool→Option R),pdec LF s k0 k1 k2=k1 (e:Nat) l s' n' i' b' st')∨
  ((decP s).2=0∧∃ s' n' i' b' st',∀ (R:Type) (k0:Int→Option R) (k1:Int→LL→By→Int→Int→Int→Bool→Option R) (k2:LL→By→Int→Int→Int→Bool→Option R),pdec LF s k0 k1 k2=k2 (natE (decP s).1) s' n' i' b' st'):=by
 have hLF:=LF_big
 unfold decP
 by_cases hl:1024<s.length
 ·rw [if_pos hl]
  refine .inl ⟨3,rfl,fun R k0 k1 k2=>?_⟩
  unfold pdec
  rw [ltI_t (by omega)]
  rfl
 ·rw [if_neg hl]
  have asc:=fun (R:Type) (K0:Unit→Option R) (K1:By→Option R)=>pdec_ascii (k0:=K0) (k1:=K1) s (by omega) s.length 0 LF (by omega) (by omega)
  rw [List.drop_zero] at asc
  cases ha:s.any (fun b=>Nat.ble 128 b.toNat) with
  | true=>
   rw [if_pos rfl]
   refine .inl ⟨4,rfl,fun R k0 k1 k2=>?_⟩
   unfold pdec
   rw [ltI_f (by omega),cond_false]
   refine Eq.trans (asc R _ _) ?_
   rw [ha,if_pos rfl]
   rfl
  | false=>
   rw [if_neg (by simp)]
   obtain ⟨d1,d2⟩:=lastDash_eq s
   have hlt:=lastDash_lt s
   have key:∀ (pts:List Nat) (t:By),pts.length≤256→t.length≤1024→(∀ (R:Type) (k0:Int→Option R) (k1:Int→LL→By→Int→Int→Int→Bool→Option R) (k2:LL→By→Int→Int→Int→Bool→Option R),pdec LF s k0 k1 k2=pdec_l2 LF LF (natE pts) t 128 0 72 false k1 k2)→
     (∃ e l s' n' i' b' st',decGoP t pts 128 0 72 true=([],e)∧∀ (R:Type) (k0:Int→Option R) (k1:Int→LL→By→Int→Int→Int→Bool→Option R) (k2:LL→By→Int→Int→Int→Bool→Option R),pdec LF s k0 k1 k2=k1 (e:Nat) l s' n' i' b' st')∨
     ((decGoP t pts 128 0 72 true).2=0∧∃ s' n' i' b' st',∀ (R:Type) (k0:Int→Option R) (k1:Int→LL→By→Int→Int→Int→Bool→Option R) (k2:LL→By→Int→Int→Int→Bool→Option R),pdec LF s k0 k1 k2=k2 (natE (decGoP t pts 128 0 72 true).1) s' n' i' b' st'):=by
    intro pts t hp ht he
    obtain ⟨p1,p2⟩:=pdec_loop t.length t pts 128 0 72 LF false (Nat.le_refl _) (by omega) (by omega) hp (by omega) (by omega) (by omega)
    rw [Bool.not_false] at p1 p2
    by_cases hz:(decGoP t pts 128 0 72 true).2=0
    ·obtain ⟨s',n',i',b',st',e⟩:=p1 hz
     exact .inr ⟨hz,s',n',i',b',st',fun R k0 k1 k2=>by rw [he];exact e R k1 k2⟩
    ·obtain ⟨pe,l,s',n',i',b',st',e⟩:=p2 hz
     exact .inl ⟨_,l,s',n',i',b',st',Prod.ext pe rfl,fun R k0 k1 k2=>by rw [he];exact e R k1 k2⟩
   have hu:u8n 45=45:=rfl
   have top:∀ (R:Type) (k0:Int→Option R) (k1:Int→LL→By→Int→Int→Int→Bool→Option R) (k2:LL→By→Int→Int→Int→Bool→Option R),pdec LF s k0 k1 k2 =
     cond (ltI 0 (lastI 45 s)) (pdec_l1 LF LF s (lastI 45 s) 0 [] (fun s'5 k'6 l'7=>cond (sub3 (wi64 (k'6+1)) (s'5.length:Int) s'5.length)
      (vl (cut s'5 (wi64 (k'6+1)) (s'5.length:Int)) fun s'8=>cond (ltI 256 (l'7.length:Int)) (k1 3 l'7 s'8 128 0 72 false) (pdec_l2 LF LF l'7 s'8 128 0 72 false k1 k2)) none))
      (pdec_l2 LF LF [] s 128 0 72 false k1 k2):=by
    intro R k0 k1 k2
    unfold pdec
    rw [ltI_f (by omega),cond_false]
    refine Eq.trans (asc R _ _) ?_
    rw [ha,if_neg (by simp),h0,hu]
    rfl
   by_cases hd:0<lastDash s
   ·have hmem:45∈s:=by
     apply Classical.byContradiction
     intro h
     have:=(d2 h).2
     omega
    have hI:=d1 hmem
    generalize lastDash s=m at *
    have hcopy:=fun (R:Type) (K:By→Int→LL→Option R)=>pdec_copy (k0:=K) s (by omega) m (by omega) m 0 LF [] (by omega) (by omega) rfl
    rw [List.drop_zero] at hcopy
    have e1:wi64 ((m:Int)+1)=((m+1:Nat):Int):=by rw [wi64_id (by omega) (by omega)];rfl
    have hlen:((s.take m).map (·.toNat)).length=m:=by rw [List.length_map,List.length_take];omega
    have top2:∀ (R:Type) (k0:Int→Option R) (k1:Int→LL→By→Int→Int→Int→Bool→Option R) (k2:LL→By→Int→Int→Int→Bool→Option R),pdec LF s k0 k1 k2 =
      cond (ltI 256 (m:Int)) (k1 3 (natE ((s.take m).map (·.toNat))) (s.drop (m+1)) 128 0 72 false) (pdec_l2 LF LF (natE ((s.take m).map (·.toNat))) (s.drop (m+1)) 128 0 72 false k1 k2):=by
     intro R k0 k1 k2
     rw [top,hI,ltI_t (by omega),cond_true]
     refine Eq.trans (hcopy R _) ?_
     rw [e1,sub3_t (by omega) (by omega) (by omega),cut_nat,List.take_length,List.nil_append,natE_len,hlen]
     rfl
    by_cases h256:256<m
    ·rw [if_pos h256]
     refine .inr (.inl ⟨3,natE ((s.take m).map (·.toNat)),s.drop (m+1),128,0,72,false,rfl,fun R k0 k1 k2=>?_⟩)
     rw [top2,ltI_t (by omega)]
     rfl
    ·rw [if_neg h256,if_neg (show ¬ m=0 by omega)]
     exact .inr (key _ (s.drop (m+1)) (by rw [hlen];omega) (by rw [List.length_drop];omega) (fun R k0 k1 k2=>by rw [top2,ltI_f (by omega)];rfl))
   ·have hz:lastDash s=0:=by omega
    have hI:¬ 0<lastI 45 s:=by
     by_cases hm:45∈s
     ·rw [d1 hm,hz];omega
     ·rw [(d2 hm).1];omega
    rw [hz,if_neg (by omega),if_pos rfl]
    refine .inr (key [] s (by simp) (by omega) (fun R k0 k1 k2=>?_))
    rw [top,ltI_f (by omega)]
    rfl
theorem natE_isEmpty (l:List Nat):(natE l).isEmpty=l.isEmpty:=by cases l<;>rfl
theorem pdec_sp (s:By) (h0:small s.length=true):∃ r H,pdec LF s (fun r0=>rv (.tup [.fl 0,.s (.int .i64 r0)]) [.arr true 3 1 []]) (fun r0 l1 s2 n3 n4 n5 b6=>rv (.tup [.fl 2,.s (.int .i64 r0)]) [.arr true 3 1 l1,.box [.s (.str s2),.fl 0,.s (.int .i64 n3),.s (.int .i64 n4),.s (.int .i64 n5),.s (.bool b6)],.arr true 3 1 []]) (fun l0 s1 n2 n3 n4 b5=>rv (.tup [.fl 0,.s (.int .i64 (0:Int))]) [.arr true 3 1 l0,.box [.s (.str s1),.fl 0,.s (.int .i64 n2),.s (.int .i64 n3),.s (.int .i64 n4),.s (.bool b5)]])=rv r H∧
  r.stab [1,0] H = .tup [.s (.sl (decP s).1.isEmpty (decP s).1.isEmpty 1 (natR (decP s).1)),.s (.int .i64 ((decP s).2:Nat))]:=by
 rcases pdec_cases s h0 with ⟨e,h1,h2⟩ | ⟨e,l,s',n',i',b',st',h1,h2⟩ | ⟨h1,s',n',i',b',st',h2⟩
 ·refine ⟨_,_,h2 _ _ _ _,?_⟩
  rw [h1]
  rfl
 ·refine ⟨_,_,h2 _ _ _ _,?_⟩
  rw [h1]
  rfl
 ·refine ⟨_,_,h2 _ _ _ _,?_⟩
  rw [h1,natR_natE]
  simp [PV.stab,fixC,fix1,PV.snap,snapL,natE_isEmpty]
end Go.Proofs.YtcfingekgbbclaaGreatDoor.E
namespace Go.Proofs.YtcfingekgbbclaaGreatDoor.E
open Go
set_option linter.unusedVariables false
theorem join_cons2 (x y:By) (r:List By) (p:By):Lib.join (x::y::r) p=x++(p++Lib.join (y::r) p):=by
 simp [Lib.join,List.intercalate]
theorem pcs_join (c:UInt8):∀ l:List By,l≠[]→(∀ x∈l,c∉x)→pcs c (Lib.join l [c])=l
 | [],h,_=>absurd rfl h
 | [x],_,h=>by rw [Lib.join_one,pcs_none (h x (by simp))]
 | x::y::r,_,h=>by
  rw [join_cons2,List.singleton_append,pcs_app (h x (by simp)),pcs_join c (y::r) (by simp) (fun z hz=>h z (by simp [hz]))]
theorem mem_join {c b:UInt8}:∀ l:List By,b∈Lib.join l [c]→b=c∨∃ x∈l,b∈x
 | [],h=>by simp [Lib.join_nil] at h
 | [x],h=>by rw [Lib.join_one] at h;exact .inr ⟨x,by simp,h⟩
 | x::y::r,h=>by
  rw [join_cons2] at h
  simp only [List.mem_append,List.mem_singleton] at h
  rcases h with h | h | h
  ·exact .inr ⟨x,by simp,h⟩
  ·exact .inl h
  ·rcases mem_join (y::r) h with h | ⟨z,hz,h⟩
   ·exact .inl h
   ·exact .inr ⟨z,by simp [hz],h⟩
theorem lower_len (s:By):(lower s).length=s.length:=List.length_map _
theorem lower_getD (s:By) (i:Nat):(lower s).getD i 0=lowB (s.getD i 0):=by
 unfold lower
 simp only [List.getD_eq_getElem?_getD,List.getElem?_map]
 cases s[i]?<;>rfl
theorem lower_nil {s:By}:lower s=[]↔s=[]:=by unfold lower;simp
theorem lower_drop (s:By) (i:Nat):(lower s).drop i=lower (s.drop i):=by unfold lower;rw [List.map_drop]
theorem lblByte_iff (b:UInt8):lblByte b=true↔(97≤b.toNat∧b.toNat≤122)∨(48≤b.toNat∧b.toNat≤57)∨b=45∨b=95:=by
 simp [lblByte,or_assoc]
theorem lblByte_lt {b:UInt8} (h:lblByte b=true):b.toNat<128∧(b.toNat<65∨90<b.toNat)∧b≠46∧b≠37∧b≠91:=by
 rw [lblByte_iff] at h
 have key:∀ c:UInt8,b=c→b.toNat=c.toNat:=fun c e=>by rw [e]
 rcases h with h | h | h | h
 ·refine ⟨by omega,by omega,?_,?_,?_⟩<;>intro e<;>have:=key _ e<;>simp at this<;>omega
 ·refine ⟨by omega,by omega,?_,?_,?_⟩<;>intro e<;>have:=key _ e<;>simp at this<;>omega
 ·subst h;decide
 ·subst h;decide
structure VL (s:By):Prop where
 ne:s≠[]
 le:s.length≤63
 byt:∀ b∈s,lblByte b=true
theorem validL_VL {s:By} (h:validL s=true):VL s:=by
 unfold validL at h
 simp only [Bool.and_eq_true,Bool.not_eq_true',List.all_eq_true] at h
 obtain ⟨⟨⟨⟨⟨h1,h2⟩,h3⟩,h4⟩,h5⟩,h6⟩:=h
 refine ⟨by intro e;subst e;simp at h1,Nat.le_of_ble_eq_true h2,fun b hb=>h5 b hb⟩
structure VN (s:By):Prop where
 le:s.length≤253
 num:numericB s=false
 all:∀ x∈pcs 46 s,validL x=true
theorem validN_iff {s:By}:validN s=true↔VN s:=by
 unfold validN
 simp only [Bool.and_eq_true,Bool.not_eq_true',List.all_eq_true]
 exact ⟨fun h=>⟨Nat.le_of_ble_eq_true h.1.1,h.1.2,h.2⟩,fun h=>⟨⟨Nat.ble_eq_true_of_le h.le,h.num⟩,h.all⟩⟩
theorem v4_len (v:Nat) (h:v<4294967296):(v4Fmt v).length≤43:=by
 unfold v4Fmt
 have h1:=decDigits_len (v / 16777216) (by omega)
 have h2:=decDigits_len (v / 65536 % 256) (by omega)
 have h3:=decDigits_len (v / 256 % 256) (by omega)
 have h4:=decDigits_len (v % 256) (by omega)
 simp only [List.length_append,List.length_cons]
 omega
theorem pnGo_lt2 (free:Nat):∀ (l:List By) (v x:Nat),pnGo free v l=some x→x<(v+1)*256 ^ (l.length-1)*2 ^ free
 | [],v,x,h=>by simp [pnGo] at h
 | [p],v,x,h=>by
  simp only [pnGo] at h
  split at h
  ·cases h
  ·split at h
   ·rename_i n hn hlt
    simp only [Option.some.injEq] at h
    subst h
    simp only [List.length_cons,List.length_nil,Nat.sub_self,Nat.pow_zero,Nat.mul_one,Nat.add_mul]
    omega
   ·cases h
 | p::q::r,v,x,h=>by
  rw [pnGo] at h
  split at h
  ·cases h
  ·simp only at h
   split at h
   ·rename_i n hn hle
    have ih:=pnGo_lt2 free (q::r) _ x h
    refine Nat.lt_of_lt_of_le ih (Nat.mul_le_mul_right _ ?_)
    simp only [List.length_cons,Nat.add_sub_cancel]
    rw [Nat.pow_succ,Nat.mul_comm (256 ^ r.length) 256,←Nat.mul_assoc]
    exact Nat.mul_le_mul_right _ (by omega)
   ·cases h
theorem pnB_lt2 {s:By} {v:Nat} (h:pnB s=some v):v<4294967296:=by
 unfold pnB at h
 split at h
 ·cases h
 ·rename_i h4
  have h1:=(partsB_len s).1
  have:=pnGo_lt2 _ _ _ _ h
  generalize (partsB s).length=n at *
  have:n=1∨n=2∨n=3∨n=4:=by omega
  rcases this with rfl | rfl | rfl | rfl<;>simp at *<;>omega
def sh (n:Nat) (i:Int):Int:=if i = -1 then -1 else i+n
theorem v6_len (a:List Nat) (h8:a.length=8) (h:∀ x∈a,x<65536):(v6Fmt a).length≤90:=by
 unfold v6Fmt
 split
 ·have:=joinH_len a h
  omega
 ·have h1:=joinH_len (a.take (zGo a 0 0 0).1) (fun x hx=>h x (List.mem_of_mem_take hx))
  have h2:=joinH_len (a.drop ((zGo a 0 0 0).1+(zGo a 0 0 0).2)) (fun x hx=>h x (List.mem_of_mem_drop hx))
  simp only [List.length_take,List.length_drop,List.length_append,List.length_cons] at *
  omega
theorem grpsB_lt {s:By} {last:Bool} {r:List Nat} (h:grpsB s last=some r):∀ x∈r,x<65536:=by
 unfold grpsB at h
 split at h
 ·simp only [Option.some.injEq] at h;subst h;simp
 ·exact grps_lt _ _ _ h
theorem v6B_ok {s:By} {a:List Nat} (h:v6B s=some a):a.length=8∧∀ x∈a,x<65536:=by
 unfold v6B at h
 split at h
 ·rename_i x y hx hy
  have h1:=grpsB_lt hx
  have h2:=grpsB_lt hy
  split at h
  ·split at h
   ·simp only [Option.some.injEq] at h
    subst h
    refine ⟨by simp;omega,fun v hv=>?_⟩
    simp only [List.mem_append,List.mem_replicate] at hv
    rcases hv with (hv | hv) | hv
    ·exact h1 v hv
    ·omega
    ·exact h2 v hv
   ·cases h
  ·split at h
   ·simp only [Option.some.injEq] at h
    subst h
    refine ⟨by simpa using by assumption,fun v hv=>?_⟩
    rcases List.mem_append.1 hv with hv | hv
    ·exact h1 v hv
    ·exact h2 v hv
   ·cases h
 ·cases h
theorem toAsc_ok {s:By} (h:(toAsc s).2=0):validL (toAsc s).1=true:=by
 unfold toAsc at h ⊢
 cases hp:ptsB s with
 | none=>rw [hp] at h;simp at h
 | some p=>
  rw [hp] at h
  simp only at h ⊢
  split at h
  ·simp at h
  ·rename_i h1
   rw [if_neg h1]
   split at h
   ·rename_i h2
    rw [if_pos h2]
    cases hq:ptsB (lower s) with
    | none=>rw [hq] at h;simp at h
    | some q=>
     rw [hq] at h
     simp only at h ⊢
     split at h
     ·rename_i h3
      rw [if_pos h3]
      split at h
      ·rename_i h4
       rw [if_pos h4]
       exact h4
      ·simp at h
     ·simp at h
   ·rename_i h2
    rw [if_neg h2]
    split at h
    ·rename_i h3
     rw [if_pos h3]
     exact h3
    ·simp at h
theorem asciis_ok:∀ l:List By,(asciis l).2=0→(∀ x∈(asciis l).1,validL x=true)∧(asciis l).1.length=l.length
 | [],_=>⟨by simp [asciis],rfl⟩
 | x::r,h=>by
  unfold asciis at h ⊢
  by_cases hx:(toAsc x).2=0
  ·rw [if_pos hx] at h ⊢
   obtain ⟨h1,h2⟩:=asciis_ok r h
   refine ⟨fun y hy=>?_,by simp [h2]⟩
   rcases List.mem_cons.1 hy with rfl | hy
   ·exact toAsc_ok hx
   ·exact h1 y hy
  ·rw [if_neg hx] at h
   exact absurd h hx
structure HostOk (h:HostV):Prop where
 v4:h.v4<4294967296
 v6:h.v6.length=8∧∀ x∈h.v6,x<65536
 kd:h.kind<4
theorem z8_ok:z8.length=8∧∀ x∈z8,x<65536:=by decide
theorem parseH_ok (s:By):HostOk (parseH s).1∧((parseH s).2=0→validH (parseH s).1=true):=by
 have no:HostOk noHost:=⟨by decide,z8_ok,by decide⟩
 unfold parseH
 split
 ·exact ⟨no,by simp⟩
 split
 ·split
  ·cases hv:v6B ((s.take (s.length-1)).drop 1) with
   | none=>exact ⟨no,by simp⟩
   | some a=>exact ⟨⟨show 0<4294967296 by decide,v6B_ok hv,show 3<4 by decide⟩,fun _=>by simp [validH]⟩
  ·exact ⟨no,by simp⟩
 cases hp:pctB s with
 | none=>exact ⟨no,by simp⟩
 | some t=>
  simp only
  split
  ·cases hv:pnB (trimDot t) with
   | none=>exact ⟨no,by simp⟩
   | some v=>exact ⟨⟨pnB_lt2 hv,z8_ok,show 2<4 by decide⟩,fun _=>by simp [validH]⟩
  split
  ·rename_i h0
   split
   ·exact ⟨no,by simp⟩
   split
   ·exact ⟨no,by simp⟩
   ·rename_i h1 h2
    refine ⟨⟨show 0<4294967296 by decide,z8_ok,show 1<4 by decide⟩,fun _=>?_⟩
    obtain ⟨h3,h4⟩:=asciis_ok _ h0
    have hne:(asciis (pcs 46 (trimDot t))).1≠[]:=by
     intro e
     rw [e] at h4
     have:=pcs_ne 46 (trimDot t)
     simp at h4
     exact this (List.length_eq_zero_iff.1 h4.symm)
    have hpc:=pcs_join 46 (asciis (pcs 46 (trimDot t))).1 hne (fun x hx e=>(lblByte_lt ((validL_VL (h3 x hx)).byt 46 e)).2.2.1 rfl)
    unfold validH
    simp only [if_true,beq_self_eq_true,Bool.and_true]
    rw [validN_iff]
    exact ⟨by omega,by simpa using h2,by rw [hpc];exact h3⟩
  ·rename_i h0
   exact ⟨no,fun h=>absurd h h0⟩
theorem fmtH_bad {h:HostV} (hv:validH h=false):fmtH h=[]:=by unfold fmtH;rw [hv];rfl
theorem ptsGo_valid:∀ (f:Nat) (l:By),Lib.validGoD f l=(ptsGo f l).isSome
 | 0,_=>rfl
 | f+1,l=>by
  unfold Lib.validGoD ptsGo
  split
  ·rfl
  ·split
   ·rfl
   ·rw [ptsGo_valid f,Option.isSome_map]
theorem validD_pts (l:By):Lib.validD l=(ptsB l).isSome:=ptsGo_valid _ l
theorem runes_pts:∀ (f:Nat) (s:ByteArray) (pos:Nat) (p:List Nat),pos≤s.size→ptsGo f (s.data.toList.drop pos)=some p→s.size-pos≤f→Lib.runeCountFrom s f pos=p.length
 | 0,s,pos,p,hp,h,hf=>by
  simp only [ptsGo,Option.some.injEq] at h
  subst h;rfl
 | f+1,s,pos,p,hp,h,hf=>by
  have hsz:s.data.toList.length=s.size:=by rw [Array.length_toList];rfl
  unfold ptsGo at h
  rw [Lib.decodeL_drop] at h
  by_cases hps:pos<s.size
  ·rw [if_neg (by rw [←List.length_eq_zero_iff,List.length_drop];omega)] at h
   split at h
   ·cases h
   ·cases hq:ptsGo f (List.drop (Utf8.decode s pos).2 (List.drop pos s.data.toList)) with
    | none=>rw [hq] at h;cases h
    | some q=>
     rw [hq] at h
     simp only [Option.map_some,Option.some.injEq] at h
     subst h
     have hw:=Lib.decode_width_pos s pos hps
     have hwl:pos+(Utf8.decode s pos).2≤s.size:=by
      have:=Lib.decodeL_le (s.data.toList.drop pos) (by rw [ne_eq,←List.length_eq_zero_iff,List.length_drop];omega)
      rw [Lib.decodeL_drop,List.length_drop] at this
      omega
     rw [List.drop_drop] at hq
     unfold Lib.runeCountFrom
     rw [if_pos hps,runes_pts f s _ q hwl hq (by omega)]
     simp;omega
  ·rw [if_pos (by rw [←List.length_eq_zero_iff,List.length_drop];omega)] at h
   simp only [Option.some.injEq] at h
   subst h
   rw [Lib.runeCountFrom_end s _ _ hps];rfl
theorem runeCountL_pts {l:By} {p:List Nat} (h:ptsB l=some p):Lib.runeCountL l=p.length:=by
 unfold Lib.runeCountL Lib.runeCount
 have hs:(ByteArray.mk l.toArray).size=l.length:=by simp [ByteArray.size]
 refine runes_pts _ _ 0 p (Nat.zero_le _) ?_ (by omega)
 rw [hs,List.drop_zero]
 simpa [ptsB] using h
end Go.Proofs.YtcfingekgbbclaaGreatDoor.E
namespace Go.Proofs.YtcfingekgbbclaaGreatDoor.E
open Go Go.Proofs
set_option linter.unusedVariables false
set_option linter.unusedSimpArgs false
theorem encI_nat (l:List Nat):encI (l.map fun n:Nat=>(n:Int))=encP l:=by
 have h1:(l.map fun n:Nat=>(n:Int)).all ptI=l.all isPt:=by
  rw [List.all_map]
  congr 1
 have h2:(l.map fun n:Nat=>(n:Int)).map Int.toNat=l:=by
  rw [List.map_map]
  exact (List.map_congr_left fun a _=>by simp).trans (List.map_id l)
 unfold encI
 rw [List.length_map,h1,h2]
 by_cases h:256<l.length
 ·rw [if_pos h];unfold encP;rw [if_pos h]
 ·rw [if_neg h]
  cases hp:l.all isPt with
  | true=>rw [if_pos rfl]
  | false=>
   rw [if_neg (by simp)]
   unfold encP
   rw [if_neg h,hp]
   rfl
theorem elI_natE (l:List Nat):(natE l).map elI=l.map fun n:Nat=>(n:Int):=by
 unfold natE
 rw [List.map_map]
 exact List.map_congr_left fun a _=>rfl
theorem all_isI64_nat (l:List Nat):(natE l).all isI64=true:=by
 unfold natE
 rw [List.all_map,List.all_eq_true]
 intro x _
 rfl
theorem lprop_loop {R:Type} {k0:Unit→Option R} {k1:By→Bool→LL→Bool→Option R} (s:By) (z:Bool) (p:List Nat) (hp:p.length≤1000000000):∀ (r i n:Nat) (b:Bool),i+r=p.length→r<n→
  lprop_l0 LF n s z (natE p) b (p.length:Int) (i:Int) k0 k1=if (p.drop i).any (fun p=>Nat.ble 65 p&&Nat.ble p 90) then k0 () else k1 s z (natE p) (b && !((p.drop i).any fun p=>Nat.ble 128 p)):=by
 intro r
 induction r with
 | zero=>
  intro i n b hi hn
  obtain ⟨n,rfl⟩:∃ m,n=m+1:=⟨n-1,by omega⟩
  rw [lprop_l0_s]
  unfold lprop_l0f
  rw [ltI_f (by omega),List.drop_of_length_le (by omega)]
  simp
 | succ r ih=>
  intro i n b hi hn
  obtain ⟨n,rfl⟩:∃ m,n=m+1:=⟨n-1,by omega⟩
  rw [lprop_l0_s]
  unfold lprop_l0f
  have e1:wi64 ((i:Int)+1)=((i+1:Nat):Int):=by rw [wi64_id (by omega) (by omega)];rfl
  have hd:p.drop i=p.getD i 0::p.drop (i+1):=by
   rw [List.getD_eq_getElem?_getD,List.getElem?_eq_getElem (by omega),Option.getD_some,List.getElem_cons_drop]
  rw [ltI_t (by omega),natE_len,inR_t (by omega) (by omega),Int.toNat_natCast,okE_nat (by omega),gE_nat _ _ (by omega),hd,List.any_cons,List.any_cons,e1]
  simp only [cond_true,vl]
  generalize p.getD i 0=q
  have go:∀ c:Bool,lprop_l0 LF n s z (natE p) c (p.length:Int) ((i+1:Nat):Int) k0 k1=_:=fun c=>ih (i+1) n c (by omega) (by omega)
  by_cases h1:q<65
  ·rw [ltI_t (by omega),show Nat.ble 65 q=false by rw [Bool.eq_false_iff,ne_eq,Nat.ble_eq];omega]
   have h2:Nat.ble 128 q=false:=by rw [Bool.eq_false_iff,ne_eq,Nat.ble_eq];omega
   rw [show ltI (q:Int) (128:Int)=true from ltI_t (by omega),h2]
   simp only [Bool.not_true,cond_false,Bool.false_and,Bool.false_or]
   cases b<;>simp only [cond_true,cond_false]<;>rw [go]
  ·rw [ltI_f (by omega),show Nat.ble 65 q=true by rw [Nat.ble_eq];omega]
   simp only [Bool.not_false,cond_true,Bool.true_and]
   by_cases h2:90<q
   ·rw [ltI_t (by omega),show Nat.ble q 90=false by rw [Bool.eq_false_iff,ne_eq,Nat.ble_eq];omega]
    simp only [Bool.not_true,cond_false,Bool.false_or]
    by_cases h3:q<128
    ·rw [show ltI (q:Int) (128:Int)=true from ltI_t (by omega),show Nat.ble 128 q=false by rw [Bool.eq_false_iff,ne_eq,Nat.ble_eq];omega]
     cases b<;>simp only [cond_true,cond_false,Bool.false_or]<;>rw [go]
    ·rw [show ltI (q:Int) (128:Int)=false from ltI_f (by omega),show Nat.ble 128 q=true by rw [Nat.ble_eq];omega]
     cases b<;>simp only [cond_true,cond_false,Bool.true_or,Bool.not_true,Bool.and_false]<;>rw [go]<;>simp
   ·rw [ltI_f (by omega),show Nat.ble q 90=true by rw [Nat.ble_eq];omega]
    simp
theorem decGoP_len:∀ (m:Nat) (s:By) (pts:List Nat) (n i b:Nat) (f:Bool),s.length≤m→pts.length≤256→(decGoP s pts n i b f).1.length≤256:=by
 intro m
 induction m with
 | zero=>
  intro s pts n i b f hs hp
  obtain rfl:=List.length_eq_zero_iff.1 (Nat.le_zero.1 hs)
  rw [decGoP_nil]
  exact hp
 | succ m ih=>
  intro s pts n i b f hs hp
  by_cases h:s=[]
  ·subst h
   rw [decGoP_nil]
   exact hp
  ·by_cases hq:(decNum b s i 1 0).2.2=0
   ·rw [decGoP_step h _ _ _ _ _ hq]
    have hlt:=decNum_lt b s i 1 0 hq
    split
    ·split
     ·exact Nat.zero_le _
     ·rename_i h2
      exact ih _ _ _ _ _ _ (by omega) (by rw [insAt_len];omega)
    ·exact Nat.zero_le _
   ·rw [decGoP_err h _ _ _ _ _ hq]
    exact Nat.zero_le _
theorem decP_len (s:By):(decP s).1.length≤256:=by
 unfold decP
 split
 ·exact Nat.zero_le _
 ·split
  ·exact Nat.zero_le _
  ·split
   ·exact Nat.zero_le _
   ·rename_i h
    exact decGoP_len _ _ _ _ _ _ _ (Nat.le_refl _) (by rw [List.length_map,List.length_take];omega)
theorem lprop_spec {R:Type} {k0:Bool→Option R} (s:By) (h0:small s.length=true):lprop LF s k0=k0 (properB s):=by
 have hLF:=LF_big
 unfold lprop properB
 rw [h0,cond_true]
 by_cases h:(decP s).2=0
 ·have e:(((decP s).2:Int) != (0:Int))=false:=by rw [h];rfl
  rw [e,cond_false,natR_natE,natE_len,h]
  have hl:=decP_len s
  refine Eq.trans (lprop_loop s _ (decP s).1 (by omega) (decP s).1.length 0 LF true (by omega) (by omega)) ?_
  rw [List.drop_zero]
  cases h1:(decP s).1.any (fun p=>Nat.ble 65 p&&Nat.ble p 90) with
  | true=>simp
  | false=>
   rw [if_neg (by simp),all_isI64_nat,elI_natE,encI_nat]
   simp only [cond_true,vl,Bool.true_and,Bool.not_false]
   cases h2:(decP s).1.any (fun p=>Nat.ble 128 p) with
   | false=>simp
   | true=>
    simp only [Bool.not_true,Bool.not_false,cond_true,Bool.and_true,beq_self_eq_true,Bool.true_and]
    by_cases h3:(encP (decP s).1).2=0
    ·rw [h3];simp
    ·have:(((encP (decP s).1).2:Int)==(0:Int))=false:=by simpa using h3
     have h3':((encP (decP s).1).2==0)=false:=by simpa using h3
     rw [this,h3']
     rfl
 ·have e:(((decP s).2:Int) != (0:Int))=true:=by simpa using h
  have h':((decP s).2==0)=false:=by simpa using h
  rw [e,cond_true,h']
  rfl
theorem lval_loop {R:Type} {k0:Unit→Option R} {k1:By→Option R} (s:By) (hs:s.length≤1000000000):∀ (r i n:Nat),i+r=s.length→r<n→
  lval_l0 LF n s (s.length:Int) (i:Int) k0 k1=if (s.drop i).all lblByte then k1 s else k0 ():=by
 intro r
 induction r with
 | zero=>
  intro i n hi hn
  obtain ⟨n,rfl⟩:∃ m,n=m+1:=⟨n-1,by omega⟩
  rw [lval_l0_s]
  unfold lval_l0f
  rw [ltI_f (by omega),List.drop_of_length_le (by omega)]
  rfl
 | succ r ih=>
  intro i n hi hn
  obtain ⟨n,rfl⟩:∃ m,n=m+1:=⟨n-1,by omega⟩
  rw [lval_l0_s]
  unfold lval_l0f
  have e1:wi64 ((i:Int)+1)=((i+1:Nat):Int):=by rw [wi64_id (by omega) (by omega)];rfl
  rw [ltI_t (by omega),inR_t (by omega) (by omega),bAt_nat,drop_cons s i (by omega),e1,List.all_cons]
  simp only [cond_true]
  rw [ih (i+1) n (by omega) (by omega)]
  generalize s.getD i 0=b
  have hb:=lblByte_iff b
  have q1:((b.toNat:Int) != 45) = !(b==45):=congrArg _ (u8_eqn b 45 (by omega))
  have q2:((b.toNat:Int) != 95) = !(b==95):=congrArg _ (u8_eqn b 95 (by omega))
  rw [q1,q2]
  have t:∀ {x:Bool},lblByte b=x→(if (lblByte b&&(s.drop (i+1)).all lblByte)=true then k1 s else k0 ())=if (x&&(s.drop (i+1)).all lblByte)=true then k1 s else k0 ():=fun h=>by rw [h]
  cases hl:lblByte b with
  | true=>
   rw [hb] at hl
   simp only [Bool.true_and]
   by_cases h1:b=45
   ·subst h1
    simp (disch:=decide) [ltI]
   ·by_cases h2:b=95
    ·subst h2
     simp (disch:=decide) [ltI]
    ·rcases hl with hl | hl | hl | hl
     ·rw [show ltI (b.toNat:Int) 97=false from ltI_f (by omega),show ltI (122:Int) b.toNat=false from ltI_f (by omega)];rfl
     ·rw [show ltI (b.toNat:Int) 97=true from ltI_t (by omega),show ltI (b.toNat:Int) 48=false from ltI_f (by omega),show ltI (57:Int) b.toNat=false from ltI_f (by omega)];rfl
     ·exact absurd hl h1
     ·exact absurd hl h2
  | false=>
   have hn:¬ ((97≤b.toNat∧b.toNat≤122)∨(48≤b.toNat∧b.toNat≤57)∨b=45∨b=95):=fun h=>by rw [hb.2 h] at hl;cases hl
   have n1:(b==45)=false:=by simpa using fun h=>hn (.inr (.inr (.inl h)))
   have n2:(b==95)=false:=by simpa using fun h=>hn (.inr (.inr (.inr h)))
   rw [n1,n2]
   simp only [Bool.not_false,cond_true,Bool.false_and,Bool.false_eq_true,if_false]
   by_cases h1:b.toNat<48
   ·rw [show ltI (b.toNat:Int) 97=true from ltI_t (by omega),show ltI (b.toNat:Int) 48=true from ltI_t (by omega)];rfl
   ·by_cases h2:b.toNat<97
    ·rw [show ltI (b.toNat:Int) 97=true from ltI_t (by omega),show ltI (b.toNat:Int) 48=false from ltI_f (by omega),show ltI (57:Int) b.toNat=true from ltI_t (by omega)];rfl
    ·rw [show ltI (b.toNat:Int) 97=false from ltI_f (by omega),show ltI (122:Int) b.toNat=true from ltI_t (by omega),show ltI (b.toNat:Int) 48=false from ltI_f (by omega),show ltI (57:Int) b.toNat=true from ltI_t (by omega)];rfl
theorem lval_spec {R:Type} {k0:Bool→Option R} (s:By) (h0:small s.length=true):lval LF s k0=k0 (validL s):=by
 have hs:=maxL h0
 have hLF:=LF_big
 unfold lval validL
 by_cases h1:s=[]
 ·subst h1
  rw [ltI_t (by simp)]
  rfl
 ·have hl:0<s.length:=List.length_pos_iff.2 h1
  have he:s.isEmpty=false:=by simpa using h1
  rw [ltI_f (by omega),cond_false,he]
  by_cases h2:63<s.length
  ·rw [ltI_t (by omega),show Nat.ble s.length 63=false by rw [Bool.eq_false_iff,ne_eq,Nat.ble_eq];omega]
   rfl
  ·rw [ltI_f (by omega),cond_false,show Nat.ble s.length 63=true by rw [Nat.ble_eq];omega,inR_t (by omega) (by omega)]
   have q1:(bAt s 0==(45:Int))=(s.getD 0 0==45):=by rw [bAt_zero];exact u8_eqn _ 45 (by omega)
   have e1:wi64 ((s.length:Int)-1)=((s.length-1:Nat):Int):=by rw [wi64_id (by omega) (by omega)];omega
   rw [q1,e1]
   simp only [cond_true,vl]
   rw [inR_t (by omega) (by omega),bAt_nat,show ((((s.getD (s.length-1) 0).toNat:Nat):Int)==45)=(s.getD (s.length-1) 0==45) from u8_eqn _ 45 (by omega)]
   cases h3:(s.getD 0 0==45) with
   | true=>
    rw [show (s.getD 0 0 != 45)=false by unfold bne;rw [h3];rfl]
    simp
   | false=>
    rw [show (s.getD 0 0 != 45)=true by unfold bne;rw [h3];rfl]
    simp only [cond_true,cond_false]
    cases h4:(s.getD (s.length-1) 0==45) with
    | true=>
     rw [show (s.getD (s.length-1) 0 != 45)=false by unfold bne;rw [h4];rfl]
     simp
    | false=>
     rw [show (s.getD (s.length-1) 0 != 45)=true by unfold bne;rw [h4];rfl]
     simp only [cond_false]
     refine Eq.trans (lval_loop s hs s.length 0 LF (by omega) (by omega)) ?_
     rw [List.drop_zero]
     cases h5:s.all lblByte with
     | false=>simp
     | true=>
      rw [if_pos rfl,h0,cond_true]
      simp only [Bool.not_false,Bool.true_and,Bool.and_true]
      show cond (!(xnB.isPrefixOf s)) _ _=_
      cases h6:xnB.isPrefixOf s with
      | false=>rfl
      | true=>
       have hc:cutp s xnB=s.drop 4:=by unfold cutp;rw [h6];rfl
       show cond (small (cutp s xnB).length) (k0 (properB (cutp s xnB))) none=_
       rw [hc,small_t (by rw [List.length_drop];omega)]
       rfl
theorem encOut_len (pts:List Nat) (basic:Nat) (hl:pts.length≤256) (hb:basic≤256) (hall:∀ p∈pts,p≤1114111):∀ (f n:Nat) (s:EncS),s.done=pts.countP (fun p=>decide (p<n))→s.delta≤300→s.bias≤500→s.out.length+20*(pts.length-s.done)≤80000→n≤1114112→
  (encOut pts basic f n s).out.length≤80000:=by
 intro f
 have hLF:=LF_big
 induction f with
 | zero=>intro n s hd h1 h2 h3 h4;unfold encOut;omega
 | succ f ih=>
  intro n s hd h1 h2 h3 h4
  have hcl:pts.countP (fun p=>decide (p<n))≤pts.length:=List.countP_le_length
  by_cases hlt:s.done<pts.length
  ·obtain ⟨p0,hp0,hp1⟩:=cnt_lt (n:=n) (l:=pts) (by omega)
   obtain ⟨g1,g2,g3⟩:=leastP_spec n pts 1114112
   have g4:=g3 p0 hp0 hp1
   have g5:=hall p0 hp0
   have hmem:leastP n pts 1114112∈pts∧n≤leastP n pts 1114112:=by
    rcases g1 with g1 | g1
    ·omega
    ·exact g1
   have he:encOut pts basic (f+1) n s=encOut pts basic f (leastP n pts 1114112+1) { encIn (leastP n pts 1114112) basic pts { s with delta:=s.delta+(leastP n pts 1114112-n)*(s.done+1) } with delta:=(encIn (leastP n pts 1114112) basic pts { s with delta:=s.delta+(leastP n pts 1114112-n)*(s.done+1) }).delta+1 }:=by
    rw [encOut,if_pos hlt]
   rw [he]
   generalize leastP n pts 1114112=m at *
   have hmul:(m-n)*(s.done+1)≤1114112*256:=Nat.mul_le_mul (by omega) (by omega)
   have hin:=penc_in false false pts basic m (by omega) hl pts.length 0 LF { s with delta:=s.delta+(m-n)*(s.done+1) } (by omega) (by omega) (by simp only;omega) h2 (by simp only;omega) (by simp only;omega) hb
   rw [List.drop_zero] at hin
   obtain ⟨_,q2,q3,q4,q5⟩:=hin
   have hcnt:0<pts.countP (· == m):=List.countP_pos_iff.2 ⟨m,hmem.1,by simp⟩
   rw [if_pos hcnt] at q5
   have hstep:=cnt_step hmem.2 pts g3
   generalize encIn m basic pts { s with delta:=s.delta+(m-n)*(s.done+1) } = s' at *
   simp only at q3 q4
   have hcl2:pts.countP (fun p=>decide (p<m+1))≤pts.length:=List.countP_le_length
   exact ih (m+1) { s' with delta:=s'.delta+1 } (by simp only;omega) (by simp only;omega) q2 (by simp only;omega) (by omega)
  ·rw [encOut,if_neg hlt];omega
theorem encP_len (p:List Nat):(encP p).1.length≤80000:=by
 unfold encP
 split
 ·exact Nat.zero_le _
 ·rename_i h
  split
  ·exact Nat.zero_le _
  ·rename_i h2
   have hp:∀ q∈p,q≤1114111:=fun q hq=>by
    have h2:p.all isPt=true:=by simpa using h2
    have:=List.all_eq_true.1 h2 q hq
    simp only [isPt,Bool.and_eq_true,Nat.ble_eq] at this
    exact this.1
   have hbl:=basicB_len p
   have hbc:p.countP (fun q=>decide (q<128))≤p.length:=List.countP_le_length
   refine encOut_len p _ (by omega) (by omega) hp 256 128 _ hbl (by simp) (by simp) ?_ (by omega)
   simp only
   split
   ·simp;omega
   ·simp;omega
theorem lowB_hi {b:UInt8} (h:128≤b.toNat):lowB b=b:=by
 rcases lowB_cases b with ⟨_,e⟩ | ⟨_,e⟩ | ⟨_,h2,_⟩
 ·exact e
 ·exact e
 ·omega
theorem lowB_lo {b:UInt8} (h:b.toNat<128):(lowB b).toNat<128:=by
 rcases lowB_cases b with ⟨_,e⟩ | ⟨_,e⟩ | ⟨_,h2,e⟩
 ·rw [e];exact h
 ·rw [e];exact h
 ·omega
theorem decN_lowB (n:Nat) (b0 b1 b2 b3:UInt8) (h:128≤b0.toNat):Lib.decodeN n b0.toNat (lowB b1).toNat (lowB b2).toNat (lowB b3).toNat=Lib.decodeN n b0.toNat b1.toNat b2.toNat b3.toNat:=by
 have k1:∀ b:UInt8,b.toNat / 64=2→lowB b=b:=fun b hb=>lowB_hi (by omega)
 have k2:∀ b:UInt8,¬ b.toNat / 64=2→¬ (lowB b).toNat / 64=2:=fun b hb h=>by
  by_cases h2:128≤b.toNat
  ·rw [lowB_hi h2] at h;exact hb h
  ·have:=lowB_lo (b:=b) (by omega)
   omega
 unfold Lib.decodeN
 by_cases c1:b1.toNat / 64=2
 ·rw [k1 b1 c1]
  by_cases c2:b2.toNat / 64=2
  ·rw [k1 b2 c2]
   by_cases c3:b3.toNat / 64=2
   ·rw [k1 b3 c3]
   ·have:=k2 b3 c3
    simp only [c3,this,and_false,if_false]
  ·have:=k2 b2 c2
   simp only [c2,this,and_false,false_and,if_false]
 ·have:=k2 b1 c1
  simp only [c1,this,and_false,false_and,if_false]
theorem dec_low (l:By) (hne:l≠[]):(Lib.decodeL (lower l)).2=(Lib.decodeL l).2∧(¬ ((Lib.decodeL l).1=65533∧(Lib.decodeL l).2=1)→¬ ((Lib.decodeL (lower l)).1=65533∧(Lib.decodeL (lower l)).2=1)):=by
 cases l with
 | nil=>exact absurd rfl hne
 | cons b t=>
  by_cases hb:b.toNat<128
  ·have e1:=Lib.decodeL_ascii b t hb
   have e2:Lib.decodeL (lower (b::t))=((lowB b).toNat,1):=Lib.decodeL_ascii (lowB b) (lower t) (lowB_lo hb)
   rw [e1,e2]
   refine ⟨rfl,fun _ h=>?_⟩
   have:=lowB_lo hb
   have h:=h.1
   simp only at h
   omega
  ·have e:Lib.decodeL (lower (b::t))=Lib.decodeL (b::t):=by
    rw [Lib.decodeL_N,Lib.decodeL_N,lower_len,lower_getD,lower_getD,lower_getD,lower_getD]
    have e0:lowB ((b::t).getD 0 0)=b:=lowB_hi (b:=b) (show 128≤b.toNat by omega)
    rw [e0]
    exact decN_lowB (b::t).length b ((b::t).getD 1 0) ((b::t).getD 2 0) ((b::t).getD 3 0) (show 128≤b.toNat by omega)
   rw [e]
   exact ⟨rfl,fun h=>h⟩
theorem ptsGo_low:∀ (f:Nat) (l:By),(ptsGo f l).isSome=true→(ptsGo f (lower l)).isSome=true
 | 0,_,_=>rfl
 | f+1,l,h=>by
  unfold ptsGo at h ⊢
  by_cases hl:l=[]
  ·subst hl;rfl
  ·rw [if_neg hl] at h
   rw [if_neg (by rw [lower_nil];exact hl)]
   obtain ⟨d1,d2⟩:=dec_low l hl
   split at h
   ·cases h
   ·rename_i hv
    rw [if_neg (d2 hv),Option.isSome_map,d1,lower_drop]
    rw [Option.isSome_map] at h
    exact ptsGo_low f _ h
theorem ptsB_low {l:By} (h:(ptsB l).isSome=true):(ptsB (lower l)).isSome=true:=by
 unfold ptsB at h ⊢
 rw [lower_len]
 exact ptsGo_low _ _ h
theorem lasc_loop (t:By) (ht:t.length≤1000000000):∀ (f pos:Nat) (P q:List Nat) (n:Nat),pos≤t.length→t.length-pos≤f→f<n→P.length≤pos→ptsGo f (t.drop pos)=some q→
  ∃ m,∀ (R:Type) (k0:LL→By→Nat→Option R),lasc_l0 LF n (natE P) t pos k0=k0 (natE (P++q)) t m:=by
 intro f
 induction f with
 | zero=>
  intro pos P q n h1 h2 h3 h4 h5
  obtain ⟨n,rfl⟩:∃ m,n=m+1:=⟨n-1,by omega⟩
  simp only [ptsGo,Option.some.injEq] at h5
  subst h5
  refine ⟨pos,fun R k0=>?_⟩
  rw [lasc_l0_s]
  unfold lasc_l0f
  rw [decide_eq_false (by omega),cond_false,List.append_nil]
 | succ f ih=>
  intro pos P q n h1 h2 h3 h4 h5
  obtain ⟨n,rfl⟩:∃ m,n=m+1:=⟨n-1,by omega⟩
  by_cases hp:pos<t.length
  ·have hne:t.drop pos≠[]:=by rw [ne_eq,←List.length_eq_zero_iff,List.length_drop];omega
   have hd:=Lib.decodeL_drop ⟨t.toArray⟩ pos
   have hd':Utf8.decode ⟨List.toArray t⟩ pos=Lib.decodeL (t.drop pos):=by rw [←hd]
   unfold ptsGo at h5
   rw [if_neg hne] at h5
   split at h5
   ·cases h5
   ·have hw:=Lib.decodeL_width (t.drop pos)
    have hle:=Lib.decodeL_le (t.drop pos) hne
    have hr:=Lib.decodeL_rune (t.drop pos)
    rw [List.length_drop] at hle
    rw [List.drop_drop] at h5
    generalize Lib.decodeL (t.drop pos)=dd at *
    obtain ⟨c,wd⟩:=dd
    simp only at *
    cases hq:ptsGo f (t.drop (pos+wd)) with
    | none=>rw [hq] at h5;cases h5
    | some q'=>
     rw [hq] at h5
     simp only [Option.map_some,Option.some.injEq] at h5
     subst h5
     obtain ⟨m,e⟩:=ih (pos+wd) (P++[c]) q' n (by omega) (by omega) (by omega) (by simp;omega) hq
     refine ⟨m,fun R k0=>?_⟩
     rw [lasc_l0_s]
     unfold lasc_l0f
     rw [decide_eq_true hp,cond_true,hd',natE_len,roomy_of (by omega)]
     simp only [vl,cond_true]
     have e1:wi64 (c:Int)=(c:Int):=wi64_id (by omega) (by omega)
     have hrow:natE P++[[SV.int .i64 (wi64 (c:Int))]]=natE (P++[c]):=by rw [e1,natE_app];rfl
     rw [hrow,e,List.append_assoc]
     rfl
  ·have hnil:t.drop pos=[]:=by rw [←List.length_eq_zero_iff,List.length_drop];omega
   unfold ptsGo at h5
   rw [hnil,if_pos rfl] at h5
   simp only [Option.some.injEq] at h5
   subst h5
   refine ⟨pos,fun R k0=>?_⟩
   rw [lasc_l0_s]
   unfold lasc_l0f
   rw [decide_eq_false hp,cond_false,List.append_nil]
theorem lasc_cases (s:By) (h0:small s.length=true):(∀ (R:Type) (k0:By→Int→Option R) (k1:By→Int→LL→By→Nat→Option R),lasc LF s k0 k1=k0 (toAsc s).1 ((toAsc s).2:Nat))∨
  (∃ l t m,∀ (R:Type) (k0:By→Int→Option R) (k1:By→Int→LL→By→Nat→Option R),lasc LF s k0 k1=k1 (toAsc s).1 ((toAsc s).2:Nat) l t m):=by
 have hs:=maxL h0
 have hLF:=LF_big
 unfold toAsc
 cases hp:ptsB s with
 | none=>
  refine .inl fun R k0 k1=>?_
  unfold lasc
  rw [h0,hp]
  rfl
 | some p=>
  have hrc:=runeCountL_pts hp
  have top:∀ (R:Type) (k0:By→Int→Option R) (k1:By→Int→LL→By→Nat→Option R),lasc LF s k0 k1=cond (ltI 256 (p.length:Int)) (k0 [] 3) (cond (ltI (p.length:Int) (s.length:Int)) (lasc_l0 LF LF [] (lower s) 0 (fun l'5 s'6 m'7=>cond (List.all l'5 isI64)
      (cond (((encI (List.map elI l'5)).2:Int) != (0:Int))
       (k1 ([]:List UInt8) 14 l'5 s'6 m'7)
       (cond (catOk 4 (List.length ((encI (List.map elI l'5))).1))
        (cond (small (List.length (xnB++((encI (List.map elI l'5))).1)))
         (cond (not (validL (xnB++((encI (List.map elI l'5))).1)))
         (k1 ([]:List UInt8) 14 l'5 s'6 m'7)
         (k1 (xnB++((encI (List.map elI l'5))).1) 0 l'5 s'6 m'7))
         (none))
        (none)))
      (none)))
     (cond (small (List.length (lower s)))
      (cond (not (validL (lower s)))
      (k0 ([]:List UInt8) 14)
      (k0 (lower s) 0))
      (none))):=by
   intro R k0 k1
   unfold lasc
   rw [h0,hp,hrc]
   rfl
  simp only
  by_cases h1:256<p.length
  ·rw [if_pos h1]
   refine .inl fun R k0 k1=>?_
   rw [top,ltI_t (by omega)]
   rfl
  ·rw [if_neg h1]
   by_cases h2:p.length<s.length
   ·rw [if_pos h2]
    have hlow:=ptsB_low (l:=s) (by rw [hp];rfl)
    cases hq:ptsB (lower s) with
    | none=>rw [hq] at hlow;cases hlow
    | some q=>
     have hll:=lower_len s
     obtain ⟨m,e⟩:=lasc_loop (lower s) (by omega) (lower s).length 0 [] q LF (by omega) (by omega) (by omega) (by simp) (by rw [List.drop_zero];exact hq)
     refine .inr ⟨natE q,lower s,m,fun R k0 k1=>?_⟩
     rw [top,ltI_f (by omega),cond_false,ltI_t (by omega),cond_true]
     refine Eq.trans (e R _) ?_
     have hel:=encP_len q
     rw [List.nil_append,all_isI64_nat,elI_natE,encI_nat,cond_true,catOk_t (by omega),cond_true,small_t (by rw [List.length_append];simp only [xnB,List.length_cons,List.length_nil];omega),cond_true]
     simp only
     by_cases h3:(encP q).2=0
     ·rw [h3,if_pos rfl]
      cases h4:validL (xnB++(encP q).1) with
      | true=>rfl
      | false=>rfl
     ·rw [if_neg h3]
      have:(((encP q).2:Int) != (0:Int))=true:=by simpa using h3
      rw [this]
      rfl
   ·rw [if_neg h2]
    refine .inl fun R k0 k1=>?_
    rw [top,ltI_f (by omega),cond_false,ltI_f (by omega),cond_false,small_t (by rw [lower_len];exact hs),cond_true]
    cases validL (lower s)<;>rfl
theorem lasc_sp (s:By) (h0:small s.length=true):∃ r H,lasc LF s (fun r0 r1=>rv (.tup [.s (.str r0),.s (.int .i64 r1)]) []) (fun r0 r1 l2 s3 m4=>rv (.tup [.s (.str r0),.s (.int .i64 r1)]) [.arr true 3 1 l2,.iter s3 m4])=rv r H∧
  r.stab [0,0] H = .tup [.s (.str (toAsc s).1),.s (.int .i64 ((toAsc s).2:Nat))]:=by
 rcases lasc_cases s h0 with h | ⟨l,t,m,h⟩
 ·exact ⟨_,_,h _ _ _,rfl⟩
 ·exact ⟨_,_,h _ _ _,rfl⟩
theorem hdig_spec {R:Type} {k0:Int→Option R} (b:Int) (h0:inR b 256=true):hdig LF b k0=k0 (digI (u8n b)):=by
 simp only [inR,Bool.and_eq_true,decide_eq_true_eq] at h0
 have hc:b=((u8n b).toNat:Int):=by
  unfold u8n
  simp
  omega
 generalize u8n b=c at *
 subst hc
 have hbt:=c.toNat_lt
 unfold hdig
 simp only [hdig_j1,hdig_j0,vl,digI]
 rcases dig_cases c with ⟨h1,h2,e⟩ | ⟨h1,h2,e⟩ | ⟨h1,h2,e⟩ | ⟨h1,h2,h3,e⟩
 ·have e2:wi64 (wu8 ((c.toNat:Int)-48))=((dig c:Nat):Int):=by
   rw [wu8_id (by omega) (by omega),wi64_id (by omega) (by omega)];omega
  rw [if_pos (by omega)]
  simp (disch:=omega) only [ltI_t,ltI_f,Bool.not_true,Bool.not_false,cond_false,cond_true,e2]
 ·have e2:wi64 (wi64 (wu8 ((c.toNat:Int)-97))+10)=((dig c:Nat):Int):=by
   rw [wu8_id (by omega) (by omega),wi64_id (n:=(c.toNat:Int)-97) (by omega) (by omega),wi64_id (by omega) (by omega)];omega
  rw [if_pos (by omega)]
  simp (disch:=omega) only [ltI_t,ltI_f,Bool.not_true,Bool.not_false,cond_false,cond_true,e2]
 ·have e2:wi64 (wi64 (wu8 ((c.toNat:Int)-65))+10)=((dig c:Nat):Int):=by
   rw [wu8_id (by omega) (by omega),wi64_id (n:=(c.toNat:Int)-65) (by omega) (by omega),wi64_id (by omega) (by omega)];omega
  rw [if_pos (by omega)]
  simp (disch:=omega) only [ltI_t,ltI_f,Bool.not_true,Bool.not_false,cond_false,cond_true,e2]
 ·rw [e,if_neg (by decide)]
  by_cases c1:c.toNat<48
  ·simp (disch:=omega) only [ltI_t,ltI_f,Bool.not_true,Bool.not_false,cond_false,cond_true]
  ·by_cases c2:c.toNat<65
   ·simp (disch:=omega) only [ltI_t,ltI_f,Bool.not_true,Bool.not_false,cond_false,cond_true]
   ·by_cases c3:c.toNat<97
    ·simp (disch:=omega) only [ltI_t,ltI_f,Bool.not_true,Bool.not_false,cond_false,cond_true]
    ·simp (disch:=omega) only [ltI_t,ltI_f,Bool.not_true,Bool.not_false,cond_false,cond_true]
theorem pctB_ne {b:UInt8} (r:By) (h:b≠37):pctB (b::r)=(pctB r).map (b::·):=by
 conv=>lhs;unfold pctB
 rw [if_neg h]
theorem pctB_two (x y:UInt8) (r:By):pctB (37::x::y::r)=if dig x<16∧dig y<16 then (pctB r).map (UInt8.ofNat (16*dig x+dig y)::·) else none:=by
 conv=>lhs;unfold pctB
 rw [if_pos rfl]
theorem digI_neg (x:UInt8):ltI (digI x) 0 = !(decide (dig x<16)):=by
 unfold digI
 by_cases h:dig x<16
 ·rw [if_pos h,ltI_f (by omega),decide_eq_true h];rfl
 ·rw [if_neg h,ltI_t (by omega),decide_eq_false h];rfl
theorem pctB_le:∀ (s t:By),pctB s=some t→t.length≤s.length
 | [],t,h=>by simp only [pctB,Option.some.injEq] at h;subst h;exact Nat.le_refl _
 | b::r,t,h=>by
  by_cases hb:b=37
  ·subst hb
   match r,h with
   | [],h=>cases h
   | [x],h=>cases h
   | x::y::r',h=>
    rw [pctB_two] at h
    split at h
    ·cases hq:pctB r' with
     | none=>rw [hq] at h;cases h
     | some q=>
      rw [hq] at h
      simp only [Option.map_some,Option.some.injEq] at h
      subst h
      have:=pctB_le r' q hq
      simp only [List.length_cons]
      omega
    ·cases h
  ·rw [pctB_ne _ hb] at h
   cases hq:pctB r with
   | none=>rw [hq] at h;cases h
   | some q=>
    rw [hq] at h
    simp only [Option.map_some,Option.some.injEq] at h
    subst h
    have:=pctB_le r q hq
    simp only [List.length_cons]
    omega
theorem hdec_loop (s:By) (hs:s.length≤1000000000):∀ (m i n:Nat) (acc:By),i≤s.length→s.length-i≤m→m<n→acc.length≤i→
  (∀ t,pctB (s.drop i)=some t→∀ (R:Type) (k0:LL→Option R) (k1:LL→Option R),hdec_l0 LF n s (i:Int) (acc.map u8el) k0 k1=k1 ((acc++t).map u8el))∧
  (pctB (s.drop i)=none→∃ l,∀ (R:Type) (k0:LL→Option R) (k1:LL→Option R),hdec_l0 LF n s (i:Int) (acc.map u8el) k0 k1=k0 l):=by
 intro m
 induction m with
 | zero=>
  intro i n acc hi hm hn ha
  obtain ⟨n,rfl⟩:∃ m,n=m+1:=⟨n-1,by omega⟩
  rw [List.drop_of_length_le (by omega)]
  refine ⟨fun t ht R k0 k1=>?_,fun h=>(by cases h)⟩
  simp only [pctB,Option.some.injEq] at ht
  subst ht
  rw [hdec_l0_s]
  unfold hdec_l0f
  rw [ltI_f (by omega),List.append_nil]
  rfl
 | succ m ih=>
  intro i n acc hi hm hn ha
  obtain ⟨n,rfl⟩:∃ m,n=m+1:=⟨n-1,by omega⟩
  by_cases hlt:i<s.length
  ·have e1:wi64 ((i:Int)+1)=((i+1:Nat):Int):=by rw [wi64_id (by omega) (by omega)];rfl
   have e2:wi64 ((i:Int)+2)=((i+2:Nat):Int):=by rw [wi64_id (by omega) (by omega)];rfl
   have e3:wi64 (((i+2:Nat):Int)+1)=((i+3:Nat):Int):=by rw [wi64_id (by omega) (by omega)];omega
   have hal:(acc.map u8el).length=acc.length:=List.length_map _
   have hrow:∀ b:UInt8,acc.map u8el++[[SV.int .u8 (b.toNat:Int)]]=(acc++[b]).map u8el:=fun b=>by rw [List.map_append];rfl
   have q1:(((s.getD i 0).toNat:Int) != 37) = !(s.getD i 0==37):=congrArg _ (u8_eqn _ 37 (by omega))
   rw [drop_cons s i hlt]
   by_cases h37:s.getD i 0=37
   ·by_cases h3:i+2<s.length
    ·rw [drop_cons s (i+1) (by omega),drop_cons s (i+1+1) (by omega),h37,pctB_two]
     obtain ⟨i1,i2⟩:=ih (i+3) n (acc++[UInt8.ofNat (16*dig (s.getD (i+1) 0)+dig (s.getD (i+2) 0))]) (by omega) (by omega) (by omega) (by simp;omega)
     have top:∀ (R:Type) (k0:LL→Option R) (k1:LL→Option R),hdec_l0 LF (n+1) s (i:Int) (acc.map u8el) k0 k1=cond (decide (dig (s.getD (i+1) 0)<16)&&decide (dig (s.getD (i+2) 0)<16)) (hdec_l0 LF n s ((i+3:Nat):Int) ((acc++[UInt8.ofNat (16*dig (s.getD (i+1) 0)+dig (s.getD (i+2) 0))]).map u8el) k0 k1) (k0 (acc.map u8el)):=by
      intro R k0 k1
      rw [hdec_l0_s]
      unfold hdec_l0f
      rw [ltI_t (by omega),inR_t (by omega) (by omega),bAt_nat,q1,h37,hal,e2,ltI_t (by omega),e1,inR_t (by omega) (by omega),inR_t (by omega) (by omega),bAt_nat,bAt_nat]
      simp only [cond_true,vl,Bool.not_true,cond_false,beq_self_eq_true,u8_inR,u8n_nat,digI_neg,roomy_of (show acc.length+1≤68719476736 by omega),e3]
      generalize s.getD (i+1) 0=x at *
      generalize s.getD (i+2) 0=y at *
      by_cases hx:dig x<16
      ·by_cases hy:dig y<16
       ·have w1:digI x=(dig x:Int):=by unfold digI;rw [if_pos hx]
        have w2:digI y=(dig y:Int):=by unfold digI;rw [if_pos hy]
        have w3:wi64 ((16:Int)*(dig x:Int))=((16*dig x:Nat):Int):=by rw [wi64_id (by omega) (by omega)];omega
        have w4:wi64 (((16*dig x:Nat):Int)+(dig y:Int))=((16*dig x+dig y:Nat):Int):=by rw [wi64_id (by omega) (by omega)];omega
        have w5:wu8 ((16*dig x+dig y:Nat):Int)=((UInt8.ofNat (16*dig x+dig y)).toNat:Int):=by
         rw [wu8_id (by omega) (by omega)]
         simp
         omega
        rw [decide_eq_true hx,decide_eq_true hy,w1,w2,w3,w4,w5,hrow]
        rfl
       ·rw [decide_eq_true hx,decide_eq_false hy]
        rfl
      ·rw [decide_eq_false hx]
       rfl
     by_cases hd:dig (s.getD (i+1) 0)<16∧dig (s.getD (i+2) 0)<16
     ·rw [if_pos hd]
      have hc:(decide (dig (s.getD (i+1) 0)<16)&&decide (dig (s.getD (i+2) 0)<16))=true:=by rw [decide_eq_true hd.1,decide_eq_true hd.2];rfl
      refine ⟨fun t ht R k0 k1=>?_,fun h=>?_⟩
      ·cases hq:pctB (s.drop (i+3)) with
       | none=>rw [show i+1+1+1=i+3 from rfl,hq] at ht;cases ht
       | some q=>
        rw [show i+1+1+1=i+3 from rfl,hq] at ht
        simp only [Option.map_some,Option.some.injEq] at ht
        subst ht
        rw [top,hc,cond_true,i1 q hq,List.append_assoc]
        rfl
      ·cases hq:pctB (s.drop (i+3)) with
       | some q=>rw [show i+1+1+1=i+3 from rfl,hq] at h;cases h
       | none=>
        obtain ⟨l,e⟩:=i2 hq
        exact ⟨l,fun R k0 k1=>by rw [top,hc,cond_true,e]⟩
     ·rw [if_neg hd]
      have hc:(decide (dig (s.getD (i+1) 0)<16)&&decide (dig (s.getD (i+2) 0)<16))=false:=by
       rw [Bool.eq_false_iff,ne_eq,Bool.and_eq_true,decide_eq_true_eq,decide_eq_true_eq];exact hd
      exact ⟨fun t h=>(by cases h),fun _=>⟨_,fun R k0 k1=>by rw [top,hc,cond_false]⟩⟩
    ·have hnone:pctB (s.getD i 0::s.drop (i+1))=none:=by
      rw [h37]
      cases hd:s.drop (i+1) with
      | nil=>rfl
      | cons x r=>
       cases r with
       | nil=>rfl
       | cons y r'=>
        exfalso
        have:=congrArg List.length hd
        rw [List.length_drop,List.length_cons,List.length_cons] at this
        omega
     rw [hnone]
     refine ⟨fun t h=>(by cases h),fun _=>⟨acc.map u8el,fun R k0 k1=>?_⟩⟩
     rw [hdec_l0_s]
     unfold hdec_l0f
     rw [ltI_t (by omega),inR_t (by omega) (by omega),bAt_nat,q1,h37,e2,ltI_f (by omega)]
     rfl
   ·rw [pctB_ne _ h37]
    obtain ⟨i1,i2⟩:=ih (i+1) n (acc++[s.getD i 0]) (by omega) (by omega) (by omega) (by simp;omega)
    have hb37:(s.getD i 0==37)=false:=by simpa using h37
    have top:∀ (R:Type) (k0:LL→Option R) (k1:LL→Option R),hdec_l0 LF (n+1) s (i:Int) (acc.map u8el) k0 k1=hdec_l0 LF n s ((i+1:Nat):Int) ((acc++[s.getD i 0]).map u8el) k0 k1:=by
     intro R k0 k1
     rw [hdec_l0_s]
     unfold hdec_l0f
     rw [ltI_t (by omega),inR_t (by omega) (by omega),bAt_nat,q1,hb37,hal,roomy_of (by omega),e1,hrow]
     rfl
    refine ⟨fun t ht R k0 k1=>?_,fun h=>?_⟩
    ·cases hq:pctB (s.drop (i+1)) with
     | none=>rw [hq] at ht;cases ht
     | some q=>
      rw [hq] at ht
      simp only [Option.map_some,Option.some.injEq] at ht
      subst ht
      rw [top,i1 q hq,List.append_assoc]
      rfl
    ·cases hq:pctB (s.drop (i+1)) with
     | some q=>rw [hq] at h;cases h
     | none=>
      obtain ⟨l,e⟩:=i2 hq
      exact ⟨l,fun R k0 k1=>by rw [top,e]⟩
  ·rw [List.drop_of_length_le (by omega)]
   refine ⟨fun t ht R k0 k1=>?_,fun h=>(by cases h)⟩
   simp only [pctB,Option.some.injEq] at ht
   subst ht
   rw [hdec_l0_s]
   unfold hdec_l0f
   rw [ltI_f (by omega),List.append_nil]
   rfl
theorem hdec_sp (s:By) (h0:small s.length=true):∃ r H,hdec LF s (fun r0 r1 l2=>rv (.tup [.s (.str r0),.s (.bool r1)]) [.arr false 5 1 l2])=rv r H∧
  r.stab [0,0] H = .tup [.s (.str (pctV s)),.s (.bool (pctB s).isSome)]:=by
 have hs:=maxL h0
 have hLF:=LF_big
 have hroom:((decide ((0:Int)≤(s.length:Int)))&&(roomy (Int.toNat (s.length:Int))))=true:=by
  rw [Int.toNat_natCast,roomy_of (by omega),decide_eq_true (by omega)];rfl
 obtain ⟨p1,p2⟩:=hdec_loop s hs s.length 0 LF [] (by omega) (by omega) (by omega) (by simp)
 rw [List.drop_zero] at p1 p2
 unfold pctV
 cases hp:pctB s with
 | none=>
  obtain ⟨l,e⟩:=p2 hp
  refine ⟨.tup [.s (.str []),.s (.bool false)],[.arr false 5 1 l],?_,rfl⟩
  unfold hdec
  rw [hroom,cond_true]
  exact e _ _ _
 | some t=>
  refine ⟨.tup [.s (.str t),.s (.bool true)],[.arr false 5 1 (t.map u8el)],?_,rfl⟩
  unfold hdec
  rw [hroom,cond_true]
  refine Eq.trans (p1 t hp _ _ _) ?_
  rw [List.nil_append,all_isU8,map_elU8]
  rfl
abbrev aggH (kd:Int) (nm:By) (v4 a0 a1 a2 a3 a4 a5 a6 a7:Int):List PV:=[.s (.int .i64 kd),.s (.str nm),.s (.int .u32 v4),.s (.int .u16 a0),.s (.int .u16 a1),.s (.int .u16 a2),.s (.int .u16 a3),.s (.int .u16 a4),.s (.int .u16 a5),.s (.int .u16 a6),.s (.int .u16 a7)]
def hostA (h:HostV):PV:=.agg [.s (.int .i64 (h.kind:Nat)),.s (.str h.name),.s (.int .u32 (h.v4:Nat)),.s (.int .u16 (h.v6.getD 0 0:Nat)),.s (.int .u16 (h.v6.getD 1 0:Nat)),.s (.int .u16 (h.v6.getD 2 0:Nat)),.s (.int .u16 (h.v6.getD 3 0:Nat)),.s (.int .u16 (h.v6.getD 4 0:Nat)),.s (.int .u16 (h.v6.getD 5 0:Nat)),.s (.int .u16 (h.v6.getD 6 0:Nat)),.s (.int .u16 (h.v6.getD 7 0:Nat))]
abbrev haK0:Int→Int→Int→Int→Int→Int→Int→Int→Int→Int→Int→LL→Option (PV × List Blk × Unit):=fun r0 r1 r2 r3 r4 r5 r6 r7 r8 r9 n10 l11=>rv (.tup [.agg (aggH r0 [] 0 r1 r2 r3 r4 r5 r6 r7 r8),.s (.int .i64 r9)]) [.box (aggH n10 [] 0 r1 r2 r3 r4 r5 r6 r7 r8),.arr false 25 1 l11]
abbrev haK1:Unit→Option (PV × List Blk × Unit):=fun _=>rv (.tup [.agg (aggH 0 [] 0 0 0 0 0 0 0 0 0),.s (.int .i64 14)]) [.box (aggH 0 [] 0 0 0 0 0 0 0 0 0)]
theorem last_eq (s:By) (c:UInt8) (h:s≠[]):(s.getLast? = some c)↔s.getD (s.length-1) 0=c:=by
 have:0<s.length:=List.length_pos_iff.2 h
 rw [List.getLast?_eq_getElem?,List.getD_eq_getElem?_getD,List.getElem?_eq_getElem (by omega)]
 simp
theorem haddr_sp (s:By) (h0:small s.length=true) (h1:isBr s=true):∃ r H,haddr LF s haK0 haK1=rv r H∧r.stab [0,0] H = .tup [hostA (addrH s).1,.s (.int .i64 ((addrH s).2:Nat))]:=by
 have hs:=maxL h0
 have hne:s≠[]:=by rintro rfl;cases h1
 have hl:0<s.length:=List.length_pos_iff.2 hne
 have hb0:s.getD 0 0=91:=by
  cases s with
  | nil=>exact absurd rfl hne
  | cons b t=>
   simp only [isBr,List.isPrefixOf,Bool.and_true,beq_iff_eq] at h1
   exact h1.symm
 have e1:wi64 ((s.length:Int)-1)=((s.length-1:Nat):Int):=by rw [wi64_id (by omega) (by omega)];omega
 have q1:(((s.getD (s.length-1) 0).toNat:Int)==93)=(s.getD (s.length-1) 0==93):=u8_eqn _ 93 (by omega)
 have bad:∃ r H,haK1 ()=rv r H∧r.stab [0,0] H = .tup [hostA noHost,.s (.int .i64 14)]:=⟨_,_,rfl,rfl⟩
 unfold haddr addrH
 simp only [vl,e1]
 rw [inR_t (by omega) (by omega),bAt_nat,q1,cond_true]
 by_cases h93:s.getD (s.length-1) 0=93
 ·have h2:2≤s.length:=by
   apply Classical.byContradiction
   intro h
   rw [show s.length-1=0 by omega,hb0] at h93
   exact absurd h93 (by decide)
  rw [if_pos ⟨(last_eq s 93 hne).2 h93,h2⟩,h93,beq_self_eq_true,cond_true,show (1:Int)=((1:Nat):Int) from rfl,sub3_t (by omega) (by omega) (by omega),cond_true,cut_nat]
  have hlt:((s.take (s.length-1)).drop 1).length≤s.length:=by rw [List.length_drop,List.length_take];omega
  rw [small_t (by omega),cond_true]
  unfold v6c
  cases hv:v6B ((s.take (s.length-1)).drop 1) with
  | none=>exact ⟨_,_,rfl,rfl⟩
  | some a=>exact ⟨_,_,rfl,rfl⟩
 ·rw [if_neg (fun h=>h93 ((last_eq s 93 hne).1 h.1)),show (s.getD (s.length-1) 0==93)=false by simpa using h93]
  exact bad
theorem strE_set (l:List By) (i:Nat) (y:By) (h:i<l.length):List.set (strE l) i (putAt ((strE l).getD i []) 0 [SV.str y])=strE (l.set i y):=by
 have e:(strE l).getD i []=[SV.str (l.getD i [])]:=by
  unfold strE
  rw [List.getD_eq_getElem?_getD,List.getElem?_map,List.getElem?_eq_getElem h,List.getD_eq_getElem?_getD,List.getElem?_eq_getElem h]
  rfl
 rw [e]
 unfold strE
 rw [List.map_set]
 rfl
theorem hparse_loop (N:Nat) (hN:N≤1000000001):∀ (rest:List By) (done:List By) (n:Nat),done.length+rest.length=N→rest.length<n→(∀ x∈rest,x.length≤1000000000)→
  ((asciis rest).2=0→∀ (R:Type) (k0:Int→LL→Option R) (k1:Nat→LL→Option R),hparse_l0 LF n N (N:Int) (done.length:Int) (strE (done++rest)) k0 k1=k1 N (strE (done++(asciis rest).1)))∧
  ((asciis rest).2≠0→∃ l,∀ (R:Type) (k0:Int→LL→Option R) (k1:Nat→LL→Option R),hparse_l0 LF n N (N:Int) (done.length:Int) (strE (done++rest)) k0 k1=k0 ((asciis rest).2:Nat) l):=by
 intro rest
 induction rest with
 | nil=>
  intro done n hd hn hx
  obtain ⟨n,rfl⟩:∃ m,n=m+1:=⟨n-1,by simp at hn;omega⟩
  simp only [List.length_nil] at hd
  refine ⟨fun _ R k0 k1=>?_,fun h=>absurd rfl h⟩
  rw [hparse_l0_s]
  unfold hparse_l0f
  rw [ltI_f (by omega)]
  rfl
 | cons x r ih=>
  intro done n hd hn hx
  simp only [List.length_cons] at hd hn
  obtain ⟨n,rfl⟩:∃ m,n=m+1:=⟨n-1,by omega⟩
  have e1:wi64 ((done.length:Int)+1)=((done.length+1:Nat):Int):=by rw [wi64_id (by omega) (by omega)];rfl
  have hlen:(done++x::r).length=N:=by rw [List.length_append,List.length_cons];omega
  have hgx:(done++x::r).getD done.length []=x:=by
   rw [List.getD_eq_getElem?_getD,List.getElem?_append_right (Nat.le_refl _),Nat.sub_self]
   rfl
  have hset:∀ y,(done++x::r).set done.length y=(done++[y])++r:=fun y=>by
   rw [List.set_append_right _ _ (Nat.le_refl _),Nat.sub_self,List.set_cons_zero,List.append_assoc]
   rfl
  have top:∀ (R:Type) (k0:Int→LL→Option R) (k1:Nat→LL→Option R),hparse_l0 LF (n+1) N (N:Int) (done.length:Int) (strE (done++x::r)) k0 k1=cond (((toAsc x).2:Int) != 0) (k0 ((toAsc x).2:Nat) (strE (done++x::r))) (hparse_l0 LF n N (N:Int) ((done.length+1:Nat):Int) (strE ((done++[(toAsc x).1])++r)) k0 k1):=by
   intro R k0 k1
   rw [hparse_l0_s]
   unfold hparse_l0f
   rw [ltI_t (by omega),inR_t (by omega) (by omega),Int.toNat_natCast,Nat.zero_add,okE_strE (by omega),gX_strE,hgx]
   simp only [vl,cond_true]
   rw [small_t (hx x (by simp)),strE_len,decide_eq_true (show done.length<(done++x::r).length by omega),strE_set _ _ _ (by omega),hset,e1]
   rfl
  unfold asciis
  obtain ⟨i1,i2⟩:=ih (done++[(toAsc x).1]) n (by simp;omega) (by omega) (fun y hy=>hx y (by simp [hy]))
  have hdl:(done++[(toAsc x).1]).length=done.length+1:=by simp
  rw [hdl] at i1 i2
  by_cases h:(toAsc x).2=0
  ·rw [if_pos h]
   have hb:(((toAsc x).2:Int) != 0)=false:=by rw [h];rfl
   refine ⟨fun h2 R k0 k1=>?_,fun h2=>?_⟩
   ·rw [top,hb,cond_false,i1 h2,List.append_assoc]
    rfl
   ·obtain ⟨l,e⟩:=i2 h2
    exact ⟨l,fun R k0 k1=>by rw [top,hb,cond_false,e]⟩
  ·rw [if_neg h]
   have hb:(((toAsc x).2:Int) != 0)=true:=by simpa using h
   exact ⟨fun h2=>absurd h2 h,fun _=>⟨_,fun R k0 k1=>by rw [top,hb,cond_true]⟩⟩
theorem join_le (p:By) (m:Nat):∀ l:List By,(∀ x∈l,x.length≤m)→(Lib.join l p).length≤(m+p.length)*l.length
 | [],_=>by simp [Lib.join]
 | [x],h=>by
  have:=h x (by simp)
  rw [show Lib.join [x] p=x by simp [Lib.join,Lib.joinTail]]
  simp
  omega
 | x::y::r,h=>by
  have h1:=h x (by simp)
  have h2:=join_le p m (y::r) (fun z hz=>h z (by simp [hz]))
  rw [join_cons2,List.length_append,List.length_append,List.length_cons,Nat.mul_add,Nat.mul_one]
  omega
theorem all_isS_strE (l:List By):(strE l).all isS=true:=by
 unfold strE
 rw [List.all_map,List.all_eq_true]
 intro x _
 rfl
theorem tsuf_dot (s:By):tsuf s [46]=trimDot s:=by
 unfold tsuf trimDot
 by_cases h:s.getLast? = some 46
 ·obtain ⟨t,rfl⟩:=List.getLast?_eq_some_iff.1 h
  rw [if_pos h,if_pos (by rw [List.isSuffixOf_iff_suffix];exact ⟨t,rfl⟩)]
  simp
 ·rw [if_neg h,if_neg]
  rw [List.isSuffixOf_iff_suffix]
  rintro ⟨t,ht⟩
  exact h (List.getLast?_eq_some_iff.2 ⟨t,ht.symm⟩)
abbrev hpK0:Int→By→Int→Int→Int→Int→Int→Int→Int→Int→Int→Int→Int→By→Int→Int→Int→Int→Int→Int→Int→Int→Int→Option (PV × List Blk × Unit):=fun r0 r1 r2 r3 r4 r5 r6 r7 r8 r9 r10 r11 n12 s13 n14 n15 n16 n17 n18 n19 n20 n21 n22=>rv (.tup [.agg (aggH r0 r1 r2 r3 r4 r5 r6 r7 r8 r9 r10),.s (.int .i64 r11)]) [.box (aggH n12 s13 n14 n15 n16 n17 n18 n19 n20 n21 n22)]
abbrev hpK1:Int→By→Int→Int→By→LL→Option (PV × List Blk × Unit):=fun r0 r1 r2 n3 s4 l5=>rv (.tup [.agg (aggH r0 r1 0 0 0 0 0 0 0 0 0),.s (.int .i64 r2)]) [.box (aggH n3 s4 0 0 0 0 0 0 0 0 0),.arr false 9 1 l5]
theorem hparse_sp (s:By) (h0:small s.length=true):∃ r H,hparse LF s hpK0 hpK1=rv r H∧r.stab [0,0] H = .tup [hostA (parseH s).1,.s (.int .i64 ((parseH s).2:Nat))]:=by
 have hs:=maxL h0
 have hLF:=LF_big
 have bad:∀ e:Nat,∃ r H,hpK0 0 [] 0 0 0 0 0 0 0 0 0 (e:Int) 0 [] 0 0 0 0 0 0 0 0 0=rv r H∧r.stab [0,0] H = .tup [hostA noHost,.s (.int .i64 (e:Nat))]:=fun e=>⟨_,_,rfl,rfl⟩
 have bad2:∀ (e:Nat) (l:LL),∃ r H,hpK1 0 [] (e:Int) 0 [] l=rv r H∧r.stab [0,0] H = .tup [hostA noHost,.s (.int .i64 (e:Nat))]:=fun e l=>⟨_,_,rfl,rfl⟩
 by_cases h1:1024<s.length
 ·have e:parseH s=(noHost,3):=by unfold parseH;rw [if_pos h1]
  rw [e]
  unfold hparse
  rw [ltI_t (by omega),cond_true]
  exact bad 3
 ·have hbr:([91]:By).isPrefixOf s=decide (s.head? = some 91):=by
   cases s with
   | nil=>rfl
   | cons b t=>
    simp only [List.isPrefixOf,Bool.and_true,List.head?_cons,Option.some.injEq]
    rw [Bool.eq_iff_iff,beq_iff_eq,decide_eq_true_eq]
    exact eq_comm
  by_cases h2:s.head? = some 91
  ·have hb:([91]:By).isPrefixOf s=true:=by rw [hbr,decide_eq_true h2]
   have e:parseH s=addrH s:=by unfold parseH addrH;rw [if_neg h1,if_pos h2]<;>rfl
   rw [e]
   unfold hparse
   rw [ltI_f (by omega),cond_false,h0,cond_true,hb,cond_true,cond_true,show isBr s=true from hb,cond_true]
   exact ⟨_,_,rfl,rfl⟩
  ·have hb:([91]:By).isPrefixOf s=false:=by rw [hbr,decide_eq_false h2]
   unfold hparse
   rw [ltI_f (by omega),cond_false,h0,cond_true,hb,cond_false,cond_true]
   cases hp:pctB s with
   | none=>
    have e:parseH s=(noHost,14):=by unfold parseH;rw [if_neg h1,if_neg h2,hp]
    rw [e]
    exact bad 14
   | some t=>
    have htl:t.length≤s.length:=pctB_le s t hp
    have hv:pctV s=t:=by unfold pctV;rw [hp];rfl
    rw [hv,small_t (by omega)]
    simp only [Option.isSome_some,Bool.not_true,cond_false,cond_true,vl]
    rw [tsuf_dot]
    have htd:(trimDot t).length≤t.length:=by unfold trimDot;split<;>simp
    have hP:parseH s=if numericB (trimDot t) then (match pnB (trimDot t) with
      | some v=>(⟨2,[],v,z8⟩,0)
      | none=>(noHost,14))
     else if (asciis (pcs 46 (trimDot t))).2=0 then (
      let name:=Lib.join (asciis (pcs 46 (trimDot t))).1 [46]
      if 253<name.length then (noHost,3) else if numericB name then (noHost,14) else (⟨1,name,0,z8⟩,0))
     else (noHost,(asciis (pcs 46 (trimDot t))).2):=by
     unfold parseH
     rw [if_neg h1,if_neg h2,hp]
     rfl
    rw [hP]
    generalize trimDot t=u at *
    rw [small_t (by omega),cond_true]
    cases hn:numericB u with
    | true=>
     rw [if_pos rfl,cond_true,cond_true]
     cases hq:pnB u with
     | none=>exact bad 14
     | some v=>exact ⟨_,_,rfl,rfl⟩
    | false=>
     rw [if_neg (by simp),cond_false,cond_true,show ((1:Nat)==1)=true from rfl,cond_true]
     have hc:([46]:By).getD 0 0=46:=rfl
     rw [hc]
     have hpl:=pcs_len 46 u
     have hcl:=count_le 46 u
     obtain ⟨i1,i2⟩:=hparse_loop (pcs 46 u).length (by omega) (pcs 46 u) [] LF (by simp) (by omega) (fun x hx=>by have:=(pcs_mem hx).2;omega)
     rw [List.nil_append,List.length_nil] at i1 i2
     by_cases hz:(asciis (pcs 46 u)).2=0
     ·rw [if_pos hz]
      obtain ⟨a1,a2⟩:=asciis_ok _ hz
      have hjl:=join_le [46] 63 (asciis (pcs 46 u)).1 (fun x hx=>(validL_VL (a1 x hx)).le)
      have he:∀ {R:Type} (K0:Int→LL→Option R) (K1:Nat→LL→Option R),hparse_l0 LF LF (pcs 46 u).length ((pcs 46 u).length:Int) 0 (strE (pcs 46 u)) K0 K1=K1 (pcs 46 u).length (strE (asciis (pcs 46 u)).1):=fun K0 K1=>i1 hz _ K0 K1
      rw [he]
      have hA:(asciis (pcs 46 u)).1.length≤1025:=by omega
      have htk:List.take (pcs 46 u).length (List.drop 0 (strE (asciis (pcs 46 u)).1))=strE (asciis (pcs 46 u)).1:=by
       rw [List.drop_zero,List.take_of_length_le (by rw [strE_len];omega)]
      have hmul:(63+([46]:By).length)*(asciis (pcs 46 u)).1.length≤64*1025:=Nat.mul_le_mul (by simp) hA
      rw [htk,all_isS_strE,elS_strE,strE_len,small_t (by omega),small_t (by omega)]
      simp only [cond_true]
      generalize Lib.join (asciis (pcs 46 u)).1 [46]=name at *
      by_cases h253:253<name.length
      ·rw [if_pos h253,ltI_t (by omega),cond_true]
       exact bad2 3 _
      ·rw [if_neg h253,ltI_f (by omega),cond_false]
       cases hnn:numericB name with
       | true=>exact bad2 14 _
       | false=>exact ⟨_,_,rfl,rfl⟩
     ·rw [if_neg hz]
      obtain ⟨l,e⟩:=i2 hz
      have he:∀ {R:Type} (K0:Int→LL→Option R) (K1:Nat→LL→Option R),hparse_l0 LF LF (pcs 46 u).length ((pcs 46 u).length:Int) 0 (strE (pcs 46 u)) K0 K1=K0 ((asciis (pcs 46 u)).2:Nat) l:=fun K0 K1=>e _ K0 K1
      rw [he]
      exact bad2 _ _
theorem hvn_loop {R:Type} {k0 k1:Unit→Option R}:∀ l:List By,(∀ x∈l,x.length≤1000000000)→hvn_g0 LF l k0 k1=if l.all validL then k0 () else k1 ()
 | [],_=>rfl
 | x::r,h=>by
  rw [hvn_g0_s]
  unfold hvn_g0f
  rw [small_t (h x (by simp)),cond_true,List.all_cons]
  have ih:=hvn_loop (k0:=k0) (k1:=k1) r (fun y hy=>h y (by simp [hy]))
  cases validL x with
  | true=>rw [Bool.true_and];exact ih
  | false=>rfl
theorem hvn_sp (s:By) (h0:small s.length=true):∃ r H,hvn LF s (fun _=>rv (.s (.bool false)) [.box [.s (.bool false)]]) (fun r0 b1=>rv (.s (.bool r0)) [.box [.s (.bool b1)],.box [.bad],.box [.bad],.box [.bad]])=rv r H∧r.stab [] H = .s (.bool (validN s)):=by
 have hs:=maxL h0
 unfold hvn hvn_e1 validN
 by_cases h1:253<s.length
 ·rw [ltI_t (by omega),show Nat.ble s.length 253=false by rw [Bool.eq_false_iff,ne_eq,Nat.ble_eq];omega]
  exact ⟨_,_,rfl,rfl⟩
 ·rw [ltI_f (by omega),cond_false,h0,cond_true,show Nat.ble s.length 253=true by rw [Nat.ble_eq];omega]
  cases h2:numericB s with
  | true=>exact ⟨_,_,rfl,rfl⟩
  | false=>
   rw [cond_false,show ((1:Nat)==1&&(0:Int)==(0:Int))=true from rfl,show ([46]:By).getD 0 0=46 from rfl,Bool.and_true,cond_true,hvn_loop _ (fun x hx=>by have:=(pcs_mem hx).2;omega)]
   cases h3:(pcs 46 s).all validL with
   | true=>exact ⟨_,_,rfl,rfl⟩
   | false=>exact ⟨_,_,rfl,rfl⟩
theorem n8_z8 (b0 b1 b2 b3 b4 b5 b6 b7:Nat):(n8 (b0:Int) b1 b2 b3 b4 b5 b6 b7==z8)=(((b0:Int)==0)&&(((b1:Int)==0)&&(((b2:Int)==0)&&(((b3:Int)==0)&&(((b4:Int)==0)&&(((b5:Int)==0)&&(((b6:Int)==0)&&(((b7:Int)==0)&&true)))))))):=by
 have e:n8 (b0:Int) b1 b2 b3 b4 b5 b6 b7=[b0,b1,b2,b3,b4,b5,b6,b7]:=rfl
 have q:∀ b:Nat,((b:Int)==0)=(b==0):=fun b=>by
  rw [Bool.eq_iff_iff,beq_iff_eq,beq_iff_eq];omega
 rw [e]
 simp only [q,z8]
 rfl
theorem hval_sp (kd:Int) (nm:By) (v4 a0 a1 a2 a3 a4 a5 a6 a7:Int) (h0:small nm.length=true) (h1:ltN v4 4294967296=true) (h2:ok8 a0 a1 a2 a3 a4 a5 a6 a7=true) :
  ∃ r H,hval LF kd nm v4 a0 a1 a2 a3 a4 a5 a6 a7 (fun r0 n1 s2 n3 n4 n5 n6 n7 n8 n9 n10 n11 l12=>rv (.s (.bool r0)) [.box (aggH n1 s2 n3 n4 n5 n6 n7 n8 n9 n10 n11),.arr false 25 1 l12])=rv r H∧
   r.stab [] H = .s (.bool (validH (mkH kd nm v4 (n8 a0 a1 a2 a3 a4 a5 a6 a7)))):=by
 obtain ⟨b0,b1,b2,b3,b4,b5,b6,b7,rfl,rfl,rfl,rfl,rfl,rfl,rfl,rfl,hb⟩:=ok8_iff h2
 obtain ⟨v0,v1⟩:=ltN_iff.1 h1
 obtain ⟨v,rfl⟩:=Int.eq_ofNat_of_zero_le v0
 have qv:((v:Int)==0)=(v==0):=by
  rw [Bool.eq_iff_iff,beq_iff_eq,beq_iff_eq];omega
 have qn:(nm==([]:By))=nm.isEmpty:=by cases nm<;>rfl
 have hk:(mkH kd nm (v:Int) (n8 (b0:Int) b1 b2 b3 b4 b5 b6 b7)).kind=if ltN kd 4 then kd.toNat else 0:=rfl
 have hn:(mkH kd nm (v:Int) (n8 (b0:Int) b1 b2 b3 b4 b5 b6 b7)).name=nm:=rfl
 have hv:(mkH kd nm (v:Int) (n8 (b0:Int) b1 b2 b3 b4 b5 b6 b7)).v4=v:=Int.toNat_natCast v
 have h6:(mkH kd nm (v:Int) (n8 (b0:Int) b1 b2 b3 b4 b5 b6 b7)).v6=n8 (b0:Int) b1 b2 b3 b4 b5 b6 b7:=rfl
 unfold hval validH
 rw [hk,hn,hv,h6,n8_z8,qv,qn]
 by_cases k1:kd=1
 ·subst k1
  rw [show ((1:Int)==1)=true from rfl,cond_true,h0,cond_true,if_pos (by decide)]
  cases validN nm with
  | false=>exact ⟨_,_,rfl,rfl⟩
  | true=>
   cases (v==0) with
   | false=>exact ⟨_,_,rfl,rfl⟩
   | true=>exact ⟨_,_,rfl,rfl⟩
 ·rw [show (kd==(1:Int))=false by simpa using k1,cond_false]
  by_cases k2:kd=2
  ·subst k2
   rw [show ((2:Int)==2)=true from rfl,cond_true,if_neg (by decide),if_pos (by decide)]
   cases nm.isEmpty with
   | false=>exact ⟨_,_,rfl,rfl⟩
   | true=>exact ⟨_,_,rfl,rfl⟩
  ·rw [show (kd==(2:Int))=false by simpa using k2,cond_false]
   by_cases k3:kd=3
   ·subst k3
    rw [show ((3:Int)==3)=true from rfl,cond_true,if_neg (by decide),if_neg (by decide),if_pos (by decide)]
    cases nm.isEmpty with
    | false=>exact ⟨_,_,rfl,rfl⟩
    | true=>exact ⟨_,_,rfl,rfl⟩
   ·rw [show (kd==(3:Int))=false by simpa using k3,cond_false]
    have hkk:(if ltN kd 4 then kd.toNat else 0)=0:=by
     split
     ·rename_i h
      have:=ltN_iff.1 h
      omega
     ·rfl
    rw [hkk]
    exact ⟨_,_,rfl,rfl⟩
theorem n8_ok {a0 a1 a2 a3 a4 a5 a6 a7:Int} (h:ok8 a0 a1 a2 a3 a4 a5 a6 a7=true):(n8 a0 a1 a2 a3 a4 a5 a6 a7).length=8∧∀ x∈n8 a0 a1 a2 a3 a4 a5 a6 a7,x<65536:=by
 obtain ⟨b0,b1,b2,b3,b4,b5,b6,b7,rfl,rfl,rfl,rfl,rfl,rfl,rfl,rfl,hb⟩:=ok8_iff h
 refine ⟨rfl,fun x hx=>?_⟩
 simp only [n8,Int.toNat_natCast,List.mem_cons,List.not_mem_nil,or_false] at hx
 omega
theorem hfmt_sp (kd:Int) (nm:By) (v4 a0 a1 a2 a3 a4 a5 a6 a7:Int) (h0:small nm.length=true) (h1:ltN v4 4294967296=true) (h2:ok8 a0 a1 a2 a3 a4 a5 a6 a7=true) :
  ∃ r H,hfmt LF kd nm v4 a0 a1 a2 a3 a4 a5 a6 a7 (fun r0 n1 s2 n3 n4 n5 n6 n7 n8 n9 n10 n11=>rv (.s (.str r0)) [.box (aggH n1 s2 n3 n4 n5 n6 n7 n8 n9 n10 n11)])=rv r H∧
   r.stab [] H = .s (.str (fmtH (mkH kd nm v4 (n8 a0 a1 a2 a3 a4 a5 a6 a7)))):=by
 obtain ⟨o1,o2⟩:=n8_ok h2
 have hl6:=v6_len _ o1 o2
 unfold hfmt fmtH
 rw [h0,h1,h2]
 simp only [cond_true,vl]
 have hk:(mkH kd nm v4 (n8 a0 a1 a2 a3 a4 a5 a6 a7)).kind=if ltN kd 4 then kd.toNat else 0:=rfl
 cases hvd:validH (mkH kd nm v4 (n8 a0 a1 a2 a3 a4 a5 a6 a7)) with
 | false=>exact ⟨_,_,rfl,rfl⟩
 | true=>
  rw [if_pos rfl,Bool.not_true,cond_false,hk]
  by_cases k1:kd=1
  ·subst k1
   rw [if_pos (by decide)]
   exact ⟨_,_,rfl,rfl⟩
  ·rw [show (kd==(1:Int))=false by simpa using k1,cond_false]
   have n1:¬ (if ltN kd 4 then kd.toNat else 0)=1:=by
    split
    ·rename_i h
     have:=ltN_iff.1 h
     omega
    ·decide
   rw [if_neg n1]
   by_cases k2:kd=2
   ·subst k2
    rw [if_pos (by decide)]
    exact ⟨_,_,rfl,rfl⟩
   ·rw [show (kd==(2:Int))=false by simpa using k2,cond_false]
    have n2:¬ (if ltN kd 4 then kd.toNat else 0)=2:=by
     split
     ·rename_i h
      have:=ltN_iff.1 h
      omega
     ·decide
    rw [if_neg n2,catOk_t (by omega),cond_true,catOk_t (by rw [List.length_append,List.length_singleton];omega),cond_true]
    exact ⟨_,_,rfl,rfl⟩
theorem lsseq_spec {R:Type} {k0:By→By→Int→Option R} (t p:By) (n:Int):lsseq LF t p n k0=k0 t p n:=rfl
theorem sseq_spec {R:Type} {k0:By→By→Option R} (t p:By):sseq LF t p k0=k0 t p:=rfl
theorem sseqf_loop {σ R:Type} (yh:Yh σ) (c:UInt8):∀ (m:Nat) (t:By) (n:Nat) (s s':σ),t.length≤m→t.length≤1000000000→m<n→seqRun yh ((pcs c t).map fun x=>([.s (.str x)]:List PV)) s=some s'→
  ∃ t' , (∃ s0:σ,∃ b:Bool,yh [.s (.str t')] s0=some (b,s')∧∀ (k0 k1:By→By→Int→σ→Option R),sseqf_l1 yh LF n [c] t 0 s k0 k1=k0 [c] t' 0 s0)∨(∀ (k0 k1:By→By→Int→σ→Option R),sseqf_l1 yh LF n [c] t 0 s k0 k1=k1 [c] t' 0 s'):=by
 intro m
 induction m with
 | zero=>
  intro t n s s' ht ht2 hn h
  obtain rfl:=List.length_eq_zero_iff.1 (Nat.le_zero.1 ht)
  obtain ⟨n,rfl⟩:∃ m,n=m+1:=⟨n-1,by omega⟩
  rw [pcs_none (by simp)] at h
  simp only [List.map_cons,List.map_nil,seqRun] at h
  refine ⟨[],.inl ⟨s,?_⟩⟩
  have e:∀ (k0 k1:By→By→Int→σ→Option R),sseqf_l1 yh LF (n+1) [c] [] 0 s k0 k1=k0 [c] [] 0 s:=fun k0 k1=>by
   rw [sseqf_l1_s]
   unfold sseqf_l1f
   rw [index_none (by simp)]
   rfl
  cases hy:yh [.s (.str [])] s with
  | none=>rw [hy] at h;cases h
  | some q=>
   obtain ⟨b,s1⟩:=q
   rw [hy] at h
   have:s1=s':=by cases b<;>simpa using h
   subst this
   exact ⟨b,rfl,e⟩
 | succ m ih=>
  intro t n s s' ht ht2 hn h
  obtain ⟨n,rfl⟩:∃ m,n=m+1:=⟨n-1,by omega⟩
  rcases split_first c t with hc | ⟨p,r,rfl,hc⟩
  ·rw [pcs_none hc] at h
   simp only [List.map_cons,List.map_nil,seqRun] at h
   refine ⟨t,.inl ⟨s,?_⟩⟩
   have e:∀ (k0 k1:By→By→Int→σ→Option R),sseqf_l1 yh LF (n+1) [c] t 0 s k0 k1=k0 [c] t 0 s:=fun k0 k1=>by
    rw [sseqf_l1_s]
    unfold sseqf_l1f
    rw [index_none hc,small_t ht2]
    rfl
   cases hy:yh [.s (.str t)] s with
   | none=>rw [hy] at h;cases h
   | some q=>
    obtain ⟨b,s1⟩:=q
    rw [hy] at h
    have:s1=s':=by cases b<;>simpa using h
    subst this
    exact ⟨b,rfl,e⟩
  ·rw [pcs_app hc] at h
   simp only [List.map_cons,seqRun] at h
   have hlen:(p++c::r).length=p.length+r.length+1:=by rw [List.length_append,List.length_cons];omega
   have e1:wi64 ((p.length:Int)+0)=((p.length:Nat):Int):=by rw [wi64_id (by omega) (by omega)];omega
   have e2:wi64 ((p.length:Int)+(([c]:By).length:Int))=((p.length+1:Nat):Int):=by
    rw [wi64_id (by simp;omega) (by simp;omega)];simp
   have e3:cut (p++c::r) 0 (p.length:Int)=p:=by rw [cut_zero,Int.toNat_natCast,List.take_left]
   have e4:cut (p++c::r) ((p.length+1:Nat):Int) ((p++c::r).length:Int)=r:=by
    rw [cut_all,Int.toNat_natCast,show p++c::r=(p++[c])++r by simp,List.drop_left' (by simp)]
   have top:∀ (k0 k1:By→By→Int→σ→Option R),sseqf_l1 yh LF (n+1) [c] (p++c::r) 0 s k0 k1=ydK (yh [.s (.str p)] s) fun b s1=>cond (not b) (k1 [c] (p++c::r) 0 s1) (sseqf_l1 yh LF n [c] r 0 s1 k0 k1):=fun k0 k1=>by
    rw [sseqf_l1_s]
    unfold sseqf_l1f
    rw [index_app hc,small_t ht2,cond_true,ltI_f (by omega),cond_false]
    simp only [vl,e1,e2,e3,e4]
    rw [sub3_t (by omega) (by omega) (by omega),cond_true,sub3_t (by omega) (by omega) (by omega)]
    rfl
   cases hy:yh [.s (.str p)] s with
   | none=>rw [hy] at h;cases h
   | some q=>
    obtain ⟨b,s1⟩:=q
    rw [hy] at h top
    cases b with
    | false=>
     have:s1=s':=by simpa using h
     subst this
     exact ⟨p++c::r,.inr fun k0 k1=>by rw [top];rfl⟩
    | true=>
     simp only at h
     obtain ⟨t',⟨s0,b,e,f⟩ | f⟩:=ih r n s1 s' (by omega) (by omega) (by omega) h
     ·exact ⟨t',.inl ⟨s0,b,e,fun k0 k1=>by rw [top];exact f k0 k1⟩⟩
     ·exact ⟨t',.inr fun k0 k1=>by rw [top];exact f k0 k1⟩
theorem sseqf_spec {σ R:Type} (yh:Yh σ) (p t:By) (n:Int) (s s':σ) (h:(small t.length&&(p.length==1&&n==0))=true) (hr:seqRun yh ((pcs (p.getD 0 0) t).map fun x=>([.s (.str x)]:List PV)) s=some s') :
  ∃ t',∀ (k0:By→By→Int→σ→Option R),sseqf yh LF p t n s k0=k0 p t' n s':=by
 have hLF:=LF_big
 simp only [Bool.and_eq_true,beq_iff_eq] at h
 obtain ⟨h1,h2,rfl⟩:=h
 obtain ⟨c,rfl⟩:=List.length_eq_one_iff.1 h2
 have ht:=maxL h1
 obtain ⟨t',⟨s0,b,e,f⟩ | f⟩:=sseqf_loop (R:=R) yh c t.length t LF s s' (Nat.le_refl _) ht (by omega) hr
 ·refine ⟨t',fun k0=>?_⟩
  unfold sseqf
  rw [show (((([c]:By).length:Nat):Int)==0)=false from rfl,cond_false]
  refine Eq.trans (f _ _) ?_
  rw [e]
  rfl
 ·refine ⟨t',fun k0=>?_⟩
  unfold sseqf
  rw [show (((([c]:By).length:Nat):Int)==0)=false from rfl,cond_false]
  exact f _ _
end Go.Proofs.YtcfingekgbbclaaGreatDoor.E
namespace Go.Proofs.YtcfingekgbbclaaGreatDoor.E
open Go Go.Proofs Go.ChangeShapes Go.WideShapes Go.ChangeAt Go.RowKit
set_option linter.unusedVariables false
set_option linter.unusedSimpArgs false
set_option maxRecDepth 100000
theorem own:ownKnob Tryz.prog.godebug=none:=by kernel_rfl
theorem laidOut:laidOutB Tryz.prog=true:=by kernel_rfl
noncomputable def gTy (g:Nat):Nat:=match Tryz.prog.globals[g]? with | some x=>x.type | none=>0
noncomputable def dbT:Nat:=gTy 5
noncomputable def powT:Nat:=gTy 1
noncomputable def accT:Nat:=gTy 3
noncomputable def firT:Nat:=gTy 2
noncomputable def accE:Nat:=match Tryz.prog.underlying accT with | some (.array _ e)=>e | _=>0
noncomputable def accF:Array Field:=match Tryz.prog.underlying accE with | some (.struct fs)=>fs | _=>#[]
noncomputable def accF0:Field:=match accF.toList with | a::_=>a | _=>default
noncomputable def accF1:Field:=match accF.toList with | _::a::_=>a | _=>default
theorem accF_0:accF[0]? = some accF0:=by unfold accF0 accF accE accT gTy;kernel_rfl
theorem accF_1:accF[1]? = some accF1:=by unfold accF1 accF accE accT gTy;kernel_rfl
def laidH:List (String × DataW Unit):=[("math/bits.deBruijn32tab", Rows.laid_math_bits_deBruijn32tab), ("math/bits.deBruijn64tab", Rows.laid_math_bits_deBruijn64tab), ("internal/strconv.uint64pow10", Rows.laid_internal_strconv_uint64pow10), ("unicode/utf8.acceptRanges", Rows.laid_unicode_utf8_acceptRanges), ("unicode/utf8.first", Rows.laid_unicode_utf8_first)]
theorem var_cells {W:World} {n:String} {g:Nat} {cs:Array Value} (hg:Tryz.prog.globalNamed n=some g) (h:W.var? Tryz.prog n=some cs):∃ e x,W.heap[g]? = some (.cells cs e x):=by
 unfold World.var? at h
 rw [hg,Option.bind_some] at h
 split at h
 ·rename_i c e x hh
  simp only [Option.some.injEq] at h
  subst h
  exact ⟨e,x,hh⟩
 ·cases h
theorem tab_cells {W:World} {n:String} {g t e m:Nat} {k:IntKind} {zs:List Int} (hg:Tryz.prog.globalNamed n=some g) (hty:(Tryz.prog.globals[g]?).map (·.type)=some t) (ht:Tryz.prog.underlying t=some (.array m e)) (he:Tryz.prog.underlying e=some (.int k)) (hce:Tryz.prog.cellsOf e=1) (hct:Tryz.prog.cellsOf t=m)
  (h:Lib.VarReads Tryz.prog W n (Lib.tabData k zs)):∃ e x,W.heap[g]? = some (.cells (zs.map fun z=>Value.int k z).toArray e x):=by
 obtain ⟨g',t',cs,fuel,p,h1,h2,h3,h4⟩:=h
 obtain rfl:=Option.some.inj (hg.symm.trans h1)
 obtain rfl:=Option.some.inj (hty.symm.trans h2)
 have hcs:=Lib.cells_of_tab ht he hce hct h4
 have:cs=(zs.map fun z=>Value.int k z).toArray:=by rw [←hcs]
 rw [this] at h3
 exact var_cells hg h3
theorem trod_array_len {H:Type} {enc:TypeId × Value→H} {P:Program} {w:World} {base:Nat} {sp:Nat→Bool} {held:Bool} {fuel:Nat} {t e:TypeId} {n:Nat} {cs:List Value} {d:DataW H} {p:List MemPlace} (ht:P.underlying t=some (.array n e))
  (h:DataW.trod enc P w base sp held fuel t cs=some (d,p)):cs.length=P.cellsOf t:=by
 cases fuel with
 | zero=>simp [DataW.trod] at h
 | succ fuel=>
  simp only [DataW.trod,ht] at h
  split at h
  ·rename_i hl
   simpa using hl
  ·cases h
theorem acc_cells {W:World} (hg : Tryz.prog.globalNamed "unicode/utf8.acceptRanges" = some 3) (h:Lib.VarReads Tryz.prog W "unicode/utf8.acceptRanges" Lib.acceptData) :
  ∃ e x,W.heap[3]? = some (.cells (accTab.map fun z=>Value.int .u8 z).toArray e x):=by
 obtain ⟨g',t,cs,fuel,p,h1,h2,h3,h4⟩:=h
 obtain rfl:=Option.some.inj (hg.symm.trans h1)
 have hty:(Tryz.prog.globals[3]?).map (·.type)=some accT:=by unfold accT;kernel_rfl
 obtain rfl:=Option.some.inj (hty.symm.trans h2)
 have ht:Tryz.prog.underlying accT=some (.array 16 accE):=by unfold accT accE;kernel_rfl
 have hl:=trod_array_len ht h4
 have hct:Tryz.prog.cellsOf accT=32:=by unfold accT;kernel_rfl
 have hce:Tryz.prog.cellsOf accE=2:=by unfold accE;kernel_rfl
 have hu:∃ fs,Tryz.prog.underlying accE=some (.struct fs)∧fs.size=2∧∀ (i:Nat) (f:Field),fs[i]? = some f→Tryz.prog.underlying f.type=some (.int .u8)∧f.offset=i∧Tryz.prog.cellsOf f.type=1:=by
  refine ⟨accF,by unfold accE accF;kernel_rfl,by unfold accF;kernel_rfl,fun i f hf=>?_⟩
  have:i<2:=by
   have:=(Array.getElem?_eq_some_iff.1 hf).1
   rwa [show accF.size=2 by unfold accF;kernel_rfl] at this
  match i,this with
  | 0,_=>
   obtain rfl:=Option.some.inj (hf.symm.trans (show accF[0]? = some accF0 from accF_0))
   exact ⟨by unfold accF0;kernel_rfl,by unfold accF0;kernel_rfl,by unfold accF0;kernel_rfl⟩
  | 1,_=>
   obtain rfl:=Option.some.inj (hf.symm.trans (show accF[1]? = some accF1 from accF_1))
   exact ⟨by unfold accF1;kernel_rfl,by unfold accF1;kernel_rfl,by unfold accF1;kernel_rfl⟩
 obtain ⟨fs,hu1,hu2,hu3⟩:=hu
 have hcs:cs.toList=accTab.map fun z=>Value.int .u8 z:=by
  have hlen:(accTab.map fun z=>Value.int .u8 z).length=32:=by rw [List.length_map];rfl
  apply List.ext_getElem?
  intro q
  by_cases hq:q<32
  ·obtain ⟨fuel',d,q',hdi,he⟩:=Lib.array_elem ht h4 (q / 2) (by omega)
   simp only [List.getElem?_map,List.getElem?_range (show q / 2<16 by omega),Option.map_some,Option.some.injEq] at hdi
   subst hdi
   rw [hce] at he
   have hz:=Lib.ints_of_struct hu1 hu3 (by rw [hce,hu2]) he
   have e0:=congrArg (·[q % 2]?) hz
   simp only [List.getElem?_take,List.getElem?_drop] at e0
   rw [if_pos (by omega),show q / 2*2+q % 2=q by omega] at e0
   rw [e0]
   unfold accTab
   have er:∀ g:Nat→Value,(List.map g (List.range 32))[q]? = some (g q):=fun g=>by
    rw [List.getElem?_map,List.getElem?_range hq]
    rfl
   rw [List.map_map,er]
   rcases Nat.mod_two_eq_zero_or_one q with h2 | h2
   ·simp [h2]
   ·simp [h2]
  ·rw [List.getElem?_eq_none (by omega),List.getElem?_eq_none (by omega)]
 have:cs=(accTab.map fun z=>Value.int .u8 z).toArray:=by rw [←hcs]
 rw [this] at h3
 exact var_cells hg h3
theorem gx_of_laid {C:Cfg} (hC:C.G=GX) {W:World} (hL:laidMet Tryz.prog laidH W) (hsh:W.ShapedOpen Tryz.prog):GOK C (· < W.heap.size) W:=by
 have lt:∀ {g:Nat} {o:Obj},W.heap[g]? = some o→g<W.heap.size:=fun h=>(Array.getElem?_eq_some_iff.1 h).1
 have r1:Lib.VarReads Tryz.prog W "math/bits.deBruijn64tab" (Lib.tabData .u8 (Lib.deBruijn64tab.map fun n:Nat=>(n:Int))):=Lib.laidMet.reads hL (by rw [show (Lib.tabData .u8 (Lib.deBruijn64tab.map fun n:Nat=>(n:Int)):DataW Unit)=Rows.laid_math_bits_deBruijn64tab by kernel_rfl];simp [laidH])
 have r2:Lib.VarReads Tryz.prog W "internal/strconv.uint64pow10" (Lib.tabData .u64 Lib.pow10Tab):=Lib.laidMet.reads hL (by rw [show (Lib.tabData .u64 Lib.pow10Tab:DataW Unit)=Rows.laid_internal_strconv_uint64pow10 by kernel_rfl];simp [laidH])
 have r3:Lib.VarReads Tryz.prog W "unicode/utf8.acceptRanges" Lib.acceptData:=Lib.laidMet.reads hL (by rw [show Lib.acceptData=Rows.laid_unicode_utf8_acceptRanges by kernel_rfl];simp [laidH])
 have r4:Lib.VarReads Tryz.prog W "unicode/utf8.first" (Lib.tabData .u8 Lib.firstTab):=Lib.laidMet.reads hL (by rw [show (Lib.tabData .u8 Lib.firstTab:DataW Unit)=Rows.laid_unicode_utf8_first by kernel_rfl];simp [laidH])
 have c1:=tab_cells (g:=5) (t:=dbT) (e:=5) (m:=64) (by kernel_rfl) (by unfold dbT;kernel_rfl) (by unfold dbT;kernel_rfl) (by kernel_rfl) (by kernel_rfl) (by unfold dbT;kernel_rfl) r1
 have c2:=tab_cells (g:=1) (t:=powT) (e:=112) (m:=20) (by kernel_rfl) (by unfold powT;kernel_rfl) (by unfold powT;kernel_rfl) (by kernel_rfl) (by kernel_rfl) (by unfold powT;kernel_rfl) r2
 have c3:=acc_cells (by kernel_rfl) r3
 have c4:=tab_cells (g:=2) (t:=firT) (e:=5) (m:=256) (by kernel_rfl) (by unfold firT;kernel_rfl) (by unfold firT;kernel_rfl) (by kernel_rfl) (by kernel_rfl) (by unfold firT;kernel_rfl) r4
 have c5:=cell_of_shapedOpen_int (k:=.i64) (g:=0) (t:=3) (zero:=#[.int .i64 0]) hsh (of_decide_eq_true (by kernel_rfl)) (by kernel_rfl) rfl (by kernel_rfl) (by kernel_rfl) (by kernel_rfl)
 refine ⟨fun g k zs h=>?_,fun g h=>?_⟩
 ·rw [hC] at h
  simp only [GX] at h
  have key:∀ {g0:Nat} {k0:IntKind} {zs0:List Int},(∃ e x,W.heap[g0]? = some (.cells (zs0.map fun z=>Value.int k0 z).toArray e x))→g=g0→(k0,zs0)=(k,zs)→g<W.heap.size∧∃ e x,W.heap[g]? = some (.cells (zs.map fun z=>Value.int k z).toArray e x):=fun hx e1 e2=>by
   subst e1
   cases e2
   obtain ⟨e,x,hx⟩:=hx
   exact ⟨lt hx,e,x,hx⟩
  cases b1:Nat.beq g 2 with
  | true=>rw [b1,cond_true] at h;exact key c4 (Nat.eq_of_beq_eq_true b1) (Option.some.inj h)
  | false=>
   rw [b1,cond_false] at h
   cases b2:Nat.beq g 3 with
   | true=>rw [b2,cond_true] at h;exact key c3 (Nat.eq_of_beq_eq_true b2) (Option.some.inj h)
   | false=>
    rw [b2,cond_false] at h
    cases b3:Nat.beq g 1 with
    | true=>rw [b3,cond_true] at h;exact key c2 (Nat.eq_of_beq_eq_true b3) (Option.some.inj h)
    | false=>
     rw [b3,cond_false] at h
     cases b4:Nat.beq g 5 with
     | true=>rw [b4,cond_true] at h;exact key c1 (Nat.eq_of_beq_eq_true b4) (Option.some.inj h)
     | false=>rw [b4,cond_false] at h;cases h
 ·rw [hC] at h
  have e:=Nat.eq_of_beq_eq_true h
  subst e
  obtain ⟨m,hm⟩:=c5
  refine ⟨?_,m,hm⟩
  apply Classical.byContradiction
  intro hge
  simp [World.cell?,Array.getElem?_eq_none (Nat.le_of_not_lt hge)] at hm
theorem laidWorld_shaped (os:Os) (args:Array Value):((World.laidAll Tryz.prog os laidH).forCall (fun _ _=>0) ⟨#[],args,[]⟩).Shaped Tryz.prog:=
 World.shaped_of_ZipB (by kernel_rfl) (by kernel_rfl)
theorem laidWorld_met (os:Os) (args:Array Value):laidMetH Tryz.prog laidH ((World.laidAll Tryz.prog os laidH).forCall (fun _ _=>0) ⟨#[],args,[]⟩).memory:=by
 rw [MakeChecks.laidMetH_plain _ _ _ (by kernel_rfl)]
 exact laidMet_laidAll _ (by kernel_rfl) (by kernel_rfl)
theorem law_handed {H:Type} {enc:TypeId × Value→H} {os:Os} (started:os.Started) {C:Cfg} (hCP:C.P=Tryz.prog) (hCG:C.G=GX) (hX:XOK C) (hO:OkFns C) {f tb:Nat} {fn:Func} {c:Code} {s:ChangeSpec} {conds:List PathCond} {apart fresh handsOn again:Bool} (noInit:Tryz.prog.inits.idxOf? f=none) (hfn:Tryz.prog.funcs[f]? = some fn) (hb:fn.body=some c) (hname:(fn.name == "runtime.NumGoroutine")=false)
  (hp:∀ t∈fn.params.toList,(Tryz.prog.readableRec t=true∧t<Tryz.prog.types.size)∧(tysOf Tryz.prog 20 t).isSome=true) (hres:fn.resultTypes = #[tb]) (hbool:Tryz.prog.underlying tb=some .bool) (hvars:s.vars=[])
  (hspec:∀ ds:List (DataW H),ds.length=fn.params.toList.length→s.fn H ds = { results:=[.lit (.bool true)],args:=ds })
  (wit:Array Value) (fuel:Nat) (hok:Input.okWideB Tryz.prog ((World.laidAll Tryz.prog os laidH).forCall (fun _ _=>0) ⟨#[],wit,[]⟩) f ⟨#[],wit,[]⟩=true)
  (hpre:s.preB enc Tryz.prog fn conds apart ((World.laidAll Tryz.prog os laidH).forCall (fun _ _=>0) ⟨#[],wit,[]⟩).memory wit fuel=true)
  (hsz:s.sizedB enc Tryz.prog fn apart ((World.laidAll Tryz.prog os laidH).forCall (fun _ _=>0) ⟨#[],wit,[]⟩).memory wit fuel=true)
  (hev:∀ args,ArgsOf Tryz.prog fn.params.toList args→∃ d Hc,evC C d Unit noY f args [] ()=some (.s (.bool true),Hc,())) :
  ReturnsInHanded {} Tryz.checked os f .any (fun w args=>(s.pre enc Tryz.prog fn conds apart w args∧laidMetH Tryz.prog laidH w)∧sizedMet enc Tryz.prog fn (OpenSpec.ofChange s) apart w args) (s.post enc Tryz.prog fn apart fresh handsOn again):=by
 obtain ⟨P,G,X,lend,okf,lf,keep,keepR,xp,keepE,keepT,Y,S,nt,rw0⟩:=C
 simp only at hCP hCG
 subst hCP
 refine returnsInHanded_of_calls (C:=Tryz.checked) own started noInit
  (ChangeSpec.witness_shaped (enc:=enc) (C:=Tryz.checked) (os:=os) (X:=fun w _=>laidMetH Tryz.prog laidH w) false (World.laidAll Tryz.prog os laidH) wit fuel (World.laidAll_os _ _ _) (laidWorld_shaped os wit) hok hpre hsz (laidWorld_met os wit)) ?_
 intro w tape i _ hsh _ hok hpre hholds
 obtain ⟨_,_,_,fn',hfn',_,_,_,_,hval⟩:=hok
 have e:fn'=fn:=Option.some.inj (hfn'.symm.trans hfn)
 subst e
 obtain ⟨⟨⟨ds,gs,before,hw,hc⟩,hx⟩,hz⟩:=hpre
 have hw':=DataW.Whole.of_heap (w':=w.forCall tape i) (by rfl) hw
 have hL:laidMet Tryz.prog laidH (w.forCall tape i):=by
  rw [MakeChecks.laidMetH_plain _ _ _ (by kernel_rfl)] at hx
  exact laidMet.of_heap (w':=w.forCall tape i) (by rfl) hx
 refine (contract (apart:=apart) (fresh:=fresh) (handsOn:=handsOn) (again:=again) hX hO follows laidOut hfn hb hname hp hres hbool hvars hspec hev (w.forCall tape i) (gx_of_laid hCG hL hsh) w.heap.size i.args ds gs before hval hw').mono fun e W' ⟨v,he,hp⟩=>?_
 subst he
 exact ChangeSpec.post_blind hp
end Go.Proofs.YtcfingekgbbclaaGreatDoor.E
namespace Go.Proofs.YtcfingekgbbclaaGreatDoor.E
open Go
set_option linter.unusedVariables false
set_option linter.unusedSimpArgs false
structure UrlV where
 sch:By
 user:By
 host:HostV
 port:Int
 rest:By
def noUrl:UrlV:=⟨[],[],noHost,0,[]⟩
def bHttp:By:=[104,116,116,112]
def bHttps:By:=[104,116,116,112,115]
def bWs:By:=[119,115]
def bWss:By:=[119,115,115]
def dport (s:By):Int:=if s==bHttp || s==bWs then 80 else if s==bHttps || s==bWss then 443 else -1
def special (s:By):Bool:=s==bHttp || s==bWs || (s==bHttps || s==bWss)
def insec (s:By):Bool:=s==bHttp || s==bWs
def ctl (b:UInt8):Bool:=Nat.ble b.toNat 32 || b==127
def letter (b:UInt8):Bool:=(Nat.ble 97 b.toNat&&Nat.ble b.toNat 122) || (Nat.ble 65 b.toNat&&Nat.ble b.toNat 90)
def schByte (b:UInt8):Bool:=letter b || (Nat.ble 48 b.toNat&&Nat.ble b.toNat 57) || b==43 || b==45 || b==46
def schemeB:By→Bool
 | []=>false
 | b::r=>letter b&&r.all schByte
def slashB (b:UInt8):Bool:=b==47 || b==63 || b==35
def spanU (s:By):Nat:=(s.takeWhile fun b=>!slashB b).length
def idx1 (c:UInt8):By→Option Nat
 | []=>none
 | b::r=>if b=c then some 0 else (idx1 c r).map (· + 1)
def numP:Int→By→Option Int
 | n,[]=>if n<65536 then some n else none
 | n,b::r=>if 48≤b.toNat∧b.toNat≤57 then numP (min (10*max n 0+((b.toNat-48:Nat):Int)) 65536) r else none
def nameTail (a:By):Option (By × By):=
 if a.head? = some 91 then (match idx1 93 a with
  | some k=>some (a.take (k+1),a.drop (k+1))
  | none=>none)
 else match idx1 58 a with
  | some k=>some (a.take k,a.drop k)
  | none=>some (a,[])
def hostPort (nm user rest:By) (a:By):UrlV × Nat:=
 match nameTail a with
 | none=>(noUrl,4)
 | some (name,tail)=>
  if tail≠[]∧tail.head?≠some 58 then (noUrl,4)
  else if (parseH name).2≠0 then (noUrl,(parseH name).2)
  else match numP (-1) (tail.drop 1) with
   | none=>(noUrl,16)
   | some p=>(⟨nm,user,(parseH name).1,if p=dport nm then -1 else p,rest⟩,0)
def placeU (nm rest auth:By):UrlV × Nat:=
 if 0≤lastI 64 auth then hostPort nm (auth.take (lastI 64 auth).toNat) rest (auth.drop ((lastI 64 auth).toNat+1)) else hostPort nm [] rest auth
def slashed (r:By):By:=if r.head? = some 47 then r else 47::r
def parseU0 (s:By):UrlV × Nat:=
 if s.any ctl then (noUrl,4)
 else if !(Lib.cut s [58]).2.2 || !schemeB (Lib.cut s [58]).1 then (noUrl,15)
 else if !special (lower (Lib.cut s [58]).1) then (⟨lower (Lib.cut s [58]).1,[],noHost,-1,(Lib.cut s [58]).2.1⟩,0)
 else if !([47,47]:By).isPrefixOf (Lib.cut s [58]).2.1 then (noUrl,4)
 else placeU (lower (Lib.cut s [58]).1) (slashed (((Lib.cut s [58]).2.1.drop 2).drop (spanU ((Lib.cut s [58]).2.1.drop 2)))) (((Lib.cut s [58]).2.1.drop 2).take (spanU ((Lib.cut s [58]).2.1.drop 2)))
def parseU (s:By):UrlV × Nat:=if 2048<s.length then (noUrl,3) else parseU0 s
def itoaI (p:Int):By:=if p<0 then 45::Lib.decDigits (-p).toNat else Lib.decDigits p.toNat
def authU (u:UrlV):By:=(if u.user=[] then [] else u.user++[64])++(fmtH u.host++(if u.port = -1 then [] else 58::itoaI u.port))
def textU (u:UrlV):By:=if special u.sch then u.sch++58::47::47::(authU u++u.rest) else u.sch++58::u.rest
def mkH4 (kd:Int) (nm:By) (v4:Int) (a:List Nat):HostV:=⟨if ltN kd 4 then kd.toNat else 4,nm,v4.toNat,a⟩
def mkU (sc us:By) (kd:Int) (nm:By) (v4:Int) (a:List Nat) (po:Int) (re:By):UrlV:=⟨sc,us,mkH4 kd nm v4 a,po,re⟩
def smU (sc us nm re:By):Bool:=Nat.ble sc.length 100000000&&Nat.ble us.length 100000000&&Nat.ble nm.length 100000000&&Nat.ble re.length 100000000
def eqH (a b:HostV):Bool:=a.kind==b.kind&&a.name==b.name&&a.v4==b.v4&&a.v6==b.v6
def eqU (a b:UrlV):Bool:=a.sch==b.sch&&a.user==b.user&&eqH a.host b.host&&a.port==b.port&&a.rest==b.rest
def validU (u:UrlV):Bool:=(parseU0 (textU u)).2==0&&eqU (parseU0 (textU u)).1 u
def fmtU (u:UrlV):By:=if validU u then textU u else []
def upS (sc:By):By:=if sc==bHttp then bHttps else if sc==bWs then bWss else sc
def upP (sc:By) (po:Int):Int:=if insec sc&&po==443 then -1 else po
def numV:By→Int
 | s=>let rec go:Int→By→Int
   | n,[]=>n
   | n,b::r=>if 48≤b.toNat∧b.toNat≤57 then go (min (10*max n 0+((b.toNat-48:Nat):Int)) 65536) r else 0
  go (-1) s
def firstIn (s t:By):Nat:=(s.takeWhile fun b=>!t.contains b).length
def isl:By:=[47,63,35]
def isSl (p:By):Bool:=p==isl
def vrune (r:Int):Bool:=ltN r 55296 || (ltI 57343 r&&ltN r 1114112)
def irn (r:Int):Int:=if r=47 then 0 else if r=63 then 1 else if r=35 then 2 else -1
def i64b (n:Int):Bool:=ltN (n+9223372036854775808) 18446744073709551616
abbrev uS (p:UrlV × Nat):By:=p.1.sch
abbrev uU (p:UrlV × Nat):By:=p.1.user
abbrev uK (p:UrlV × Nat):Int:=p.1.host.kind
abbrev uN (p:UrlV × Nat):By:=p.1.host.name
abbrev uV (p:UrlV × Nat):Int:=p.1.host.v4
abbrev uA (p:UrlV × Nat) (i:Nat):Int:=(p.1.host.v6.getD i 0:Nat)
abbrev uP (p:UrlV × Nat):Int:=p.1.port
abbrev uR (p:UrlV × Nat):By:=p.1.rest
abbrev uE (p:UrlV × Nat):Int:=p.2
theorem dport_special (s:By):decide (0<dport s)=special s:=by
 unfold dport special
 cases (s==bHttp || s==bWs) with
 | true=>rfl
 | false=>cases (s==bHttps || s==bWss)<;>rfl
theorem special_cases {s:By} (h:special s=true):s=bHttp∨s=bWs∨s=bHttps∨s=bWss:=by
 simp only [special,Bool.or_eq_true,beq_iff_eq] at h
 rcases h with (h | h) | (h | h)<;>simp [h]
theorem idx1_none {c:UInt8}:∀ {s:By},c∉s→idx1 c s=none
 | [],_=>rfl
 | b::r,h=>by
  simp only [List.mem_cons,not_or] at h
  rw [idx1,if_neg (Ne.symm h.1),idx1_none h.2]
  rfl
theorem idx1_some {c:UInt8}:∀ {s:By} {k:Nat},idx1 c s=some k→∃ p r,s=p++c::r∧c∉p∧p.length=k
 | [],k,h=>by cases h
 | b::s,k,h=>by
  rw [idx1] at h
  split at h
  ·rename_i hb
   obtain rfl:=Option.some.inj h
   exact ⟨[],s,by rw [hb];rfl,by simp,rfl⟩
  ·rename_i hb
   cases hi:idx1 c s with
   | none=>rw [hi] at h;cases h
   | some j=>
    rw [hi] at h
    obtain rfl:=Option.some.inj h
    obtain ⟨p,r,rfl,h1,rfl⟩:=idx1_some hi
    exact ⟨b::p,r,rfl,by simp only [List.mem_cons,not_or];exact ⟨Ne.symm hb,h1⟩,rfl⟩
theorem lastI_none {c:UInt8}:∀ {s:By},c∉s→lastI c s = -1
 | [],_=>rfl
 | b::r,h=>by
  simp only [List.mem_cons,not_or] at h
  rw [lastI,lastI_none h.2,if_pos (by decide),if_neg (Ne.symm h.1)]
theorem lastI_app {c:UInt8}:∀ (p:By) {r:By},c∉r→lastI c (p++c::r)=(p.length:Int)
 | [],r,h=>by rw [List.nil_append,lastI,lastI_none h,if_pos (by decide),if_pos rfl];rfl
 | b::p,r,h=>by
  rw [List.cons_append,lastI,lastI_app p h,if_neg (by omega),List.length_cons]
  omega
theorem lastSplit {c:UInt8}:∀ {s:By},c∈s→∃ p r,s=p++c::r∧c∉r
 | [],h=>by cases h
 | b::s,h=>by
  by_cases hs:c∈s
  ·obtain ⟨p,r,rfl,h1⟩:=lastSplit hs
   exact ⟨b::p,r,rfl,h1⟩
  ·simp only [List.mem_cons,hs,or_false] at h
   subst h
   exact ⟨[],s,rfl,hs⟩
theorem lastI_some {c:UInt8} {s:By} (h:0≤lastI c s):∃ p r,s=p++c::r∧c∉r∧lastI c s=(p.length:Int):=by
 by_cases hm:c∈s
 ·obtain ⟨p,r,rfl,h1⟩:=lastSplit hm
  exact ⟨p,r,rfl,h1,lastI_app p h1⟩
 ·rw [lastI_none hm] at h
  omega
theorem spanU_take (s:By):∀ b∈s.take (spanU s),slashB b=false:=by
 intro b hb
 have h:s.take (spanU s)=s.takeWhile fun b=>!slashB b:=by
  unfold spanU
  exact (List.prefix_iff_eq_take.1 (List.takeWhile_prefix _)).symm
 rw [h] at hb
 have:∀ l:By,b∈l.takeWhile (fun b=>!slashB b)→slashB b=false:=by
  intro l
  induction l with
  | nil=>intro h;cases h
  | cons x l ih=>
   intro h
   rw [List.takeWhile_cons] at h
   split at h
   ·rename_i hx
    rcases List.mem_cons.1 h with rfl | h
    ·simpa using hx
    ·exact ih h
   ·cases h
 exact this s hb
theorem letter_iff {b:UInt8}:letter b=true↔(97≤b.toNat∧b.toNat≤122)∨(65≤b.toNat∧b.toNat≤90):=by
 simp [letter,Nat.ble_eq]
theorem ctl_iff {b:UInt8}:ctl b=true↔b.toNat≤32∨b.toNat=127:=by
 unfold ctl
 rw [Bool.or_eq_true,Nat.ble_eq,beq_iff_eq]
 have:b=127↔b.toNat=127:=⟨fun h=>by rw [h];rfl,fun h=>UInt8.toNat_inj.1 h⟩
 rw [this]
theorem schByte_iff {b:UInt8}:schByte b=true↔(97≤b.toNat∧b.toNat≤122)∨(65≤b.toNat∧b.toNat≤90)∨(48≤b.toNat∧b.toNat≤57)∨b=43∨b=45∨b=46:=by
 simp only [schByte,Bool.or_eq_true,letter_iff,Bool.and_eq_true,Nat.ble_eq,beq_iff_eq,or_assoc]
abbrev clU (a b:By) (k:Int) (n:By) (v c d e f g h i j p:Int) (r:By):List PV:=[.s (.str a),.s (.str b),.s (.int .i64 k),.s (.str n),.s (.int .u32 v),.s (.int .u16 c),.s (.int .u16 d),.s (.int .u16 e),.s (.int .u16 f),.s (.int .u16 g),.s (.int .u16 h),.s (.int .u16 i),.s (.int .u16 j),.s (.int .i64 p),.s (.str r)]
abbrev clH (k:Int) (n:By) (v c d e f g h i j:Int):List PV:=[.s (.int .i64 k),.s (.str n),.s (.int .u32 v),.s (.int .u16 c),.s (.int .u16 d),.s (.int .u16 e),.s (.int .u16 f),.s (.int .u16 g),.s (.int .u16 h),.s (.int .u16 i),.s (.int .u16 j)]
abbrev bU (a b:By) (k:Int) (n:By) (v c d e f g h i j p:Int) (r:By):Blk:=.box (clU a b k n v c d e f g h i j p r)
abbrev gU (a b:By) (k:Int) (n:By) (v c d e f g h i j p:Int) (r:By):PV:=.agg (clU a b k n v c d e f g h i j p r)
abbrev bH (k:Int) (n:By) (v c d e f g h i j:Int):Blk:=.box (clH k n v c d e f g h i j)
abbrev bU0:Blk:=bU [] [] 0 [] 0 0 0 0 0 0 0 0 0 0 []
abbrev bQ (p:UrlV × Nat):Blk:=bU (uS p) (uU p) (uK p) (uN p) (uV p) (uA p 0) (uA p 1) (uA p 2) (uA p 3) (uA p 4) (uA p 5) (uA p 6) (uA p 7) (uP p) (uR p)
abbrev eqQH (p q:UrlV × Nat) (r:Bool):Bool:=((uK p)==(uK q))&&(((uN p)==(uN q))&&(((uV p)==(uV q))&&(((uA p 0)==(uA q 0))&&(((uA p 1)==(uA q 1))&&(((uA p 2)==(uA q 2))&&(((uA p 3)==(uA q 3))&&(((uA p 4)==(uA q 4))&&(((uA p 5)==(uA q 5))&&(((uA p 6)==(uA q 6))&&(((uA p 7)==(uA q 7))&&r))))))))))
end Go.Proofs.YtcfingekgbbclaaGreatDoor.E
namespace Go.Proofs.YtcfingekgbbclaaGreatDoor.E
open Go Go.Proofs 
set_option linter.unusedVariables false
set_option maxRecDepth 100000
section
def X_uport0:List PV→Tr
 | [.s (.str s)]=>.ret (.s (.int .i64 (dport s))) []
 | _=>.fail
def X_uport (args:List PV):Tr:=X_uport0 (fixL [[0]] args)
def X_uspec0:List PV→Tr
 | [.s (.str s)]=>.ret (.s (.bool (special s))) []
 | _=>.fail
def X_uspec (args:List PV):Tr:=X_uspec0 (fixL [[0]] args)
def X_uins0:List PV→Tr
 | [.agg [.s (.str sc),.s (.str us),.s (.int .i64 kd),.s (.str nm),.s (.int .u32 v4),.s (.int .u16 a0),.s (.int .u16 a1),.s (.int .u16 a2),.s (.int .u16 a3),.s (.int .u16 a4),.s (.int .u16 a5),.s (.int .u16 a6),.s (.int .u16 a7),.s (.int .i64 po),.s (.str re)]]=>.ret (.s (.bool (insec sc))) []
 | _=>.fail
def X_uins (args:List PV):Tr:=X_uins0 (fixL [[0,0,0,0,0,0,0,0,0,0,0,0,0,0,0]] args)
def X_usch0:List PV→Tr
 | [.s (.str s)]=>.need (small (List.length s)) (.ret (.s (.bool (schemeB s))) [])
 | _=>.fail
def X_usch (args:List PV):Tr:=X_usch0 (fixL [[0]] args)
def X_unum0:List PV→Tr
 | [.s (.str s)]=>.need (small (List.length s)) (.ret (.tup [.s (.int .i64 (numV s)),.s (.bool (Option.isSome (numP ((-1):Int) s)))]) [])
 | _=>.fail
def X_unum (args:List PV):Tr:=X_unum0 (fixL [[0]] args)
def X_uplace0:List PV→Tr
 | [.agg [.s (.str sc),.s (.str us),.s (.int .i64 kd),.s (.str nm),.s (.int .u32 v4),.s (.int .u16 a0),.s (.int .u16 a1),.s (.int .u16 a2),.s (.int .u16 a3),.s (.int .u16 a4),.s (.int .u16 a5),.s (.int .u16 a6),.s (.int .u16 a7),.s (.int .i64 po),.s (.str re)],.s (.str a)]=>.need (small (List.length sc)) (.need (small (List.length re)) (.need (small (List.length a)) (.need (List.isEmpty us) (.need (po==((-1):Int)) (.ret (.tup [.agg [.s (.str (uS (placeU sc re a))),.s (.str (uU (placeU sc re a))),.s (.int .i64 (uK (placeU sc re a))),.s (.str (uN (placeU sc re a))),.s (.int .u32 (uV (placeU sc re a))),.s (.int .u16 (uA (placeU sc re a) 0)),.s (.int .u16 (uA (placeU sc re a) 1)),.s (.int .u16 (uA (placeU sc re a) 2)),.s (.int .u16 (uA (placeU sc re a) 3)),.s (.int .u16 (uA (placeU sc re a) 4)),.s (.int .u16 (uA (placeU sc re a) 5)),.s (.int .u16 (uA (placeU sc re a) 6)),.s (.int .u16 (uA (placeU sc re a) 7)),.s (.int .i64 (uP (placeU sc re a))),.s (.str (uR (placeU sc re a)))],.s (.int .i64 (uE (placeU sc re a)))]) [])))))
 | _=>.fail
def X_uplace (args:List PV):Tr:=X_uplace0 (fixL [[0,0,0,0,0,0,0,0,0,0,0,0,0,0,0],[0]] args)
def X_uprs0:List PV→Tr
 | [.s (.str s)]=>.need (small (List.length s)) (.ret (.tup [.agg [.s (.str (uS (parseU0 s))),.s (.str (uU (parseU0 s))),.s (.int .i64 (uK (parseU0 s))),.s (.str (uN (parseU0 s))),.s (.int .u32 (uV (parseU0 s))),.s (.int .u16 (uA (parseU0 s) 0)),.s (.int .u16 (uA (parseU0 s) 1)),.s (.int .u16 (uA (parseU0 s) 2)),.s (.int .u16 (uA (parseU0 s) 3)),.s (.int .u16 (uA (parseU0 s) 4)),.s (.int .u16 (uA (parseU0 s) 5)),.s (.int .u16 (uA (parseU0 s) 6)),.s (.int .u16 (uA (parseU0 s) 7)),.s (.int .i64 (uP (parseU0 s))),.s (.str (uR (parseU0 s)))],.s (.int .i64 (uE (parseU0 s)))]) [])
 | _=>.fail
def X_uprs (args:List PV):Tr:=X_uprs0 (fixL [[0]] args)
def X_uparse0:List PV→Tr
 | [.s (.str s)]=>.need (small (List.length s)) (.ret (.tup [.agg [.s (.str (uS (parseU s))),.s (.str (uU (parseU s))),.s (.int .i64 (uK (parseU s))),.s (.str (uN (parseU s))),.s (.int .u32 (uV (parseU s))),.s (.int .u16 (uA (parseU s) 0)),.s (.int .u16 (uA (parseU s) 1)),.s (.int .u16 (uA (parseU s) 2)),.s (.int .u16 (uA (parseU s) 3)),.s (.int .u16 (uA (parseU s) 4)),.s (.int .u16 (uA (parseU s) 5)),.s (.int .u16 (uA (parseU s) 6)),.s (.int .u16 (uA (parseU s) 7)),.s (.int .i64 (uP (parseU s))),.s (.str (uR (parseU s)))],.s (.int .i64 (uE (parseU s)))]) [])
 | _=>.fail
def X_uparse (args:List PV):Tr:=X_uparse0 (fixL [[0]] args)
def X_utext0:List PV→Tr
 | [.agg [.s (.str sc),.s (.str us),.s (.int .i64 kd),.s (.str nm),.s (.int .u32 v4),.s (.int .u16 a0),.s (.int .u16 a1),.s (.int .u16 a2),.s (.int .u16 a3),.s (.int .u16 a4),.s (.int .u16 a5),.s (.int .u16 a6),.s (.int .u16 a7),.s (.int .i64 po),.s (.str re)]]=>.need (smU sc us nm re) (.need (ltN v4 4294967296) (.need (ok8 a0 a1 a2 a3 a4 a5 a6 a7) (.need (i64b po) (.ret (.s (.str (textU (mkU sc us kd nm v4 (n8 a0 a1 a2 a3 a4 a5 a6 a7) po re)))) []))))
 | _=>.fail
def X_utext (args:List PV):Tr:=X_utext0 (fixL [[0,0,0,0,0,0,0,0,0,0,0,0,0,0,0]] args)
def X_uvalidU0:List PV→Tr
 | [.agg [.s (.str sc),.s (.str us),.s (.int .i64 kd),.s (.str nm),.s (.int .u32 v4),.s (.int .u16 a0),.s (.int .u16 a1),.s (.int .u16 a2),.s (.int .u16 a3),.s (.int .u16 a4),.s (.int .u16 a5),.s (.int .u16 a6),.s (.int .u16 a7),.s (.int .i64 po),.s (.str re)]]=>.need (smU sc us nm re) (.need (ltN v4 4294967296) (.need (ok8 a0 a1 a2 a3 a4 a5 a6 a7) (.need (i64b po) (.ret (.s (.bool (validU (mkU sc us kd nm v4 (n8 a0 a1 a2 a3 a4 a5 a6 a7) po re)))) []))))
 | _=>.fail
def X_uvalidU (args:List PV):Tr:=X_uvalidU0 (fixL [[0,0,0,0,0,0,0,0,0,0,0,0,0,0,0]] args)
def X_ufmt0:List PV→Tr
 | [.agg [.s (.str sc),.s (.str us),.s (.int .i64 kd),.s (.str nm),.s (.int .u32 v4),.s (.int .u16 a0),.s (.int .u16 a1),.s (.int .u16 a2),.s (.int .u16 a3),.s (.int .u16 a4),.s (.int .u16 a5),.s (.int .u16 a6),.s (.int .u16 a7),.s (.int .i64 po),.s (.str re)]]=>.need (smU sc us nm re) (.need (ltN v4 4294967296) (.need (ok8 a0 a1 a2 a3 a4 a5 a6 a7) (.need (i64b po) (.ret (.s (.str (fmtU (mkU sc us kd nm v4 (n8 a0 a1 a2 a3 a4 a5 a6 a7) po re)))) []))))
 | _=>.fail
def X_ufmt (args:List PV):Tr:=X_ufmt0 (fixL [[0,0,0,0,0,0,0,0,0,0,0,0,0,0,0]] args)
def X_uup0:List PV→Tr
 | [.agg [.s (.str sc),.s (.str us),.s (.int .i64 kd),.s (.str nm),.s (.int .u32 v4),.s (.int .u16 a0),.s (.int .u16 a1),.s (.int .u16 a2),.s (.int .u16 a3),.s (.int .u16 a4),.s (.int .u16 a5),.s (.int .u16 a6),.s (.int .u16 a7),.s (.int .i64 po),.s (.str re)]]=>.ret (.agg [.s (.str (upS sc)),.s (.str us),.s (.int .i64 kd),.s (.str nm),.s (.int .u32 v4),.s (.int .u16 a0),.s (.int .u16 a1),.s (.int .u16 a2),.s (.int .u16 a3),.s (.int .u16 a4),.s (.int .u16 a5),.s (.int .u16 a6),.s (.int .u16 a7),.s (.int .i64 (upP sc po)),.s (.str re)]) []
 | _=>.fail
def X_uup (args:List PV):Tr:=X_uup0 (fixL [[0,0,0,0,0,0,0,0,0,0,0,0,0,0,0]] args)
def X_ruidx0:List PV→Tr
 | [.s (.str s),.s (.str t)]=>.need (small (List.length s)) (.need (small (List.length t)) (.ret (.s (.int .i64 (↑(firstIn s t):Int))) []))
 | _=>.fail
def X_itoaU0:List PV→Tr
 | [.s (.int .i64 n)]=>.need (i64b n) (.ret (.s (.str (itoaI n))) [])
 | _=>.fail
def X_itoaU (args:List PV):Tr:=X_itoaU0 (fixL [[0]] args)
def X_sidxb0:List PV→Tr
 | [.s (.str s),.s (.int .u8 c)]=>.need (small (List.length s)) (.need (inR c 256) (.ret (.s (.int .i64 (Lib.indexByte s (u8n c)))) []))
 | _=>.fail
def X_sidxb (args:List PV):Tr:=X_sidxb0 (fixL [[0],[0]] args)
def X_ltpre0:List PV→Tr
 | [.s (.str s),.s (.str p)]=>.need (small (List.length s)) (.ret (.s (.str (cutp s p))) [])
 | _=>.fail
def X_ltpre (args:List PV):Tr:=X_ltpre0 (fixL [[0],[0]] args)
def X_tpre0:List PV→Tr
 | [.s (.str s),.s (.str p)]=>.need (small (List.length s)) (.ret (.s (.str (cutp s p))) [])
 | _=>.fail
def X_tpre (args:List PV):Tr:=X_tpre0 (fixL [[0],[0]] args)
def X_sidxa0:List PV→Tr
 | [.s (.str s),.s (.str p)]=>.need (small (List.length s)) (.need (isSl p) (.ret (.s (.int .i64 (Lib.indexAny s p))) []))
 | _=>.fail
def X_sidxa (args:List PV):Tr:=X_sidxa0 (fixL [[0],[0]] args)
def X_awake150:List PV→Tr
 | []=>.ret (.s (.bool true)) []
 | _=>.fail
def X_awake15 (args:List PV):Tr:=X_awake150 (fixL [] args)
def X_uupI0:List PV→Tr
 | [.agg [.s (.str sc),.s (.str us),.s (.int .i64 kd),.s (.str nm),.s (.int .u32 v4),.s (.int .u16 a0),.s (.int .u16 a1),.s (.int .u16 a2),.s (.int .u16 a3),.s (.int .u16 a4),.s (.int .u16 a5),.s (.int .u16 a6),.s (.int .u16 a7),.s (.int .i64 po),.s (.str re)]]=>.need (insec sc) (.ret (.agg [.s (.str (upS sc)),.s (.str us),.s (.int .i64 kd),.s (.str nm),.s (.int .u32 v4),.s (.int .u16 a0),.s (.int .u16 a1),.s (.int .u16 a2),.s (.int .u16 a3),.s (.int .u16 a4),.s (.int .u16 a5),.s (.int .u16 a6),.s (.int .u16 a7),.s (.int .i64 (upP sc po)),.s (.str re)]) [])
 | _=>.fail
def X_uupI (args:List PV):Tr:=X_uupI0 (fixL [[0,0,0,0,0,0,0,0,0,0,0,0,0,0,0]] args)
def X_uupS0:List PV→Tr
 | [.agg [.s (.str sc),.s (.str us),.s (.int .i64 kd),.s (.str nm),.s (.int .u32 v4),.s (.int .u16 a0),.s (.int .u16 a1),.s (.int .u16 a2),.s (.int .u16 a3),.s (.int .u16 a4),.s (.int .u16 a5),.s (.int .u16 a6),.s (.int .u16 a7),.s (.int .i64 po),.s (.str re)]]=>.need (not (insec sc)) (.ret (.agg [.s (.str sc),.s (.str us),.s (.int .i64 kd),.s (.str nm),.s (.int .u32 v4),.s (.int .u16 a0),.s (.int .u16 a1),.s (.int .u16 a2),.s (.int .u16 a3),.s (.int .u16 a4),.s (.int .u16 a5),.s (.int .u16 a6),.s (.int .u16 a7),.s (.int .i64 po),.s (.str re)]) [])
 | _=>.fail
def X_uupS (args:List PV):Tr:=X_uupS0 (fixL [[0,0,0,0,0,0,0,0,0,0,0,0,0,0,0]] args)
def X_sidxaL0:List PV→Tr
 | [.s (.str s),.s (.str p)]=>.need (small (List.length s)) (.need (isSl p) (.need (Nat.ble 9 (List.length s)) (.ret (.s (.int .i64 (Lib.indexAny s p))) [])))
 | _=>.fail
def X_sidxaL (args:List PV):Tr:=X_sidxaL0 (fixL [[0],[0]] args)
def X_sidxaS0:List PV→Tr
 | [.s (.str s),.s (.str p)]=>.need (isSl p) (.need (Nat.ble (List.length s) 8) (.ret (.s (.int .i64 (Lib.indexAny s p))) []))
 | _=>.fail
def X_sidxaS (args:List PV):Tr:=X_sidxaS0 (fixL [[0],[0]] args)
def X_sshould0:List PV→Tr
 | [.s (.int .i64 n)]=>.ret (.s (.bool (ltI (8:Int) n))) []
 | _=>.fail
def X_sshould (args:List PV):Tr:=X_sshould0 (fixL [[0]] args)
def X_sirune0:List PV→Tr
 | [.s (.str p),.s (.int .i32 r)]=>.need (isSl p) (.need (ltN r 1114112) (.ret (.s (.int .i64 (irn r))) []))
 | _=>.fail
def X_sirune (args:List PV):Tr:=X_sirune0 (fixL [[0],[0]] args)
def X_smkset0:List PV→Tr
 | [.s (.str s)]=>.fail
 | _=>.fail
def X_smkset (args:List PV):Tr:=X_smkset0 (fixL [[0]] args)
def X_uvrune0:List PV→Tr
 | [.s (.int .i32 r)]=>.ret (.s (.bool (vrune r))) []
 | _=>.fail
def X_uvrune (args:List PV):Tr:=X_uvrune0 (fixL [[0]] args)
end
end Go.Proofs.YtcfingekgbbclaaGreatDoor.E
namespace Go.Proofs.YtcfingekgbbclaaGreatDoor.E
open Go Go.Proofs 
set_option linter.unusedVariables false
set_option maxRecDepth 100000
section
variable {σ R : Type} (lf : Nat) (cl : CallT) (yh : Yh σ) (s : σ) (k : Out → St σ → Option R)
noncomputable def c_awake15 (lf:Nat):Cfg:=mkCfg lf [12] (lookK []) [(13,X_uparse),(28,X_uup),(15,X_ufmt)] (lookK [(4,[0]),(3,[1,0,0,0,1]),(2,[1,0,0,0]),(1,[1,0]),(0,[])]) [15] (lookK []) (some [0]) [] [] []
noncomputable abbrev b_luc:Code:=bodyOf Tryz.f5
noncomputable def c_luc (lf:Nat):Cfg:=mkCfg lf [5] (lookK [(4,[0,0,0,3,0])]) [(12,X_awake15),(13,X_uparse),(17,X_rlow),(18,X_kmod)] (lookK [(12,[6]),(11,[14]),(10,[0,1,9]),(9,[6]),(8,[0,0,0,52]),(7,[0,0,0,5,0,0,0]),(6,[0,0,0,4,0,0]),(5,[0,0,0,4]),(4,[0,0,0,4,20]),(3,[0,0,0,4]),(2,[6]),(1,[0,0,0,14]),(0,[0,0,0])]) [12,17,18] (lookK [(0,[0,0,0,4]),(1,[0,0,0,4])]) (some [6]) [] [] [] (rw:=[(7,12),(11,16)])
noncomputable def luc_l0f {R:Type} (lf n:Nat) (self:By→Int→Int→Int→Option R) (s0:By) (at1 b2 kk3:Int) (k0:By→Int→Int→Int→Option R):Option R:=cond (ltI kk3 (↑(List.length s0):Int)) (cond (inR kk3 (List.length s0)) (cond ((bAt s0 kk3) != (58:Int)) (self s0 at1 b2 (wi64 (kk3+(1:Int)))) (k0 s0 at1 b2 kk3)) (none)) (k0 s0 at1 b2 kk3)
noncomputable def luc_l0 {R:Type} (lf n:Nat) (s0:By) (at1 b2 kk3:Int) (k0:By→Int→Int→Int→Option R):Option R:=recN (α:=By→Int→Int→Int→Option R) (fun _ _ _ _=>none) (fun n self s0 at1 b2 kk3=>luc_l0f lf n self s0 at1 b2 kk3 k0) n s0 at1 b2 kk3
theorem luc_l0_s {R:Type} (lf n:Nat) (s0:By) (at1 b2 kk3:Int) (k0:By→Int→Int→Int→Option R):luc_l0 lf (n+1) s0 at1 b2 kk3 k0=luc_l0f lf n (fun s0 at1 b2 kk3=>luc_l0 lf n s0 at1 b2 kk3 k0) s0 at1 b2 kk3 k0:=rfl
theorem luc_l0_eq (n:Nat) (s0:By) (at1 b2 kk3:Int):loopK 0 ((c_luc lf).keep 4) (bd (c_luc lf) cl yh (cd [1,1,1,0,0,0] b_luc)) n ⟨gp [(0,.s (.str s0)),(0,.s (.int .i64 at1)),(0,.s (.int .u8 b2)),(4,.s (.int .i64 kk3))] 74,[],s⟩ k =
 luc_l0 lf n s0 at1 b2 kk3 (fun s0 at1 b2 kk3=>k (.exit 0) ⟨gp [(0,.s (.str s0)),(0,.s (.int .i64 at1)),(0,.s (.int .u8 b2)),(4,.s (.int .i64 kk3))] 74,[],s⟩):=by
 induction n generalizing s0 at1 b2 kk3 with
 | zero=>rfl
 | succ n ih=>rw [luc_l0_s];unfold luc_l0f;exact (Eq.trans (by kernel_rfl) (cond_congr (cond_congr (cond_congr (ih s0 at1 b2 (wi64 (kk3+(1:Int)))) rfl) rfl) rfl))
noncomputable def luc {R:Type} (lf:Nat) (s0:By) (at1 b2:Int) (k0:Bool→(List Blk)→Option R):Option R:=cond (ltI (1000:Int) (↑(List.length s0):Int)) (k0 true []) (luc_l0 lf lf s0 at1 b2 0 (fun s'0 at'1 b'2 kk'3=>cond (small (List.length s'0)) (vl (parseU s'0) fun p'5=>cond (sub3 (0:Int) kk'3 (List.length s'0)) (cond (small (List.length (cut s'0 (0:Int) kk'3))) (vl (lower (cut s'0 (0:Int) kk'3)) fun s'9=>cond (sub3 kk'3 (↑(List.length s'0):Int) (List.length s'0)) (vl (cut s'0 kk'3 (↑(List.length s'0):Int)) fun s'10=>cond (catOk (List.length s'9) (List.length s'10)) (cond (small (List.length (s'9++s'10))) (vl (parseU (s'9++s'10)) fun p'11=>cond (not (((uS p'5)==(uS p'11))&&(((uU p'5)==(uU p'11))&&(eqQH p'5 p'11 ((((uP p'5)==(uP p'11))&&(((uR p'5)==(uR p'11))&&true))))))) (k0 false [(bQ p'5),(bQ p'11)]) (cond ((uE p'5) != (uE p'11)) (k0 false [(bQ p'5),(bQ p'11)]) (vl (wi64 ((↑(List.length s'0):Int)+(1:Int))) fun n'13=>cond (ltI (0:Int) n'13) (cond (ltN n'13 1000000000) (cond (sub3 (0:Int) (Int.emod at'1 n'13) (List.length s'0)) (vl (cut s'0 (0:Int) (Int.emod at'1 n'13)) fun s'14=>vl (Int.tmod b'2 (33:Int)) fun n'15=>cond (sub3 (Int.emod at'1 n'13) (↑(List.length s'0):Int) (List.length s'0)) (vl (cut s'0 (Int.emod at'1 n'13) (↑(List.length s'0):Int)) fun s'16=>cond (List.all [[(SV.int .u8 n'15)]] isU8) (vl (List.map elU8 [[(SV.int .u8 n'15)]]) fun s'17=>cond (catOk (List.length s'14) (List.length s'17)) (cond (catOk (List.length (s'14++s'17)) (List.length s'16)) (cond (small (List.length ((s'14++s'17)++s'16))) (vl (parseU ((s'14++s'17)++s'16)) fun p'18=>cond ((uE p'18)==(4:Int)) (k0 true [(bQ p'5),(bQ p'11)]) (k0 false [(bQ p'5),(bQ p'11)])) (none)) (none)) (none)) (none)) (none)) (none)) (none)) (none)))) (none)) (none)) (none)) (none)) (none)) (none)))
theorem luc_ev (d:Nat) (s0:By) (at1 b2:Int):evC (c_luc lf) (d+1) σ yh 5 [.s (.str s0),.s (.int .i64 at1),.s (.int .u8 b2)] [] s=luc lf s0 at1 b2 (fun r0 H1=>some (.s (.bool r0),H1,s)):=by
 refine (evC_eq (fn:=Tryz.f5) (by kernel_rfl) (by kernel_rfl) (by kernel_rfl)).trans ?_
 generalize evC (c_luc lf) d=cl
 unfold luc;exact (Eq.trans (by kernel_rfl) (cond_congr rfl ((luc_l0_eq lf cl yh s (blkK 0 (seqK (c_luc lf) cl yh (cd [1,1,1,1] b_luc) (retK (c_luc lf) Tryz.f5))) lf s0 at1 b2 0).trans (by kernel_rfl))))
end
end Go.Proofs.YtcfingekgbbclaaGreatDoor.E
