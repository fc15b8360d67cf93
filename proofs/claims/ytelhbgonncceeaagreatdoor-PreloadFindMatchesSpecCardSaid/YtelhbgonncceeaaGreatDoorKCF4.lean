/-
  Parts of the proof, merged by a program of the prover's own; no condition.
-/
import Derived.Test.YtelhbgonncceeaaGreatDoorKCF3
import Derived.Lib.TrimUEq
import Derived.Lib.ValidLaws
import Derived.Shelf.LaysM
import Derived.Shelf.Small.Strs
import Derived.Shelf.Spec.SlicesInsert
import Derived.Shelf.Spec.SlicesInsertGrow
import Derived.Shelf.Spec.TrailingZeros
import Derived.Shelf.Strconv.Itoa3
import Derived.Shelf.Strings.Count
import Derived.Shelf.Strings.Cut
import Derived.Shelf.Strings.IndexAnyAll
import Derived.Shelf.Strings.LastIndex
import Derived.Shelf.Strings.OnBuilder
import Derived.Shelf.Strings.Search3
import Derived.Shelf.Unicode.ValidAny
import Derived.Shelf.Utf8.RuneCount
import Derived.Test.YtelhbgonncceeaaGreatDoorProg
namespace Go.Proofs
open Go.Shelf
def Tryz.lays156_ren:Go.Shelf.Ren:=⟨fun | 156=>119 | 165=>162 | 166=>70 | 169=>72 | 240=>104 | 241=>187 | 276=>147 | 277=>196 | n=>n,fun | 31=>83 | 9=>9 | 3=>3 | 4=>4 | 0=>0 | 20=>20 | 72=>112 | 76=>115 | 70=>109 | 37=>110 | 75=>114 | 127=>142 | 164=>172 | 5=>5 | 80=>118 | n=>n,fun | n=>n⟩
theorem Tryz.lays156:Go.Proofs.Lays.n156 Tryz.prog Tryz.lays156_ren:={
 mixed:=by kernel_rfl
 f156:=Tryz.func119.trans (congrArg some (by kernel_rfl))
 f165:=Tryz.func162.trans (congrArg some (by kernel_rfl))
 f166:=Tryz.func70.trans (congrArg some (by kernel_rfl))
 f169:=Tryz.func72.trans (congrArg some (by kernel_rfl))
 f240:=Tryz.func104.trans (congrArg some (by kernel_rfl))
 f241:=Tryz.func187.trans (congrArg some (by kernel_rfl))
 f276:=Tryz.func147.trans (congrArg some (by kernel_rfl))
 f277:=Tryz.func196.trans (congrArg some (by kernel_rfl))
 t0:=Tryz.underlying0
 a0:=Tryz.isAgg0
 z0:=Tryz.sizeOf0
 v0:=Tryz.zeroValue0
 t3:=Tryz.underlying3
 a3:=Tryz.isAgg3
 z3:=Tryz.sizeOf3
 v3:=Tryz.zeroValue3
 t4:=Tryz.underlying4
 a4:=Tryz.isAgg4
 z4:=Tryz.sizeOf4
 v4:=Tryz.zeroValue4
 t9:=Tryz.underlying9
 a9:=Tryz.isAgg9
 z9:=Tryz.sizeOf9
 v9:=Tryz.zeroValue9
 t20:=Tryz.underlying20
 a20:=Tryz.isAgg20
 z20:=Tryz.sizeOf20
 v20:=Tryz.zeroValue20
 t31:=Tryz.underlying83
 a31:=Tryz.isAgg83
 z31:=Tryz.sizeOf83
 v31:=Tryz.zeroValue83
 t37:=Tryz.underlying110
 a37:=Tryz.isAgg110
 z37:=Tryz.sizeOf110
 v37:=Tryz.zeroValue110
 t70:=Tryz.underlying109
 a70:=Tryz.isAgg109
 z70:=Tryz.sizeOf109
 v70:=Tryz.zeroValue109
 t72:=Tryz.underlying112
 a72:=Tryz.isAgg112
 z72:=Tryz.sizeOf112
 v72:=Tryz.zeroValue112
 t75:=Tryz.underlying114
 a75:=Tryz.isAgg114
 z75:=Tryz.sizeOf114
 v75:=Tryz.zeroValue114
 t76:=Tryz.underlying115
 a76:=Tryz.isAgg115
 z76:=Tryz.sizeOf115
 v76:=Tryz.zeroValue115
 t127:=Tryz.underlying142
 a127:=Tryz.isAgg142
 z127:=Tryz.sizeOf142
 v127:=Tryz.zeroValue142
 t164:=Tryz.underlying172
 a164:=Tryz.isAgg172
 z164:=Tryz.sizeOf172
 v164:=Tryz.zeroValue172 }
theorem Tryz.Builder_Extra_156:Builder.Extra Tryz.prog Tryz.lays156_ren:={
 sizeBuilder:=by kernel_rfl
 liesBuilder:=by kernel_rfl
 t5:=Tryz.underlying5
 a5:=Tryz.isAgg5
 z5:=Tryz.sizeOf5
 v5:=Tryz.zeroValue5
 infoByte:=by kernel_rfl
 cellsByte:=by kernel_rfl
 sizeByte:=by kernel_rfl
 neB5:=by decide }
def Tryz.lays195_ren:Go.Shelf.Ren:=⟨fun | 195=>160 | n=>n,fun | 9=>9 | 3=>3 | 0=>0 | 4=>4 | n=>n,fun | n=>n⟩
theorem Tryz.lays195:Go.Proofs.Lays.n195 Tryz.prog Tryz.lays195_ren:={
 mixed:=by kernel_rfl
 f195:=Tryz.func160.trans (congrArg some (by kernel_rfl))
 t0:=Tryz.underlying0
 a0:=Tryz.isAgg0
 z0:=Tryz.sizeOf0
 v0:=Tryz.zeroValue0
 t3:=Tryz.underlying3
 a3:=Tryz.isAgg3
 z3:=Tryz.sizeOf3
 v3:=Tryz.zeroValue3
 t4:=Tryz.underlying4
 a4:=Tryz.isAgg4
 z4:=Tryz.sizeOf4
 v4:=Tryz.zeroValue4
 t9:=Tryz.underlying9
 a9:=Tryz.isAgg9
 z9:=Tryz.sizeOf9
 v9:=Tryz.zeroValue9 }
def Tryz.lays143_ren:Go.Shelf.Ren:=⟨fun | 143=>108 | 219=>109 | 217=>150 | 225=>151 | 224=>152 | 267=>153 | 266=>177 | 314=>178 | n=>n,fun | 9=>9 | 3=>3 | 4=>4 | 5=>5 | 46=>139 | 146=>192 | 51=>24 | n=>n,fun | 1=>0 | n=>n⟩
theorem Tryz.lays143:Go.Proofs.Lays.n143 Tryz.prog Tryz.lays143_ren:={
 mixed:=by kernel_rfl
 f143:=Tryz.func108.trans (congrArg some (by kernel_rfl))
 f217:=Tryz.func150.trans (congrArg some (by kernel_rfl))
 f219:=Tryz.func109.trans (congrArg some (by kernel_rfl))
 f224:=Tryz.func152.trans (congrArg some (by kernel_rfl))
 f225:=Tryz.func151.trans (congrArg some (by kernel_rfl))
 f266:=Tryz.func177.trans (congrArg some (by kernel_rfl))
 f267:=Tryz.func153.trans (congrArg some (by kernel_rfl))
 f314:=Tryz.func178.trans (congrArg some (by kernel_rfl))
 t3:=Tryz.underlying3
 a3:=Tryz.isAgg3
 z3:=Tryz.sizeOf3
 v3:=Tryz.zeroValue3
 t4:=Tryz.underlying4
 a4:=Tryz.isAgg4
 z4:=Tryz.sizeOf4
 v4:=Tryz.zeroValue4
 t5:=Tryz.underlying5
 a5:=Tryz.isAgg5
 z5:=Tryz.sizeOf5
 v5:=Tryz.zeroValue5
 t9:=Tryz.underlying9
 a9:=Tryz.isAgg9
 z9:=Tryz.sizeOf9
 v9:=Tryz.zeroValue9
 t46:=Tryz.underlying139
 a46:=Tryz.isAgg139
 z46:=Tryz.sizeOf139
 v46:=Tryz.zeroValue139
 t51:=Tryz.underlying24
 a51:=Tryz.isAgg24
 z51:=Tryz.sizeOf24
 v51:=Tryz.zeroValue24
 t146:=Tryz.underlying192
 a146:=Tryz.isAgg192
 z146:=Tryz.sizeOf192
 v146:=Tryz.zeroValue192
 g1:=by kernel_rfl }
def Tryz.lays145_ren:Go.Shelf.Ren:=⟨fun | 145=>50 | 220=>82 | 219=>109 | 217=>150 | 225=>151 | 224=>152 | 267=>153 | 266=>177 | 314=>178 | n=>n,fun | 9=>9 | 4=>4 | 59=>91 | 3=>3 | 5=>5 | 46=>139 | 146=>192 | 51=>24 | n=>n,fun | 1=>0 | n=>n⟩
theorem Tryz.lays145:Go.Proofs.Lays.n145 Tryz.prog Tryz.lays145_ren:={
 mixed:=by kernel_rfl
 f145:=Tryz.func50.trans (congrArg some (by kernel_rfl))
 f217:=Tryz.func150.trans (congrArg some (by kernel_rfl))
 f219:=Tryz.func109.trans (congrArg some (by kernel_rfl))
 f220:=Tryz.func82.trans (congrArg some (by kernel_rfl))
 f224:=Tryz.func152.trans (congrArg some (by kernel_rfl))
 f225:=Tryz.func151.trans (congrArg some (by kernel_rfl))
 f266:=Tryz.func177.trans (congrArg some (by kernel_rfl))
 f267:=Tryz.func153.trans (congrArg some (by kernel_rfl))
 f314:=Tryz.func178.trans (congrArg some (by kernel_rfl))
 t3:=Tryz.underlying3
 a3:=Tryz.isAgg3
 z3:=Tryz.sizeOf3
 v3:=Tryz.zeroValue3
 t4:=Tryz.underlying4
 a4:=Tryz.isAgg4
 z4:=Tryz.sizeOf4
 v4:=Tryz.zeroValue4
 t5:=Tryz.underlying5
 a5:=Tryz.isAgg5
 z5:=Tryz.sizeOf5
 v5:=Tryz.zeroValue5
 t9:=Tryz.underlying9
 a9:=Tryz.isAgg9
 z9:=Tryz.sizeOf9
 v9:=Tryz.zeroValue9
 t46:=Tryz.underlying139
 a46:=Tryz.isAgg139
 z46:=Tryz.sizeOf139
 v46:=Tryz.zeroValue139
 t51:=Tryz.underlying24
 a51:=Tryz.isAgg24
 z51:=Tryz.sizeOf24
 v51:=Tryz.zeroValue24
 t59:=Tryz.underlying91
 a59:=Tryz.isAgg91
 z59:=Tryz.sizeOf91
 v59:=Tryz.zeroValue91
 t146:=Tryz.underlying192
 a146:=Tryz.isAgg192
 z146:=Tryz.sizeOf192
 v146:=Tryz.zeroValue192
 g1:=by kernel_rfl }
def Tryz.lays138_ren:Go.Shelf.Ren:=⟨fun | 138=>182 | 195=>160 | 218=>193 | 143=>108 | 219=>109 | 217=>150 | 225=>151 | 224=>152 | 267=>153 | 266=>177 | 314=>178 | n=>n,fun | 9=>9 | 3=>3 | 4=>4 | 5=>5 | 0=>0 | 46=>139 | 146=>192 | 51=>24 | n=>n,fun | 1=>0 | n=>n⟩
theorem Tryz.lays138:Go.Proofs.Lays.n138 Tryz.prog Tryz.lays138_ren:={
 mixed:=by kernel_rfl
 f138:=Tryz.func182.trans (congrArg some (by kernel_rfl))
 f143:=Tryz.func108.trans (congrArg some (by kernel_rfl))
 f195:=Tryz.func160.trans (congrArg some (by kernel_rfl))
 f217:=Tryz.func150.trans (congrArg some (by kernel_rfl))
 f218:=Tryz.func193.trans (congrArg some (by kernel_rfl))
 f219:=Tryz.func109.trans (congrArg some (by kernel_rfl))
 f224:=Tryz.func152.trans (congrArg some (by kernel_rfl))
 f225:=Tryz.func151.trans (congrArg some (by kernel_rfl))
 f266:=Tryz.func177.trans (congrArg some (by kernel_rfl))
 f267:=Tryz.func153.trans (congrArg some (by kernel_rfl))
 f314:=Tryz.func178.trans (congrArg some (by kernel_rfl))
 t0:=Tryz.underlying0
 a0:=Tryz.isAgg0
 z0:=Tryz.sizeOf0
 v0:=Tryz.zeroValue0
 t3:=Tryz.underlying3
 a3:=Tryz.isAgg3
 z3:=Tryz.sizeOf3
 v3:=Tryz.zeroValue3
 t4:=Tryz.underlying4
 a4:=Tryz.isAgg4
 z4:=Tryz.sizeOf4
 v4:=Tryz.zeroValue4
 t5:=Tryz.underlying5
 a5:=Tryz.isAgg5
 z5:=Tryz.sizeOf5
 v5:=Tryz.zeroValue5
 t9:=Tryz.underlying9
 a9:=Tryz.isAgg9
 z9:=Tryz.sizeOf9
 v9:=Tryz.zeroValue9
 t46:=Tryz.underlying139
 a46:=Tryz.isAgg139
 z46:=Tryz.sizeOf139
 v46:=Tryz.zeroValue139
 t51:=Tryz.underlying24
 a51:=Tryz.isAgg24
 z51:=Tryz.sizeOf24
 v51:=Tryz.zeroValue24
 t146:=Tryz.underlying192
 a146:=Tryz.isAgg192
 z146:=Tryz.sizeOf192
 v146:=Tryz.zeroValue192
 g1:=by kernel_rfl }
def Tryz.lays196_ren:Go.Shelf.Ren:=⟨fun | 196=>159 | 259=>183 | n=>n,fun | 9=>9 | 4=>4 | 3=>3 | 5=>5 | 12=>12 | 119=>188 | 0=>0 | 46=>139 | 139=>191 | 138=>190 | 53=>168 | n=>n,fun | 3=>1 | 4=>2 | n=>n⟩
theorem Tryz.lays196:Go.Proofs.Lays.n196 Tryz.prog Tryz.lays196_ren:={
 mixed:=by kernel_rfl
 f196:=Tryz.func159.trans (congrArg some (by kernel_rfl))
 f259:=Tryz.func183.trans (congrArg some (by kernel_rfl))
 t0:=Tryz.underlying0
 a0:=Tryz.isAgg0
 z0:=Tryz.sizeOf0
 v0:=Tryz.zeroValue0
 t3:=Tryz.underlying3
 a3:=Tryz.isAgg3
 z3:=Tryz.sizeOf3
 v3:=Tryz.zeroValue3
 t4:=Tryz.underlying4
 a4:=Tryz.isAgg4
 z4:=Tryz.sizeOf4
 v4:=Tryz.zeroValue4
 t5:=Tryz.underlying5
 a5:=Tryz.isAgg5
 z5:=Tryz.sizeOf5
 v5:=Tryz.zeroValue5
 t9:=Tryz.underlying9
 a9:=Tryz.isAgg9
 z9:=Tryz.sizeOf9
 v9:=Tryz.zeroValue9
 t12:=Tryz.underlying12
 a12:=Tryz.isAgg12
 z12:=Tryz.sizeOf12
 v12:=Tryz.zeroValue12
 t46:=Tryz.underlying139
 a46:=Tryz.isAgg139
 z46:=Tryz.sizeOf139
 v46:=Tryz.zeroValue139
 t53:=Tryz.underlying168
 a53:=Tryz.isAgg168
 z53:=Tryz.sizeOf168
 v53:=Tryz.zeroValue168
 t119:=Tryz.underlying188
 a119:=Tryz.isAgg188
 z119:=Tryz.sizeOf188
 t138:=Tryz.underlying190
 a138:=Tryz.isAgg190
 z138:=Tryz.sizeOf190
 v138:=Tryz.zeroValue190
 t139:=Tryz.underlying191
 a139:=Tryz.isAgg191
 z139:=Tryz.sizeOf191
 v139:=Tryz.zeroValue191
 g3:=by kernel_rfl
 g4:=by kernel_rfl }
def Tryz.lays2_21_ren:Go.Shelf.Ren:=⟨fun | 21=>199 | 27=>203 | 28=>204 | 35=>206 | 39=>208 | n=>n,fun | 22=>153 | 3=>3 | 4=>4 | 0=>0 | n=>n,fun | n=>n⟩
theorem Tryz.lays2_21:Go.Proofs.Lays2.n21 Tryz.prog Tryz.lays2_21_ren:={
 mixed:=by kernel_rfl
 f21:=Tryz.func199.trans (congrArg some (by kernel_rfl))
 f27:=Tryz.func203.trans (congrArg some (by kernel_rfl))
 f28:=Tryz.func204.trans (congrArg some (by kernel_rfl))
 f35:=Tryz.func206.trans (congrArg some (by kernel_rfl))
 f39:=Tryz.func208.trans (congrArg some (by kernel_rfl))
 t0:=Tryz.underlying0
 a0:=Tryz.isAgg0
 z0:=Tryz.sizeOf0
 v0:=Tryz.zeroValue0
 t3:=Tryz.underlying3
 a3:=Tryz.isAgg3
 z3:=Tryz.sizeOf3
 v3:=Tryz.zeroValue3
 t4:=Tryz.underlying4
 a4:=Tryz.isAgg4
 z4:=Tryz.sizeOf4
 v4:=Tryz.zeroValue4
 t22:=Tryz.underlying153
 a22:=Tryz.isAgg153
 z22:=Tryz.sizeOf153
 v22:=Tryz.zeroValue153
 i3:=by kernel_rfl }
def Tryz.lays149_ren:Go.Shelf.Ren:=⟨fun | 149=>97 | 222=>142 | n=>n,fun | 9=>9 | 5=>5 | 3=>3 | 4=>4 | n=>n,fun | n=>n⟩
theorem Tryz.lays149:Go.Proofs.Lays.n149 Tryz.prog Tryz.lays149_ren:={
 mixed:=by kernel_rfl
 f149:=Tryz.func97.trans (congrArg some (by kernel_rfl))
 f222:=Tryz.func142.trans (congrArg some (by kernel_rfl))
 t3:=Tryz.underlying3
 a3:=Tryz.isAgg3
 z3:=Tryz.sizeOf3
 v3:=Tryz.zeroValue3
 t4:=Tryz.underlying4
 a4:=Tryz.isAgg4
 z4:=Tryz.sizeOf4
 v4:=Tryz.zeroValue4
 t5:=Tryz.underlying5
 a5:=Tryz.isAgg5
 z5:=Tryz.sizeOf5
 v5:=Tryz.zeroValue5
 t9:=Tryz.underlying9
 a9:=Tryz.isAgg9
 z9:=Tryz.sizeOf9
 v9:=Tryz.zeroValue9 }
end Go.Proofs
namespace Go.Proofs.YtelhbgonncceeaaGreatDoor.E
set_option linter.all false
section
open Go Go.Proofs Go.Sort
set_option maxRecDepth 100000
theorem Aq1 {C:Cfg} {St:Nat->Prop} {w:World} {g:Nat} {k:IntKind} {zs:List Int} (hG:GOK C St w) (hc:C.G=GX) (h:GX.tab g=some (k,zs)):∃ e x,w.heap[g]? = some (.cells (zs.map λz=>Value.int k z).toArray e x):=(hG.1 g k zs (by rw [hc];exact h)).2
theorem Aq0 {C:Cfg} {St:Nat->Prop} {w:World} (hG:GOK C St w) (hc:C.G=GX):∃ m,w.cell? ⟨0,0,none⟩=some (.int .i64 m):=(hG.2 _ (by rw [hc];rfl)).2
theorem GK {w:World} {g:Nat} {zs:List Int} {k:IntKind} {e:TypeId} {x} (h:w.heap[g]? = some (.cells (zs.map λz=>Value.int k z).toArray e x)) (i:Nat) (hi:i<zs.length):w.cell? ⟨g,i,none⟩=some (.int k (zs.getD i 0)):=by
 simp [World.cell?,h,List.getD_eq_getElem?_getD,List.getElem?_eq_getElem hi]
theorem A42 {C:Cfg} {St:Nat->Prop} {w:World} (hG:GOK C St w) (hc:C.G=GX):Lib.Utf8Tabs 1 2 w:=by
 obtain ⟨e1,x1,h1⟩:=Aq1 (g:=1) (k:=.u8) (zs:=Lib.firstTab) hG hc rfl
 obtain ⟨e2,x2,h2⟩:=Aq1 (g:=2) (k:=.u8) (zs:=Cq) hG hc rfl
 refine ⟨λc hc=>?_,λi hi=>⟨?_,?_⟩⟩
 ·rw [GK h1 c (by simp [Lib.firstTab];omega)]
  simp [Lib.firstTab,List.getD_eq_getElem?_getD,List.getElem?_eq_getElem,hc]
 ·rw [GK h2 (2*i) (by simp [Cq];omega)]
  have:2*i<32:=by omega
  simp [Cq,List.getD_eq_getElem?_getD,this]
 ·rw [GK h2 (2*i+1) (by simp [Cq];omega)]
  have:2*i+1<32:=by omega
  have e:(2*i+1) / 2=i:=by omega
  have e2:¬ (2*i+1) % 2=0:=by omega
  simp [Cq,List.getD_eq_getElem?_getD,this,e,e2]
theorem WB:B3 Tryz.prog GX 108 We:=by
 refine B3.fix (pf:=FC) _ (O6 (fn:=Tryz.f108) (by kernel_rfl) (by kernel_rfl) (by kernel_rfl) ?_)
 intro args ret Hc h
 unfold FC at h
 split at h
 ·rename_i s p
  obtain ⟨h0,h⟩:=C7 h
  obtain ⟨rfl,rfl⟩:=I9 h
  refine ⟨rfl,rfl,λC hP hCG Γ w Vs hG hlt hc=>?_⟩
  obtain ⟨U,V,rfl,hu,hv⟩:=hc.arr2
  obtain ⟨s',rfl,rfl⟩:=hu.inv_str
  obtain ⟨p',rfl,rfl⟩:=hv.inv_str
  obtain ⟨m,hm⟩:=Aq0 hG hCG
  have hs:=M3 h0
  refine (Any.strings_Index Tryz.lays143 s' p' m w (by simp at hs;omega) hm).mono ?_
  rintro e w' ⟨rfl,rfl⟩
  exact ⟨_,rfl,RowKit.Below.refl _ _,VP.mk_int _ _⟩
 ·cases h
theorem A07:B3 Tryz.prog GX 50 EY:=by
 refine B3.fix (pf:=EZ) _ (O6 (fn:=Tryz.f50) (by kernel_rfl) (by kernel_rfl) (by kernel_rfl) ?_)
 intro args ret Hc h
 unfold EZ at h
 split at h
 ·rename_i s p
  obtain ⟨h0,h⟩:=C7 h
  obtain ⟨rfl,rfl⟩:=I9 h
  refine ⟨rfl,rfl,λC hP hCG Γ w Vs hG hlt hc=>?_⟩
  obtain ⟨U,V,rfl,hu,hv⟩:=hc.arr2
  obtain ⟨s',rfl,rfl⟩:=hu.inv_str
  obtain ⟨p',rfl,rfl⟩:=hv.inv_str
  obtain ⟨m,hm⟩:=Aq0 hG hCG
  have hs:=M3 h0
  refine (Any.strings_Cut Tryz.lays145 s' p' m w (by simp at hs;omega) hm).mono ?_
  rintro e w' ⟨rfl,n,rfl⟩
  exact ⟨_,rfl,JG _ _,VP.mk_tup3 (VP.mk_str _) (VP.mk_str _) (VP.mk_bool _)⟩
 ·cases h
theorem A06:B3 Tryz.prog GX 182 OS:=by
 refine B3.fix (pf:=EX) _ (O6 (fn:=Tryz.f182) (by kernel_rfl) (by kernel_rfl) (by kernel_rfl) ?_)
 intro args ret Hc h
 unfold EX at h
 split at h
 ·rename_i s p
  obtain ⟨h0,h⟩:=C7 h
  obtain ⟨rfl,rfl⟩:=I9 h
  refine ⟨rfl,rfl,λC hP hCG Γ w Vs hG hlt hc=>?_⟩
  obtain ⟨U,V,rfl,hu,hv⟩:=hc.arr2
  obtain ⟨s',rfl,rfl⟩:=hu.inv_str
  obtain ⟨p',rfl,hp⟩:=hv.inv_str
  obtain ⟨c,rfl⟩:∃ c,p=[c]:=by
   match p,h0 with
   | [c],_=>exact ⟨c,rfl⟩
  have hp':p'=⟨#[c]⟩:=by
   cases p' with
   | mk d=>congr 1;exact Array.toList_inj.1 hp
  subst hp'
  refine (Any.strings_Count_one Tryz.lays138 s' c w).mono ?_
  rintro e w' ⟨rfl,rfl⟩
  exact ⟨_,rfl,RowKit.Below.refl _ _,VP.mk_int _ _⟩
 ·cases h
theorem Bd0 {l:LL} (h:l.all isS=true):l=H5 (l.map elS):=by
 unfold H5
 rw [List.map_map]
 symm
 rw [List.map_congr_left (g:=id)]
 ·simp
 ·intro x hx
  have:=List.all_eq_true.1 h x hx
  unfold isS at this
  split at this
  ·rfl
  grind
theorem Bf9:B3 Tryz.prog GX 119 WW:=by
 refine B3.fix (pf:=Wf) _ (O6 (fn:=Tryz.f119) (by kernel_rfl) (by kernel_rfl) (by kernel_rfl) ?_)
 intro args ret Hc h
 unfold Wf at h
 split at h
 ·rename_i z t l p
  obtain ⟨h0,h⟩:=C7 h
  obtain ⟨h1,h⟩:=C7 h
  obtain ⟨h2,h⟩:=C7 h
  obtain ⟨rfl,rfl⟩:=I9 h
  refine ⟨rfl,rfl,λC hP hCG Γ w Vs hG hlt hc=>?_⟩
  obtain ⟨U,V,rfl,hu,hv⟩:=hc.arr2
  obtain ⟨p',rfl,rfl⟩:=hv.inv_str
  have hlen:=M3 h1
  have hn:=M3 h2
  have hs:=hu.inv_s
  have none':∀ (a:Option Addr) (cap:Nat),l=[]->Calls Tryz.prog 119 #[.slice a 0 cap,.string p'] w λe w'=>∃ V,e = .returned V/\RowKit.Below w.heap.size w w'/\VP Γ (A2 []) w' (.s (.str (Lib.join (l.map elS) p'.data.toList))) V:=by
   intro a cap hl
   subst hl
   refine (Any.strings_Join_none Tryz.lays156 Tryz.Builder_Extra_156 a cap p' w).mono ?_
   rintro e w' ⟨rfl,rfl⟩
   exact ⟨_,rfl,RowKit.Below.refl _ _,VP.mk_str _⟩
  cases hs with
  | nil=>exact none' _ _ rfl
  | emp=>exact none' _ _ rfl
  | sl _ _ g off n cap sz Vc hn' hcap hm ht hg hl' hcl hvl=>
   subst hn'
   have hrow:=Bd0 h0
   have hsz:∀ i (h:i<l.length),∃ b:ByteArray,(l[i])=[SV.str b.data.toList]/\w.cell? ⟨g,off+i,none⟩=some (.string b):=by
    intro i hi
    have hx:=List.all_eq_true.1 h0 (l[i]) (List.getElem_mem hi)
    unfold isS at hx
    split at hx
    ·rename_i x he
     have hc1:=hcl i hi 0 (by rw [he];simp)
     have hv1:=hvl i hi 0 (by rw [he];simp)
     simp only [he,List.getElem_cons_zero] at hv1
     obtain ⟨b,hb,rfl⟩:=hv1.inv_str
     rw [hb] at hc1
     exact ⟨b,he,by simpa using hc1⟩
    ·cases hx
   obtain ⟨xs,hxs,hcx⟩:∃ xs:List ByteArray,xs.map (·.data.toList)=l.map elS/\∀ (j:Nat) x,xs[j]? = some x->w.cell? ⟨g,off+j,none⟩=some (.string x):=by
    refine ⟨(l.map elS).map λs=>⟨s.toArray⟩,by simp [Function.comp_def],?_⟩
    intro j x hx
    simp only [List.getElem?_map] at hx
    cases hj:l[j]? with
    | none=>simp [hj] at hx
    | some el=>
     obtain ⟨hj1,rfl⟩:=List.getElem?_eq_some_iff.1 hj
     obtain ⟨b,hb,hc2⟩:=hsz j hj1
     simp only [hj,Option.map_some,Option.some.injEq] at hx
     rw [hb] at hx
     simp [elS,SV.gS] at hx
     rw [<-hx]
     exact hc2
   have hll:xs.length=l.length:=by
    have:=congrArg List.length hxs
    simpa using this
   rw [<-hxs] at hlen ⊢
   have hb:g<w.heap.size:=hlt g hg
   have hmx:l.length<=140737488355328:=by omega
   refine (hll ▸ Any.strings_Join Tryz.lays156 Tryz.Builder_Extra_156 g off cap xs p' w hcx hb (by omega) (by omega) (by omega)).mono ?_
   rintro e w' ⟨rfl,hw⟩
   exact ⟨_,rfl,hw,VP.mk_str _⟩
 ·cases h
end
section
open Go Go.Proofs
set_option maxRecDepth 100000
section
variable {σ R : Type} (lf : Nat) (cl : D7) (yh : Yh σ) (s : σ) (k : Out -> St σ -> Option R)
noncomputable def Ab1 {R:Type} (lf n:Nat) (l_m0:Nat) (n1 n2:Int) (l3:LL) (k0:Int->LL->Option R) (k1:Nat->LL->Option R):Option R:=match n with | 0=>none | n+1=>cond (ltI n2 n1) (cond (inR n2 l_m0) (cond (okE Dw l3 (0+(Int.toNat n2)) 0) (vl (gX l3 (0+(Int.toNat n2)) 0) λs'33=>cond (A3 s'33.length) (vl (↑((Ka s'33)).2:Int) λn'35=>cond (n'35 != 0) (k0 n'35 l3) (cond (inR n2 l_m0) (cond (decide ((0+(Int.toNat n2))<l3.length)) (vl (List.set l3 (0+(Int.toNat n2)) (F5 (List.getD l3 (0+(Int.toNat n2)) []) 0 [(SV.str ((Ka s'33)).1)])) λl'36=>Ab1 lf n l_m0 n1 (A1 (n2+1)) l'36 k0 k1) none) none)) none) none) none) (k1 l_m0 l3)
noncomputable abbrev XE:Code:=D9 Tryz.f131
noncomputable def Gu (lf:Nat):Cfg:=C1 lf [131] (A6 [(6,[0,1,0,1,10,0,0])]) [(170,Ak6),(161,OO)] (A6 [(13,[2]),(12,[0,3,0,2]),(11,[0,2,1,10,0,0]),(10,[0,2,1,10,0,0]),(9,[2]),(8,[0,2,1,1,8,0,0,8]),(7,[0,2,1,1,8,0,0]),(6,[0,2,1,10,0,0,0]),(5,[0,2,1,10,0,0]),(4,[0,2,1]),(3,[2]),(2,[0,2,11]),(1,[0,2,0]),(0,[0])]) [161] (A6 [(0,[0,2,1]),(1,[0,2,1,10,0,0])]) (some [2]) [] [] []
noncomputable def R6 {R:Type} (lf n:Nat) (s0:By) (points_z1:Bool) (points2:LL) (basic3:Bool) (n4 n5:Int) (k0:Unit->Option R) (k1:By->Bool->LL->Bool->Option R):Option R:=match n with | 0=>none | n+1=>cond (ltI n5 n4) (cond (inR n5 points2.length) (cond (okE Gj points2 (Int.toNat n5) 0) (vl (gE points2 (Int.toNat n5) 0) λn'1=>cond (not (ltI n'1 65)) (cond (not (ltI 90 n'1)) (k0 ()) (cond basic3 (R6 lf n s0 points_z1 points2 (ltI n'1 128) n4 (A1 (n5+1)) k0 k1) (R6 lf n s0 points_z1 points2 false n4 (A1 (n5+1)) k0 k1))) (cond basic3 (R6 lf n s0 points_z1 points2 (ltI n'1 128) n4 (A1 (n5+1)) k0 k1) (R6 lf n s0 points_z1 points2 false n4 (A1 (n5+1)) k0 k1))) none) none) (k1 s0 points_z1 points2 basic3)
theorem LE (n s0 points_z1 points2 basic3 n4 n5):D5 0 ((Gu lf).keep 6) (bd (Gu lf) cl yh (cd [1,1,1,1,0,1,0,0] XE)) n ⟨gp [(0,pS s0),(2,.s (.sl points_z1 points_z1 1 points2)),(1,pB basic3),(10,.s (.sl points_z1 points_z1 1 points2)),(0,pI n4),(0,pI n5)] 31,[],s⟩ k =
 R6 lf n s0 points_z1 points2 basic3 n4 n5 (λ_=>k .ret ⟨gp [(2,pB false)] 47,[],s⟩) (λs0 points_z1 points2 basic3=>k (.exit 0) ⟨gp [(0,pS s0),(2,.s (.sl points_z1 points_z1 1 points2)),(1,pB basic3)] 44,[],s⟩):=by
 induction n generalizing s0 points_z1 points2 basic3 n4 n5 with
 | zero=>rfl
 | succ n ih=>rw [R6];simp only [<-ih];kernel_rfl
noncomputable def YF {R:Type} (lf:Nat) (s0:By) (k0:Bool->Option R):Option R:=cond (A3 s0.length) (cond ((↑((K3 s0)).2:Int) != 0) (k0 false) (R6 lf lf s0 (List.isEmpty ((K3 s0)).1) (Sj ((K3 s0)).1) true (↑(List.length (Sj ((K3 s0)).1)):Int) 0 (λ_=>k0 false) (λs'2 points_z'3 points'4 basic'5=>cond (List.all points'4 Jg) (vl ((R5 (List.map elI points'4))).1 λs'8=>vl (↑((R5 (List.map elI points'4))).2:Int) λn'9=>cond (not basic'5) (cond (n'9==0) (k0 (s'8==s'2)) (k0 false)) (k0 false)) none))) none
theorem As7 (d:Nat) (s0):evC (Gu lf) (d+1) σ yh 131 [pS s0] [] s=YF lf s0 (λr0=>some (pB r0,[],s)):=by
 refine (evE (fn:=Tryz.f131) (by kernel_rfl)).trans ?_
 generalize evC (Gu lf) d=cl
 unfold YF;exact (Eq.trans (by kernel_rfl) (A0 (A0 rfl ((LE lf cl yh s (G5 0 (G9 (Gu lf) cl yh (cd [1,1,1,1,1] XE) (H9 (Gu lf) Tryz.f131))) lf s0 (List.isEmpty ((K3 s0)).1) (Sj ((K3 s0)).1) true (↑(List.length (Sj ((K3 s0)).1)):Int) 0).trans (by kernel_rfl))) rfl))
noncomputable abbrev Am4:Code:=D9 Tryz.f94
noncomputable def Mn (lf:Nat):Cfg:=C1 lf [94] (A6 [(4,[0,1,26,0])]) [(130,Aj6),(131,WL)] (A6 [(11,[2]),(10,[5,0]),(9,[0,28,0]),(8,[2]),(7,[0,28,0,28]),(6,[0,3,24,0]),(5,[0,2,25,0]),(4,[0,28,0,0]),(3,[0,28,0]),(2,[2]),(1,[0,26]),(0,[0])]) [130,131] (A6 [(0,[0]),(1,[0,28,0])]) (some [2]) [] [] []
noncomputable def N4 {R:Type} (lf n:Nat) (s0:By) (n1 n2:Int) (k0:Unit->Option R) (k1:By->Option R):Option R:=match n with | 0=>none | n+1=>cond (ltI n2 n1) (cond (inR n2 s0.length) (cond (not (ltI (bAt s0 n2) (97:Int))) (cond (not (not (ltI 122 (bAt s0 n2)))) (cond (not (ltI (bAt s0 n2) (48:Int))) (cond (not (not (ltI 57 (bAt s0 n2)))) (cond ((bAt s0 n2) != 45) (cond ((bAt s0 n2) != 95) (k0 ()) (N4 lf n s0 n1 (A1 (n2+1)) k0 k1)) (N4 lf n s0 n1 (A1 (n2+1)) k0 k1)) (N4 lf n s0 n1 (A1 (n2+1)) k0 k1)) (cond ((bAt s0 n2) != 45) (cond ((bAt s0 n2) != 95) (k0 ()) (N4 lf n s0 n1 (A1 (n2+1)) k0 k1)) (N4 lf n s0 n1 (A1 (n2+1)) k0 k1))) (N4 lf n s0 n1 (A1 (n2+1)) k0 k1)) (cond (not (ltI (bAt s0 n2) (48:Int))) (cond (not (not (ltI 57 (bAt s0 n2)))) (cond ((bAt s0 n2) != 45) (cond ((bAt s0 n2) != 95) (k0 ()) (N4 lf n s0 n1 (A1 (n2+1)) k0 k1)) (N4 lf n s0 n1 (A1 (n2+1)) k0 k1)) (N4 lf n s0 n1 (A1 (n2+1)) k0 k1)) (cond ((bAt s0 n2) != 45) (cond ((bAt s0 n2) != 95) (k0 ()) (N4 lf n s0 n1 (A1 (n2+1)) k0 k1)) (N4 lf n s0 n1 (A1 (n2+1)) k0 k1)))) none) (k1 s0)
theorem RW (n s0 n1 n2):D5 0 ((Mn lf).keep 4) (bd (Mn lf) cl yh (cd [1,1,0,1,0,0] Am4)) n ⟨gp [(0,pS s0),(28,pI n1),(0,pI n2)] 41,[],s⟩ k =
 N4 lf n s0 n1 n2 (λ_=>k .ret ⟨gp [(2,pB false)] 69,[],s⟩) (λs0=>k (.exit 0) ⟨gp [(0,pS s0)] 71,[],s⟩):=by
 induction n generalizing s0 n1 n2 with
 | zero=>rfl
 | succ n ih=>rw [N4];simp only [<-ih];kernel_rfl
noncomputable def A76 {R:Type} (lf:Nat) (s0:By) (k0:Bool->Option R):Option R:=cond (ltI (s0.length:Int) (1:Int)) (k0 false) (cond (ltI 63 (s0.length:Int)) (k0 false) (cond (inR 0 s0.length) (cond ((bAt s0 (0:Int))==45) (k0 false) (vl (A1 ((s0.length:Int)-1)) λn'1=>cond (inR n'1 s0.length) (cond ((bAt s0 n'1)==45) (k0 false) (N4 lf lf s0 (s0.length:Int) 0 (λ_=>k0 false) (λs'2=>cond (A3 s'2.length) (vl (Wz s'2 ([120,110,45,45]:List UInt8)) λs'3=>cond (not (List.isPrefixOf ([120,110,45,45]:List UInt8) s'2)) (k0 true) (cond (A3 s'3.length) (k0 (Ak s'3)) none)) none))) none)) none))
theorem A77 (d:Nat) (s0):evC (Mn lf) (d+1) σ yh 94 [pS s0] [] s=A76 lf s0 (λr0=>some (pB r0,[],s)):=by
 refine (evE (fn:=Tryz.f94) (by kernel_rfl)).trans ?_
 generalize evC (Mn lf) d=cl
 unfold A76;exact (Eq.trans (by kernel_rfl) (A0 rfl (A0 rfl (A0 (A0 rfl (A9 λn'1=>(A0 (A0 rfl ((RW lf cl yh s (G5 0 (G9 (Mn lf) cl yh (cd [1,1,1] Am4) (H9 (Mn lf) Tryz.f94))) lf s0 (s0.length:Int) 0).trans (by kernel_rfl))) rfl))) rfl))))
noncomputable abbrev OY:Code:=D9 Tryz.f118
noncomputable def Ix (lf:Nat):Cfg:=C1 lf [118] (A6 [(9,[2,0,1,20])]) [(159,IY),(160,IX),(111,OK),(161,OO),(94,EB)] (A6 [(18,[2,0]),(17,[2,0]),(16,[4,41]),(15,[4]),(14,[2,0]),(13,[8,32]),(12,[8,0]),(11,[5,20]),(10,[5,1,18]),(9,[5,20,0,0]),(8,[5,20]),(7,[4,0]),(6,[4,19]),(5,[0,3]),(2,[2,0]),(4,[2,0]),(3,[0,13]),(1,[0,9]),(0,[0])]) [159,160,111,161,94] (A6 [(1,[5]),(2,[5,20]),(0,[0])]) (some [2,0]) [] [] []
noncomputable def Bo {R:Type} (lf n:Nat) (l0:LL) (s1:By) (m2:Nat) (k0:LL->By->Nat->Option R):Option R:=match n with | 0=>none | n+1=>cond (decide (m2<s1.length)) (vl ((Utf8.decode ⟨List.toArray s1⟩ m2)).1 λn'4=>cond (E3 (l0.length+1)) (Bo lf n (l0++[[(SV.int .i64 (A1 n'4))]]) s1 (m2+((Utf8.decode ⟨List.toArray s1⟩ m2)).2) k0) none) (k0 l0 s1 m2)
theorem RC (n:Nat) (l0:LL) (s1:By) (m2:Nat):D5 2 ((Ix lf).keep 9) (bd (Ix lf) cl yh (cd [1,1,1,0,1,0,1,0,1,0,0] OY)) n ⟨gp [(5,.fl 0),(20,.it 1)] 21,[.arr true 3 1 l0,.iter s1 m2],s⟩ k =
 Bo lf n l0 s1 m2 (λl0 s1 m2=>k (.exit 1) ⟨gp [(5,.fl 0)] 42,[.arr true 3 1 l0,.iter s1 m2],s⟩):=by
 induction n generalizing l0 s1 m2 with
 | zero=>rfl
 | succ n ih=>rw [Bo];simp only [<-ih];kernel_rfl
noncomputable def KU {R:Type} (lf:Nat) (s0:By) (k0:By->Int->Option R) (k1:By->Int->LL->By->Nat->Option R):Option R:=cond (A3 s0.length) (cond (not (Option.isSome (Di s0))) (k0 ([]:List UInt8) 4) (cond (A3 s0.length) (vl (↑(Lib.runeCountL s0):Int) λn'1=>cond (ltI 256 n'1) (k0 ([]:List UInt8) 3) (cond (A3 s0.length) (cond (A3 s0.length) (vl (↑(Lib.runeCountL s0):Int) λn'3=>cond (ltI n'3 (s0.length:Int)) (Bo lf lf [] (E9 s0) 0 (λl'5 s'6 m'7=>cond (List.all l'5 Jg) (vl ((R5 (List.map elI l'5))).1 λs'8=>vl (↑((R5 (List.map elI l'5))).2:Int) λn'9=>cond (n'9 != 0) (k1 ([]:List UInt8) 14 l'5 s'6 m'7) (cond (JO 4 s'8.length) (vl (([120,110,45,45]:List UInt8)++s'8) λs'10=>cond (A3 s'10.length) (cond (not (L0 s'10)) (k1 ([]:List UInt8) 14 l'5 s'6 m'7) (k1 s'10 0 l'5 s'6 m'7)) none) none)) none)) (cond (A3 (List.length (E9 s0))) (cond (not (L0 (E9 s0))) (k0 ([]:List UInt8) 14) (k0 (E9 s0) 0)) none)) none) none)) none)) none
theorem A54 (d:Nat) (s0):evC (Ix lf) (d+1) σ yh 118 [pS s0] [] s=KU lf s0 (λr0 r1=>some (.tup [pS r0,pI r1],[],s)) (λr0 r1 l2 s3 m4=>some (.tup [pS r0,pI r1],[.arr true 3 1 l2,.iter s3 m4],s)):=by
 refine (evE (fn:=Tryz.f118) (by kernel_rfl)).trans ?_
 generalize evC (Ix lf) d=cl
 unfold KU;exact (Eq.trans (by kernel_rfl) (A0 (A0 rfl (A0 (A9 λn'1=>(A0 rfl (A0 (A0 (A9 λn'3=>(A0 ((RC lf cl yh s (G5 1 (G9 (Ix lf) cl yh (cd [1,1,1,0,1,0,1,1] OY) (G9 (Ix lf) cl yh (cd [1,1,1,1] OY) (H9 (Ix lf) Tryz.f118)))) lf [] (E9 s0) 0).trans (by kernel_rfl)) (A0 (A0 rfl rfl) rfl))) rfl) rfl))) rfl)) rfl))
noncomputable abbrev Ly:Code:=D9 Tryz.f156
noncomputable def Ew (lf:Nat):Cfg:=C1 lf [156] (A6 []) [] (A6 [(7,[2]),(2,[2]),(4,[2]),(6,[2]),(5,[0,23]),(3,[0,12]),(1,[0,2]),(0,[0])]) [] (A6 [(0,[])]) (some [2]) [] [] []
noncomputable def Oh {R:Type} (b0:Int) (b1:Bool) (k0:Int->Option R) (k1:Int->Bool->Option R):Option R:=cond b1 (vl (A1 (wu8 (b0-97))) λn'1=>vl (A1 (n'1+10)) λn'2=>k0 n'2) (cond (not (ltI b0 65)) (cond (not (ltI 70 b0)) (vl (A1 (wu8 (b0-65))) λn'3=>vl (A1 (n'3+10)) λn'4=>k0 n'4) (k1 b0 (not (ltI 70 b0)))) (k1 b0 false))
abbrev BG (b:Code):Prop:=∀ (k:Out->St σ->Option R) b0 b1,B2 (Ew lf) cl yh b ⟨gp [(0,p8 b0),(12,pB b1)] 21,[],s⟩ k=Oh b0 b1 (λn0=>k .ret ⟨gp [(2,pI n0)] 32,[],s⟩) (λb0 b1=>k .normal ⟨gp [(0,p8 b0),(23,pB b1)] 10,[],s⟩)
theorem QS:BG (R:=R) lf cl yh s (cd [1,0,0,1,1,1] Ly):=by
 intro k b0 b1;unfold Oh;kernel_rfl
noncomputable def Oi {R:Type} (b0:Int) (b1:Bool) (k0:Int->Option R) (k1:Int->Bool->Option R):Option R:=cond b1 (vl (A1 (wu8 (b0-48))) λn'0=>k0 n'0) (cond (not (ltI b0 97)) (Oh b0 (not (ltI 102 b0)) (λn'5=>k0 n'5) (λb'6 b'7=>k1 b'6 b'7)) (Oh b0 false (λn'8=>k0 n'8) (λb'9 b'10=>k1 b'9 b'10)))
abbrev Ry (b:Code):Prop:=∀ (k:Out->St σ->Option R) b0 b1,B2 (Ew lf) cl yh b ⟨gp [(0,p8 b0),(2,pB b1)] 31,[],s⟩ k=Oi b0 b1 (λn0=>k .ret ⟨gp [(2,pI n0)] 32,[],s⟩) (λb0 b1=>k .normal ⟨gp [(0,p8 b0),(23,pB b1)] 10,[],s⟩)
theorem QT (b_100111:Code) (h_hdig_j0:BG (R:=R) lf cl yh s b_100111):Ry (R:=R) lf cl yh s (cd [1,0,0,1] (O9 [1,0,0,1,1,1] b_100111 Ly)):=by
 intro k b0 b1;unfold Oi;simp only [<-h_hdig_j0 k];kernel_rfl
theorem QU:Ry (R:=R) lf cl yh s (cd [1,0,0,1] Ly):=by
 intro k b0 b1;exact Eq.trans (by kernel_rfl) (QT lf cl yh s (cd [1,0,0,1,1,1] Ly) (QS lf cl yh s) k b0 b1)
noncomputable def Aq4 {R:Type} (lf:Nat) (b0:Int) (k0:Int->Option R):Option R:=cond (not (ltI b0 48)) (Oi b0 (not (ltI 57 b0)) (λn'11=>k0 n'11) (λb'12 b'13=>k0 (-1))) (Oi b0 false (λn'14=>k0 n'14) (λb'15 b'16=>k0 (-1)))
theorem A45 (b_1001:Code) (h_hdig_j1:Ry (R:=PV × List Blk × σ) lf cl yh s b_1001) (b0:Int):B2 (Ew lf) cl yh (cd [] (O9 [1,0,0,1] b_1001 Ly)) ⟨[p8 b0]++tps 34,[],s⟩ (H9 (Ew lf) Tryz.f156)=Aq4 lf b0 (λr0=>some (pI r0,[],s)):=by
 unfold Aq4;exact let K0:=(G5 0 (G9 (Ew lf) cl yh (cd [1,1] Ly) (H9 (Ew lf) Tryz.f156)));(Eq.trans (by kernel_rfl) (A0 ((h_hdig_j1 K0 b0 (not (ltI 57 b0))).trans (by kernel_rfl)) ((h_hdig_j1 K0 b0 false).trans (by kernel_rfl))))
theorem A46 (d:Nat) (b0):evC (Ew lf) (d+1) σ yh 156 [p8 b0] [] s=Aq4 lf b0 (λr0=>some (pI r0,[],s)):=
 (evE (fn:=Tryz.f156) (by kernel_rfl)).trans (Eq.trans (by kernel_rfl) (A45 lf (evC (Ew lf) d) yh s (cd [1,0,0,1] Ly) (QU lf (evC (Ew lf) d) yh s) b0))
noncomputable abbrev Al8:Code:=D9 Tryz.f114
noncomputable def Mg (lf:Nat):Cfg:=C1 lf [114] (A6 [(3,[0,1,0,0,0])]) [(156,Aj8)] (A6 [(14,[2,0]),(4,[0,3,0]),(13,[0,3,0]),(12,[0,3,0]),(11,[2,0]),(10,[0,3,0,0,0,39]),(9,[0,3,0,0,0]),(8,[2,0]),(7,[0,3,0,25]),(6,[0,3,0]),(5,[0,3,0,14]),(3,[0,3,0,8]),(2,[0,3,0]),(1,[0,3]),(0,[0])]) [156] (A6 [(0,[4]),(1,[0,3,0])]) (some [2,0]) [] [] []
noncomputable def N9 {R:Type} (lf n:Nat) (s0:By) (i1:Int) (l2:LL) (k0:LL->Option R) (k1:LL->Option R):Option R:=match n with | 0=>none | n+1=>cond (ltI i1 (s0.length:Int)) (cond (inR i1 s0.length) (cond ((bAt s0 i1) != 37) (cond (inR i1 s0.length) (cond (E3 (l2.length+1)) (N9 lf n s0 (A1 (i1+1)) (l2++[[(SV.int .u8 (bAt s0 i1))]]) k0 k1) none) none) (cond (not (ltI (A1 (i1+2)) (s0.length:Int))) (k0 l2) (cond (inR (A1 (i1+1)) s0.length) (vl (bAt s0 (A1 (i1+1))) λn'2=>cond (inR n'2 256) (cond (inR (A1 (i1+2)) s0.length) (vl (bAt s0 (A1 (i1+2))) λn'3=>cond (inR n'3 256) (cond (ltI (Jb (u8n n'2)) (0:Int)) (k0 l2) (cond (ltI (Jb (u8n n'3)) (0:Int)) (k0 l2) (vl (A1 ((16:Int)*(Jb (u8n n'2)))) λn'4=>vl (A1 (n'4+(Jb (u8n n'3)))) λn'5=>cond (E3 (l2.length+1)) (vl (A1 ((A1 (i1+2))+1)) λn'6=>N9 lf n s0 n'6 (l2++[[(SV.int .u8 (wu8 n'5))]]) k0 k1) none))) none) none) none) none))) none) (k1 l2)
theorem QR (n s0 i1 l2):D5 1 ((Mg lf).keep 3) (bd (Mg lf) cl yh (cd [1,0,1,1,0,1,0,0] Al8)) n ⟨gp [(0,pS s0),(3,.fl 0),(0,pI i1)] 54,[.arr false 5 1 l2],s⟩ k =
 N9 lf n s0 i1 l2 (λl0=>k .ret ⟨gp [(2,pS ([]:List UInt8)),(0,pB false)] 56,[.arr false 5 1 l0],s⟩) (λl0=>k (.exit 0) ⟨gp [(4,.fl 0)] 55,[.arr false 5 1 l0],s⟩):=by
 induction n generalizing s0 i1 l2 with
 | zero=>rfl
 | succ n ih=>rw [N9];simp only [<-ih];kernel_rfl
noncomputable def Aq3 {R:Type} (lf:Nat) (s0:By) (k0:By->Bool->LL->Option R):Option R:=cond ((decide ((0:Int)<=(s0.length:Int)))&&(E3 (Int.toNat (s0.length:Int)))) (N9 lf lf s0 0 [] (λl'7=>k0 ([]:List UInt8) false l'7) (λl'8=>cond (List.all l'8 Uj) (k0 (List.map Rn l'8) true l'8) none)) none
theorem A43 (d:Nat) (s0):evC (Mg lf) (d+1) σ yh 114 [pS s0] [] s=Aq3 lf s0 (λr0 r1 l2=>some (.tup [pS r0,pB r1],[.arr false 5 1 l2],s)):=by
 refine (evE (fn:=Tryz.f114) (by kernel_rfl)).trans ?_
 generalize evC (Mg lf) d=cl
 unfold Aq3;exact (Eq.trans (by kernel_rfl) (A0 ((QR lf cl yh s (G5 0 (G9 (Mg lf) cl yh (cd [1,0,1,1,1] Al8) (H9 (Mg lf) Tryz.f114))) lf s0 0 []).trans (by kernel_rfl)) rfl))
noncomputable def Oj {R:Type} (lf:Nat) (h0:Int) (h1:By) (h2 h3 h4 h5 h6 h7 h8 h9 h10:Int) (k0:Bool->Int->By->Int->Int->Int->Int->Int->Int->Int->Int->Int->LL->Option R):Option R:=cond (h0==1) (cond (A3 h1.length) (cond (E0 h1) (cond (h2==0) (k0 ((h3==0)&&((h4==0)&&((h5==0)&&((h6==0)&&((h7==0)&&((h8==0)&&((h9==0)&&((h10==0)&&true)))))))) h0 h1 h2 h3 h4 h5 h6 h7 h8 h9 h10 (List.replicate 8 [(SV.int .u16 (0:Int))])) (k0 false h0 h1 h2 h3 h4 h5 h6 h7 h8 h9 h10 (List.replicate 8 [(SV.int .u16 (0:Int))]))) (k0 false h0 h1 h2 h3 h4 h5 h6 h7 h8 h9 h10 (List.replicate 8 [(SV.int .u16 (0:Int))]))) none) (cond (h0==2) (cond (h1==[]) (k0 ((h3==0)&&((h4==0)&&((h5==0)&&((h6==0)&&((h7==0)&&((h8==0)&&((h9==0)&&((h10==0)&&true)))))))) h0 h1 h2 h3 h4 h5 h6 h7 h8 h9 h10 (List.replicate 8 [(SV.int .u16 (0:Int))])) (k0 false h0 h1 h2 h3 h4 h5 h6 h7 h8 h9 h10 (List.replicate 8 [(SV.int .u16 (0:Int))]))) (cond (h0==3) (cond (h1==[]) (k0 (h2==0) h0 h1 h2 h3 h4 h5 h6 h7 h8 h9 h10 (List.replicate 8 [(SV.int .u16 (0:Int))])) (k0 false h0 h1 h2 h3 h4 h5 h6 h7 h8 h9 h10 (List.replicate 8 [(SV.int .u16 (0:Int))]))) (k0 false h0 h1 h2 h3 h4 h5 h6 h7 h8 h9 h10 (List.replicate 8 [(SV.int .u16 (0:Int))]))))
end
section
variable {σ R : Type} (lf : Nat) (cl : D7) (yh : Yh σ) (s : σ) (k : Out -> St σ -> Option R)
noncomputable def PQ (lf:Nat):Cfg:=C1 lf [194] (A6 []) [] (A6 [(2,[2]),(1,[1,1]),(0,[1])]) [] (A6 []) (some [2]) [] [] []
noncomputable def Bl9 {R:Type} (lf:Nat) (b:Int) (k0:Int->Option R):Option R:=k0 b
theorem A98 (d:Nat) (b):evC (PQ lf) (d+1) σ yh 194 [pI b] [] s=Bl9 lf b (λn0=>some (.fnr (Fn.func 201) [] [.ptr 1 0 0,.ptr 0 0 0],[.box [pI n0],.box [pI (0:Int)]],s)):=by
 refine (evE (fn:=Tryz.f194) (by kernel_rfl)).trans ?_
 generalize evC (PQ lf) d=cl
 unfold Bl9;kernel_rfl
noncomputable def FX (lf:Nat):Cfg:=C1 lf [201] (A6 []) [] (A6 [(2,[2]),(1,[0,0]),(0,[0,0])]) [] (A6 []) (some [2]) [] [] []
noncomputable def YR {R:Type} (lf:Nat) (k b:Int) (k0:Int->Int->Int->Option R):Option R:=vl (A1 ((A1 (k+36))-b)) λn'0=>vl (if ((26:Int)<(if ((1:Int) > n'0) then (1:Int) else n'0)) then (26:Int) else (if ((1:Int) > n'0) then (1:Int) else n'0)) λn'1=>k0 n'1 (A1 (k+36)) b
theorem Au6 (d:Nat) (k b):evC (FX lf) (d+1) σ yh 201 [.ptr 0 0 0,.ptr 1 0 0] [.box [pI k],.box [pI b]] s=YR lf k b (λr0 n1 n2=>some (pI r0,[.box [pI n1],.box [pI n2]],s)):=by
 refine (evE (fn:=Tryz.f201) (by kernel_rfl)).trans ?_
 generalize evC (FX lf) d=cl
 unfold YR;kernel_rfl
noncomputable abbrev Bi7:Code:=D9 Tryz.f185
noncomputable def Rj (lf:Nat):Cfg:=C1 lf [185] (A6 [(2,[0,0,4,0])]) [(194,Vr),(195,ON)] (A6 [(6,[0,0,5]),(5,[0,0,5,0]),(4,[6]),(3,[0,0,5,0,6]),(2,[0,0,5,0]),(1,[0,0,5]),(0,[0,0,0])]) [195] (A6 [(0,[6]),(1,[0,0,5])]) (some [6]) [(201,Ke)] [] [201]
noncomputable def Eh {R:Type} (lf n:Nat) (q0:Int) (z1:Bool) (l2:LL) (n3 n4:Int) (k0:Bool->LL->Int->Int->Option R):Option R:=match n with | 0=>none | n+1=>cond (ltN n4 1000000000000) (cond (ltN n3 1000000) (cond (ltI q0 (I4 n4 n3)) (cond (ltN q0 36) (vl (↑(UInt8.toNat (U5 (Int.toNat q0))):Int) λn'1=>cond (E3 (l2.length+1)) (k0 z1 (l2++[[(SV.int .u8 n'1)]]) n3 (Int.add n4 (36:Int))) none) none) (vl (A1 (q0-(I4 n4 n3))) λn'2=>vl (A1 ((36:Int)-(I4 n4 n3))) λn'3=>cond (n'3 != 0) (vl (A1 ((I4 n4 n3)+(Int.tmod n'2 n'3))) λn'4=>cond (ltN n'4 36) (vl (↑(UInt8.toNat (U5 (Int.toNat n'4))):Int) λn'5=>cond (E3 (l2.length+1)) (vl (A1 (q0-(I4 n4 n3))) λn'6=>vl (A1 ((36:Int)-(I4 n4 n3))) λn'7=>cond (n'7 != 0) (vl (A1 (Int.tdiv n'6 n'7)) λn'8=>Eh lf n n'8 z1 (l2++[[(SV.int .u8 n'5)]]) n3 (Int.add n4 (36:Int)) k0) none) none) none) none)) none) none
theorem SK (n q0 z1 l2 n3 n4):D5 3 ((Rj lf).keep 2) (bd (Rj lf) cl yh (cd [1,1,0,0] Bi7)) n ⟨gp [(0,.fl 0),(0,pI q0),(5,.fnr (Fn.func 201) [] [.ptr 2 0 0,.ptr 1 0 0])] 31,[.arr z1 5 1 l2,.box [pI n3],.box [pI n4]],s⟩ k =
 Eh lf n q0 z1 l2 n3 n4 (λz0 l1 n2 n3=>k .ret ⟨gp [(6,.fl 0)] 32,[.arr z0 5 1 l1,.box [pI n2],.box [pI n3]],s⟩):=by
 induction n generalizing q0 z1 l2 n3 n4 with
 | zero=>rfl
 | succ n ih=>rw [Eh];simp only [<-ih];kernel_rfl
noncomputable def Bl5 {R:Type} (lf:Nat) (q b:Int) (z:Bool) (l:LL) (k0:Bool->LL->Int->Int->Option R):Option R:=Eh lf lf q z l b 0 (λz'9 l'10 n'11 n'12=>k0 z'9 l'10 n'11 n'12)
theorem A87 (d:Nat) (q b z l):evC (Rj lf) (d+1) σ yh 185 [.fl 0,pI q,pI b] [.arr z 5 1 l] s=Bl5 lf q b z l (λz0 l1 n2 n3=>some (.fl 0,[.arr z0 5 1 l1,.box [pI n2],.box [pI n3]],s)):=by
 refine (evE (fn:=Tryz.f185) (by kernel_rfl)).trans ?_
 generalize evC (Rj lf) d=cl
 unfold Bl5;exact (Eq.trans (by kernel_rfl) ((SK lf cl yh s (G5 0 (H9 (Rj lf) Tryz.f185)) lf q z l b 0).trans (by kernel_rfl)))
noncomputable abbrev Be:Code:=D9 Tryz.f161
noncomputable def M7 (lf:Nat):Cfg:=C1 lf [161] (A6 [(29,[0,1,0,0,2,0,0,0,0,61,0,0]),(21,[0,1,0,0,2,0,0,0,0,0,38,0,0]),(17,[0,1,0,0,2,0,0,0,0]),(5,[0,1,0,0,15,0,0])]) [(184,Ip),(186,Io)] (A6 [(40,[2,0]),(18,[0,3,2,0,0,0,0]),(39,[0,3,2,0,0,0,0]),(38,[0,3,2,0,0,0,0,61,0,0]),(32,[0,3,2,0,0,0,0,61,0,0]),(37,[0,3,2,0,0,0,0,61,0,0]),(36,[0,3,2,0,0,0,0,61,0,0]),(35,[0,3,2,0,1,0,61,0,0]),(34,[0,3,2,0,0,1,61,0,0]),(33,[0,3,2,0,0,0,0,61,0,0,9]),(31,[0,3,2,0,0,0,0,4,56,0,0,3]),(30,[0,3,2,0,0,0,0,4,56,0,0]),(29,[0,3,2,0,0,0,0,61,0,0,0]),(28,[0,3,2,0,0,0,0,61,0,0]),(27,[0,3,2,0,0,0,0]),(26,[0,3,2,1,0,0,0]),(25,[0,3,2,0,0,0,0,0,38,0,0]),(24,[0,3,2,0,0,0,0,0,38,0,0]),(23,[0,3,2,0,0,0,0,0,1,36,0,0,5]),(22,[0,3,2,0,0,0,0,0,1,36,0,0]),(21,[0,3,2,0,0,0,0,0,38,0,0,0]),(20,[0,3,2,0,0,0,0,0,38,0,0]),(19,[0,3,2,0,0,0,0,0]),(17,[0,3,2,0,0,0,0,36]),(16,[0,3,2,0,0,0,0]),(15,[0,3,2,0,0,0]),(14,[0,3,2]),(13,[0,3,2,32]),(12,[0,3,2]),(11,[0,3,15,0,0]),(10,[0,3,15,0,0]),(9,[0,3,1,13,0,0,7]),(8,[2,0]),(7,[0,3,1,13,0,0,5]),(6,[0,3,1,13,0,0]),(5,[0,3,15,0,0,0]),(4,[0,3,15,0,0]),(3,[0,3]),(2,[2,0]),(1,[0,18]),(0,[0])]) [184,186] (A6 [(2,[4]),(3,[0,3,2,0,0,0,0]),(6,[0,3,2,0,0,0,0]),(7,[0,3,2,0,0,0,0,61,0,0]),(8,[0,3,2,0,0,0,0,61,0,0]),(4,[0,3,2,0,0,0,0,0]),(5,[0,3,2,0,0,0,0,0,38,0,0]),(0,[0,3]),(1,[0,3,15,0,0])]) (some [2,0]) [(185,EF)] [] [185]
noncomputable def P3 {R:Type} (lf n:Nat) (points_z0 points_t1:Bool) (points2:LL) (n3 n4:Int) (l5:LL) (k0:LL->Option R) (k1:Bool->Bool->LL->LL->Option R):Option R:=match n with | 0=>none | n+1=>cond (ltI n4 n3) (cond (inR n4 points2.length) (cond (okE Gj points2 (Int.toNat n4) 0) (vl (gE points2 (Int.toNat n4) 0) λn'1=>cond (not (ptI n'1)) (k0 l5) (cond (ltI n'1 128) (cond (E3 (l5.length+1)) (P3 lf n points_z0 points_t1 points2 n3 (A1 (n4+1)) (l5++[[(SV.int .u8 (wu8 n'1))]]) k0 k1) none) (P3 lf n points_z0 points_t1 points2 n3 (A1 (n4+1)) l5 k0 k1))) none) none) (k1 points_z0 points_t1 points2 l5)
theorem SX (n points_z0 points_t1 points2 n3 n4 l5):D5 1 ((M7 lf).keep 5) (bd (M7 lf) cl yh (cd [1,1,1,0,1,0,0] Be)) n ⟨gp [(0,.s (.sl points_z0 points_t1 1 points2)),(3,.fl 0),(15,.s (.sl points_z0 points_t1 1 points2)),(0,pI n3),(0,pI n4)] 84,[.arr true 5 1 l5],s⟩ k =
 P3 lf n points_z0 points_t1 points2 n3 n4 l5 (λl0=>k .ret ⟨gp [(2,pS ([]:List UInt8)),(0,pI (2:Int))] 103,[.arr true 5 1 l0],s⟩) (λpoints_z0 points_t1 points2 l3=>k (.exit 0) ⟨gp [(0,.s (.sl points_z0 points_t1 1 points2)),(3,.fl 0)] 102,[.arr true 5 1 l3],s⟩):=by
 induction n generalizing points_z0 points_t1 points2 n3 n4 l5 with
 | zero=>rfl
 | succ n ih=>rw [P3];simp only [<-ih];kernel_rfl
noncomputable def Ej {R:Type} (lf n:Nat) (points_z0 points_t1:Bool) (points2:LL) (basic3 n4 delta5 bias6 done7 m8 n9 n10:Int) (l11:LL) (k0:Bool->Bool->LL->Int->Int->Int->Int->Int->Int->LL->Option R):Option R:=match n with | 0=>none | n+1=>cond (ltI n10 n9) (cond (inR n10 points2.length) (cond (okE Gj points2 (Int.toNat n10) 0) (vl (gE points2 (Int.toNat n10) 0) λn'9=>cond (not (ltI n'9 n4)) (vl (if (n'9<m8) then n'9 else m8) λn'10=>Ej lf n points_z0 points_t1 points2 basic3 n4 delta5 bias6 done7 n'10 n9 (A1 (n10+1)) l11 k0) (Ej lf n points_z0 points_t1 points2 basic3 n4 delta5 bias6 done7 m8 n9 (A1 (n10+1)) l11 k0)) none) none) (k0 points_z0 points_t1 points2 basic3 n4 delta5 bias6 done7 m8 l11)
theorem SY (n points_z0 points_t1 points2 basic3 n4 delta5 bias6 done7 m8 n9 n10 l11):D5 1 ((M7 lf).keep 21) (bd (M7 lf) cl yh (cd [1,1,1,1,1,1,1,0,1,0,0,1,0,0,1,0,1,0,0] Be)) n ⟨gp [(0,.s (.sl points_z0 points_t1 1 points2)),(3,.fl 0),(2,pI basic3),(0,pI n4),(0,pI delta5),(0,pI bias6),(0,pI done7),(0,pI m8),(38,.s (.sl points_z0 points_t1 1 points2)),(0,pI n9),(0,pI n10)] 53,[.arr true 5 1 l11],s⟩ k =
 Ej lf n points_z0 points_t1 points2 basic3 n4 delta5 bias6 done7 m8 n9 n10 l11 (λpoints_z0 points_t1 points2 basic3 n4 delta5 bias6 done7 m8 l9=>k (.exit 4) ⟨gp [(0,.s (.sl points_z0 points_t1 1 points2)),(3,.fl 0),(2,pI basic3),(0,pI n4),(0,pI delta5),(0,pI bias6),(0,pI done7),(0,pI m8)] 94,[.arr true 5 1 l9],s⟩):=by
 induction n generalizing points_z0 points_t1 points2 basic3 n4 delta5 bias6 done7 m8 n9 n10 l11 with
 | zero=>rfl
 | succ n ih=>rw [Ej];simp only [<-ih];kernel_rfl
noncomputable def Y1 {R:Type} (lf n:Nat) (points_z0 points_t1:Bool) (points2:LL) (basic3 n4 delta5 bias6 done7 n8v n9:Int) (l10:LL) (k0:Bool->Bool->LL->Int->Int->Int->Int->Int->LL->Option R):Option R:=match n with | 0=>none | n+1=>cond (ltI n9 n8v) (cond (inR n9 points2.length) (cond (okE Gj points2 (Int.toNat n9) 0) (vl (gE points2 (Int.toNat n9) 0) λn'26=>cond (ltI n'26 n4) (vl (A1 (delta5+1)) λn'27=>Y1 lf n points_z0 points_t1 points2 basic3 n4 n'27 bias6 done7 n8v (A1 (n9+1)) l10 k0) (cond (n'26==n4) (cond (ltN delta5 1152921504606846976) (cond (ltN bias6 1000000) (cond (Nat.ble l10.length 100000) (vl (List.append l10 (List.map D2 (L9 (Int.toNat delta5) 0 (Int.toNat bias6)))) λl'29=>vl (A1 (done7+1)) λn'30=>cond (ltN delta5 1152921504606846976) (cond (ltN n'30 1000000) (cond (ltI 0 n'30) (vl (↑(M6 (Int.toNat delta5) (Int.toNat n'30) (done7==basic3)):Int) λn'31=>vl (A1 (done7+1)) λn'32=>Y1 lf n points_z0 points_t1 points2 basic3 n4 0 n'31 n'32 n8v (A1 (n9+1)) l'29 k0) none) none) none) none) none) none) (Y1 lf n points_z0 points_t1 points2 basic3 n4 delta5 bias6 done7 n8v (A1 (n9+1)) l10 k0))) none) none) (k0 points_z0 points_t1 points2 basic3 n4 delta5 bias6 done7 l10)
theorem SZ (n points_z0 points_t1 points2 basic3 n4 delta5 bias6 done7 n8v n9 l10):D5 1 ((M7 lf).keep 29) (bd (M7 lf) cl yh (cd [1,1,1,1,1,1,1,0,1,0,0,1,0,0,1,1,1,1,0,1,0,0] Be)) n ⟨gp [(0,.s (.sl points_z0 points_t1 1 points2)),(3,.fl 0),(2,pI basic3),(0,pI n4),(0,pI delta5),(0,pI bias6),(0,pI done7),(61,.s (.sl points_z0 points_t1 1 points2)),(0,pI n8v),(0,pI n9)] 31,[.arr true 5 1 l10],s⟩ k =
 Y1 lf n points_z0 points_t1 points2 basic3 n4 delta5 bias6 done7 n8v n9 l10 (λpoints_z0 points_t1 points2 basic3 n4 delta5 bias6 done7 l8=>k (.exit 6) ⟨gp [(0,.s (.sl points_z0 points_t1 1 points2)),(3,.fl 0),(2,pI basic3),(0,pI n4),(0,pI delta5),(0,pI bias6),(0,pI done7)] 95,[.arr true 5 1 l8],s⟩):=by
 induction n generalizing points_z0 points_t1 points2 basic3 n4 delta5 bias6 done7 n8v n9 l10 with
 | zero=>rfl
 | succ n ih=>rw [Y1];simp only [<-ih];kernel_rfl
noncomputable def Bt {R:Type} (lf n:Nat) (points_z0 points_t1:Bool) (points2:LL) (basic3 n4 delta5 bias6 done7:Int) (l8:LL) (k0:LL->Option R):Option R:=match n with | 0=>none | n+1=>cond (ltI done7 (points2.length:Int)) (Ej lf lf points_z0 points_t1 points2 basic3 n4 delta5 bias6 done7 1114112 (points2.length:Int) 0 l8 (λpoints_z'11 points_t'12 points'13 basic'14 n'15 delta'16 bias'17 done'18 m'19 l'20=>vl (A1 (done'18+1)) λn'23=>vl (A1 ((A1 (m'19-n'15))*n'23)) λn'24=>Y1 lf lf points_z'11 points_t'12 points'13 basic'14 m'19 (A1 (delta'16+n'24)) bias'17 done'18 (points'13.length:Int) 0 l'20 (λpoints_z'33 points_t'34 points'35 basic'36 n'37 delta'38 bias'39 done'40 l'41=>vl (A1 (delta'38+1)) λn'42=>vl (A1 (n'37+1)) λn'43=>Bt lf n points_z'33 points_t'34 points'35 basic'36 n'43 n'42 bias'39 done'40 l'41 k0))) (k0 l8)
theorem Yr (n points_z0 points_t1 points2 basic3 n4 delta5 bias6 done7 l8):D5 1 ((M7 lf).keep 17) (bd (M7 lf) cl yh (cd [1,1,1,1,1,1,1,0,1,0,0] Be)) n ⟨gp [(0,.s (.sl points_z0 points_t1 1 points2)),(3,.fl 0),(2,pI basic3),(0,pI n4),(0,pI delta5),(0,pI bias6),(0,pI done7)] 95,[.arr true 5 1 l8],s⟩ k =
 Bt lf n points_z0 points_t1 points2 basic3 n4 delta5 bias6 done7 l8 (λl0=>k (.exit 2) ⟨gp [(4,.fl 0)] 102,[.arr true 5 1 l0],s⟩):=by
 induction n generalizing points_z0 points_t1 points2 basic3 n4 delta5 bias6 done7 l8 with
 | zero=>rfl
 | succ n ih=>rw [Bt];exact (Eq.trans (by kernel_rfl) (A0 ((SY lf cl yh s (G5 4 (G9 (M7 lf) cl yh (cd [1,1,1,1,1,1,1,0,1,0,0,1,0,0,1,1] Be) (G5 3 (G9 (M7 lf) cl yh (cd [1,1,1,1,1,1,1,0,1,0,0,1,1] Be) (lpK 1 ((M7 lf).keep 17) (bd (M7 lf) cl yh (cd [1,1,1,1,1,1,1,0,1,0,0] Be)) n k))))) lf points_z0 points_t1 points2 basic3 n4 delta5 bias6 done7 1114112 (points2.length:Int) 0 l8).trans (congr rfl (A39 λpoints_z'11 points_t'12 points'13 basic'14 n'15 delta'16 bias'17 done'18 m'19 l'20=>(Eq.trans (by kernel_rfl) (A9 λn'23=>(A9 λn'24=>((SZ lf cl yh s (G5 6 (G9 (M7 lf) cl yh (cd [1,1,1,1,1,1,1,0,1,0,0,1,0,0,1,1,1,1,1] Be) (G5 3 (G9 (M7 lf) cl yh (cd [1,1,1,1,1,1,1,0,1,0,0,1,1] Be) (lpK 1 ((M7 lf).keep 17) (bd (M7 lf) cl yh (cd [1,1,1,1,1,1,1,0,1,0,0] Be)) n k))))) lf points_z'11 points_t'12 points'13 basic'14 m'19 (A1 (delta'16+n'24)) bias'17 done'18 (points'13.length:Int) 0 l'20).trans (congr rfl (fx9 λpoints_z'33 points_t'34 points'35 basic'36 n'37 delta'38 bias'39 done'40 l'41=>(Eq.trans (by kernel_rfl) (A9 λn'42=>(A9 λn'43=>(ih points_z'33 points_t'34 points'35 basic'36 n'43 n'42 bias'39 done'40 l'41))))))))))))) rfl))
noncomputable def LQ {R:Type} (lf:Nat) (p_z p_t:Bool) (p:LL) (k0:Unit->Option R) (k1:By->Int->LL->Option R):Option R:=cond (ltI 256 (p.length:Int)) (k0 ()) (P3 lf lf p_z p_t p (p.length:Int) 0 [] (λl'2=>k1 ([]:List UInt8) 2 l'2) (λpoints_z'3 points_t'4 points'5 l'6=>vl (l'6.length:Int) λn'8=>cond (ltI 0 n'8) (cond (E3 (l'6.length+1)) (Bt lf lf points_z'3 points_t'4 points'5 n'8 128 0 72 n'8 (l'6++[[(SV.int .u8 (45:Int))]]) (λl'44=>cond (List.all l'44 Uj) (k1 (List.map Rn l'44) 0 l'44) none)) none) (Bt lf lf points_z'3 points_t'4 points'5 n'8 128 0 72 n'8 l'6 (λl'45=>cond (List.all l'45 Uj) (k1 (List.map Rn l'45) 0 l'45) none))))
theorem A95 (d:Nat) (p_z p_t p):evC (M7 lf) (d+1) σ yh 161 [.s (.sl p_z p_t 1 p)] [] s=LQ lf p_z p_t p (λ_=>some (.tup [pS ([]:List UInt8),pI (3:Int)],[],s)) (λr0 r1 l2=>some (.tup [pS r0,pI r1],[.arr true 5 1 l2],s)):=by
 refine (evE (fn:=Tryz.f161) (by kernel_rfl)).trans ?_
 generalize evC (M7 lf) d=cl
 unfold LQ;exact let K0:=(G5 2 (G9 (M7 lf) cl yh (cd [1,1,1,1,1,1,1,1] Be) (H9 (M7 lf) Tryz.f161)));(Eq.trans (by kernel_rfl) (A0 rfl ((SX lf cl yh s (G5 0 (G9 (M7 lf) cl yh (cd [1,1,1,1] Be) (H9 (M7 lf) Tryz.f161))) lf p_z p_t p (p.length:Int) 0 []).trans (congr (congr rfl (by kernel_rfl)) (fx4 λpoints_z'3 points_t'4 points'5 l'6=>(Eq.trans (by kernel_rfl) (A9 λn'8=>(A0 (A0 ((Yr lf cl yh s K0 lf points_z'3 points_t'4 points'5 n'8 128 0 72 n'8 (l'6++[[(SV.int .u8 (45:Int))]])).trans (by kernel_rfl)) rfl) ((Yr lf cl yh s K0 lf points_z'3 points_t'4 points'5 n'8 128 0 72 n'8 l'6).trans (by kernel_rfl))))))))))
end
theorem Qa (k b:Nat):I4 ((36*k:Nat):Int) (b:Int)=(thr k b:Int):=by
 unfold I4 thr
 omega
theorem Af3 {R:Type} {k0:Int->Option R} (b:Int):Bl9 LF b k0=k0 b:=rfl
theorem TB {R:Type} {k0:Int->Int->Int->Option R} (k b:Int) (h0:ltN k 1000000000000=true) (h1:ltN b 1000000=true):YR LF k b k0=k0 (I4 k b) (Int.add k 36) b:=by
 obtain ⟨a0,a1⟩:=M0.1 h0
 obtain ⟨b0,b1⟩:=M0.1 h1
 unfold YR
 have e1:A1 (k+36)=k+36:=A4
 have e2:A1 (k+36-b)=k+36-b:=A4
 simp only [vl,e1,e2]
 have:(if (26:Int)<(if (1:Int) > k+36-b then (1:Int) else k+36-b) then (26:Int) else (if (1:Int) > k+36-b then (1:Int) else k+36-b))=I4 k b:=by
  unfold I4
  omega
 grind
theorem Ko {q k b:Nat} (h:q<thr k b):L9 q k b=[U5 q]:=by rw [L9,dif_pos h]
theorem Ro {q k b:Nat} (h:¬ q<thr k b):L9 q k b=U5 (thr k b+(q-thr k b) % (36-thr k b))::L9 ((q-thr k b) / (36-thr k b)) (k+1) b:=by rw [L9,dif_neg h]
theorem GF {x y m:Nat} (hy:10<=y) (h:x<10*m):x / y<m:=by
 have h1:x / y<=x / 10:=Nat.div_le_div_left hy (by omega)
 omega
theorem QK (b:Nat):∀ (r q k:Nat),q<10 ^ r->(L9 q k b).length<=r+1:=by
 intro r
 induction r with
 | zero=>
  intro q k h
  have ht:=Q3 k b
  rw [Ko (by simp at h;omega)]
  simp
 | succ r ih=>
  intro q k h
  have ht:=Q3 k b
  by_cases hq:q<thr k b
  ·rw [Ko hq];simp
  ·rw [Ro hq,List.length_cons]
   have:=ih ((q-thr k b) / (36-thr k b)) (k+1) (GF (by omega) (by rw [Nat.pow_succ] at h;omega))
   omega
theorem Ae4 (z:Bool) (b:Nat) (hb:b<1000000):∀ (r q k n:Nat) (l:LL),q<10 ^ r->q<1152921504606846976->k+r<=1000->r<n->l.length+r<=200000->
  ∃ (n2 n3:Int),∀ (R:Type) (k0:Bool->LL->Int->Int->Option R),Eh LF n (q:Int) z l (b:Int) ((36*k:Nat):Int) k0=k0 z (l++(L9 q k b).map D2) n2 n3:=by
 have fin:∀ (q k n:Nat) (l:LL),q<thr k b->k<=1000->l.length<=200000->∃ (n2 n3:Int),∀ (R:Type) (k0:Bool->LL->Int->Int->Option R),Eh LF (n+1) (q:Int) z l (b:Int) ((36*k:Nat):Int) k0=k0 z (l++(L9 q k b).map D2) n2 n3:=by
  intro q k n l hq hk hl
  have ht:=Q3 k b
  refine ⟨(b:Int),Int.add ((36*k:Nat):Int) 36,λR k0=>?_⟩
  rw [Eh]
  rw [M4,M4,Qa,A8,M4,Ko hq]
  simp only [vl,cond_true,Int.toNat_natCast]
  rw [D4 (by omega)]
  rfl
 intro r
 induction r with
 | zero=>
  intro q k n l h _ hk hn hl
  have ht:=Q3 k b
  obtain ⟨n,rfl⟩:∃ m,n=m+1:=⟨n-1,by omega⟩
  exact fin q k n l (by simp at h;omega) (by omega) (by omega)
 | succ r ih=>
  intro q k n l h hq60 hk hn hl
  have ht:=Q3 k b
  obtain ⟨n,rfl⟩:∃ m,n=m+1:=⟨n-1,by omega⟩
  by_cases hq:q<thr k b
  ·exact fin q k n l hq (by omega) (by omega)
  ·have hd:(q-thr k b) / (36-thr k b)<10 ^ r:=GF (by omega) (by rw [Nat.pow_succ] at h;omega)
   have hd2:(q-thr k b) / (36-thr k b)<=q:=Nat.le_trans (Nat.div_le_self _ _) (by omega)
   have hm2:(q-thr k b) % (36-thr k b)<36-thr k b:=Nat.mod_lt _ (by omega)
   obtain ⟨n2,n3,e⟩:=ih ((q-thr k b) / (36-thr k b)) (k+1) n (l++[D2 (U5 (thr k b+(q-thr k b) % (36-thr k b)))]) hd (by omega) (by omega) (by omega) (by rw [List.length_append,List.length_singleton];omega)
   refine ⟨n2,n3,λR k0=>?_⟩
   rw [Eh]
   have c1:A1 ((q:Int)-(thr k b:Int))=((q-thr k b:Nat):Int):=by rw [A4];omega
   have c2:A1 ((36:Int)-(thr k b:Int))=((36-thr k b:Nat):Int):=by rw [A4];omega
   have c3:Int.tmod ((q-thr k b:Nat):Int) ((36-thr k b:Nat):Int)=(((q-thr k b) % (36-thr k b):Nat):Int):=Gl _ _
   have c4:Int.tdiv ((q-thr k b:Nat):Int) ((36-thr k b:Nat):Int)=(((q-thr k b) / (36-thr k b):Nat):Int):=K7 _ _
   have c7:((((36-thr k b:Nat):Int)) != 0)=true:=by rw [bne_iff_ne];omega
   rw [M4,M4,Qa,A7]
   simp only [vl,c1,c2,c3,c4,c7,cond_true,cond_false]
   rw [Ro hq]
   generalize hA:(q-thr k b) / (36-thr k b)=A at *
   generalize hB:(q-thr k b) % (36-thr k b)=B at *
   have c5:A1 ((thr k b:Int)+(B:Int))=((thr k b+B:Nat):Int):=by rw [A4];rfl
   have c6:A1 (A:Int)=(A:Int):=A4
   rw [c5,c6,M4,D4 (by omega),Int.toNat_natCast,show Int.add ((36*k:Nat):Int) 36=((36*(k+1):Nat):Int) from (by show ((36*k:Nat):Int)+36=_;omega)]
   refine Eq.trans (e R k0) ?_
   simp [List.append_assoc]
theorem Ae5 (q b:Int) (z:Bool) (l:LL) (h0:ltN q 1152921504606846976=true) (h1:ltN b 1000000=true) (h2:Nat.ble l.length 100000=true) :
  ∃ (n2 n3:Int),∀ (R:Type) (k0:Bool->LL->Int->Int->Option R),Bl5 LF q b z l k0=k0 z (List.append l ((L9 q.toNat 0 b.toNat).map D2)) n2 n3:=by
 obtain ⟨a0,a1⟩:=M0.1 h0
 obtain ⟨b0,b1⟩:=M0.1 h1
 obtain ⟨q,rfl⟩:=Int.eq_ofNat_of_zero_le a0
 obtain ⟨b,rfl⟩:=Int.eq_ofNat_of_zero_le b0
 have hl:=Nat.le_of_ble_eq_true h2
 have hLF:=D6
 obtain ⟨n2,n3,e⟩:=Ae4 z b (by omega) 19 q 0 LF l (by omega) (by omega) (by omega) (by omega) (by omega)
 exact ⟨n2,n3,λR k0=>e R _⟩
def V4 (l:List Int):LL:=l.map λx=>[SV.int .i64 x]
def B1 (l:List Nat):LL:=l.map λx:Nat=>[SV.int .i64 (x:Int)]
theorem Ku (l:List Nat):V4 (l.map λn:Nat=>(n:Int))=B1 l:=by simp [V4,B1,Function.comp_def]
theorem P6 (l:List Int):(V4 l).length=l.length:=by simp [V4]
theorem C0 (l:List Nat):(B1 l).length=l.length:=by simp [B1]
theorem Gb (a b:List Nat):B1 (a++b)=B1 a++B1 b:=by simp [B1]
theorem HA {l:List Int} {i:Nat} (h:i<l.length):okE Gj (V4 l) i 0=true:=by
 unfold okE V4 Gj
 simp [List.getD_eq_getElem?_getD,h,okS,SV.has]
theorem QP (l:List Int) (i:Nat) (h:i<l.length):gE (V4 l) i 0=l.getD i 0:=by
 unfold gE gC V4
 simp [List.getD_eq_getElem?_getD,List.getElem?_eq_getElem h,SV.gI]
theorem Kv {l:List Nat} {i:Nat} (h:i<l.length):okE Gj (B1 l) i 0=true:=by
 rw [<-Ku];exact HA (by simpa using h)
theorem Rw (l:List Nat) (i:Nat) (h:i<l.length):gE (B1 l) i 0=(l.getD i 0:Int):=by
 rw [<-Ku,QP _ _ (by simpa using h)]
 grind
theorem XR {l:LL} (h:l.all Jg=true):∃ P:List Int,l=V4 P:=by
 induction l with
 | nil=>exact ⟨[],rfl⟩
 | cons x r ih=>
  simp only [List.all_cons,Bool.and_eq_true] at h
  obtain ⟨P,rfl⟩:=ih h.2
  have hx:=h.1
  unfold Jg at hx
  split at hx
  ·rename_i n
   exact ⟨n::P,rfl⟩
  ·cases hx
theorem JX (P:List Int):(V4 P).map elI=P:=by
 unfold V4
 rw [List.map_map]
 conv=>rhs;rw [<-List.map_id P]
 apply List.map_congr_left
 intro x _
 simp [elI,SV.gI]
theorem JW (l:List Int) (i:Nat) (h:i<l.length):l.drop i=l.getD i 0::l.drop (i+1):=by simp_all
theorem Ob (l:List Nat) (i:Nat) (h:i<l.length):l.drop i=l.getD i 0::l.drop (i+1):=by simp_all
theorem A18:∀ (r d k:Nat),d<456*35 ^ r->Qz d k<=k+36*r+36:=by
 intro r
 induction r with
 | zero=>
  intro d k h
  rw [Lw (by simp at h;omega)]
  have:36*d / (d+38)<=36:=by
   apply Nat.div_le_of_le_mul
   omega
  omega
 | succ r ih=>
  intro d k h
  by_cases hd:455<d
  ·rw [Wi hd]
   grind
  grind
theorem Ir (d c:Nat) (f:Bool) (h:d<1152921504606846976):M6 d c f<=500:=by
 unfold M6
 have hx:∀ x:Nat,x<=d->Qz (x+x / c) 0<=500:=by
  intro x hx
  have:=Nat.div_le_self x c
  have:=A18 11 (x+x / c) 0 (by omega)
  omega
 grind
theorem BA {q k b:Nat} (h:q<1152921504606846976):(L9 q k b).length<=20:=QK b 19 q k (by omega)
theorem YP (z t:Bool) (pts:List Nat) (basic m:Nat) (hm:m<=1114112) (hl:pts.length<=256):∀ (r i n:Nat) (s:DB),i+r=pts.length->r<n->s.delta+r<=1000000000000->s.bias<=500->s.out.length+20*r<=90000->s.done+r<=1000->basic<=256->
  (∀ (R:Type) (k0:Bool->Bool->LL->Int->Int->Int->Int->Int->LL->Option R),Y1 LF n z t (B1 pts) (basic:Int) (m:Int) (s.delta:Int) (s.bias:Int) (s.done:Int) (pts.length:Int) (i:Int) (s.out.map D2) k0 =
   k0 z t (B1 pts) (basic:Int) (m:Int) ((F4 m basic (pts.drop i) s).delta:Int) ((F4 m basic (pts.drop i) s).bias:Int) ((F4 m basic (pts.drop i) s).done:Int) ((F4 m basic (pts.drop i) s).out.map D2))/\
  (F4 m basic (pts.drop i) s).bias<=500/\(F4 m basic (pts.drop i) s).out.length<=s.out.length+20*(pts.drop i).countP (· == m)/\(F4 m basic (pts.drop i) s).done=s.done+(pts.drop i).countP (· == m)/\
  (F4 m basic (pts.drop i) s).delta<=(if 0<(pts.drop i).countP (· == m) then r else s.delta+r):=by
 intro r
 induction r with
 | zero=>
  intro i n s hi hn h1 h2 h3 h4 hb
  obtain ⟨n,rfl⟩:∃ m,n=m+1:=⟨n-1,by omega⟩
  rw [List.drop_of_length_le (by omega)]
  refine ⟨λR k0=>?_,h2,by simp [F4],by simp [F4],by simp [F4]⟩
  rw [Y1]
  rw [A7]
  rfl
 | succ r ih=>
  intro i n s hi hn h1 h2 h3 h4 hb
  obtain ⟨n,rfl⟩:∃ m,n=m+1:=⟨n-1,by omega⟩
  rw [Ob pts i (by omega)]
  have hg:=Rw pts i (by omega)
  have ok:=Kv (l:=pts) (i:=i) (by omega)
  generalize pts.getD i 0=p at *
  have e1:A1 ((i:Int)+1)=((i+1:Nat):Int):=by rw [A4];rfl
  have e2:A1 ((s.delta:Int)+1)=((s.delta+1:Nat):Int):=by rw [A4];rfl
  have e3:A1 ((s.done:Int)+1)=((s.done+1:Nat):Int):=by rw [A4];rfl
  by_cases hp:p<m
  ·have hne:(p==m)=false:=by rw [beq_eq_false_iff_ne];omega
   have hs:F4 m basic (p::pts.drop (i+1)) s=F4 m basic (pts.drop (i+1)) { s with delta:=s.delta+1 }:=by rw [F4,if_pos hp]
   obtain ⟨q1,q2,q3,q4,q5⟩:=ih (i+1) n { s with delta:=s.delta+1 } (by omega) (by omega) (by simp only;omega) h2 (by simp only;omega) (by simp only;omega) hb
   rw [hs,List.countP_cons_of_neg (by rw [hne];simp)]
   refine ⟨λR k0=>?_,q2,q3,q4,?_⟩
   ·rw [Y1]
    rw [A8,C0,J5,Int.toNat_natCast,ok]
    simp only [cond_true,vl,hg,e1,e2]
    rw [A8,cond_true]
    exact q1 R k0
   ·simp only at q5
    split at q5<;>split<;>omega
  ·by_cases hq:p=m
   ·subst hq
    have hn20:=BA (q:=s.delta) (k:=0) (b:=s.bias) (by omega)
    have had:=Ir s.delta (s.done+1) (s.done==basic) (by omega)
    have hs:F4 p basic (p::pts.drop (i+1)) s=F4 p basic (pts.drop (i+1)) { delta:=0,bias:=M6 s.delta (s.done+1) (s.done==basic),done:=s.done+1,out:=s.out++L9 s.delta 0 s.bias }:=by rw [F4,if_neg hp,if_pos rfl]
    obtain ⟨q1,q2,q3,q4,q5⟩:=ih (i+1) n { delta:=0,bias:=M6 s.delta (s.done+1) (s.done==basic),done:=s.done+1,out:=s.out++L9 s.delta 0 s.bias } (by omega) (by omega) (by simp only;omega) had (by simp only [List.length_append];omega) (by simp only;omega) hb
    rw [hs,List.countP_cons_of_pos (by simp)]
    refine ⟨λR k0=>?_,q2,?_,?_,?_⟩
    ·rw [Y1]
     have hbeq:((s.done:Int)==(basic:Int))=(s.done==basic):=by grind
     rw [A8,C0,J5,Int.toNat_natCast,ok]
     simp only [cond_true,vl,hg,e1,e3]
     rw [A7,cond_false,beq_self_eq_true,cond_true,M4,M4,List.length_map,Nat.ble_eq_true_of_le (show s.out.length<=100000 by omega),M4,A8,hbeq]
     simp only [cond_true,Int.toNat_natCast]
     have hrow:List.append (s.out.map D2) ((L9 s.delta 0 s.bias).map D2)=(s.out++L9 s.delta 0 s.bias).map D2:=by rw [List.map_append];rfl
     rw [hrow]
     exact q1 R k0
    ·simp only [List.length_append] at q3;omega
    ·simp only at q4;omega
    ·simp only at q5
     rw [Bh]
     split at q5<;>omega
   ·have hne:(p==m)=false:=by rw [beq_eq_false_iff_ne];omega
    have hs:F4 m basic (p::pts.drop (i+1)) s=F4 m basic (pts.drop (i+1)) s:=by rw [F4,if_neg hp,if_neg hq]
    obtain ⟨q1,q2,q3,q4,q5⟩:=ih (i+1) n s (by omega) (by omega) (by omega) h2 (by omega) (by omega) hb
    rw [hs,List.countP_cons_of_neg (by rw [hne];simp)]
    refine ⟨λR k0=>?_,q2,q3,q4,?_⟩
    ·rw [Y1]
     rw [A8,C0,J5,Int.toNat_natCast,ok]
     simp only [cond_true,vl,hg,e1]
     rw [A7,cond_false,show ((p:Int)==(m:Int))=false by rw [beq_eq_false_iff_ne];omega,cond_false]
     exact q1 R k0
    ·split at q5<;>split<;>omega
theorem TA {R:Type} {k0:Bool->Bool->LL->Int->Int->Int->Int->Int->Int->LL->Option R} (z t:Bool) (pts:List Nat) (hl:pts.length<=256) (n0:Nat) (basic delta bias done:Int) (l:LL):∀ (r i n m:Nat),i+r=pts.length->r<n->
  Ej LF n z t (B1 pts) basic (n0:Int) delta bias done (m:Int) (pts.length:Int) (i:Int) l k0=k0 z t (B1 pts) basic (n0:Int) delta bias done ((F3 n0 (pts.drop i) m:Nat):Int) l:=by
 intro r
 induction r with
 | zero=>
  intro i n m hi hn
  obtain ⟨n,rfl⟩:∃ m,n=m+1:=⟨n-1,by omega⟩
  rw [Ej]
  rw [A7,List.drop_of_length_le (by omega)]
  rfl
 | succ r ih=>
  intro i n m hi hn
  obtain ⟨n,rfl⟩:∃ m,n=m+1:=⟨n-1,by omega⟩
  have hg:=Rw pts i (by omega)
  have ok:=Kv (l:=pts) (i:=i) (by omega)
  rw [Ej,Ob pts i (by omega)]
  generalize pts.getD i 0=p at *
  have e1:A1 ((i:Int)+1)=((i+1:Nat):Int):=by rw [A4];rfl
  rw [A8,C0,J5,Int.toNat_natCast,ok]
  simp only [cond_true,vl,hg,e1,F3]
  by_cases h:n0<=p
  ·rw [if_pos h,A7,Bool.not_false,cond_true]
   have:(if (p:Int)<(m:Int) then (p:Int) else (m:Int))=((min m p:Nat):Int):=by split<;>omega
   rw [this]
   exact ih (i+1) n (min m p) (by omega) (by omega)
  ·rw [if_neg h,A8,Bool.not_true,cond_false]
   exact ih (i+1) n m (by omega) (by omega)
theorem Ay (n:Nat):∀ (l:List Nat) (m:Nat),(F3 n l m=m\/(F3 n l m∈l/\n<=F3 n l m))/\F3 n l m<=m/\∀ p∈l,n<=p->F3 n l m<=p
 | [],m=>⟨.inl rfl,Nat.le_refl _,λp h=>by cases h⟩
 | q::r,m=>by
  obtain ⟨h1,h2,h3⟩:=Ay n r (if n<=q then min m q else m)
  simp only [F3]
  grind
theorem Nt {n m:Nat} (hnm:n<=m):∀ l:List Nat,(∀ p∈l,n<=p->m<=p)->l.countP (λp=>decide (p<m+1))=l.countP (λp=>decide (p<n))+l.countP (· == m)
 | [],_=>rfl
 | p::l,h=>by
  have ih:=Nt hnm l (λq hq=>h q (List.mem_cons_of_mem _ hq))
  have hp:=h p List.mem_cons_self
  grind
theorem PX {n:Nat} {l:List Nat} (h:l.countP (λp=>decide (p<n))<l.length):∃ p∈l,n<=p:=by
 apply Classical.byContradiction
 intro hc
 have:l.countP (λp=>decide (p<n))=l.length:=by simp_all
 omega
theorem Au3 (z t:Bool) (pts:List Nat) (basic:Nat) (hl:pts.length<=256) (hb:basic<=256) (hall:∀ p∈pts,p<=1114111):∀ (f n n':Nat) (s:DB),s.done=pts.countP (λp=>decide (p<n))->pts.length<=s.done+f->f<n'->s.delta<=300->s.bias<=500->s.out.length+20*(pts.length-s.done)<=80000->n<=1114112->
  ∀ (R:Type) (k0:LL->Option R),Bt LF n' z t (B1 pts) (basic:Int) (n:Int) (s.delta:Int) (s.bias:Int) (s.done:Int) (s.out.map D2) k0=k0 ((N1 pts basic f n s).out.map D2):=by
 intro f
 have hLF:=D6
 induction f with
 | zero=>
  intro n n' s hd hf hn h1 h2 h3 h4 R k0
  obtain ⟨n',rfl⟩:∃ m,n'=m+1:=⟨n'-1,by omega⟩
  rw [Bt]
  rw [C0,A7]
  rfl
 | succ f ih=>
  intro n n' s hd hf hn h1 h2 h3 h4 R k0
  obtain ⟨n',rfl⟩:∃ m,n'=m+1:=⟨n'-1,by omega⟩
  rw [Bt]
  rw [C0]
  have hcl:pts.countP (λp=>decide (p<n))<=pts.length:=List.countP_le_length
  by_cases hlt:s.done<pts.length
  ·obtain ⟨p0,hp0,hp1⟩:=PX (n:=n) (l:=pts) (by omega)
   obtain ⟨g1,g2,g3⟩:=Ay n pts 1114112
   have g4:=g3 p0 hp0 hp1
   have g5:=hall p0 hp0
   have hmem:F3 n pts 1114112∈pts/\n<=F3 n pts 1114112:=by grind
   have he:N1 pts basic (f+1) n s=N1 pts basic f (F3 n pts 1114112+1) { F4 (F3 n pts 1114112) basic pts { s with delta:=s.delta+(F3 n pts 1114112-n)*(s.done+1) } with delta:=(F4 (F3 n pts 1114112) basic pts { s with delta:=s.delta+(F3 n pts 1114112-n)*(s.done+1) }).delta+1 }:=by
    rw [N1,if_pos hlt]
   rw [he,A8,cond_true]
   have hleast:=λ(K:Bool->Bool->LL->Int->Int->Int->Int->Int->Int->LL->Option R)=>TA (k0:=K) z t pts hl n (basic:Int) (s.delta:Int) (s.bias:Int) (s.done:Int) (s.out.map D2) pts.length 0 LF 1114112 (by omega) (by omega)
   rw [List.drop_zero] at hleast
   refine Eq.trans (hleast _) ?_
   generalize F3 n pts 1114112=m at *
   have hmul:(m-n)*(s.done+1)<=1114112*256:=Nat.mul_le_mul (by omega) (by omega)
   have e1:A1 ((s.done:Int)+1)=((s.done+1:Nat):Int):=by rw [A4];rfl
   have e2:A1 ((m:Int)-(n:Int))=((m-n:Nat):Int):=by rw [A4];omega
   have e3:A1 (((m-n:Nat):Int)*((s.done+1:Nat):Int))=(((m-n)*(s.done+1):Nat):Int):=by
    rw [<-Int.natCast_mul]
    exact A4
   have e4:A1 ((s.delta:Int)+(((m-n)*(s.done+1):Nat):Int))=((s.delta+(m-n)*(s.done+1):Nat):Int):=by
    rw [A4];rfl
   simp only [vl,e1,e2,e3,e4]
   have hin:=YP z t pts basic m (by omega) hl pts.length 0 LF { s with delta:=s.delta+(m-n)*(s.done+1) } (by omega) (by omega) (by simp only;omega) h2 (by simp only;omega) (by simp only;omega) hb
   rw [List.drop_zero] at hin
   obtain ⟨q1,q2,q3,q4,q5⟩:=hin
   rw [C0]
   refine Eq.trans (q1 R _) ?_
   have hcnt:0<pts.countP (· == m):=List.countP_pos_iff.2 ⟨m,hmem.1,by simp⟩
   rw [if_pos hcnt] at q5
   have hstep:=Nt hmem.2 pts g3
   generalize F4 m basic pts { s with delta:=s.delta+(m-n)*(s.done+1) } = s' at *
   simp only at q3 q4
   have e5:A1 ((s'.delta:Int)+1)=((s'.delta+1:Nat):Int):=by rw [A4];rfl
   have e6:A1 ((m:Int)+1)=((m+1:Nat):Int):=by rw [A4];rfl
   have hcl2:pts.countP (λp=>decide (p<m+1))<=pts.length:=List.countP_le_length
   simp only [e5,e6]
   exact ih (m+1) n' { s' with delta:=s'.delta+1 } (by simp only;omega) (by simp only;omega) (by omega) (by simp only;omega) q2 (by simp only;omega) (by omega) R k0
  ·rw [A7]
   rw [N1,if_neg hlt]
   rfl
def Q4 (l:List Int):By:=(l.filter λx=>decide (x<128)).map λx=>UInt8.ofNat x.toNat
theorem Ay4 (x:Int) (h0:0<=x) (h:x<128):[SV.int .u8 (wu8 x)]=D2 (UInt8.ofNat x.toNat):=by
 unfold D2
 have e:wu8 x=x:=by unfold wu8;exact Int.emod_eq_of_lt h0 (show x<256 by omega)
 rw [e]
 have:((UInt8.ofNat x.toNat).toNat:Int)=x:=by simp;omega
 rw [this]
theorem Na {x:Int} (h:ptI x=true):0<=x/\x<=1114111:=by
 cases x with
 | negSucc m=>cases h
 | ofNat m=>
  have:P8 m=true:=h
  unfold P8 at this
  simp only [Bool.and_eq_true,Nat.ble_eq] at this
  grind
theorem SU (z t:Bool) (P:List Int) (hl:P.length<=256):∀ (r i n:Nat) (out:By),i+r=P.length->r<n->out.length+r<=1000->
  ((P.drop i).all ptI=true->∀ (R:Type) (k0:LL->Option R) (k1:Bool->Bool->LL->LL->Option R),P3 LF n z t (V4 P) (P.length:Int) (i:Int) (out.map D2) k0 k1=k1 z t (V4 P) ((out++Q4 (P.drop i)).map D2))/\
  ((P.drop i).all ptI=false->∃ l,∀ (R:Type) (k0:LL->Option R) (k1:Bool->Bool->LL->LL->Option R),P3 LF n z t (V4 P) (P.length:Int) (i:Int) (out.map D2) k0 k1=k0 l):=by
 intro r
 induction r with
 | zero=>
  intro i n out hi hn ho
  obtain ⟨n,rfl⟩:∃ m,n=m+1:=⟨n-1,by omega⟩
  rw [List.drop_of_length_le (by omega)]
  refine ⟨λ_ R k0 k1=>?_,λh=>(by cases h)⟩
  rw [P3]
  rw [A7]
  simp [Q4]
 | succ r ih=>
  intro i n out hi hn ho
  obtain ⟨n,rfl⟩:∃ m,n=m+1:=⟨n-1,by omega⟩
  have hg:=QP P i (by omega)
  have ok:=HA (l:=P) (i:=i) (by omega)
  rw [JW P i (by omega)]
  generalize P.getD i 0=x at *
  have e1:A1 ((i:Int)+1)=((i+1:Nat):Int):=by rw [A4];rfl
  cases hx:ptI x with
  | false=>
   refine ⟨λh=>?_,λ_=>⟨out.map D2,λR k0 k1=>?_⟩⟩
   ·rw [List.all_cons,hx] at h;cases h
   ·rw [P3]
    rw [A8,P6,J5,Int.toNat_natCast,ok]
    simp only [cond_true,vl,hg,hx,Bool.not_false]
  | true=>
   obtain ⟨p0,p1⟩:=Na hx
   rw [List.all_cons,hx,Bool.true_and]
   by_cases h128:x<128
   ·have hbs:Q4 (x::P.drop (i+1))=UInt8.ofNat x.toNat::Q4 (P.drop (i+1)):=by
     unfold Q4;rw [List.filter_cons_of_pos (by simpa using h128)];rfl
    have hrow:out.map D2++[[SV.int .u8 (wu8 x)]]=(out++[UInt8.ofNat x.toNat]).map D2:=by rw [Ay4 x p0 h128];simp
    obtain ⟨q1,q2⟩:=ih (i+1) n (out++[UInt8.ofNat x.toNat]) (by omega) (by omega) (by simp;omega)
    have step:∀ (R:Type) (k0:LL->Option R) (k1:Bool->Bool->LL->LL->Option R),P3 LF (n+1) z t (V4 P) (P.length:Int) (i:Int) (out.map D2) k0 k1=P3 LF n z t (V4 P) (P.length:Int) ((i+1:Nat):Int) ((out++[UInt8.ofNat x.toNat]).map D2) k0 k1:=by
     intro R k0 k1
     rw [P3]
     rw [A8,P6,J5,Int.toNat_natCast,ok]
     simp only [cond_true,vl,hg,hx,Bool.not_true,cond_false,e1]
     rw [B9 h128,List.length_map,D4 (by omega),hrow]
     rfl
    refine ⟨λh R k0 k1=>?_,λh=>?_⟩
    ·rw [step,q1 h,hbs];simp
    ·obtain ⟨l,e⟩:=q2 h
     exact ⟨l,λR k0 k1=>by rw [step];exact e R k0 k1⟩
   ·have hbs:Q4 (x::P.drop (i+1))=Q4 (P.drop (i+1)):=by
     unfold Q4;rw [List.filter_cons_of_neg (by simpa using h128)]
    obtain ⟨q1,q2⟩:=ih (i+1) n out (by omega) (by omega) (by omega)
    have step:∀ (R:Type) (k0:LL->Option R) (k1:Bool->Bool->LL->LL->Option R),P3 LF (n+1) z t (V4 P) (P.length:Int) (i:Int) (out.map D2) k0 k1=P3 LF n z t (V4 P) (P.length:Int) ((i+1:Nat):Int) (out.map D2) k0 k1:=by
     intro R k0 k1
     rw [P3]
     rw [A8,P6,J5,Int.toNat_natCast,ok]
     simp only [cond_true,vl,hg,hx,Bool.not_true,cond_false,e1]
     rw [A7]
     rfl
    refine ⟨λh R k0 k1=>?_,λh=>?_⟩
    ·rw [step,q1 h,hbs]
    ·obtain ⟨l,e⟩:=q2 h
     exact ⟨l,λR k0 k1=>by rw [step];exact e R k0 k1⟩
theorem YS {P:List Int} (h:P.all ptI=true):∃ pts:List Nat,P=pts.map (λn:Nat=>(n:Int))/\pts.all P8=true/\∀ p∈pts,p<=1114111:=by
 induction P with
 | nil=>exact ⟨[],rfl,rfl,by simp⟩
 | cons x P ih=>
  rw [List.all_cons,Bool.and_eq_true] at h
  obtain ⟨pts,rfl,h1,h2⟩:=ih h.2
  obtain ⟨p0,p1⟩:=Na h.1
  obtain ⟨m,rfl⟩:=Int.eq_ofNat_of_zero_le p0
  refine ⟨m::pts,rfl,?_,?_⟩
  ·rw [List.all_cons,h1,Bool.and_true];exact h.1
  grind
theorem Wn (pts:List Nat):Q4 (pts.map λn:Nat=>(n:Int))=F9 pts:=by
 unfold Q4 F9
 induction pts with
 | nil=>rfl
 | cons p r ih=>
  grind
theorem Md (pts:List Nat):(F9 pts).length=pts.countP (λp=>decide (p<128)):=by
 unfold F9
 grind
theorem SW (z t:Bool) (P:List Int):(R5 P=([],3)/\∀ (R:Type) (k0:Unit->Option R) (k1:By->Int->LL->Option R),LQ LF z t (V4 P) k0 k1=k0 ())\/
  (∃ l,∀ (R:Type) (k0:Unit->Option R) (k1:By->Int->LL->Option R),LQ LF z t (V4 P) k0 k1=k1 (R5 P).1 ((R5 P).2:Nat) l):=by
 have hLF:=D6
 by_cases hl:256<P.length
 ·refine .inl ⟨by unfold R5;rw [if_pos hl],λR k0 k1=>?_⟩
  unfold LQ
  rw [P6,A8]
  rfl
 ·right
  obtain ⟨q1,q2⟩:=SU z t P (by omega) P.length 0 LF [] (by omega) (by omega) (by simp;omega)
  rw [List.drop_zero] at q1 q2
  cases ha:P.all ptI with
  | false=>
   obtain ⟨l,e⟩:=q2 ha
   refine ⟨l,λR k0 k1=>?_⟩
   unfold LQ
   rw [P6,A7,cond_false]
   refine Eq.trans (e R _ _) ?_
   unfold R5
   rw [if_neg hl,ha]
   rfl
  | true=>
   obtain ⟨pts,rfl,hp1,hp2⟩:=YS ha
   rw [List.length_map] at hl
   have hen:R5 (pts.map λn:Nat=>(n:Int))=Bn pts:=by
    unfold R5
    rw [List.length_map,if_neg hl,ha]
    simp [Function.comp_def]
   have hbl:=Md pts
   have hbc:pts.countP (λp=>decide (p<128))<=pts.length:=List.countP_le_length
   have main:∀ (o:By),o.length<=300->∀ (R:Type) (k0:LL->Option R),Bt LF LF z t (B1 pts) ((F9 pts).length:Int) 128 0 72 ((F9 pts).length:Int) (o.map D2) k0=k0 ((N1 pts (F9 pts).length 256 128 { delta:=0,bias:=72,done:=(F9 pts).length,out:=o }).out.map D2):=by
    intro o ho R k0
    exact Au3 z t pts (F9 pts).length (by omega) (by omega) hp2 256 128 LF { delta:=0,bias:=72,done:=(F9 pts).length,out:=o } hbl (by simp only;omega) (by omega) (by simp) (by simp) (by simp only;omega) (by omega) R k0
   have he2:Bn pts=((N1 pts (F9 pts).length 256 128 { delta:=0,bias:=72,done:=(F9 pts).length,out:=if (F9 pts).isEmpty then [] else F9 pts++[45] }).out,0):=by
    unfold Bn
    grind
   refine ⟨(Bn pts).1.map D2,λR k0 k1=>?_⟩
   unfold LQ
   rw [P6,List.length_map,A7,cond_false,hen]
   have q1':=q1 ha R
   rw [List.length_map] at q1'
   refine Eq.trans (q1' _ _) ?_
   rw [List.nil_append,Wn,Ku]
   simp only [vl,List.length_map]
   by_cases hbe:F9 pts=[]
   ·rw [hbe,List.length_nil,A7,cond_false]
    have mm:=main [] (by simp) R
    rw [hbe,List.length_nil] at mm
    rw [List.map_nil] at mm
    refine Eq.trans (mm _) ?_
    rw [hbe] at he2
    rw [he2]
    simp only [List.isEmpty_nil,if_true,List.length_nil]
    rw [Fq,Ga]
    rfl
   ·have hpos:0<(F9 pts).length:=List.length_pos_iff.2 hbe
    rw [A8,cond_true,D4 (by omega),cond_true]
    have hrow:(F9 pts).map D2++[[SV.int .u8 (45:Int)]]=(F9 pts++[45]).map D2:=by rw [List.map_append];rfl
    rw [hrow]
    refine Eq.trans (main (F9 pts++[45]) (by simp;omega) R _) ?_
    rw [he2,if_neg (by simpa using hbe)]
    rw [Fq,Ga]
    rfl
theorem A96 (z t:Bool) (p:LL) (h0:p.all Jg=true):∃ r H,LQ LF z t p (λ_=>rv (.tup [.s (.str []),.s (.int .i64 3)]) []) (λr0 r1 l=>rv (.tup [.s (.str r0),.s (.int .i64 r1)]) [.arr true 5 1 l])=rv r H/\
  r.stab [0,0] H = .tup [.s (.str (R5 (p.map elI)).1),.s (.int .i64 ((R5 (p.map elI)).2:Nat))]:=by
 obtain ⟨P,rfl⟩:=XR h0
 rw [JX]
 rcases SW z t P with ⟨h1,h2⟩ | ⟨l,h2⟩
 ·exact ⟨_,_,h2 _ _ _,by rw [h1];rfl⟩
 ·exact ⟨_,_,h2 _ _ _,rfl⟩
section
variable {σ R : Type} (lf : Nat) (cl : D7) (yh : Yh σ) (s : σ) (k : Out -> St σ -> Option R)
noncomputable abbrev Bi6:Code:=D9 Tryz.f198
noncomputable def Rh (lf:Nat):Cfg:=C1 lf [198] (A6 [(3,[0,1,0,0])]) [(194,Vr),(202,OP)] (A6 [(17,[2]),(16,[0,2,0,53]),(15,[0,2,0]),(14,[2]),(13,[0,2,0,1,45]),(12,[0,2,0,0,0]),(11,[2]),(10,[0,2,0,0,41]),(9,[0,2,0,0]),(8,[0,2,0,0]),(7,[2]),(6,[0,2,0,0,18]),(5,[0,2,0,0]),(4,[2]),(3,[0,2,0,11]),(2,[0,2,0]),(1,[0,2]),(0,[0])]) [202] (A6 [(0,[2]),(1,[0,2,0])]) (some [2]) [(201,Ke)] [] [201]
noncomputable def Bm {R:Type} (lf n:Nat) (w0:Int) (s1:By) (n2 n3 n4:Int) (b5 z6:Bool) (l7:LL) (n8v:Int) (k0:Int->By->Int->Int->Int->Bool->Bool->LL->Int->Option R):Option R:=match n with | 0=>none | n+1=>cond (s1==[]) (k0 4 s1 n2 n3 n4 b5 z6 l7 n8v) (cond (inR 0 s1.length) (cond (inR (bAt s1 (0:Int)) 256) (vl (C5 (u8n (bAt s1 (0:Int)))) λn'1=>cond (ltI n'1 0) (k0 4 s1 n2 n3 n4 b5 z6 l7 n8v) (cond (N6 1 (s1.length:Int) s1.length) (vl (cut s1 1 (s1.length:Int)) λs'3=>vl (A1 (n3+(A1 (n'1*w0)))) λn'5=>cond (ltI 1099511627776 n'5) (k0 19 s'3 n2 n'5 n4 b5 z6 l7 n8v) (cond (ltN n8v 1000000000000) (cond (ltN n4 1000000) (cond (ltI n'1 (I4 n8v n4)) (k0 0 s'3 n2 n'5 n4 b5 z6 l7 (Int.add n8v (36:Int))) (vl (A1 ((36:Int)-(I4 n8v n4))) λn'6=>cond (ltI 1099511627776 (A1 (w0*n'6))) (k0 19 s'3 n2 n'5 n4 b5 z6 l7 (Int.add n8v (36:Int))) (Bm lf n (A1 (w0*n'6)) s'3 n2 n'5 n4 b5 z6 l7 (Int.add n8v (36:Int)) k0))) none) none)) none)) none) none)
theorem QI (n w0 s1 n2 n3 n4 b5 z6 l7 n8v):D5 4 ((Rh lf).keep 3) (bd (Rh lf) cl yh (cd [1,1,1,0,0] Bi6)) n ⟨gp [(0,.ptr 0 0 0),(2,.fnr (Fn.func 201) [] [.ptr 3 0 0,.ptr 2 0 0]),(0,pI w0)] 54,[.box [pS s1,.fl 1,pI n2,pI n3,pI n4,pB b5],.arr z6 3 1 l7,.box [pI n4],.box [pI n8v]],s⟩ k =
 Bm lf n w0 s1 n2 n3 n4 b5 z6 l7 n8v (λn0 s1 n2 n3 n4 b5 z6 l7 n8v=>k .ret ⟨gp [(2,pI n0)] 56,[.box [pS s1,.fl 1,pI n2,pI n3,pI n4,pB b5],.arr z6 3 1 l7,.box [pI n4],.box [pI n8v]],s⟩):=by
 induction n generalizing w0 s1 n2 n3 n4 b5 z6 l7 n8v with
 | zero=>rfl
 | succ n ih=>rw [Bm];simp only [<-ih];kernel_rfl
noncomputable def Bj7 {R:Type} (lf:Nat) (rest:By) (n i b:Int) (st z:Bool) (l:LL) (k0:Int->By->Int->Int->Int->Bool->Bool->LL->Int->Option R):Option R:=Bm lf lf 1 rest n i b st z l 0 (λn'7 s'8 n'9 n'10 n'11 b'12 z'13 l'14 n'15=>k0 n'7 s'8 n'9 n'10 n'11 b'12 z'13 l'14 n'15)
theorem A33 (d:Nat) (rest n i b st z l):evC (Rh lf) (d+1) σ yh 198 [.ptr 0 0 0] [.box [pS rest,.fl 1,pI n,pI i,pI b,pB st],.arr z 3 1 l] s=Bj7 lf rest n i b st z l (λr0 s1 n2 n3 n4 b5 z6 l7 n8v=>some (pI r0,[.box [pS s1,.fl 1,pI n2,pI n3,pI n4,pB b5],.arr z6 3 1 l7,.box [pI n4],.box [pI n8v]],s)):=by
 refine (evE (fn:=Tryz.f198) (by kernel_rfl)).trans ?_
 generalize evC (Rh lf) d=cl
 unfold Bj7;exact (Eq.trans (by kernel_rfl) ((QI lf cl yh s (G5 0 (H9 (Rh lf) Tryz.f198)) lf 1 rest n i b st z l 0).trans (by kernel_rfl)))
noncomputable def FO (lf:Nat):Cfg:=C1 lf [189] (A6 []) [(186,Io),(184,Ip)] (A6 [(16,[2]),(15,[]),(14,[0]),(13,[2]),(12,[0,67]),(11,[2]),(10,[0,4,60]),(9,[0,4]),(8,[0,4]),(7,[0,4]),(6,[0,4]),(5,[0,2,1]),(4,[2]),(3,[0,2,0,8]),(2,[0,2,0]),(1,[0,2]),(0,[0])]) [186,184] (A6 []) (some [2]) [(198,DF),(199,FD)] [] [198,199]
noncomputable def XL {R:Type} (lf:Nat) (rest:By) (n i b:Int) (st z:Bool) (l:LL) (k0:Int->By->Int->Int->Int->Bool->Bool->LL->Option R):Option R:=cond (A3 rest.length) (cond (ltN b 1000000) (cond (ltN i 1099511627777) (cond ((Yi b rest i) != 0) (k0 (Yi b rest i) (Yj b rest i) n (My b rest i) b st z l) (vl (A1 ((l.length:Int)+1)) λn'1=>vl (A1 ((My b rest i)-i)) λn'4=>cond (ltN n'4 1152921504606846976) (cond (ltN n'1 1000000) (cond (ltI 0 n'1) (vl (↑(M6 (Int.toNat n'4) (Int.toNat n'1) (not st)):Int) λn'5=>cond (n'1 != 0) (vl (A1 (Int.tdiv (My b rest i) n'1)) λn'7=>cond (n'1 != 0) (vl (Int.tmod (My b rest i) n'1) λn'9=>cond (not (ptI (A1 (n+n'7)))) (k0 2 (Yj b rest i) (A1 (n+n'7)) n'9 n'5 true z l) (cond (ltI 256 n'1) (k0 3 (Yj b rest i) (A1 (n+n'7)) n'9 n'5 true z l) (cond (ltN n'9 (Nat.add l.length 1)) (cond (Nat.ble l.length 100000) (vl (He l (Int.toNat n'9) (A1 (n+n'7))) λl'11=>k0 0 (Yj b rest i) (A1 (n+n'7)) (A1 (n'9+1)) n'5 true z l'11) none) none))) none) none) none) none) none)) none) none) none
theorem Ao7 (d:Nat) (rest n i b st z l):evC (FO lf) (d+1) σ yh 189 [.ptr 0 0 0] [.box [pS rest,.fl 1,pI n,pI i,pI b,pB st],.arr z 3 1 l] s=XL lf rest n i b st z l (λr0 s1 n2 n3 n4 b5 z6 l7=>some (pI r0,[.box [pS s1,.fl 1,pI n2,pI n3,pI n4,pB b5],.arr z6 3 1 l7],s)):=by
 refine (evE (fn:=Tryz.f189) (by kernel_rfl)).trans ?_
 generalize evC (FO lf) d=cl
 unfold XL;kernel_rfl
noncomputable abbrev Lz:Code:=D9 Tryz.f170
noncomputable def U1 (lf:Nat):Cfg:=C1 lf [170] (A6 [(20,[2,0,1]),(13,[0,1,0,1,0,22,0]),(4,[0,1,0,9,0])]) [(97,Un)] (A6 [(24,[2,0]),(23,[2,0]),(22,[5,2,59]),(21,[5,2]),(20,[5,58]),(19,[2,0]),(18,[5,53]),(17,[5]),(16,[0,4,0,22,0]),(15,[0,4,0,22,0]),(14,[0,4,0,0,21,0]),(13,[0,4,0,22,0,0]),(12,[0,4,0,22,0]),(11,[0,4,0,21]),(10,[0,4,0]),(9,[0,4]),(8,[0,12,0]),(7,[2,0]),(6,[0,12,0,5]),(5,[0,3,8,0]),(4,[0,12,0,0]),(3,[0,12,0]),(2,[2,0]),(1,[0,10]),(0,[0])]) [97] (A6 [(4,[5]),(5,[5]),(2,[0,4,0]),(3,[0,4,0,22,0]),(0,[0]),(1,[0,12,0])]) (some [2,0]) [(189,Um)] [] [189] (nt:=[(199,1,3,1)])
noncomputable def Hn {R:Type} (lf n:Nat) (s0:By) (n1 n2:Int) (k0:Unit->Option R) (k1:By->Option R):Option R:=match n with | 0=>none | n+1=>cond (ltI n2 n1) (cond (inR n2 s0.length) (cond (not (ltI (bAt s0 n2) (128:Int))) (k0 ()) (Hn lf n s0 n1 (A1 (n2+1)) k0 k1)) none) (k1 s0)
theorem SP (n s0 n1 n2):D5 0 ((U1 lf).keep 4) (bd (U1 lf) cl yh (cd [1,1,0,1,0,0] Lz)) n ⟨gp [(0,pS s0),(12,pI n1),(0,pI n2)] 59,[],s⟩ k =
 Hn lf n s0 n1 n2 (λ_=>k .ret ⟨gp [(2,.fl 0),(0,pI (4:Int))] 70,[.arr true 3 1 []],s⟩) (λs0=>k (.exit 0) ⟨gp [(0,pS s0)] 73,[],s⟩):=by
 induction n generalizing s0 n1 n2 with
 | zero=>rfl
 | succ n ih=>rw [Hn];simp only [<-ih];kernel_rfl
noncomputable def Ei {R:Type} (lf n:Nat) (s0:By) (kk1 n2:Int) (l3:LL) (k0:By->Int->LL->Option R):Option R:=match n with | 0=>none | n+1=>cond (ltI n2 kk1) (cond (inR n2 s0.length) (cond (E3 (l3.length+1)) (Ei lf n s0 kk1 (A1 (n2+1)) (l3++[[(SV.int .i64 (A1 (bAt s0 n2)))]]) k0) none) none) (k0 s0 kk1 l3)
theorem SQ (n s0 kk1 n2 l3):D5 2 ((U1 lf).keep 13) (bd (U1 lf) cl yh (cd [1,1,1,1,0,1,1,0,0,1,0,0] Lz)) n ⟨gp [(0,pS s0),(4,.ptr 1 0 0),(0,pI kk1),(22,pI kk1),(0,pI n2)] 43,[.arr true 3 1 l3,.box [pS s0,.fl 0,pI (128:Int),pI (0:Int),pI (72:Int),pB false]],s⟩ k =
 Ei lf n s0 kk1 n2 l3 (λs0 kk1 l2=>k (.exit 2) ⟨gp [(0,pS s0),(4,.ptr 1 0 0),(0,pI kk1)] 67,[.arr true 3 1 l2,.box [pS s0,.fl 0,pI (128:Int),pI (0:Int),pI (72:Int),pB false]],s⟩):=by
 induction n generalizing s0 kk1 n2 l3 with
 | zero=>rfl
 | succ n ih=>rw [Ei];simp only [<-ih];kernel_rfl
noncomputable def O0 {R:Type} (lf n:Nat) (l0:LL) (s1:By) (n2 n3 n4:Int) (b5:Bool) (k0:Int->LL->By->Int->Int->Int->Bool->Option R) (k1:LL->By->Int->Int->Int->Bool->Option R):Option R:=match n with | 0=>none | n+1=>cond (not (s1==[])) (cond (A3 s1.length) (cond (ltN n4 1000000) (cond (ltN n3 1099511627777) (cond (ltN n2 1152921504606846976) (cond (Nat.ble l0.length 100000) (vl ((D0 (DS.mk s1 n2 n3 n4 b5 l0))).1 λn'10=>vl (DS.l ((D0 (DS.mk s1 n2 n3 n4 b5 l0))).2) λl'11=>cond (n'10 != 0) (k0 n'10 l'11 (DS.rest ((D0 (DS.mk s1 n2 n3 n4 b5 l0))).2) (DS.n ((D0 (DS.mk s1 n2 n3 n4 b5 l0))).2) (DS.i ((D0 (DS.mk s1 n2 n3 n4 b5 l0))).2) (DS.b ((D0 (DS.mk s1 n2 n3 n4 b5 l0))).2) (DS.st ((D0 (DS.mk s1 n2 n3 n4 b5 l0))).2)) (O0 lf n l'11 (DS.rest ((D0 (DS.mk s1 n2 n3 n4 b5 l0))).2) (DS.n ((D0 (DS.mk s1 n2 n3 n4 b5 l0))).2) (DS.i ((D0 (DS.mk s1 n2 n3 n4 b5 l0))).2) (DS.b ((D0 (DS.mk s1 n2 n3 n4 b5 l0))).2) (DS.st ((D0 (DS.mk s1 n2 n3 n4 b5 l0))).2) k0 k1)) none) none) none) none) none) (k1 l0 s1 n2 n3 n4 b5)
theorem Yq (n l0 s1 n2 n3 n4 b5):D5 2 ((U1 lf).keep 20) (bd (U1 lf) cl yh (cd [1,1,1,1,1,1,0,0,0] Lz)) n ⟨gp [(5,.ptr 1 0 0)] 68,[.arr true 3 1 l0,.box [pS s1,.fl 0,pI n2,pI n3,pI n4,pB b5]],s⟩ k =
 O0 lf n l0 s1 n2 n3 n4 b5 (λn0 l1 s2 n3 n4 n5 b6=>k .ret ⟨gp [(2,.fl 2),(0,pI n0)] 70,[.arr true 3 1 l1,.box [pS s2,.fl 0,pI n3,pI n4,pI n5,pB b6],.arr true 3 1 []],s⟩) (λl0 s1 n2 n3 n4 b5=>k (.exit 4) ⟨gp [(5,.ptr 1 0 0)] 68,[.arr true 3 1 l0,.box [pS s1,.fl 0,pI n2,pI n3,pI n4,pB b5]],s⟩):=by
 induction n generalizing l0 s1 n2 n3 n4 b5 with
 | zero=>rfl
 | succ n ih=>rw [O0];simp only [<-ih];kernel_rfl
noncomputable def Pa {R:Type} (lf:Nat) (s0:By) (k0:Int->Option R) (k1:Int->LL->By->Int->Int->Int->Bool->Option R) (k2:LL->By->Int->Int->Int->Bool->Option R):Option R:=cond (ltI 1024 (s0.length:Int)) (k0 3) (Hn lf lf s0 (s0.length:Int) 0 (λ_=>k0 4) (λs'0=>cond (A3 s'0.length) (vl (G7 (u8n (45:Int)) s'0) λn'4=>cond (ltI 0 n'4) (Ei lf lf s'0 n'4 0 [] (λs'5 kk'6 l'7=>vl (A1 (kk'6+1)) λn'8=>cond (N6 n'8 (s'5.length:Int) s'5.length) (vl (cut s'5 n'8 (s'5.length:Int)) λs'9=>cond (ltI 256 (l'7.length:Int)) (k1 3 l'7 s'9 128 0 72 false) (O0 lf lf l'7 s'9 128 0 72 false (λn'12 l'13 s'14 n'15 n'16 n'17 b'18=>k1 n'12 l'13 s'14 n'15 n'16 n'17 b'18) (λl'19 s'20 n'21 n'22 n'23 b'24=>k2 l'19 s'20 n'21 n'22 n'23 b'24))) none)) (O0 lf lf [] s'0 128 0 72 false (λn'25 l'26 s'27 n'28 n'29 n'30 b'31=>k1 n'25 l'26 s'27 n'28 n'29 n'30 b'31) (λl'32 s'33 n'34 n'35 n'36 b'37=>k2 l'32 s'33 n'34 n'35 n'36 b'37))) none))
theorem A91 (d:Nat) (s0):evC (U1 lf) (d+1) σ yh 170 [pS s0] [] s=Pa lf s0 (λr0=>some (.tup [.fl 0,pI r0],[.arr true 3 1 []],s)) (λr0 l1 s2 n3 n4 n5 b6=>some (.tup [.fl 2,pI r0],[.arr true 3 1 l1,.box [pS s2,.fl 0,pI n3,pI n4,pI n5,pB b6],.arr true 3 1 []],s)) (λl0 s1 n2 n3 n4 b5=>some (.tup [.fl 0,pI (0:Int)],[.arr true 3 1 l0,.box [pS s1,.fl 0,pI n2,pI n3,pI n4,pB b5]],s)):=by
 refine (evE (fn:=Tryz.f170) (by kernel_rfl)).trans ?_
 generalize evC (U1 lf) d=cl
 unfold Pa;exact let K0:=(G5 4 (G9 (U1 lf) cl yh (cd [1,1,1,1,1,1,1] Lz) (H9 (U1 lf) Tryz.f170)));(Eq.trans (by kernel_rfl) (A0 rfl ((SP lf cl yh s (G5 0 (G9 (U1 lf) cl yh (cd [1,1,1] Lz) (H9 (U1 lf) Tryz.f170))) lf s0 (s0.length:Int) 0).trans (congr (congr rfl (by kernel_rfl)) (fx1 λs'0=>(Eq.trans (by kernel_rfl) (A0 (A9 λn'4=>(A0 ((SQ lf cl yh s (G5 2 (G9 (U1 lf) cl yh (cd [1,1,1,1,0,1,1,0,1] Lz) (G9 (U1 lf) cl yh (cd [1,1,1,1,1] Lz) (H9 (U1 lf) Tryz.f170)))) lf s'0 n'4 0 []).trans (congr rfl (fx3 λs'5 kk'6 l'7=>(Eq.trans (by kernel_rfl) (A9 λn'8=>(A0 (A9 λs'9=>(A0 rfl ((Yq lf cl yh s K0 lf l'7 s'9 128 0 72 false).trans (by kernel_rfl)))) rfl)))))) ((Yq lf cl yh s K0 lf [] s'0 128 0 72 false).trans (by kernel_rfl)))) rfl)))))))
noncomputable abbrev JD:Code:=D9 Tryz.f142
noncomputable def Cr (lf:Nat):Cfg:=C1 lf [142] (A6 [(2,[0,0,2,0])]) [] (A6 [(6,[4]),(3,[0,0,3]),(5,[4]),(4,[0,0,3,11]),(2,[0,0,3,4]),(1,[0,0,3]),(0,[0,0])]) [] (A6 [(0,[]),(1,[0,0,3])]) (some [4]) [] [] []
noncomputable def Z8 {R:Type} (lf n:Nat) (s0:By) (c1 i2:Int) (k0:Int->Option R) (k1:Unit->Option R):Option R:=match n with | 0=>none | n+1=>cond (not (ltI i2 0)) (cond (inR i2 s0.length) (cond ((bAt s0 i2)==c1) (k0 i2) (Z8 lf n s0 c1 (A1 (i2-1)) k0 k1)) none) (k1 ())
theorem GN (n s0 c1 i2):D5 0 ((Cr lf).keep 2) (bd (Cr lf) cl yh (cd [1,0,1,0,0] JD)) n ⟨gp [(0,pS s0),(0,p8 c1),(3,pI i2)] 13,[],s⟩ k =
 Z8 lf n s0 c1 i2 (λn0=>k .ret ⟨gp [(4,pI n0)] 14,[],s⟩) (λ_=>k (.exit 0) ⟨gp [] 19,[],s⟩):=by
 induction n generalizing s0 c1 i2 with
 | zero=>rfl
 | succ n ih=>rw [Z8];simp only [<-ih];kernel_rfl
noncomputable def GM {R:Type} (lf:Nat) (s0:By) (c1:Int) (k0:Int->Option R):Option R:=vl (A1 ((s0.length:Int)-1)) λn'1=>Z8 lf lf s0 c1 n'1 (λn'2=>k0 n'2) (λ_=>k0 (-1))
theorem Ab7 (d:Nat) (s0 c1):evC (Cr lf) (d+1) σ yh 142 [pS s0,p8 c1] [] s=GM lf s0 c1 (λr0=>some (pI r0,[],s)):=by
 refine (evE (fn:=Tryz.f142) (by kernel_rfl)).trans ?_
 generalize evC (Cr lf) d=cl
 unfold GM;exact (Eq.trans (by kernel_rfl) (A9 λn'1=>((GN lf cl yh s (G5 0 (G9 (Cr lf) cl yh (cd [1,1] JD) (H9 (Cr lf) Tryz.f142))) lf s0 c1 n'1).trans (by kernel_rfl))))
noncomputable def FP (lf:Nat):Cfg:=C1 lf [97] (A6 []) [(142,IU)] (A6 [(1,[4]),(0,[0,0])]) [142] (A6 []) (some [4]) [] [] []
noncomputable def XU {R:Type} (lf:Nat) (s0:By) (c1:Int) (k0:Int->Option R):Option R:=cond (A3 s0.length) (cond (inR c1 256) (k0 (G7 (u8n c1) s0)) none) none
theorem Ar2 (d:Nat) (s0 c1):evC (FP lf) (d+1) σ yh 97 [pS s0,p8 c1] [] s=XU lf s0 c1 (λr0=>some (pI r0,[],s)):=by
 refine (evE (fn:=Tryz.f97) (by kernel_rfl)).trans ?_
 generalize evC (FP lf) d=cl
 unfold XU;kernel_rfl
end
theorem Cd (c:UInt8):-1<=C5 c/\C5 c<=35:=by
 unfold C5 Il
 grind
theorem Hv (k b:Int):1<=I4 k b/\I4 k b<=26:=by unfold I4;omega
theorem Ad {x w:Int} (h0:0<=x) (h1:x<=35) (w0:0<=w) (w1:w<=1099511627776):0<=x*w/\x*w<=38482906972160:=by
 refine ⟨Int.mul_nonneg h0 w0,?_⟩
 have:=Int.mul_le_mul h1 w1 w0 (show (0:Int)<=35 by omega)
 omega
theorem Nz (b:Int):∀ (s:By) (i w k:Int),0<=i->0<=w->w<=1099511627776->(O8 b s i w k).1=0->i<=(O8 b s i w k).2.2/\(O8 b s i w k).2.2<=1099511627776/\(O8 b s i w k).2.1.length<s.length
 | [],i,w,k,_,_,_,h=>by simp [O8] at h
 | c::r,i,w,k,hi,hw,hw1,h=>by
  have hv:=Cd c
  have ht:=Hv k b
  unfold O8 at h ⊢
  split at h
  ·simp at h
  ·rename_i h1
   rw [if_neg h1]
   have hm:=Ad (by omega) hv.2 hw hw1
   split at h
   ·simp at h
   ·rename_i h2
    rw [if_neg h2]
    split at h
    ·grind
    ·rename_i h3
     rw [if_neg h3]
     split at h
     ·omega
     ·rename_i h4
      rw [if_neg h4]
      obtain ⟨q1,q2,q3⟩:=Nz b r (i+C5 c*w) (w*(36-I4 k b)) (k+36) (by omega) (Int.mul_nonneg hw (by omega)) (by omega) h
      grind
theorem Aa2 (n2:Int) (b:Int) (st z:Bool) (l:LL) (hb0:0<=b) (hb1:b<1000000):∀ (s:By) (n:Nat) (i w k:Int),s.length<n->s.length<=1000000000->0<=i->i<=1099511627776->0<=w->w<=1099511627776->0<=k->k+36*s.length<=100000000000->
  ∃ k',∀ (R:Type) (k0:Int->By->Int->Int->Int->Bool->Bool->LL->Int->Option R),Bm LF n w s n2 i b st z l k k0=k0 (O8 b s i w k).1 (O8 b s i w k).2.1 n2 (O8 b s i w k).2.2 b st z l k':=by
 intro s
 induction s with
 | nil=>
  intro n i w k hn hs hi hi1 hw hw1 hk hk1
  obtain ⟨n,rfl⟩:∃ m,n=m+1:=⟨n-1,by omega⟩
  refine ⟨k,λR k0=>?_⟩
  rw [Bm]
  rfl
 | cons c r ih=>
  intro n i w k hn hs hi hi1 hw hw1 hk hk1
  obtain ⟨n,rfl⟩:∃ m,n=m+1:=⟨n-1,by omega⟩
  rw [List.length_cons] at hn hs hk1
  have hv:=Cd c
  have ht:=Hv k b
  have hu:u8n (bAt (c::r) 0)=c:=by unfold u8n bAt;simp
  have hin:inR (bAt (c::r) 0) 256=true:=by rw [It];have:=c.toNat_lt;exact J6 (by omega) (by simp;omega)
  have hcut:cut (c::r) 1 ((c::r).length:Int)=r:=by
   have:=Nv (c::r) 1 (c::r).length
   grind
  have hne:((c::r)==([]:By))=false:=rfl
  have start:∀ (R:Type) (k0:Int->By->Int->Int->Int->Bool->Bool->LL->Int->Option R),Bm LF (n+1) w (c::r) n2 i b st z l k k0 =
    cond (ltI (C5 c) 0) (k0 4 (c::r) n2 i b st z l k)
     (vl (A1 (i+(A1 (C5 c*w)))) λn'5=>cond (ltI 1099511627776 n'5) (k0 19 r n2 n'5 b st z l k)
      (cond (ltI (C5 c) (I4 k b)) (k0 0 r n2 n'5 b st z l (Int.add k 36))
       (vl (A1 (36-(I4 k b))) λn'6=>cond (ltI 1099511627776 (A1 (w*n'6))) (k0 19 r n2 n'5 b st z l (Int.add k 36)) (Bm LF n (A1 (w*n'6)) r n2 n'5 b st z l (Int.add k 36) k0)))):=by
   intro R k0
   rw [Bm]
   rw [hne,hin,J6 (by omega) (by rw [List.length_cons];omega),S7 (by omega) (by rw [List.length_cons];omega) (by omega),hcut,hu,M4,M4]
   rfl
  unfold O8
  by_cases h1:C5 c<0
  ·rw [if_pos h1]
   refine ⟨k,λR k0=>?_⟩
   rw [start,B9 h1]
   rfl
  ·rw [if_neg h1]
   have hm:=Ad (by omega) hv.2 hw hw1
   have e1:A1 (C5 c*w)=C5 c*w:=A4
   have e2:A1 (i+C5 c*w)=i+C5 c*w:=A4
   by_cases h2:1099511627776<i+C5 c*w
   ·rw [if_pos h2]
    refine ⟨k,λR k0=>?_⟩
    rw [start,A7,e1,e2]
    simp only [vl,cond_false]
    rw [B9 h2]
    rfl
   ·rw [if_neg h2]
    by_cases h3:C5 c<I4 k b
    ·rw [if_pos h3]
     refine ⟨Int.add k 36,λR k0=>?_⟩
     rw [start,A7,e1,e2]
     simp only [vl,cond_false]
     rw [A7,B9 h3]
     rfl
    ·rw [if_neg h3]
     have e3:A1 (36-I4 k b)=36-I4 k b:=A4
     have hm2:=Ad (x:=36-I4 k b) (by omega) (by omega) hw hw1
     rw [Int.mul_comm] at hm2
     have e4:A1 (w*(36-I4 k b))=w*(36-I4 k b):=A4
     by_cases h4:1099511627776<w*(36-I4 k b)
     ·rw [if_pos h4]
      refine ⟨Int.add k 36,λR k0=>?_⟩
      rw [start,A7,e1,e2]
      simp only [vl,cond_false]
      rw [A7,A7,e3,e4,B9 h4]
      rfl
     ·rw [if_neg h4]
      obtain ⟨k',e⟩:=ih n (i+C5 c*w) (w*(36-I4 k b)) (k+36) (by omega) (by omega) (by omega) (by omega) (by omega) (by omega) (by omega) (by omega)
      refine ⟨k',λR k0=>?_⟩
      rw [start,A7,e1,e2]
      simp only [vl,cond_false]
      rw [A7,A7,e3,e4,A7]
      exact e R k0
theorem Aa3 (rest:By) (n i b:Int) (st z:Bool) (l:LL) (h0:A3 rest.length=true) (h1:ltN b 1000000=true) (h2:ltN i 1099511627777=true) :
  ∃ k',∀ (R:Type) (k0:Int->By->Int->Int->Int->Bool->Bool->LL->Int->Option R),Bj7 LF rest n i b st z l k0=k0 (Yi b rest i) (Yj b rest i) n (My b rest i) b st z l k':=by
 have hs:=M3 h0
 obtain ⟨b0,b1⟩:=M0.1 h1
 obtain ⟨i0,i1⟩:=M0.1 h2
 have hLF:=D6
 obtain ⟨k',e⟩:=Aa2 n b st z l b0 (by omega) rest LF i 1 0 (by omega) (by omega) i0 (by omega) (by omega) (by omega) (by omega) (by omega)
 exact ⟨k',λR k0=>e R _⟩
theorem QJ {R:Type} {k0:Int->By->Int->Int->Int->Bool->Bool->LL->Option R} (rest:By) (n i b:Int) (st z:Bool) (l:LL) (h0:A3 rest.length=true) (h1:ltN b 1000000=true) (h2:ltN i 1099511627777=true) (h3:ltN n 1152921504606846976=true) (h4:Nat.ble l.length 100000=true) :
  XL LF rest n i b st z l k0=k0 (D0 ⟨rest,n,i,b,st,l⟩).1 (D0 ⟨rest,n,i,b,st,l⟩).2.rest (D0 ⟨rest,n,i,b,st,l⟩).2.n (D0 ⟨rest,n,i,b,st,l⟩).2.i (D0 ⟨rest,n,i,b,st,l⟩).2.b (D0 ⟨rest,n,i,b,st,l⟩).2.st z (D0 ⟨rest,n,i,b,st,l⟩).2.l:=by
 obtain ⟨i0,i1⟩:=M0.1 h2
 obtain ⟨n0,n1⟩:=M0.1 h3
 have hl:=Nat.le_of_ble_eq_true h4
 unfold XL D0
 rw [h0,h1,h2]
 simp only [cond_true]
 by_cases he:Yi b rest i=0
 ·rw [if_pos he,he]
  obtain ⟨q1,q2,q3⟩:=Nz b rest i 1 0 i0 (by omega) (by omega) he
  have q1':i<=My b rest i:=q1
  have q2':My b rest i<=1099511627776:=q2
  have e1:A1 ((l.length:Int)+1)=(l.length:Int)+1:=A4
  simp only [vl]
  rw [e1]
  generalize My b rest i=x at *
  have hx0:0<=x:=by omega
  obtain ⟨X,rfl⟩:=Int.eq_ofNat_of_zero_le hx0
  have e2:A1 ((X:Int)-i)=(X:Int)-i:=A4
  have ec:((l.length:Int)+1)=((l.length+1:Nat):Int):=rfl
  have ed:Int.tdiv (X:Int) ((l.length+1:Nat):Int)=((X / (l.length+1):Nat):Int):=K7 _ _
  have em:Int.tmod (X:Int) ((l.length+1:Nat):Int)=((X % (l.length+1):Nat):Int):=Gl _ _
  have hd:=Nat.div_le_self X (l.length+1)
  have hm:=Nat.mod_lt X (show 0<l.length+1 by omega)
  rw [e2,ec,ed,em]
  generalize hA:X / (l.length+1)=A at *
  generalize hB:X % (l.length+1)=B at *
  have e3:A1 (A:Int)=(A:Int):=A4
  have e4:A1 (n+(A:Int))=n+(A:Int):=A4
  have e5:A1 ((B:Int)+1)=(B:Int)+1:=A4
  have c0:((0:Int) != 0)=false:=rfl
  have c1:((((l.length+1:Nat):Int)) != 0)=true:=by rw [bne_iff_ne];omega
  rw [e3,e4,e5,c0,M4,M4,A8,c1]
  simp only [cond_true,cond_false]
  cases hp:ptI (n+(A:Int)) with
  | false=>simp
  | true=>
   simp only [Bool.not_true,cond_false,if_true]
   by_cases h256:(256:Int)<((l.length+1:Nat):Int)
   ·rw [if_pos h256,B9 h256]
    rfl
   ·rw [if_neg h256,A7,cond_false,YH (by omega) (by show (B:Int)<((l.length+1:Nat):Int);omega),h4]
    rfl
 ·rw [if_neg he,show (Yi b rest i != 0)=true from bne_iff_ne.2 he]
  rfl
theorem KV (c:UInt8):∀ l:By,-1<=G7 c l
 | []=>by simp [G7]
 | b::r=>by
  have:=KV c r
  unfold G7
  omega
theorem Xu (c b:UInt8):∀ l:By,G7 c (l++[b])=if b=c then (l.length:Int) else G7 c l
 | []=>by
  by_cases h:b=c<;>simp [G7,h]
 | a::l=>by
  have ih:=Xu c b l
  rw [List.cons_append,G7,ih]
  by_cases h:b=c
  ·grind
  ·rw [if_neg h,if_neg h]
   rfl
theorem KN {R:Type} {k0:Int->Option R} {k1:Unit->Option R} (s:By) (c:UInt8) (hs:s.length<=1000000000):∀ (m n:Nat),m<=s.length->m<n->
  Z8 LF n s (c.toNat:Int) ((m:Int)-1) k0 k1=if G7 c (s.take m)<0 then k1 () else k0 (G7 c (s.take m)):=by
 intro m
 induction m with
 | zero=>
  intro n hm hn
  obtain ⟨n,rfl⟩:∃ m,n=m+1:=⟨n-1,by omega⟩
  rw [Z8]
  rw [A8]
  rfl
 | succ m ih=>
  intro n hm hn
  obtain ⟨n,rfl⟩:∃ m,n=m+1:=⟨n-1,by omega⟩
  rw [Z8]
  have e0:(((m+1:Nat):Int)-1)=(m:Int):=by omega
  have e1:A1 ((m:Int)-1)=(m:Int)-1:=A4
  have ht:s.take (m+1)=s.take m++[s.getD m 0]:=by
   rw [List.take_add_one,List.getD_eq_getElem?_getD,List.getElem?_eq_getElem (by omega)]
   rfl
  rw [e0,e1,A7,J5,I2,ht,Xu]
  simp only [Bool.not_false,cond_true]
  by_cases h:s.getD m 0=c
  ·rw [if_pos h,h,beq_self_eq_true,cond_true,List.length_take,Nat.min_eq_left (by omega),H6]
  ·have hne:(((s.getD m 0).toNat:Int)==(c.toNat:Int))=false:=by
    rw [beq_eq_false_iff_ne]
    intro he
    exact h (UInt8.toNat.inj (Int.ofNat.inj he))
   rw [if_neg h,hne,cond_false]
   exact ih n (by omega) (by omega)
theorem Ay5 {c:Int} (h:inR c 256=true):c=((u8n c).toNat:Int):=by
 simp only [inR,Bool.and_eq_true,decide_eq_true_eq] at h
 unfold u8n
 simp
 omega
theorem KO {R:Type} {k0:Int->Option R} (s:By) (c:Int) (h0:A3 s.length=true) (h1:inR c 256=true):GM LF s c k0=k0 (G7 (u8n c) s):=by
 have hs:=M3 h0
 have hLF:=D6
 have hc:=Ay5 h1
 generalize u8n c=d at *
 subst hc
 unfold GM
 have e1:A1 ((s.length:Int)-1)=(s.length:Int)-1:=A4
 simp only [vl]
 rw [e1]
 refine Eq.trans (KN s d (by omega) s.length LF (by omega) (by omega)) ?_
 rw [List.take_length]
 have:=KV d s
 by_cases h:G7 d s<0
 ·rw [if_pos h,show G7 d s = -1 by omega]
 ·rw [if_neg h]
theorem RD {R:Type} {k0:Int->Option R} (s:By) (c:Int) (h0:A3 s.length=true) (h1:inR c 256=true):XU LF s c k0=k0 (G7 (u8n c) s):=by
 unfold XU
 grind
theorem Ji:∀ s:By,(45∈s->G7 45 s=(E8 s:Int))/\(45∉s->G7 45 s = -1/\E8 s=0)
 | []=>⟨λh=>(by cases h),λ_=>⟨rfl,rfl⟩⟩
 | b::r=>by
  obtain ⟨h1,h2⟩:=Ji r
  unfold G7 E8
  grind
theorem NQ {c:UInt8} (h:Il c=none):C5 c = -1:=by unfold C5;rw [h]
theorem NR {c:UInt8} {x:Nat} (h:Il c=some x):C5 c=x:=by unfold C5;rw [h]
theorem Oa (b:Nat):∀ (s:By) (i w k:Nat),O8 (b:Int) s (i:Int) (w:Int) ((36*k:Nat):Int)=((((C4 b s i w k).2.2:Nat):Int),(O8 (b:Int) s (i:Int) (w:Int) ((36*k:Nat):Int)).2)/\
  ((C4 b s i w k).2.2=0->(O8 (b:Int) s (i:Int) (w:Int) ((36*k:Nat):Int)).2=((C4 b s i w k).2.1,((C4 b s i w k).1:Int)))
 | [],i,w,k=>⟨rfl,λh=>by simp [C4] at h⟩
 | c::r,i,w,k=>by
  unfold O8 C4
  cases hv:Il c with
  | none=>
   rw [NQ hv,Bh]
   grind
  | some x=>
   rw [NR hv,H6,Qa]
   have e1:(i:Int)+(x:Int)*(w:Int)=((i+x*w:Nat):Int):=by push_cast;rfl
   have ht:=Q3 k b
   have e2:(w:Int)*(36-(thr k b:Int))=((w*(36-thr k b):Nat):Int):=by grind
   have e3:((36*k:Nat):Int)+36=((36*(k+1):Nat):Int):=by omega
   have hsat:Fh=1099511627776:=by decide
   rw [e1,e2,e3,hsat]
   simp only
   generalize i+x*w=I
   generalize w*(36-thr k b)=W
   by_cases h2:1099511627776<I
   ·grind
   ·rw [H6,if_neg h2]
    by_cases h3:x<thr k b
    ·grind
    ·rw [H6,if_neg h3]
     by_cases h4:1099511627776<W
     ·grind
     ·rw [H6,if_neg h4]
      exact Oa b r I W (k+1)
theorem Aq6 (l:List Nat) (i n:Nat):He (B1 l) i (n:Int)=B1 (P7 l i n):=by
 unfold He P7 B1
 simp_all
theorem GY (b:Nat) (s:By) (i:Nat):Yi (b:Int) s (i:Int)=((C4 b s i 1 0).2.2:Int)/\((C4 b s i 1 0).2.2=0->Yj (b:Int) s (i:Int)=(C4 b s i 1 0).2.1/\My (b:Int) s (i:Int)=((C4 b s i 1 0).1:Int)):=by
 obtain ⟨h1,h2⟩:=Oa b s i 1 0
 have e:O8 (b:Int) s (i:Int) 1 0=O8 (b:Int) s (i:Int) ((1:Nat):Int) ((36*0:Nat):Int):=rfl
 unfold Yi Yj My
 rw [e]
 refine ⟨by rw [h1],λh=>?_⟩
 have:=h2 h
 rw [this]
 exact ⟨rfl,rfl⟩
theorem Bq5 (s:By) (pts:List Nat) (n i b:Nat) (st:Bool) (h:(C4 b s i 1 0).2.2=0) (hi:i<=(C4 b s i 1 0).1) (hp:P8 (n+(C4 b s i 1 0).1 / (pts.length+1))=true) (hc:¬ 256<pts.length+1) :
  D0 ⟨s,(n:Int),(i:Int),(b:Int),st,B1 pts⟩=(0,⟨(C4 b s i 1 0).2.1,((n+(C4 b s i 1 0).1 / (pts.length+1):Nat):Int),(((C4 b s i 1 0).1 % (pts.length+1)+1:Nat):Int),((M6 ((C4 b s i 1 0).1-i) (pts.length+1) (!st):Nat):Int),true,B1 (P7 pts ((C4 b s i 1 0).1 % (pts.length+1)) (n+(C4 b s i 1 0).1 / (pts.length+1)))⟩):=by
 obtain ⟨h1,h2⟩:=GY b s i
 obtain ⟨h3,h4⟩:=h2 h
 unfold D0
 simp only
 rw [h1,h,if_pos (show ((0:Nat):Int)=0 from rfl),h3,h4,C0]
 generalize (C4 b s i 1 0).1=X at *
 have ec:((pts.length:Int)+1)=((pts.length+1:Nat):Int):=rfl
 have ed:Int.tdiv (X:Int) ((pts.length+1:Nat):Int)=((X / (pts.length+1):Nat):Int):=K7 _ _
 have em:Int.tmod (X:Int) ((pts.length+1:Nat):Int)=((X % (pts.length+1):Nat):Int):=Gl _ _
 have en:(n:Int)+((X / (pts.length+1):Nat):Int)=((n+X / (pts.length+1):Nat):Int):=rfl
 rw [ec,ed,em,en,Ho,hp,if_pos rfl,H6,Int.toNat_natCast,Aq6,Int.toNat_natCast,show ((X:Int)-(i:Int)).toNat=X-i by omega]
 rfl
theorem Bj8 (s:By) (pts:List Nat) (n i b:Nat) (st:Bool):((C4 b s i 1 0).2.2≠0->(D0 ⟨s,(n:Int),(i:Int),(b:Int),st,B1 pts⟩).1=((C4 b s i 1 0).2.2:Int))/\
  ((C4 b s i 1 0).2.2=0->P8 (n+(C4 b s i 1 0).1 / (pts.length+1))=false->(D0 ⟨s,(n:Int),(i:Int),(b:Int),st,B1 pts⟩).1=2)/\
  ((C4 b s i 1 0).2.2=0->P8 (n+(C4 b s i 1 0).1 / (pts.length+1))=true->256<pts.length+1->(D0 ⟨s,(n:Int),(i:Int),(b:Int),st,B1 pts⟩).1=3):=by
 obtain ⟨h1,h2⟩:=GY b s i
 have ec:(((B1 pts).length:Int)+1)=((pts.length+1:Nat):Int):=by rw [C0];rfl
 have ed:∀ X:Nat,Int.tdiv (X:Int) ((pts.length+1:Nat):Int)=((X / (pts.length+1):Nat):Int):=λX=>K7 _ _
 have en:∀ A:Nat,(n:Int)+(A:Int)=((n+A:Nat):Int):=λA=>rfl
 refine ⟨λh=>?_,λh hp=>?_,λh hp hc=>?_⟩
 ·unfold D0
  simp only
  rw [h1,H6]
 ·obtain ⟨h3,h4⟩:=h2 h
  unfold D0
  simp only
  rw [h1,h,if_pos (show ((0:Nat):Int)=0 from rfl),h4,ec,ed,en,Ho,hp,if_neg (by simp)]
 ·obtain ⟨h3,h4⟩:=h2 h
  unfold D0
  simp only
  rw [h1,h,if_pos (show ((0:Nat):Int)=0 from rfl),h4,ec,ed,en,Ho,hp,if_pos rfl,Bh]
theorem Z6 (pts:List Nat) (n i b:Nat) (f:Bool):F2 [] pts n i b f=(pts,0):=by rw [F2];rfl
theorem Cw {s:By} (hs:s≠[]) (pts:List Nat) (n i b:Nat) (f:Bool) (h:(C4 b s i 1 0).2.2≠0):F2 s pts n i b f=([],(C4 b s i 1 0).2.2):=by
 rw [F2,dif_neg hs]
 grind
theorem Ar {s:By} (hs:s≠[]) (pts:List Nat) (n i b:Nat) (f:Bool) (h:(C4 b s i 1 0).2.2=0):F2 s pts n i b f =
  if P8 (n+(C4 b s i 1 0).1 / (pts.length+1)) then (if 256<pts.length+1 then ([],3) else F2 (C4 b s i 1 0).2.1 (P7 pts ((C4 b s i 1 0).1 % (pts.length+1)) (n+(C4 b s i 1 0).1 / (pts.length+1))) (n+(C4 b s i 1 0).1 / (pts.length+1)) ((C4 b s i 1 0).1 % (pts.length+1)+1) (M6 ((C4 b s i 1 0).1-i) (pts.length+1) f) false) else ([],2):=by
 rw [F2,dif_neg hs]
 simp only
 rw [dif_pos h]
theorem W5 (l:List Nat) (i n:Nat):(P7 l i n).length=l.length+1:=by
 unfold P7
 grind
theorem Af0:∀ (r:Nat) (s:By) (pts:List Nat) (n i b f:Nat) (st:Bool),s.length<=r->r<f->s.length<=1000000->pts.length<=256->n<=1114111->i<=1000->b<=500->
  ((F2 s pts n i b (!st)).2=0->∃ s' n' i' b' st',∀ (R:Type) (k0:Int->LL->By->Int->Int->Int->Bool->Option R) (k1:LL->By->Int->Int->Int->Bool->Option R),O0 LF f (B1 pts) s (n:Int) (i:Int) (b:Int) st k0 k1=k1 (B1 (F2 s pts n i b (!st)).1) s' n' i' b' st')/\
  ((F2 s pts n i b (!st)).2≠0->(F2 s pts n i b (!st)).1=[]/\∃ l s' n' i' b' st',∀ (R:Type) (k0:Int->LL->By->Int->Int->Int->Bool->Option R) (k1:LL->By->Int->Int->Int->Bool->Option R),O0 LF f (B1 pts) s (n:Int) (i:Int) (b:Int) st k0 k1=k0 ((F2 s pts n i b (!st)).2:Nat) l s' n' i' b' st'):=by
 intro r
 induction r with
 | zero=>
  intro s pts n i b f st h hf _ _ _ _ _
  obtain ⟨f,rfl⟩:∃ m,f=m+1:=⟨f-1,by omega⟩
  have hs:s=[]:=List.length_eq_zero_iff.1 (by omega)
  subst hs
  rw [Z6]
  refine ⟨λ_=>⟨[],n,i,b,st,λR k0 k1=>?_⟩,λh=>absurd rfl h⟩
  rw [O0]
  rfl
 | succ r ih=>
  intro s pts n i b f st h hf h1 h2 h3 h4 h5
  obtain ⟨f,rfl⟩:∃ m,f=m+1:=⟨f-1,by omega⟩
  by_cases hs:s=[]
  ·subst hs
   rw [Z6]
   refine ⟨λ_=>⟨[],n,i,b,st,λR k0 k1=>?_⟩,λh=>absurd rfl h⟩
   rw [O0]
   rfl
  ·have start:∀ (R:Type) (k0:Int->LL->By->Int->Int->Int->Bool->Option R) (k1:LL->By->Int->Int->Int->Bool->Option R),O0 LF (f+1) (B1 pts) s (n:Int) (i:Int) (b:Int) st k0 k1 =
     cond ((D0 ⟨s,n,i,b,st,B1 pts⟩).1 != 0) (k0 (D0 ⟨s,n,i,b,st,B1 pts⟩).1 (D0 ⟨s,n,i,b,st,B1 pts⟩).2.l (D0 ⟨s,n,i,b,st,B1 pts⟩).2.rest (D0 ⟨s,n,i,b,st,B1 pts⟩).2.n (D0 ⟨s,n,i,b,st,B1 pts⟩).2.i (D0 ⟨s,n,i,b,st,B1 pts⟩).2.b (D0 ⟨s,n,i,b,st,B1 pts⟩).2.st)
      (O0 LF f (D0 ⟨s,n,i,b,st,B1 pts⟩).2.l (D0 ⟨s,n,i,b,st,B1 pts⟩).2.rest (D0 ⟨s,n,i,b,st,B1 pts⟩).2.n (D0 ⟨s,n,i,b,st,B1 pts⟩).2.i (D0 ⟨s,n,i,b,st,B1 pts⟩).2.b (D0 ⟨s,n,i,b,st,B1 pts⟩).2.st k0 k1):=by
    intro R k0 k1
    rw [O0]
    rw [show (s==([]:By))=false from beq_eq_false_iff_ne.2 hs,ZF,M4,M4,M4,C0,Nat.ble_eq_true_of_le (show pts.length<=100000 by omega)]
    rfl
   obtain ⟨d1,d2,d3⟩:=Bj8 s pts n i b st
   have hok:=Bq5 s pts n i b st
   generalize D0 ⟨s,n,i,b,st,B1 pts⟩=D at *
   by_cases he:(C4 b s i 1 0).2.2=0
   ·rw [Ar hs pts n i b (!st) he]
    obtain ⟨m1,m2⟩:=GY b s i
    obtain ⟨m3,m4⟩:=m2 he
    have hE:Yi (b:Int) s (i:Int)=0:=by rw [m1,he];rfl
    obtain ⟨q1,q2,q3⟩:=Nz b s i 1 0 (by omega) (by omega) (by omega) hE
    have q1':(i:Int)<=My (b:Int) s (i:Int):=q1
    have q2':My (b:Int) s (i:Int)<=1099511627776:=q2
    have q3':(Yj (b:Int) s (i:Int)).length<s.length:=q3
    rw [m4] at q1' q2'
    rw [m3] at q3'
    cases hp:P8 (n+(C4 b s i 1 0).1 / (pts.length+1)) with
    | false=>
     rw [if_neg (by simp)]
     refine ⟨λh=>by simp at h,λ_=>⟨rfl,D.2.l,D.2.rest,D.2.n,D.2.i,D.2.b,D.2.st,λR k0 k1=>?_⟩⟩
     ·rw [start,d2 he hp]
      rfl
    | true=>
     rw [if_pos rfl]
     by_cases hc:256<pts.length+1
     ·rw [if_pos hc]
      refine ⟨λh=>by simp at h,λ_=>⟨rfl,D.2.l,D.2.rest,D.2.n,D.2.i,D.2.b,D.2.st,λR k0 k1=>?_⟩⟩
      rw [start,d3 he hp hc]
      rfl
     ·rw [if_neg hc]
      have hok:=hok he (by omega) hp hc
      have hn':n+(C4 b s i 1 0).1 / (pts.length+1)<=1114111:=by
       unfold P8 at hp
       simp_all
      have hmod:=Nat.mod_lt (C4 b s i 1 0).1 (show 0<pts.length+1 by omega)
      have had:=Ir ((C4 b s i 1 0).1-i) (pts.length+1) (!st) (by omega)
      have:=ih (C4 b s i 1 0).2.1 (P7 pts ((C4 b s i 1 0).1 % (pts.length+1)) (n+(C4 b s i 1 0).1 / (pts.length+1))) (n+(C4 b s i 1 0).1 / (pts.length+1)) ((C4 b s i 1 0).1 % (pts.length+1)+1) (M6 ((C4 b s i 1 0).1-i) (pts.length+1) (!st)) f true (by omega) (by omega) (by omega) (by rw [W5];omega) hn' (by omega) had
      obtain ⟨p1,p2⟩:=this
      refine ⟨λh=>?_,λh=>?_⟩
      ·obtain ⟨s',n',i',b',st',e⟩:=p1 h
       refine ⟨s',n',i',b',st',λR k0 k1=>?_⟩
       rw [start,hok]
       exact e R k0 k1
      ·obtain ⟨pe,l,s',n',i',b',st',e⟩:=p2 h
       refine ⟨pe,l,s',n',i',b',st',λR k0 k1=>?_⟩
       rw [start,hok]
       exact e R k0 k1
   ·rw [Cw hs pts n i b (!st) he]
    refine ⟨λh=>absurd h he,λ_=>⟨rfl,D.2.l,D.2.rest,D.2.n,D.2.i,D.2.b,D.2.st,λR k0 k1=>?_⟩⟩
    rw [start,d1 he,show (((C4 b s i 1 0).2.2:Int) != 0)=true by rw [bne_iff_ne];omega]
    rfl
theorem Gc (l:List Nat):Sj l=B1 l:=rfl
theorem SN {R:Type} {k0:Unit->Option R} {k1:By->Option R} (s:By) (hs:s.length<=1000000):∀ (r i n:Nat),i+r=s.length->r<n->
  Hn LF n s (s.length:Int) (i:Int) k0 k1=if (s.drop i).any (λb=>Nat.ble 128 b.toNat) then k0 () else k1 s:=by
 intro r
 induction r with
 | zero=>
  intro i n hi hn
  obtain ⟨n,rfl⟩:∃ m,n=m+1:=⟨n-1,by omega⟩
  rw [Hn]
  rw [A7,List.drop_of_length_le (by omega)]
  rfl
 | succ r ih=>
  intro i n hi hn
  obtain ⟨n,rfl⟩:∃ m,n=m+1:=⟨n-1,by omega⟩
  rw [Hn]
  have e1:A1 ((i:Int)+1)=((i+1:Nat):Int):=by rw [A4];rfl
  rw [A8,J5,I2,J0 s i (by omega),e1,List.any_cons]
  simp only [cond_true]
  generalize s.getD i 0=b
  by_cases h:128<=b.toNat
  ·rw [A7,Nat.ble_eq_true_of_le h]
   rfl
  ·have:Nat.ble 128 b.toNat=false:=by rw [Bool.eq_false_iff,ne_eq,Nat.ble_eq];exact h
   rw [A8,this,Bool.false_or]
   exact ih (i+1) n (by omega) (by omega)
theorem Ae9 {R:Type} {k0:By->Int->LL->Option R} (s:By) (hs:s.length<=1000000) (k:Nat) (hk:k<=s.length):∀ (r i n:Nat) (l:List Nat),i+r=k->r<n->l.length=i->
  Ei LF n s (k:Int) (i:Int) (B1 l) k0=k0 s (k:Int) (B1 (l++((s.take k).drop i).map (·.toNat))):=by
 intro r
 induction r with
 | zero=>
  intro i n l hi hn hl
  obtain ⟨n,rfl⟩:∃ m,n=m+1:=⟨n-1,by omega⟩
  rw [Ei]
  rw [A7,List.drop_of_length_le (by rw [List.length_take];omega)]
  simp
 | succ r ih=>
  intro i n l hi hn hl
  obtain ⟨n,rfl⟩:∃ m,n=m+1:=⟨n-1,by omega⟩
  rw [Ei]
  have e1:A1 ((i:Int)+1)=((i+1:Nat):Int):=by rw [A4];rfl
  have hd:(s.take k).drop i=s.getD i 0::(s.take k).drop (i+1):=by
   rw [J0 (s.take k) i (by rw [List.length_take];omega)]
   congr 1
   rw [List.getD_eq_getElem?_getD,List.getD_eq_getElem?_getD,List.getElem?_take_of_lt (by omega)]
  rw [A8,J5,I2,hd,C0,D4 (by omega),e1]
  simp only [cond_true]
  generalize s.getD i 0=b
  have hb:=b.toNat_lt
  have e2:A1 (b.toNat:Int)=(b.toNat:Int):=A4
  have hrow:B1 l++[[SV.int .i64 (A1 (b.toNat:Int))]]=B1 (l++[b.toNat]):=by rw [e2,Gb];rfl
  rw [hrow,ih (i+1) n _ (by omega) (by omega) (by simp;omega)]
  simp
theorem Jj:∀ s:By,E8 s<=s.length-1
 | []=>by simp [E8]
 | b::r=>by
  have:=Jj r
  unfold E8
  grind
theorem SO (s:By) (h0:A3 s.length=true):(∃ e,K3 s=([],e)/\∀ (R:Type) (k0:Int->Option R) (k1:Int->LL->By->Int->Int->Int->Bool->Option R) (k2:LL->By->Int->Int->Int->Bool->Option R),Pa LF s k0 k1 k2=k0 (e:Nat))\/
  (∃ e l s' n' i' b' st',K3 s=([],e)/\∀ (R:Type) (k0:Int->Option R) (k1:Int->LL->By->Int->Int->Int->Bool->Option R) (k2:LL->By->Int->Int->Int->Bool->Option R),Pa LF s k0 k1 k2=k1 (e:Nat) l s' n' i' b' st')\/
  ((K3 s).2=0/\∃ s' n' i' b' st',∀ (R:Type) (k0:Int->Option R) (k1:Int->LL->By->Int->Int->Int->Bool->Option R) (k2:LL->By->Int->Int->Int->Bool->Option R),Pa LF s k0 k1 k2=k2 (B1 (K3 s).1) s' n' i' b' st'):=by
 have hLF:=D6
 unfold K3
 by_cases hl:1024<s.length
 ·rw [if_pos hl]
  refine .inl ⟨3,rfl,λR k0 k1 k2=>?_⟩
  unfold Pa
  rw [A8]
  rfl
 ·rw [if_neg hl]
  have asc:=λ(R:Type) (K0:Unit->Option R) (K1:By->Option R)=>SN (k0:=K0) (k1:=K1) s (by omega) s.length 0 LF (by omega) (by omega)
  rw [List.drop_zero] at asc
  cases ha:s.any (λb=>Nat.ble 128 b.toNat) with
  | true=>
   rw [if_pos rfl]
   refine .inl ⟨4,rfl,λR k0 k1 k2=>?_⟩
   unfold Pa
   rw [A7,cond_false]
   refine Eq.trans (asc R _ _) ?_
   rw [ha,if_pos rfl]
   rfl
  | false=>
   rw [if_neg (by simp)]
   obtain ⟨d1,d2⟩:=Ji s
   have hlt:=Jj s
   have key:∀ (pts:List Nat) (t:By),pts.length<=256->t.length<=1024->(∀ (R:Type) (k0:Int->Option R) (k1:Int->LL->By->Int->Int->Int->Bool->Option R) (k2:LL->By->Int->Int->Int->Bool->Option R),Pa LF s k0 k1 k2=O0 LF LF (B1 pts) t 128 0 72 false k1 k2)->
     (∃ e l s' n' i' b' st',F2 t pts 128 0 72 true=([],e)/\∀ (R:Type) (k0:Int->Option R) (k1:Int->LL->By->Int->Int->Int->Bool->Option R) (k2:LL->By->Int->Int->Int->Bool->Option R),Pa LF s k0 k1 k2=k1 (e:Nat) l s' n' i' b' st')\/
     ((F2 t pts 128 0 72 true).2=0/\∃ s' n' i' b' st',∀ (R:Type) (k0:Int->Option R) (k1:Int->LL->By->Int->Int->Int->Bool->Option R) (k2:LL->By->Int->Int->Int->Bool->Option R),Pa LF s k0 k1 k2=k2 (B1 (F2 t pts 128 0 72 true).1) s' n' i' b' st'):=by
    intro pts t hp ht he
    obtain ⟨p1,p2⟩:=Af0 t.length t pts 128 0 72 LF false (Nat.le_refl _) (by omega) (by omega) hp (by omega) (by omega) (by omega)
    rw [Bool.not_false] at p1 p2
    by_cases hz:(F2 t pts 128 0 72 true).2=0
    ·obtain ⟨s',n',i',b',st',e⟩:=p1 hz
     exact .inr ⟨hz,s',n',i',b',st',λR k0 k1 k2=>by rw [he];exact e R k1 k2⟩
    ·obtain ⟨pe,l,s',n',i',b',st',e⟩:=p2 hz
     exact .inl ⟨_,l,s',n',i',b',st',Prod.ext pe rfl,λR k0 k1 k2=>by rw [he];exact e R k1 k2⟩
   have hu:u8n 45=45:=rfl
   have top:∀ (R:Type) (k0:Int->Option R) (k1:Int->LL->By->Int->Int->Int->Bool->Option R) (k2:LL->By->Int->Int->Int->Bool->Option R),Pa LF s k0 k1 k2 =
     cond (ltI 0 (G7 45 s)) (Ei LF LF s (G7 45 s) 0 [] (λs'5 k'6 l'7=>cond (N6 (A1 (k'6+1)) (s'5.length:Int) s'5.length)
      (vl (cut s'5 (A1 (k'6+1)) (s'5.length:Int)) λs'8=>cond (ltI 256 (l'7.length:Int)) (k1 3 l'7 s'8 128 0 72 false) (O0 LF LF l'7 s'8 128 0 72 false k1 k2)) none))
      (O0 LF LF [] s 128 0 72 false k1 k2):=by
    intro R k0 k1 k2
    unfold Pa
    rw [A7,cond_false]
    refine Eq.trans (asc R _ _) ?_
    rw [ha,if_neg (by simp),h0,hu]
    rfl
   by_cases hd:0<E8 s
   ·have hmem:45∈s:=by
     apply Classical.byContradiction
     intro h
     have:=(d2 h).2
     omega
    have hI:=d1 hmem
    generalize E8 s=m at *
    have hcopy:=λ(R:Type) (K:By->Int->LL->Option R)=>Ae9 (k0:=K) s (by omega) m (by omega) m 0 LF [] (by omega) (by omega) rfl
    rw [List.drop_zero] at hcopy
    have e1:A1 ((m:Int)+1)=((m+1:Nat):Int):=by rw [A4];rfl
    have hlen:((s.take m).map (·.toNat)).length=m:=by rw [List.length_map,List.length_take];omega
    have top2:∀ (R:Type) (k0:Int->Option R) (k1:Int->LL->By->Int->Int->Int->Bool->Option R) (k2:LL->By->Int->Int->Int->Bool->Option R),Pa LF s k0 k1 k2 =
      cond (ltI 256 (m:Int)) (k1 3 (B1 ((s.take m).map (·.toNat))) (s.drop (m+1)) 128 0 72 false) (O0 LF LF (B1 ((s.take m).map (·.toNat))) (s.drop (m+1)) 128 0 72 false k1 k2):=by
     intro R k0 k1 k2
     rw [top,hI,A8,cond_true]
     refine Eq.trans (hcopy R _) ?_
     rw [e1,Q7,Nv,List.take_length,List.nil_append,C0,hlen]
     rfl
    by_cases h256:256<m
    ·rw [if_pos h256]
     refine .inr (.inl ⟨3,B1 ((s.take m).map (·.toNat)),s.drop (m+1),128,0,72,false,rfl,λR k0 k1 k2=>?_⟩)
     rw [top2,A8]
     rfl
    ·rw [if_neg h256,if_neg (show ¬ m=0 by omega)]
     exact .inr (key _ (s.drop (m+1)) (by rw [hlen];omega) (by rw [List.length_drop];omega) (λR k0 k1 k2=>by rw [top2,A7];rfl))
   ·have hz:E8 s=0:=by omega
    have hI:¬ 0<G7 45 s:=by
     by_cases hm:45∈s
     all_goals grind
    rw [hz,H6,if_pos rfl]
    refine .inr (key [] s (by simp) (by omega) (λR k0 k1 k2=>?_))
    rw [top,A7]
    rfl
theorem Ow (l:List Nat):(B1 l).isEmpty=l.isEmpty:=by cases l<;>rfl
theorem A92 (s:By) (h0:A3 s.length=true):∃ r H,Pa LF s (λr0=>rv (.tup [.fl 0,.s (.int .i64 r0)]) [.arr true 3 1 []]) (λr0 l1 s2 n3 n4 n5 b6=>rv (.tup [.fl 2,.s (.int .i64 r0)]) [.arr true 3 1 l1,.box [.s (.str s2),.fl 0,.s (.int .i64 n3),.s (.int .i64 n4),.s (.int .i64 n5),.s (.bool b6)],.arr true 3 1 []]) (λl0 s1 n2 n3 n4 b5=>rv (.tup [.fl 0,.s (.int .i64 (0:Int))]) [.arr true 3 1 l0,.box [.s (.str s1),.fl 0,.s (.int .i64 n2),.s (.int .i64 n3),.s (.int .i64 n4),.s (.bool b5)]])=rv r H/\
  r.stab [1,0] H = .tup [.s (.sl (K3 s).1.isEmpty (K3 s).1.isEmpty 1 (Sj (K3 s).1)),.s (.int .i64 ((K3 s).2:Nat))]:=by
 rcases SO s h0 with ⟨e,h1,h2⟩ | ⟨e,l,s',n',i',b',st',h1,h2⟩ | ⟨h1,s',n',i',b',st',h2⟩
 ·refine ⟨_,_,h2 _ _ _ _,?_⟩
  rw [h1]
  rfl
 ·refine ⟨_,_,h2 _ _ _ _,?_⟩
  rw [h1]
  rfl
 ·refine ⟨_,_,h2 _ _ _ _,?_⟩
  rw [h1,Gc]
  simp [PV.stab,Je,Ru,PV.snap,I7,Ow]
end
section
open Go
theorem Tu:∀ (f:Nat) (l:By),Lib.validGoD f l=(U0 f l).isSome
 | 0,_=>rfl
 | f+1,l=>by
  unfold Lib.validGoD U0
  split
  ·rfl
  ·split
   ·rfl
   ·rw [Tu f,Option.isSome_map]
theorem VU (l:By):Lib.validD l=(Di l).isSome:=Tu _ l
theorem Ys:∀ (n m:Nat) (l:By),l.length<=n->l.length<=m->U0 n l=U0 m l
 | 0,m,l,hn,_=>by
  have:l=[]:=List.length_eq_zero_iff.1 (by omega)
  subst this;cases m<;>simp [U0]
 | n+1,0,l,_,hm=>by
  have:l=[]:=List.length_eq_zero_iff.1 (by omega)
  subst this;simp [U0]
 | n+1,m+1,l,hn,hm=>by
  unfold U0
  split
  ·rfl
  ·rename_i hne
   have hw:=Lib.decodeL_width l
   have hl:0<l.length:=List.length_pos_iff.2 hne
   rw [Ys n m (l.drop (Lib.decodeL l).2) (by rw [List.length_drop];omega) (by rw [List.length_drop];omega)]
theorem Af4 (l:By) (hne:l≠[]):Di l=if (Lib.decodeL l).1=65533/\(Lib.decodeL l).2=1 then none else (Di (l.drop (Lib.decodeL l).2)).map ((Lib.decodeL l).1::·):=by
 have hl:0<l.length:=List.length_pos_iff.2 hne
 have hw:=Lib.decodeL_width l
 obtain ⟨n,hn⟩:∃ n,l.length=n+1:=⟨l.length-1,by omega⟩
 unfold Di
 rw [hn]
 conv=>lhs;unfold U0
 rw [if_neg hne,Ys n (l.drop (Lib.decodeL l).2).length _ (by rw [List.length_drop];omega) (Nat.le_refl _)]
theorem CN:∀ (f:Nat) (s:ByteArray) (pos:Nat) (p:List Nat),pos<=s.size->U0 f (s.data.toList.drop pos)=some p->s.size-pos<=f->Lib.runeCountFrom s f pos=p.length
 | 0,s,pos,p,hp,h,hf=>by
  simp only [U0,Option.some.injEq] at h
  subst h;rfl
 | f+1,s,pos,p,hp,h,hf=>by
  have hsz:s.data.toList.length=s.size:=by rw [Array.length_toList];rfl
  unfold U0 at h
  rw [Lib.decodeL_drop] at h
  by_cases hps:pos<s.size
  ·rw [if_neg (by rw [<-List.length_eq_zero_iff,List.length_drop];omega)] at h
   split at h
   ·cases h
   ·cases hq:U0 f (List.drop (Utf8.decode s pos).2 (List.drop pos s.data.toList)) with
    | none=>rw [hq] at h;cases h
    | some q=>
     rw [hq] at h
     simp only [Option.map_some,Option.some.injEq] at h
     subst h
     have hw:=Lib.decode_width_pos s pos hps
     have hwl:pos+(Utf8.decode s pos).2<=s.size:=by
      have:=Lib.decodeL_le (s.data.toList.drop pos) (by rw [ne_eq,<-List.length_eq_zero_iff,List.length_drop];omega)
      rw [Lib.decodeL_drop,List.length_drop] at this
      omega
     rw [List.drop_drop] at hq
     unfold Lib.runeCountFrom
     rw [if_pos hps,CN f s _ q hwl hq (by omega)]
     grind
  ·rw [if_pos (by rw [<-List.length_eq_zero_iff,List.length_drop];omega)] at h
   simp only [Option.some.injEq] at h
   subst h
   rw [Lib.runeCountFrom_end s _ _ hps];rfl
theorem Zf {l:By} {p:List Nat} (h:Di l=some p):Lib.runeCountL l=p.length:=by
 unfold Lib.runeCountL Lib.runeCount
 have hs:(ByteArray.mk l.toArray).size=l.length:=by simp [ByteArray.size]
 refine CN _ _ 0 p (Nat.zero_le _) ?_ (by omega)
 rw [hs,List.drop_zero]
 simpa [Di] using h
open Lib in theorem Bt2 (n b0 b1 b2 b3:Nat) (hb:194<=b0/\b0<224) (h1:b1<256):decodeN n b0 b1 b2 b3=if 2<=n/\128<=b1/\b1<=191 then ((b0-192)*64+b1-128,2) else (65533,1):=by
 unfold decodeN
 rw [H6]
 by_cases hc:2<=n/\128<=b1/\b1<=191
 ·rw [if_pos hc,Bh,Bh]
  exact Prod.ext (by show b0 % 32*64+b1 % 64=(b0-192)*64+b1-128;omega) rfl
 ·rw [if_neg hc,H6,H6,H6]
open Lib in theorem Bt3 (n b0 b1 b2 b3:Nat) (hb:224<=b0/\b0<240) (h1:b1<256) (h2:b2<256):decodeN n b0 b1 b2 b3=if 3<=n/\(128<=b1/\b1<=191)/\(128<=b2/\b2<=191) then
  (if 2048<=((b0-224)*64+b1-128)*64+b2-128/\P8 (((b0-224)*64+b1-128)*64+b2-128)=true then (((b0-224)*64+b1-128)*64+b2-128,3) else (65533,1)) else (65533,1):=by
 unfold decodeN
 rw [H6,H6]
 by_cases hc:3<=n/\(128<=b1/\b1<=191)/\(128<=b2/\b2<=191)
 ·rw [if_pos hc,Bh]
  have e:b0 % 16*4096+b1 % 64*64+b2 % 64=((b0-224)*64+b1-128)*64+b2-128:=by omega
  rw [e]
  generalize ((b0-224)*64+b1-128)*64+b2-128=v
  congr 1
  simp only [P8,Bool.and_eq_true,Bool.or_eq_true,Nat.ble_eq,Nat.blt_eq]
  apply propext;omega
 ·rw [if_neg hc,H6,H6]
open Lib in theorem Bt4 (n b0 b1 b2 b3:Nat) (hb:240<=b0/\b0<245) (h1:b1<256) (h2:b2<256) (h3:b3<256):decodeN n b0 b1 b2 b3=if 4<=n/\(128<=b1/\b1<=191)/\(128<=b2/\b2<=191)/\(128<=b3/\b3<=191) then
  (if 65536<=(((b0-240)*64+b1-128)*64+b2-128)*64+b3-128/\P8 ((((b0-240)*64+b1-128)*64+b2-128)*64+b3-128)=true then ((((b0-240)*64+b1-128)*64+b2-128)*64+b3-128,4) else (65533,1)) else (65533,1):=by
 unfold decodeN
 rw [H6,H6,H6]
 by_cases hc:4<=n/\(128<=b1/\b1<=191)/\(128<=b2/\b2<=191)/\(128<=b3/\b3<=191)
 ·rw [if_pos hc,Bh]
  have e:b0 % 8*262144+b1 % 64*4096+b2 % 64*64+b3 % 64=(((b0-240)*64+b1-128)*64+b2-128)*64+b3-128:=by omega
  rw [e]
  generalize (((b0-240)*64+b1-128)*64+b2-128)*64+b3-128=v
  congr 1
  simp only [P8,Bool.and_eq_true,Bool.or_eq_true,Nat.ble_eq,Nat.blt_eq]
  apply propext;omega
 ·rw [if_neg hc,H6]
end
section
open Go Go.Proofs
theorem Xc (l:List Nat):R5 (l.map λn:Nat=>(n:Int))=Bn l:=by
 have h1:(l.map λn:Nat=>(n:Int)).all ptI=l.all P8:=by
  rw [List.all_map]
  congr 1
 have h2:(l.map λn:Nat=>(n:Int)).map Int.toNat=l:=by
  rw [List.map_map]
  exact (List.map_congr_left λa _=>by simp).trans (List.map_id l)
 unfold R5
 rw [List.length_map,h1,h2]
 by_cases h:256<l.length
 ·rw [if_pos h];unfold Bn;rw [if_pos h]
 ·rw [if_neg h]
  cases hp:l.all P8 with
  | true=>rw [if_pos rfl]
  | false=>
   rw [if_neg (by simp)]
   unfold Bn
   grind
theorem Xb (l:List Nat):(B1 l).map elI=l.map λn:Nat=>(n:Int):=by
 unfold B1
 rw [List.map_map]
 exact List.map_congr_left λa _=>rfl
theorem Ev (l:List Nat):(B1 l).all Jg=true:=by
 unfold B1
 rw [List.all_map,List.all_eq_true]
 intro x _
 rfl
theorem RS {R:Type} {k0:Unit->Option R} {k1:By->Bool->LL->Bool->Option R} (s:By) (z:Bool) (p:List Nat) (hp:p.length<=1000000000):∀ (r i n:Nat) (b:Bool),i+r=p.length->r<n->
  R6 LF n s z (B1 p) b (p.length:Int) (i:Int) k0 k1=if (p.drop i).any (λp=>Nat.ble 65 p&&Nat.ble p 90) then k0 () else k1 s z (B1 p) (b && !((p.drop i).any λp=>Nat.ble 128 p)):=by
 intro r
 induction r with
 | zero=>
  intro i n b hi hn
  obtain ⟨n,rfl⟩:∃ m,n=m+1:=⟨n-1,by omega⟩
  rw [R6]
  rw [A7,List.drop_of_length_le (by omega)]
  simp
 | succ r ih=>
  intro i n b hi hn
  obtain ⟨n,rfl⟩:∃ m,n=m+1:=⟨n-1,by omega⟩
  rw [R6]
  have e1:A1 ((i:Int)+1)=((i+1:Nat):Int):=by rw [A4];rfl
  have hd:p.drop i=p.getD i 0::p.drop (i+1):=by
   rw [List.getD_eq_getElem?_getD,List.getElem?_eq_getElem (by omega),Option.getD_some,List.getElem_cons_drop]
  rw [A8,C0,J5,Int.toNat_natCast,Kv (by omega),Rw _ _ (by omega),hd,List.any_cons,List.any_cons,e1]
  simp only [cond_true,vl]
  generalize p.getD i 0=q
  have go:∀ c:Bool,R6 LF n s z (B1 p) c (p.length:Int) ((i+1:Nat):Int) k0 k1=_:=λc=>ih (i+1) n c (by omega) (by omega)
  by_cases h1:q<65
  ·rw [A8,show Nat.ble 65 q=false by rw [Bool.eq_false_iff,ne_eq,Nat.ble_eq];omega]
   have h2:Nat.ble 128 q=false:=by rw [Bool.eq_false_iff,ne_eq,Nat.ble_eq];omega
   rw [show ltI (q:Int) (128:Int)=true from A8,h2]
   simp only [Bool.not_true,cond_false,Bool.false_and,Bool.false_or]
   cases b<;>simp only [cond_true,cond_false]<;>rw [go]
  ·rw [A7,show Nat.ble 65 q=true by rw [Nat.ble_eq];omega]
   simp only [Bool.not_false,cond_true,Bool.true_and]
   by_cases h2:90<q
   ·rw [A8,show Nat.ble q 90=false by rw [Bool.eq_false_iff,ne_eq,Nat.ble_eq];omega]
    simp only [Bool.not_true,cond_false,Bool.false_or]
    by_cases h3:q<128
    ·rw [show ltI (q:Int) (128:Int)=true from A8,show Nat.ble 128 q=false by rw [Bool.eq_false_iff,ne_eq,Nat.ble_eq];omega]
     cases b<;>simp only [cond_true,cond_false,Bool.false_or]<;>rw [go]
    ·rw [show ltI (q:Int) (128:Int)=false from A7,show Nat.ble 128 q=true by rw [Nat.ble_eq];omega]
     cases b<;>simp only [cond_true,cond_false,Bool.true_or,Bool.not_true,Bool.and_false]<;>rw [go]<;>simp
   ·rw [A7,show Nat.ble q 90=true by rw [Nat.ble_eq];omega]
    simp
theorem QB:∀ (m:Nat) (s:By) (pts:List Nat) (n i b:Nat) (f:Bool),s.length<=m->pts.length<=256->(F2 s pts n i b f).1.length<=256:=by
 intro m
 induction m with
 | zero=>
  intro s pts n i b f hs hp
  obtain rfl:=List.length_eq_zero_iff.1 (Nat.le_zero.1 hs)
  rw [Z6]
  exact hp
 | succ m ih=>
  intro s pts n i b f hs hp
  by_cases h:s=[]
  ·grind
  ·by_cases hq:(C4 b s i 1 0).2.2=0
   ·rw [Ar h _ _ _ _ _ hq]
    have hlt:=Kl b s i 1 0 hq
    split
    ·split
     ·grind
     ·rename_i h2
      exact ih _ _ _ _ _ _ (by omega) (by rw [W5];omega)
    grind
   ·rw [Cw h _ _ _ _ _ hq]
    grind
theorem JT (s:By):(K3 s).1.length<=256:=by
 unfold K3
 split
 ·grind
 ·split
  ·grind
  ·split
   ·grind
   ·rename_i h
    exact QB _ _ _ _ _ _ _ (Nat.le_refl _) (by rw [List.length_map,List.length_take];omega)
theorem RT {R:Type} {k0:Bool->Option R} (s:By) (h0:A3 s.length=true):YF LF s k0=k0 (Ak s):=by
 have hLF:=D6
 unfold YF Ak
 rw [h0,cond_true]
 by_cases h:(K3 s).2=0
 ·have e:(((K3 s).2:Int) != (0:Int))=false:=by rw [h];rfl
  rw [e,cond_false,Gc,C0,h]
  have hl:=JT s
  refine Eq.trans (RS s _ (K3 s).1 (by omega) (K3 s).1.length 0 LF true (by omega) (by omega)) ?_
  rw [List.drop_zero]
  cases h1:(K3 s).1.any (λp=>Nat.ble 65 p&&Nat.ble p 90) with
  | true=>simp
  | false=>
   rw [if_neg (by simp),Ev,Xb,Xc]
   simp only [cond_true,vl,Bool.true_and,Bool.not_false]
   cases h2:(K3 s).1.any (λp=>Nat.ble 128 p) with
   | false=>simp
   | true=>
    simp only [Bool.not_true,Bool.not_false,cond_true,Bool.and_true,beq_self_eq_true,Bool.true_and]
    by_cases h3:(Bn (K3 s).1).2=0
    all_goals grind
 grind
theorem Ad7 {R:Type} {k0:Unit->Option R} {k1:By->Option R} (s:By) (hs:s.length<=1000000000):∀ (r i n:Nat),i+r=s.length->r<n->
  N4 LF n s (s.length:Int) (i:Int) k0 k1=if (s.drop i).all R1 then k1 s else k0 ():=by
 intro r
 induction r with
 | zero=>
  intro i n hi hn
  obtain ⟨n,rfl⟩:∃ m,n=m+1:=⟨n-1,by omega⟩
  rw [N4]
  rw [A7,List.drop_of_length_le (by omega)]
  rfl
 | succ r ih=>
  intro i n hi hn
  obtain ⟨n,rfl⟩:∃ m,n=m+1:=⟨n-1,by omega⟩
  rw [N4]
  have e1:A1 ((i:Int)+1)=((i+1:Nat):Int):=by rw [A4];rfl
  rw [A8,J5,I2,J0 s i (by omega),e1,List.all_cons]
  simp only [cond_true]
  rw [ih (i+1) n (by omega) (by omega)]
  generalize s.getD i 0=b
  have hb:=Tn b
  have q1:((b.toNat:Int) != 45) = !(b==45):=congrArg _ (U3 b 45 (by omega))
  have q2:((b.toNat:Int) != 95) = !(b==95):=congrArg _ (U3 b 95 (by omega))
  rw [q1,q2]
  have t:∀ {x:Bool},R1 b=x->(if (R1 b&&(s.drop (i+1)).all R1)=true then k1 s else k0 ())=if (x&&(s.drop (i+1)).all R1)=true then k1 s else k0 ():=λh=>by rw [h]
  cases hl:R1 b with
  | true=>
   rw [hb] at hl
   simp only [Bool.true_and]
   by_cases h1:b=45
   ·subst h1
    simp (disch:=decide) [ltI]
   ·by_cases h2:b=95
    ·subst h2
     simp (disch:=decide) [ltI]
    ·rcases hl with hl | hl | hl | hl
     ·rw [show ltI (b.toNat:Int) 97=false from A7,show ltI (122:Int) b.toNat=false from A7];rfl
     ·rw [show ltI (b.toNat:Int) 97=true from A8,show ltI (b.toNat:Int) 48=false from A7,show ltI (57:Int) b.toNat=false from A7];rfl
     ·exact absurd hl h1
     ·exact absurd hl h2
  | false=>
   have hn:¬ ((97<=b.toNat/\b.toNat<=122)\/(48<=b.toNat/\b.toNat<=57)\/b=45\/b=95):=λh=>by rw [hb.2 h] at hl;cases hl
   have n1:(b==45)=false:=by simpa using λh=>hn (.inr (.inr (.inl h)))
   have n2:(b==95)=false:=by simpa using λh=>hn (.inr (.inr (.inr h)))
   rw [n1,n2]
   simp only [Bool.not_false,cond_true,Bool.false_and,Bool.false_eq_true,if_false]
   by_cases h1:b.toNat<48
   ·rw [show ltI (b.toNat:Int) 97=true from A8,show ltI (b.toNat:Int) 48=true from A8];rfl
   ·by_cases h2:b.toNat<97
    ·rw [show ltI (b.toNat:Int) 97=true from A8,show ltI (b.toNat:Int) 48=false from A7,show ltI (57:Int) b.toNat=true from A8];rfl
    ·rw [show ltI (b.toNat:Int) 97=false from A7,show ltI (122:Int) b.toNat=true from A8,show ltI (b.toNat:Int) 48=false from A7,show ltI (57:Int) b.toNat=true from A8];rfl
theorem Ad8 {R:Type} {k0:Bool->Option R} (s:By) (h0:A3 s.length=true):A76 LF s k0=k0 (L0 s):=by
 have hs:=M3 h0
 have hLF:=D6
 unfold A76 L0
 by_cases h1:s=[]
 ·simp_all
 ·have hl:0<s.length:=List.length_pos_iff.2 h1
  have he:s.isEmpty=false:=by simpa using h1
  rw [A7,cond_false,he]
  by_cases h2:63<s.length
  ·rw [A8,show Nat.ble s.length 63=false by rw [Bool.eq_false_iff,ne_eq,Nat.ble_eq];omega]
   rfl
  ·rw [A7,cond_false,show Nat.ble s.length 63=true by rw [Nat.ble_eq];omega,J5]
   have q1:(bAt s 0==(45:Int))=(s.getD 0 0==45):=by rw [It];exact U3 _ 45 (by omega)
   have e1:A1 ((s.length:Int)-1)=((s.length-1:Nat):Int):=by rw [A4];omega
   rw [q1,e1]
   simp only [cond_true,vl]
   rw [J5,I2,show ((((s.getD (s.length-1) 0).toNat:Nat):Int)==45)=(s.getD (s.length-1) 0==45) from U3 _ 45 (by omega)]
   cases h3:(s.getD 0 0==45) with
   | true=>
    grind
   | false=>
    rw [show (s.getD 0 0 != 45)=true by unfold bne;rw [h3];rfl]
    simp only [cond_true,cond_false]
    cases h4:(s.getD (s.length-1) 0==45) with
    | true=>
     grind
    | false=>
     rw [show (s.getD (s.length-1) 0 != 45)=true by unfold bne;rw [h4];rfl]
     simp only [cond_false]
     refine Eq.trans (Ad7 s hs s.length 0 LF (by omega) (by omega)) ?_
     rw [List.drop_zero]
     cases h5:s.all R1 with
     | false=>simp
     | true=>
      rw [if_pos rfl,h0,cond_true]
      simp only [Bool.not_false,Bool.true_and,Bool.and_true]
      show cond (!(xnB.isPrefixOf s)) _ _=_
      cases h6:xnB.isPrefixOf s with
      | false=>rfl
      | true=>
       have hc:Wz s xnB=s.drop 4:=by unfold Wz;rw [h6];rfl
       show cond (A3 (Wz s xnB).length) (k0 (Ak (Wz s xnB))) none=_
       rw [hc,J3 (by rw [List.length_drop];omega)]
       rfl
theorem QL (pts:List Nat) (basic:Nat) (hl:pts.length<=256) (hb:basic<=256) (hall:∀ p∈pts,p<=1114111):∀ (f n:Nat) (s:DB),s.done=pts.countP (λp=>decide (p<n))->s.delta<=300->s.bias<=500->s.out.length+20*(pts.length-s.done)<=80000->n<=1114112->
  (N1 pts basic f n s).out.length<=80000:=by
 intro f
 have hLF:=D6
 induction f with
 | zero=>intro n s hd h1 h2 h3 h4;unfold N1;omega
 | succ f ih=>
  intro n s hd h1 h2 h3 h4
  have hcl:pts.countP (λp=>decide (p<n))<=pts.length:=List.countP_le_length
  by_cases hlt:s.done<pts.length
  ·obtain ⟨p0,hp0,hp1⟩:=PX (n:=n) (l:=pts) (by omega)
   obtain ⟨g1,g2,g3⟩:=Ay n pts 1114112
   have g4:=g3 p0 hp0 hp1
   have g5:=hall p0 hp0
   have hmem:F3 n pts 1114112∈pts/\n<=F3 n pts 1114112:=by grind
   have he:N1 pts basic (f+1) n s=N1 pts basic f (F3 n pts 1114112+1) { F4 (F3 n pts 1114112) basic pts { s with delta:=s.delta+(F3 n pts 1114112-n)*(s.done+1) } with delta:=(F4 (F3 n pts 1114112) basic pts { s with delta:=s.delta+(F3 n pts 1114112-n)*(s.done+1) }).delta+1 }:=by
    rw [N1,if_pos hlt]
   rw [he]
   generalize F3 n pts 1114112=m at *
   have hmul:(m-n)*(s.done+1)<=1114112*256:=Nat.mul_le_mul (by omega) (by omega)
   have hin:=YP false false pts basic m (by omega) hl pts.length 0 LF { s with delta:=s.delta+(m-n)*(s.done+1) } (by omega) (by omega) (by simp only;omega) h2 (by simp only;omega) (by simp only;omega) hb
   rw [List.drop_zero] at hin
   obtain ⟨_,q2,q3,q4,q5⟩:=hin
   have hcnt:0<pts.countP (· == m):=List.countP_pos_iff.2 ⟨m,hmem.1,by simp⟩
   rw [if_pos hcnt] at q5
   have hstep:=Nt hmem.2 pts g3
   generalize F4 m basic pts { s with delta:=s.delta+(m-n)*(s.done+1) } = s' at *
   simp only at q3 q4
   have hcl2:pts.countP (λp=>decide (p<m+1))<=pts.length:=List.countP_le_length
   exact ih (m+1) { s' with delta:=s'.delta+1 } (by simp only;omega) (by simp only;omega) q2 (by simp only;omega) (by omega)
  ·rw [N1,if_neg hlt];omega
theorem Ao9 (p:List Nat):(Bn p).1.length<=80000:=by
 unfold Bn
 split
 ·grind
 ·rename_i h
  split
  ·grind
  ·rename_i h2
   have hp:∀ q∈p,q<=1114111:=λq hq=>by
    have h2:p.all P8=true:=by simpa using h2
    have:=List.all_eq_true.1 h2 q hq
    simp only [P8,Bool.and_eq_true,Nat.ble_eq] at this
    omega
   have hbl:=Md p
   have hbc:p.countP (λq=>decide (q<128))<=p.length:=List.countP_le_length
   refine QL p _ (by omega) (by omega) hp 256 128 _ hbl (by simp) (by simp) ?_ (by omega)
   grind
theorem GS {b:UInt8} (h:128<=b.toNat):Fd b=b:=by
 rcases Hi b with ⟨_,e⟩ | ⟨_,e⟩ | ⟨_,h2,_⟩
 all_goals omega
theorem GU {b:UInt8} (h:b.toNat<128):(Fd b).toNat<128:=by
 rcases Hi b with ⟨_,e⟩ | ⟨_,e⟩ | ⟨_,h2,e⟩
 all_goals grind
theorem ZZ (n:Nat) (b0 b1 b2 b3:UInt8) (h:128<=b0.toNat):Lib.decodeN n b0.toNat (Fd b1).toNat (Fd b2).toNat (Fd b3).toNat=Lib.decodeN n b0.toNat b1.toNat b2.toNat b3.toNat:=by
 have k1:∀ b:UInt8,b.toNat / 64=2->Fd b=b:=λb hb=>GS (by omega)
 have k2:∀ b:UInt8,¬ b.toNat / 64=2->¬ (Fd b).toNat / 64=2:=λb hb h=>by
  by_cases h2:128<=b.toNat
  ·rw [GS h2] at h;exact hb h
  ·have:=GU (b:=b) (by omega)
   omega
 unfold Lib.decodeN
 grind
theorem A28 (l:By) (hne:l≠[]):(Lib.decodeL (E9 l)).2=(Lib.decodeL l).2/\(¬ ((Lib.decodeL l).1=65533/\(Lib.decodeL l).2=1)->¬ ((Lib.decodeL (E9 l)).1=65533/\(Lib.decodeL (E9 l)).2=1)):=by
 cases l with
 | nil=>exact absurd rfl hne
 | cons b t=>
  by_cases hb:b.toNat<128
  ·have e1:=Lib.decodeL_ascii b t hb
   have e2:Lib.decodeL (E9 (b::t))=((Fd b).toNat,1):=Lib.decodeL_ascii (Fd b) (E9 t) (GU hb)
   rw [e1,e2]
   refine ⟨rfl,λ_ h=>?_⟩
   have:=GU hb
   omega
  ·have e:Lib.decodeL (E9 (b::t))=Lib.decodeL (b::t):=by
    rw [Lib.decodeL_N,Lib.decodeL_N,Kt,Hj,Hj,Hj,Hj]
    have e0:Fd ((b::t).getD 0 0)=b:=GS (b:=b) (show 128<=b.toNat by omega)
    rw [e0]
    exact ZZ (b::t).length b ((b::t).getD 1 0) ((b::t).getD 2 0) ((b::t).getD 3 0) (show 128<=b.toNat by omega)
   grind
theorem BZ:∀ (f:Nat) (l:By),(U0 f l).isSome=true->(U0 f (E9 l)).isSome=true
 | 0,_,_=>rfl
 | f+1,l,h=>by
  unfold U0 at h ⊢
  by_cases hl:l=[]
  ·subst hl;rfl
  ·rw [if_neg hl] at h
   rw [if_neg (by rw [BS];exact hl)]
   obtain ⟨d1,d2⟩:=A28 l hl
   split at h
   ·cases h
   ·rename_i hv
    rw [if_neg (d2 hv),Option.isSome_map,d1,RO]
    rw [Option.isSome_map] at h
    exact BZ f _ h
theorem Au7 {l:By} (h:(Di l).isSome=true):(Di (E9 l)).isSome=true:=by
 unfold Di at h ⊢
 rw [Kt]
 exact BZ _ _ h
theorem Ac1 (t:By) (ht:t.length<=1000000000):∀ (f pos:Nat) (P q:List Nat) (n:Nat),pos<=t.length->t.length-pos<=f->f<n->P.length<=pos->U0 f (t.drop pos)=some q->
  ∃ m,∀ (R:Type) (k0:LL->By->Nat->Option R),Bo LF n (B1 P) t pos k0=k0 (B1 (P++q)) t m:=by
 intro f
 induction f with
 | zero=>
  intro pos P q n h1 h2 h3 h4 h5
  obtain ⟨n,rfl⟩:∃ m,n=m+1:=⟨n-1,by omega⟩
  simp only [U0,Option.some.injEq] at h5
  subst h5
  refine ⟨pos,λR k0=>?_⟩
  rw [Bo]
  rw [decide_eq_false (by omega),cond_false,List.append_nil]
 | succ f ih=>
  intro pos P q n h1 h2 h3 h4 h5
  obtain ⟨n,rfl⟩:∃ m,n=m+1:=⟨n-1,by omega⟩
  by_cases hp:pos<t.length
  ·have hne:t.drop pos≠[]:=by rw [ne_eq,<-List.length_eq_zero_iff,List.length_drop];omega
   have hd:=Lib.decodeL_drop ⟨t.toArray⟩ pos
   have hd':Utf8.decode ⟨List.toArray t⟩ pos=Lib.decodeL (t.drop pos):=by rw [<-hd]
   unfold U0 at h5
   rw [if_neg hne] at h5
   split at h5
   ·cases h5
   ·have hw:=Lib.decodeL_width (t.drop pos)
    have hle:=Lib.decodeL_le (t.drop pos) hne
    have hr:=Lib.decodeL_rune (t.drop pos)
    rw [List.length_drop] at hle
    rw [List.drop_drop] at h5
    generalize Lib.decodeL (t.drop pos)=dd at *
    obtain ⟨c,wd⟩:=dd
    simp only at *
    cases hq:U0 f (t.drop (pos+wd)) with
    | none=>rw [hq] at h5;cases h5
    | some q'=>
     rw [hq] at h5
     simp only [Option.map_some,Option.some.injEq] at h5
     subst h5
     obtain ⟨m,e⟩:=ih (pos+wd) (P++[c]) q' n (by omega) (by omega) (by omega) (by simp;omega) hq
     refine ⟨m,λR k0=>?_⟩
     rw [Bo]
     rw [decide_eq_true hp,cond_true,hd',C0,D4 (by omega)]
     simp only [vl,cond_true]
     have e1:A1 (c:Int)=(c:Int):=A4
     have hrow:B1 P++[[SV.int .i64 (A1 (c:Int))]]=B1 (P++[c]):=by rw [e1,Gb];rfl
     rw [hrow,e,List.append_assoc]
     rfl
  ·have hnil:t.drop pos=[]:=by rw [<-List.length_eq_zero_iff,List.length_drop];omega
   unfold U0 at h5
   rw [hnil,if_pos rfl] at h5
   simp only [Option.some.injEq] at h5
   subst h5
   refine ⟨pos,λR k0=>?_⟩
   rw [Bo]
   rw [decide_eq_false hp,cond_false,List.append_nil]
theorem RA (s:By) (h0:A3 s.length=true):(∀ (R:Type) (k0:By->Int->Option R) (k1:By->Int->LL->By->Nat->Option R),KU LF s k0 k1=k0 (Ka s).1 ((Ka s).2:Nat))\/
  (∃ l t m,∀ (R:Type) (k0:By->Int->Option R) (k1:By->Int->LL->By->Nat->Option R),KU LF s k0 k1=k1 (Ka s).1 ((Ka s).2:Nat) l t m):=by
 have hs:=M3 h0
 have hLF:=D6
 unfold Ka
 cases hp:Di s with
 | none=>
  refine .inl λR k0 k1=>?_
  unfold KU
  rw [h0,hp]
  rfl
 | some p=>
  have hrc:=Zf hp
  have top:∀ (R:Type) (k0:By->Int->Option R) (k1:By->Int->LL->By->Nat->Option R),KU LF s k0 k1=cond (ltI 256 (p.length:Int)) (k0 [] 3) (cond (ltI (p.length:Int) (s.length:Int)) (Bo LF LF [] (E9 s) 0 (λl'5 s'6 m'7=>cond (List.all l'5 Jg)
      (cond (((R5 (List.map elI l'5)).2:Int) != (0:Int))
       (k1 ([]:List UInt8) 14 l'5 s'6 m'7)
       (cond (JO 4 (List.length ((R5 (List.map elI l'5))).1))
        (cond (A3 (List.length (xnB++((R5 (List.map elI l'5))).1)))
         (cond (not (L0 (xnB++((R5 (List.map elI l'5))).1)))
         (k1 ([]:List UInt8) 14 l'5 s'6 m'7)
         (k1 (xnB++((R5 (List.map elI l'5))).1) 0 l'5 s'6 m'7))
         (none))
        (none)))
      (none)))
     (cond (A3 (List.length (E9 s)))
      (cond (not (L0 (E9 s)))
      (k0 ([]:List UInt8) 14)
      (k0 (E9 s) 0))
      (none))):=by
   intro R k0 k1
   unfold KU
   rw [h0,hp,hrc]
   rfl
  simp only
  by_cases h1:256<p.length
  ·rw [if_pos h1]
   refine .inl λR k0 k1=>?_
   rw [top,A8]
   rfl
  ·rw [if_neg h1]
   by_cases h2:p.length<s.length
   ·rw [if_pos h2]
    have hlow:=Au7 (l:=s) (by rw [hp];rfl)
    cases hq:Di (E9 s) with
    | none=>rw [hq] at hlow;cases hlow
    | some q=>
     have hll:=Kt s
     obtain ⟨m,e⟩:=Ac1 (E9 s) (by omega) (E9 s).length 0 [] q LF (by omega) (by omega) (by omega) (by simp) (by rw [List.drop_zero];exact hq)
     refine .inr ⟨B1 q,E9 s,m,λR k0 k1=>?_⟩
     rw [top,A7,cond_false,A8,cond_true]
     refine Eq.trans (e R _) ?_
     have hel:=Ao9 q
     rw [List.nil_append,Ev,Xb,Xc,cond_true,XJ (by omega),cond_true,J3 (by rw [List.length_append];simp only [xnB,List.length_cons,List.length_nil];omega),cond_true]
     simp only
     by_cases h3:(Bn q).2=0
     ·rw [h3,if_pos rfl]
      cases h4:L0 (xnB++(Bn q).1) with
      | true=>rfl
      | false=>rfl
     ·rw [if_neg h3]
      have:(((Bn q).2:Int) != (0:Int))=true:=by simpa using h3
      rw [this]
      rfl
   ·rw [if_neg h2]
    refine .inl λR k0 k1=>?_
    rw [top,A7,cond_false,A7,cond_false,J3 (by rw [Kt];exact hs),cond_true]
    cases L0 (E9 s)<;>rfl
theorem A55 (s:By) (h0:A3 s.length=true):∃ r H,KU LF s (λr0 r1=>rv (.tup [.s (.str r0),.s (.int .i64 r1)]) []) (λr0 r1 l2 s3 m4=>rv (.tup [.s (.str r0),.s (.int .i64 r1)]) [.arr true 3 1 l2,.iter s3 m4])=rv r H/\
  r.stab [0,0] H = .tup [.s (.str (Ka s).1),.s (.int .i64 ((Ka s).2:Nat))]:=by
 rcases RA s h0 with h | ⟨l,t,m,h⟩
 ·exact ⟨_,_,h _ _ _,rfl⟩
 ·exact ⟨_,_,h _ _ _,rfl⟩
theorem Aa9 {R:Type} {k0:Int->Option R} (b:Int) (h0:inR b 256=true):Aq4 LF b k0=k0 (Jb (u8n b)):=by
 simp only [inR,Bool.and_eq_true,decide_eq_true_eq] at h0
 have hc:b=((u8n b).toNat:Int):=by
  unfold u8n
  simp
  omega
 generalize u8n b=c at *
 subst hc
 have hbt:=c.toNat_lt
 unfold Aq4
 simp only [Oi,Oh,vl,Jb]
 rcases Km c with ⟨h1,h2,e⟩ | ⟨h1,h2,e⟩ | ⟨h1,h2,e⟩ | ⟨h1,h2,h3,e⟩
 ·have e2:A1 (wu8 ((c.toNat:Int)-48))=((dig c:Nat):Int):=by
   rw [S9,A4];omega
  rw [Bh]
  simp (disch:=omega) only [B9,D1,Bool.not_true,Bool.not_false,cond_false,cond_true,e2]
 ·have e2:A1 (A1 (wu8 ((c.toNat:Int)-97))+10)=((dig c:Nat):Int):=by
   rw [S9,D8 (n:=(c.toNat:Int)-97) (by omega) (by omega),A4];omega
  rw [Bh]
  simp (disch:=omega) only [B9,D1,Bool.not_true,Bool.not_false,cond_false,cond_true,e2]
 ·have e2:A1 (A1 (wu8 ((c.toNat:Int)-65))+10)=((dig c:Nat):Int):=by
   rw [S9,D8 (n:=(c.toNat:Int)-65) (by omega) (by omega),A4];omega
  rw [Bh]
  simp (disch:=omega) only [B9,D1,Bool.not_true,Bool.not_false,cond_false,cond_true,e2]
 ·rw [e,if_neg (by decide)]
  by_cases c1:c.toNat<48
  ·simp (disch:=omega) only [B9,D1,Bool.not_true,Bool.not_false,cond_false,cond_true]
  ·by_cases c2:c.toNat<65
   ·simp (disch:=omega) only [B9,D1,Bool.not_true,Bool.not_false,cond_false,cond_true]
   ·by_cases c3:c.toNat<97
    ·simp (disch:=omega) only [B9,D1,Bool.not_true,Bool.not_false,cond_false,cond_true]
    ·simp (disch:=omega) only [B9,D1,Bool.not_true,Bool.not_false,cond_false,cond_true]
theorem A90 {b:UInt8} (r:By) (h:b≠37):Fe (b::r)=(Fe r).map (b::·):=by
 conv=>lhs;unfold Fe
 grind
theorem Au2 (x y:UInt8) (r:By):Fe (37::x::y::r)=if dig x<16/\dig y<16 then (Fe r).map (UInt8.ofNat (16*dig x+dig y)::·) else none:=by
 conv=>lhs;unfold Fe
 grind
theorem Ao5 (x:UInt8):ltI (Jb x) 0 = !(decide (dig x<16)):=by
 unfold Jb
 by_cases h:dig x<16
 ·simp_all
 ·rw [if_neg h,A8,decide_eq_false h];rfl
theorem Aa8 (s:By) (hs:s.length<=1000000000):∀ (m i n:Nat) (acc:By),i<=s.length->s.length-i<=m->m<n->acc.length<=i->
  (∀ t,Fe (s.drop i)=some t->∀ (R:Type) (k0:LL->Option R) (k1:LL->Option R),N9 LF n s (i:Int) (acc.map D2) k0 k1=k1 ((acc++t).map D2))/\
  (Fe (s.drop i)=none->∃ l,∀ (R:Type) (k0:LL->Option R) (k1:LL->Option R),N9 LF n s (i:Int) (acc.map D2) k0 k1=k0 l):=by
 intro m
 induction m with
 | zero=>
  intro i n acc hi hm hn ha
  obtain ⟨n,rfl⟩:∃ m,n=m+1:=⟨n-1,by omega⟩
  rw [List.drop_of_length_le (by omega)]
  refine ⟨λt ht R k0 k1=>?_,λh=>(by cases h)⟩
  simp only [Fe,Option.some.injEq] at ht
  subst ht
  rw [N9]
  rw [A7,List.append_nil]
  rfl
 | succ m ih=>
  intro i n acc hi hm hn ha
  obtain ⟨n,rfl⟩:∃ m,n=m+1:=⟨n-1,by omega⟩
  by_cases hlt:i<s.length
  ·have e1:A1 ((i:Int)+1)=((i+1:Nat):Int):=by rw [A4];rfl
   have e2:A1 ((i:Int)+2)=((i+2:Nat):Int):=by rw [A4];rfl
   have e3:A1 (((i+2:Nat):Int)+1)=((i+3:Nat):Int):=by rw [A4];omega
   have hal:(acc.map D2).length=acc.length:=List.length_map _
   have hrow:∀ b:UInt8,acc.map D2++[[SV.int .u8 (b.toNat:Int)]]=(acc++[b]).map D2:=λb=>by rw [List.map_append];rfl
   have q1:(((s.getD i 0).toNat:Int) != 37) = !(s.getD i 0==37):=congrArg _ (U3 _ 37 (by omega))
   rw [J0 s i hlt]
   by_cases h37:s.getD i 0=37
   ·by_cases h3:i+2<s.length
    ·rw [J0 s (i+1) (by omega),J0 s (i+1+1) (by omega),h37,Au2]
     obtain ⟨i1,i2⟩:=ih (i+3) n (acc++[UInt8.ofNat (16*dig (s.getD (i+1) 0)+dig (s.getD (i+2) 0))]) (by omega) (by omega) (by omega) (by simp;omega)
     have top:∀ (R:Type) (k0:LL->Option R) (k1:LL->Option R),N9 LF (n+1) s (i:Int) (acc.map D2) k0 k1=cond (decide (dig (s.getD (i+1) 0)<16)&&decide (dig (s.getD (i+2) 0)<16)) (N9 LF n s ((i+3:Nat):Int) ((acc++[UInt8.ofNat (16*dig (s.getD (i+1) 0)+dig (s.getD (i+2) 0))]).map D2) k0 k1) (k0 (acc.map D2)):=by
      intro R k0 k1
      rw [N9]
      rw [A8,J5,I2,q1,h37,hal,e2,A8,e1,J5,J5,I2,I2]
      simp only [cond_true,vl,Bool.not_true,cond_false,beq_self_eq_true,VR,Qc,Ao5,D4 (show acc.length+1<=68719476736 by omega),e3]
      generalize s.getD (i+1) 0=x at *
      generalize s.getD (i+2) 0=y at *
      by_cases hx:dig x<16
      ·by_cases hy:dig y<16
       ·have w1:Jb x=(dig x:Int):=by unfold Jb;rw [if_pos hx]
        have w2:Jb y=(dig y:Int):=by unfold Jb;rw [if_pos hy]
        have w3:A1 ((16:Int)*(dig x:Int))=((16*dig x:Nat):Int):=by rw [A4];omega
        have w4:A1 (((16*dig x:Nat):Int)+(dig y:Int))=((16*dig x+dig y:Nat):Int):=by rw [A4];omega
        have w5:wu8 ((16*dig x+dig y:Nat):Int)=((UInt8.ofNat (16*dig x+dig y)).toNat:Int):=by
         rw [S9]
         simp
         omega
        grind
       grind
      grind
     by_cases hd:dig (s.getD (i+1) 0)<16/\dig (s.getD (i+2) 0)<16
     ·rw [if_pos hd]
      have hc:(decide (dig (s.getD (i+1) 0)<16)&&decide (dig (s.getD (i+2) 0)<16))=true:=by rw [decide_eq_true hd.1,decide_eq_true hd.2];rfl
      refine ⟨λt ht R k0 k1=>?_,λh=>?_⟩
      ·cases hq:Fe (s.drop (i+3)) with
       | none=>rw [show i+1+1+1=i+3 from rfl,hq] at ht;cases ht
       | some q=>
        rw [show i+1+1+1=i+3 from rfl,hq] at ht
        simp only [Option.map_some,Option.some.injEq] at ht
        subst ht
        rw [top,hc,cond_true,i1 q hq,List.append_assoc]
        rfl
      ·cases hq:Fe (s.drop (i+3)) with
       | some q=>rw [show i+1+1+1=i+3 from rfl,hq] at h;cases h
       | none=>
        obtain ⟨l,e⟩:=i2 hq
        exact ⟨l,λR k0 k1=>by rw [top,hc,cond_true,e]⟩
     ·rw [if_neg hd]
      have hc:(decide (dig (s.getD (i+1) 0)<16)&&decide (dig (s.getD (i+2) 0)<16))=false:=by grind
      exact ⟨λt h=>(by cases h),λ_=>⟨_,λR k0 k1=>by rw [top,hc,cond_false]⟩⟩
    ·have hnone:Fe (s.getD i 0::s.drop (i+1))=none:=by
      rw [h37]
      cases hd:s.drop (i+1) with
      | nil=>rfl
      | cons x r=>
       cases r with
       | nil=>rfl
       | cons y r'=>
        exfalso
        have:=congrArg List.length hd
        rw [List.length_drop,List.length_cons,List.length_cons] at this
        omega
     rw [hnone]
     refine ⟨λt h=>(by cases h),λ_=>⟨acc.map D2,λR k0 k1=>?_⟩⟩
     rw [N9]
     rw [A8,J5,I2,q1,h37,e2,A7]
     rfl
   ·rw [A90 _ h37]
    obtain ⟨i1,i2⟩:=ih (i+1) n (acc++[s.getD i 0]) (by omega) (by omega) (by omega) (by simp;omega)
    have hb37:(s.getD i 0==37)=false:=by simpa using h37
    have top:∀ (R:Type) (k0:LL->Option R) (k1:LL->Option R),N9 LF (n+1) s (i:Int) (acc.map D2) k0 k1=N9 LF n s ((i+1:Nat):Int) ((acc++[s.getD i 0]).map D2) k0 k1:=by
     intro R k0 k1
     rw [N9]
     rw [A8,J5,I2,q1,hb37,hal,D4 (by omega),e1,hrow]
     rfl
    refine ⟨λt ht R k0 k1=>?_,λh=>?_⟩
    ·cases hq:Fe (s.drop (i+1)) with
     | none=>rw [hq] at ht;cases ht
     | some q=>
      rw [hq] at ht
      simp only [Option.map_some,Option.some.injEq] at ht
      subst ht
      rw [top,i1 q hq,List.append_assoc]
      rfl
    ·cases hq:Fe (s.drop (i+1)) with
     | some q=>rw [hq] at h;cases h
     | none=>
      obtain ⟨l,e⟩:=i2 hq
      exact ⟨l,λR k0 k1=>by rw [top,e]⟩
  ·rw [List.drop_of_length_le (by omega)]
   refine ⟨λt ht R k0 k1=>?_,λh=>(by cases h)⟩
   simp only [Fe,Option.some.injEq] at ht
   subst ht
   rw [N9]
   rw [A7,List.append_nil]
   rfl
theorem A44 (s:By) (h0:A3 s.length=true):∃ r H,Aq3 LF s (λr0 r1 l2=>rv (.tup [.s (.str r0),.s (.bool r1)]) [.arr false 5 1 l2])=rv r H/\
  r.stab [0,0] H = .tup [.s (.str (Bl7 s)),.s (.bool (Fe s).isSome)]:=by
 have hs:=M3 h0
 have hLF:=D6
 have hroom:((decide ((0:Int)<=(s.length:Int)))&&(E3 (Int.toNat (s.length:Int))))=true:=by
  rw [Int.toNat_natCast,D4 (by omega),decide_eq_true (by omega)];rfl
 obtain ⟨p1,p2⟩:=Aa8 s hs s.length 0 LF [] (by omega) (by omega) (by omega) (by simp)
 rw [List.drop_zero] at p1 p2
 unfold Bl7
 cases hp:Fe s with
 | none=>
  obtain ⟨l,e⟩:=p2 hp
  refine ⟨.tup [.s (.str []),.s (.bool false)],[.arr false 5 1 l],?_,rfl⟩
  unfold Aq3
  rw [hroom,cond_true]
  exact e _ _ _
 | some t=>
  refine ⟨.tup [.s (.str t),.s (.bool true)],[.arr false 5 1 (t.map D2)],?_,rfl⟩
  unfold Aq3
  rw [hroom,cond_true]
  refine Eq.trans (p1 t hp _ _ _) ?_
  rw [List.nil_append,Fq,Ga]
  rfl
theorem KM {R:Type} {k0 k1:Unit->Option R}:∀ l:List By,(∀ x∈l,x.length<=1000000000)->Xo LF l k0 k1=if l.all L0 then k0 () else k1 ()
 | [],_=>rfl
 | x::r,h=>by
  rw [KL]
  unfold Ur
  rw [J3 (h x (by simp)),cond_true,List.all_cons]
  have ih:=KM (k0:=k0) (k1:=k1) r (λy hy=>h y (by simp [hy]))
  grind
theorem Bk5 (s:By) (h0:A3 s.length=true):∃ r H,hvn LF s (λ_=>rv (.s (.bool false)) [.box [.s (.bool false)]]) (λr0 b1=>rv (.s (.bool r0)) [.box [.s (.bool b1)],.box [.bad],.box [.bad],.box [.bad]])=rv r H/\r.stab [] H = .s (.bool (E0 s)):=by
 have hs:=M3 h0
 unfold hvn GL E0
 by_cases h1:253<s.length
 ·rw [A8,show Nat.ble s.length 253=false by rw [Bool.eq_false_iff,ne_eq,Nat.ble_eq];omega]
  exact ⟨_,_,rfl,rfl⟩
 ·rw [A7,cond_false,h0,cond_true,show Nat.ble s.length 253=true by rw [Nat.ble_eq];omega]
  cases h2:O4 s with
  | true=>exact ⟨_,_,rfl,rfl⟩
  | false=>
   rw [cond_false,show ((1:Nat)==1&&(0:Int)==(0:Int))=true from rfl,show ([46]:By).getD 0 0=46 from rfl,Bool.and_true,cond_true,KM _ (λx hx=>by have:=(Kz hx).2;omega)]
   cases h3:(pcs 46 s).all L0 with
   | true=>exact ⟨_,_,rfl,rfl⟩
   | false=>exact ⟨_,_,rfl,rfl⟩
theorem RU {R:Type} {k0:By->By->Int->Option R} (t p:By) (n:Int):As8 LF t p n k0=k0 t p n:=rfl
theorem Ai0 {R:Type} {k0:By->By->Option R} (t p:By):Bm2 LF t p k0=k0 t p:=rfl
theorem Ab3 {R:Type} {k0:By->Option R} (t:By):Bk2 LF t k0=k0 t:=rfl
theorem ZX {c:UInt8} {s:By} (h:c∉s):Lib.cut s [c]=(s,[],false):=by
 unfold Lib.cut
 rw [Mt h,if_neg (by decide)]
theorem Ao2 {c:UInt8} {p r:By} (h:c∉p):Lib.cut (p++c::r) [c]=(p,r,true):=by
 unfold Lib.cut
 rw [Sa h,Bh,Int.toNat_natCast,List.take_left,List.length_singleton]
 simp_all
theorem VH {σ R:Type} (yh:Yh σ) (c:UInt8):∀ (m:Nat) (t:By) (n:Nat) (s s':σ),t.length<=m->t.length<=1000000000->m<n->Q6 yh ((pcs c t).map λx=>([.s (.str x)]:List PV)) s=some s'->
  ∃ t' , (∃ s0:σ,∃ b:Bool,yh [.s (.str t')] s0=some (b,s')/\∀ (k0 k1:By->By->Int->σ->Option R),O5 yh LF n [c] t 0 s k0 k1=k0 [c] t' 0 s0)\/(∀ (k0 k1:By->By->Int->σ->Option R),O5 yh LF n [c] t 0 s k0 k1=k1 [c] t' 0 s'):=by
 intro m
 induction m with
 | zero=>
  intro t n s s' ht ht2 hn h
  obtain rfl:=List.length_eq_zero_iff.1 (Nat.le_zero.1 ht)
  obtain ⟨n,rfl⟩:∃ m,n=m+1:=⟨n-1,by omega⟩
  rw [Js (by simp)] at h
  simp only [List.map_cons,List.map_nil,Q6] at h
  refine ⟨[],.inl ⟨s,?_⟩⟩
  have e:∀ (k0 k1:By->By->Int->σ->Option R),O5 yh LF (n+1) [c] [] 0 s k0 k1=k0 [c] [] 0 s:=λk0 k1=>by
   rw [O5]
   rw [Mt (by simp)]
   rfl
  cases hy:yh [.s (.str [])] s with
  | none=>rw [hy] at h;cases h
  | some q=>
   obtain ⟨b,s1⟩:=q
   rw [hy] at h
   have:s1=s':=by cases b<;>simpa using h
   subst this
   exact ⟨b,rfl,e⟩
 | succ m ih=>
  intro t n s s' ht ht2 hn h
  obtain ⟨n,rfl⟩:∃ m,n=m+1:=⟨n-1,by omega⟩
  rcases Ep c t with hc | ⟨p,r,rfl,hc⟩
  ·rw [Js hc] at h
   simp only [List.map_cons,List.map_nil,Q6] at h
   refine ⟨t,.inl ⟨s,?_⟩⟩
   have e:∀ (k0 k1:By->By->Int->σ->Option R),O5 yh LF (n+1) [c] t 0 s k0 k1=k0 [c] t 0 s:=λk0 k1=>by
    rw [O5]
    rw [Mt hc,J3 ht2]
    rfl
   cases hy:yh [.s (.str t)] s with
   | none=>rw [hy] at h;cases h
   | some q=>
    obtain ⟨b,s1⟩:=q
    rw [hy] at h
    have:s1=s':=by cases b<;>simpa using h
    subst this
    exact ⟨b,rfl,e⟩
  ·rw [Uw hc] at h
   simp only [List.map_cons,Q6] at h
   have hlen:(p++c::r).length=p.length+r.length+1:=by rw [List.length_append,List.length_cons];omega
   have e1:A1 ((p.length:Int)+0)=((p.length:Nat):Int):=by rw [A4];omega
   have e2:A1 ((p.length:Int)+(([c]:By).length:Int))=((p.length+1:Nat):Int):=by
    rw [D8 (by simp;omega) (by simp;omega)];simp
   have e3:cut (p++c::r) 0 (p.length:Int)=p:=by rw [X6,Int.toNat_natCast,List.take_left]
   have e4:cut (p++c::r) ((p.length+1:Nat):Int) ((p++c::r).length:Int)=r:=by
    rw [M8,Int.toNat_natCast,show p++c::r=(p++[c])++r by simp,List.drop_left' (by simp)]
   have top:∀ (k0 k1:By->By->Int->σ->Option R),O5 yh LF (n+1) [c] (p++c::r) 0 s k0 k1=ydK (yh [.s (.str p)] s) λb s1=>cond (not b) (k1 [c] (p++c::r) 0 s1) (O5 yh LF n [c] r 0 s1 k0 k1):=λk0 k1=>by
    rw [O5]
    rw [Sa hc,J3 ht2,cond_true,A7,cond_false]
    simp only [vl,e1,e2,e3,e4]
    rw [Q7,cond_true,Q7]
    rfl
   cases hy:yh [.s (.str p)] s with
   | none=>rw [hy] at h;cases h
   | some q=>
    obtain ⟨b,s1⟩:=q
    rw [hy] at h top
    cases b with
    | false=>
     have:s1=s':=by simpa using h
     subst this
     exact ⟨p++c::r,.inr λk0 k1=>by rw [top];rfl⟩
    | true=>
     simp only at h
     obtain ⟨t',⟨s0,b,e,f⟩ | f⟩:=ih r n s1 s' (by omega) (by omega) (by omega) h
     ·exact ⟨t',.inl ⟨s0,b,e,λk0 k1=>by rw [top];exact f k0 k1⟩⟩
     ·exact ⟨t',.inr λk0 k1=>by rw [top];exact f k0 k1⟩
theorem VI {σ R:Type} (yh:Yh σ) (p t:By) (n:Int) (s s':σ) (h:(A3 t.length&&(p.length==1&&n==0))=true) (hr:Q6 yh ((pcs (p.getD 0 0) t).map λx=>([.s (.str x)]:List PV)) s=some s') :
  ∃ t',∀ (k0:By->By->Int->σ->Option R),NE yh LF p t n s k0=k0 p t' n s':=by
 have hLF:=D6
 simp only [Bool.and_eq_true,beq_iff_eq] at h
 obtain ⟨h1,h2,rfl⟩:=h
 obtain ⟨c,rfl⟩:=List.length_eq_one_iff.1 h2
 have ht:=M3 h1
 obtain ⟨t',⟨s0,b,e,f⟩ | f⟩:=VH (R:=R) yh c t.length t LF s s' (Nat.le_refl _) ht (by omega) hr
 ·refine ⟨t',λk0=>?_⟩
  unfold NE
  rw [show (((([c]:By).length:Nat):Int)==0)=false from rfl,cond_false]
  refine Eq.trans (f _ _) ?_
  rw [e]
  rfl
 ·refine ⟨t',λk0=>?_⟩
  unfold NE
  rw [show (((([c]:By).length:Nat):Int)==0)=false from rfl,cond_false]
  exact f _ _
theorem Xn {σ R:Type} (yh:Yh σ):∀ (l:List By) (t:By) (n:Nat) (s s':σ),VN t->pcs 46 t=l->l.length<n->Q6 yh ((Y7 l).map λx=>([.s (.str x)]:List PV)) s=some s'->
  ∃ t',∀ (k0:By->σ->Option R),X7 yh LF n t s k0=k0 t' s'
 | [],t,n,s,s',hv,hp,hn,hr=>absurd hp (Jr 46 t)
 | [x],t,n,s,s',hv,hp,hn,hr=>by
  obtain ⟨n,rfl⟩:∃ m,n=m+1:=⟨n-1,by omega⟩
  simp only [Y7,List.map_nil,Q6,Option.some.injEq] at hr
  subst hr
  have hno:(46:UInt8)∉t:=by
   intro h
   have h1:=Br 46 t
   rw [hp] at h1
   have:=List.count_pos_iff.2 h
   simp at h1
   omega
  refine ⟨t,λk0=>?_⟩
  rw [X7]
  rw [ZX hno,J3 (by have:=hv.le;omega)]
  rfl
 | x::y::r,t,n,s,s',hv,hp,hn,hr=>by
  obtain ⟨n,rfl⟩:∃ m,n=m+1:=⟨n-1,by omega⟩
  obtain ⟨q1,q2,q3⟩:=hv.super hp
  have hx:(46:UInt8)∉x:=(Kz (s:=t) (x:=x) (by rw [hp];simp)).1
  simp only [Y7,List.map_cons,Q6] at hr
  have top:∀ (k0:By->σ->Option R),X7 yh LF (n+1) t s k0=ydK (yh [.s (.str (Lib.join (y::r) [46]))] s) λb s1=>cond (not b) (k0 t s1) (X7 yh LF n (Lib.join (y::r) [46]) s1 k0):=λk0=>by
   rw [X7]
   have:Lib.cut t [46]=(x,Lib.join (y::r) [46],true):=by rw [q1];exact Ao2 hx
   rw [this,J3 (by have:=hv.le;omega)]
   rfl
  cases hy:yh [.s (.str (Lib.join (y::r) [46]))] s with
  | none=>rw [hy] at hr;cases hr
  | some q=>
   obtain ⟨b,s1⟩:=q
   rw [hy] at hr top
   cases b with
   | false=>
    have:s1=s':=by simpa using hr
    subst this
    exact ⟨t,λk0=>by rw [top];rfl⟩
   | true=>
    simp only at hr
    obtain ⟨t',f⟩:=Xn yh (y::r) (Lib.join (y::r) [46]) n s1 s' q2 q3 (by simp only [List.length_cons] at hn ⊢;omega) hr
    exact ⟨t',λk0=>by rw [top];exact f k0⟩
theorem QX {σ R:Type} (yh:Yh σ) (t:By) (s s':σ) (h:A3 t.length=true) (hr:Q6 yh ((I8 t).map λx=>([.s (.str x)]:List PV)) s=some s') :
  ∃ t',∀ (k0:By->σ->Option R),KI yh LF t s k0=k0 t' s':=by
 have hLF:=D6
 have ht:=M3 h
 unfold I8 at hr
 cases hv:E0 t with
 | false=>
  rw [hv] at hr
  simp only [Bool.false_eq_true,if_false,List.map_nil,Q6,Option.some.injEq] at hr
  subst hr
  refine ⟨t,λk0=>?_⟩
  unfold KI
  rw [h,hv]
  rfl
 | true=>
  rw [hv,if_pos rfl] at hr
  have hpl:=Br 46 t
  have hcl:=Fu 46 t
  obtain ⟨t',f⟩:=Xn (R:=R) yh _ t LF s s' (Hw.1 hv) rfl (by omega) hr
  refine ⟨t',λk0=>?_⟩
  unfold KI
  rw [h,hv]
  exact f _
set_option maxRecDepth 100000
section
def EE:List PV->Tr
 | [.s (.str s)]=>.ret (.s (.bool false)) []
 | _=>.fail
def Ak4 (args:List PV):Tr:=EE (D3 [[0]] args)
def ED:List PV->Tr
 | [.s (.int .i64 n)]=>.ret (.s (.bool false)) []
 | _=>.fail
def Ak3 (args:List PV):Tr:=ED (D3 [[0]] args)
def OA:List PV->Tr
 | [.s (.str s),.s (.str p)]=>.ret (.s (.int .i64 (T3 s p))) []
 | _=>.fail
def Bg4 (args:List PV):Tr:=OA (D3 [[0],[0]] args)
def NZ:List PV->Tr
 | [.s (.int .i64 n),.s (.int .i64 m)]=>.ret (.s (.int .i64 (GD n m))) []
 | _=>.fail
def Bg3 (args:List PV):Tr:=NZ (D3 [[0],[0]] args)
def EG:List PV->Tr
 | [.s (.str s),.s (.str p)]=>.need (A3 (List.length s)) (.need (A3 (List.length p)) (.ret (.s (.int .i64 (O7 s p))) []))
 | _=>.fail
def Ak5 (args:List PV):Tr:=EG (D3 [[0],[0]] args)
def Bs9:List PV->Tr
 | [.agg [.s (.str h),.s (.bool b),.s (.int .i64 e)]]=>.need (A3 (List.length h)) (.ret (.s (.bool (Bt7 h e))) [])
 | _=>.fail
def DV:List PV->Tr
 | [.agg [.s (.str h),.s (.bool b)]]=>.need (A3 (List.length h)) (.ret (.s (.bool (not (E0 h)))) [])
 | _=>.fail
def Ak1 (args:List PV):Tr:=DV (D3 [[0,0]] args)
def OI:List PV->Tr
 | [.agg [.s (.str h),.s (.bool b)],.s (.str s)]=>.need (A3 (List.length h)) (.need (A3 (List.length s)) (.ret (.s (.int .i64 (O7 h s))) []))
 | _=>.fail
def Bg7 (args:List PV):Tr:=OI (D3 [[0,0],[0]] args)
def DT:List PV->Tr
 | [.s (.sl l_z l_t 2 l),.s (.fn (Fn.func 58) [] [])]=>.need (List.all l F8) (.need (List.all l smE) (.need (A3 (List.length l)) (.ret (.s (.int .i64 (ixE (List.map A5 l)))) [])))
 | _=>.fail
def Ak0 (args:List PV):Tr:=DT (D3 [[2],[0]] args)
def DR:List PV->Tr
 | [.s (.sl l_z l_t 2 l),.s (.fn (Fn.func 58) [] [])]=>.need (List.all l F8) (.need (List.all l smE) (.need (A3 (List.length l)) (.ret (.s (.bool (Zu (List.map A5 l)))) [])))
 | _=>.fail
def DQ (args:List PV):Tr:=DR (D3 [[2],[0]] args)
def DP:List PV->Tr
 | [.s (.sl l_z l_t 2 l)]=>.need (A3 (List.length l)) (.need (Jn l_z l) (.ret (.fl 0) [.arr l_z 63 2 l]))
 | _=>.fail
def DO (args:List PV):Tr:=DP (D3 [[2]] args)
def Qo:SV->List (List SV)->Bool × List (List SV)
 | .fn (Fn.func 62) [] [],l=>(((List.all l F8)&&((List.all l smE)&&(A3 (List.length l)))),(B8 (S6 (List.map A5 l))))
 | _,_=>(false,[])
def DN:List PV->Tr
 | [.s (.sl l_z l_t 2 l),.s (.str q),.s (.fn (Fn.func 66) [] [])]=>.need (List.all l F8) (.need (List.all l smE) (.need (A3 (List.length l)) (.need (A3 (List.length q)) (.ret (.tup [.s (.int .i64 (↑(bsI (List.map Prod.fst (List.map A5 l)) q):Int)),.s (.bool (bsB (List.map Prod.fst (List.map A5 l)) q))]) []))))
 | _=>.fail
def OG (args:List PV):Tr:=DN (D3 [[2],[0],[0]] args)
def DU:List PV->Tr
 | [.s (.sl l_z l_t 2 l)]=>.need (List.all l F8) (.need (List.all l smE) (.need (A3 (List.length l)) (.need (Jn l_z l) (.split ((De (List.map A5 l))==0) (.ret (.tup [.s (.sp [[.sl l_z l_z 2 (B8 (isE (List.map A5 l)))]] 0 0),.s (.int .i64 (0:Int))]) []) (.ret (.tup [.s (.nilp),.s (.int .i64 (↑(De (List.map A5 l)):Int))]) [])))))
 | _=>.fail
def OJ (args:List PV):Tr:=DU (D3 [[2]] args)
def Vl:List PV->Tr
 | [.s (.sp [[.sl lz lt 2 l]] 0 0),.s (.str q)]=>.need (List.all l F8) (.need (List.all l smE) (.need (A3 (List.length l)) (.need (A3 (List.length q)) (.ret (.tup [.agg [.s (.str (((H7 (List.map A5 l) q)).1).1),.s (.bool (((H7 (List.map A5 l) q)).1).2)],.s (.bool ((H7 (List.map A5 l) q)).2)]) []))))
 | _=>.fail
def WJ (args:List PV):Tr:=Vl (D3 [[0],[0]] args)
def Vm:List PV->Tr
 | [.s (.nilp),.s (.str q)]=>.ret (.tup [.agg [.s (.str ([]:List UInt8)),.s (.bool false)],.s (.bool false)]) []
 | _=>.fail
def WK (args:List PV):Tr:=Vm (D3 [[0],[0]] args)
def Ls (args:List PV):Tr:=(orT (WJ args) (WK args))
def Vj:List PV->Tr
 | [.s (.sp [[.sl lz lt 2 l]] 0 0),.s (.str q)]=>.need (List.all l F8) (.need (List.all l smE) (.need (A3 (List.length l)) (.need (A3 (List.length q)) (.ret (.tup [.agg [.s (.str (((O2 (List.map A5 l) q)).1).1),.s (.bool (((O2 (List.map A5 l) q)).1).2)],.s (.bool ((O2 (List.map A5 l) q)).2)]) []))))
 | _=>.fail
def WH (args:List PV):Tr:=Vj (D3 [[0],[0]] args)
def Vk:List PV->Tr
 | [.s (.nilp),.s (.str q)]=>.need (A3 (List.length q)) (.ret (.tup [.agg [.s (.str ([]:List UInt8)),.s (.bool false)],.s (.bool false)]) [])
 | _=>.fail
def WI (args:List PV):Tr:=Vk (D3 [[0],[0]] args)
def OH (args:List PV):Tr:=(orT (WH args) (WI args))
def EQ:List PV->Tr
 | [.agg [.s (.str h),.s (.bool b)],.s (.str s)]=>.need (A3 (List.length h)) (.need (A3 (List.length s)) (.ret (.s (.bool (Fv s (At1 h b)))) []))
 | _=>.fail
def Ak9 (args:List PV):Tr:=EQ (D3 [[0,0],[0]] args)
def ER:List PV->Tr
 | [.s (.sl l_z l_t 2 l),.s (.str s)]=>.need (List.all l F8) (.need (List.all l smE) (.need (A3 (List.length l)) (.need (A3 (List.length s)) (.ret (.tup [.agg [.s (.str ((G3 (List.map A5 l) s)).1),.s (.bool ((G3 (List.map A5 l) s)).2)],.s (.bool (not (List.isEmpty ((G3 (List.map A5 l) s)).1)))]) []))))
 | _=>.fail
def OQ (args:List PV):Tr:=ER (D3 [[2],[0]] args)
def DL:List PV->Tr
 | [.s (.sl l_z l_t 2 l),.s (.int .i64 n)]=>.need (List.all l F8) (.need (ltI n (1001:Int)) (.ret (.s (.bool (Ng n l))) []))
 | _=>.fail
def OF (args:List PV):Tr:=DL (D3 [[2],[0]] args)
def Bi3:List PV->Tr
 | []=>.ret (.s (.bool true)) []
 | _=>.fail
def Lq:List PV->Tr
 | []=>.ret (.s (.bool true)) []
 | _=>.fail
def Qi (args:List PV):Tr:=Lq (D3 [] args)
def Wa:List PV->Tr
 | [.s (.str s),.s (.str p)]=>.need (A3 (List.length s)) (.need (A3 (List.length p)) (.ret (.s (.int .i64 (O7 s p))) []))
 | _=>.fail
def WS (args:List PV):Tr:=Wa (D3 [[0],[0]] args)
def Vx:List PV->Tr
 | [.s (.sl l_z l_t 2 l)]=>.need (List.all l F8) (.need (List.all l smE) (.need (A3 (List.length l)) (.split ((De (List.map A5 l))==0) (.ret (.tup [.s (.sl (List.isEmpty (List.map A5 l)) (List.isEmpty (List.map A5 l)) 2 (B8 (isE (List.map A5 l)))),.s (.int .i64 (0:Int))]) []) (.ret (.tup [.s (.sl true true 2 []),.s (.int .i64 (↑(De (List.map A5 l)):Int))]) []))))
 | _=>.fail
def ET (args:List PV):Tr:=Vx (D3 [[2]] args)
def Vw:List PV->Tr
 | [.s (.sl l_z l_t 2 l),.s (.str q)]=>.need (List.all l F8) (.need (A3 (List.length l)) (.ret (.tup [.agg [.s (.str (((N8 (List.map A5 l) q)).1).1),.s (.bool (((N8 (List.map A5 l) q)).1).2)],.s (.bool ((N8 (List.map A5 l) q)).2)]) []))
 | _=>.fail
def ES (args:List PV):Tr:=Vw (D3 [[2],[0]] args)
end
section
variable {σ R : Type} (lf : Nat) (cl : D7) (yh : Yh σ) (s : σ) (k : Out -> St σ -> Option R)
noncomputable def PO (lf:Nat):Cfg:=C1 lf [143] (A6 []) [] (A6 [(1,[2]),(0,[0])]) [] (A6 []) (some [2]) [] [] []
noncomputable def A80 {R:Type} (lf:Nat) (x0:By) (k0:Bool->Option R):Option R:=k0 (not (x0==x0))
theorem A81 (d:Nat) (x0):evC (PO lf) (d+1) σ yh 143 [pS x0] [] s=A80 lf x0 (λr0=>some (pB r0,[],s)):=by
 refine (evE (fn:=Tryz.f143) (by kernel_rfl)).trans ?_
 generalize evC (PO lf) d=cl
 unfold A80;kernel_rfl
noncomputable def PN (lf:Nat):Cfg:=C1 lf [144] (A6 []) [] (A6 [(1,[2]),(0,[0])]) [] (A6 []) (some [2]) [] [] []
noncomputable def A78 {R:Type} (lf:Nat) (x0:Int) (k0:Bool->Option R):Option R:=k0 (x0 != x0)
theorem A79 (d:Nat) (x0):evC (PN lf) (d+1) σ yh 144 [pI x0] [] s=A78 lf x0 (λr0=>some (pB r0,[],s)):=by
 refine (evE (fn:=Tryz.f144) (by kernel_rfl)).trans ?_
 generalize evC (PN lf) d=cl
 unfold A78;kernel_rfl
noncomputable def An1 (lf:Nat):Cfg:=C1 lf [98] (A6 []) [(143,Ak4)] (A6 [(13,[4]),(12,[4]),(11,[19]),(10,[4]),(9,[0,0,14]),(8,[4]),(7,[0,0,11]),(6,[4]),(5,[4]),(4,[12]),(3,[0,0,4,4]),(2,[0,0,3,0]),(1,[0,0,3]),(0,[0,0])]) [143] (A6 []) (some [4]) [] [] []
noncomputable def ccs {R:Type} (lf:Nat) (x0 y1:By) (k0:Int->Option R):Option R:=cond (bytesLess x0 y1) (k0 (-1)) (cond (not ((bytesLess x0 y1) || (x0==y1))) (k0 1) (k0 0))
theorem Bj4 (d:Nat) (x0 y1):evC (An1 lf) (d+1) σ yh 98 [pS x0,pS y1] [] s=ccs lf x0 y1 (λr0=>some (pI r0,[],s)):=by
 refine (evE (fn:=Tryz.f98) (by kernel_rfl)).trans ?_
 generalize evC (An1 lf) d=cl
 unfold ccs;kernel_rfl
noncomputable def An0 (lf:Nat):Cfg:=C1 lf [99] (A6 []) [(144,Ak3)] (A6 [(13,[4]),(12,[4]),(11,[19]),(10,[4]),(9,[0,0,14]),(8,[4]),(7,[0,0,11]),(6,[4]),(5,[4]),(4,[12]),(3,[0,0,4,4]),(2,[0,0,3,0]),(1,[0,0,3]),(0,[0,0])]) [144] (A6 []) (some [4]) [] [] []
noncomputable def cci {R:Type} (lf:Nat) (x0 y1:Int) (k0:Int->Option R):Option R:=cond (ltI x0 y1) (k0 (-1)) (cond (ltI y1 x0) (k0 1) (k0 0))
theorem Bj3 (d:Nat) (x0 y1):evC (An0 lf) (d+1) σ yh 99 [pI x0,pI y1] [] s=cci lf x0 y1 (λr0=>some (pI r0,[],s)):=by
 refine (evE (fn:=Tryz.f99) (by kernel_rfl)).trans ?_
 generalize evC (An0 lf) d=cl
 unfold cci;kernel_rfl
noncomputable abbrev Am5:Code:=D9 Tryz.f63
noncomputable def Mo (lf:Nat):Cfg:=C1 lf [63] (A6 [(2,[0,0,2,0,0])]) [(97,Un),(98,Bg4),(99,Bg3)] (A6 [(8,[4]),(7,[0,0]),(6,[0,0,3,0,22]),(5,[4]),(4,[0,0,3,0,0,14]),(3,[0,0,3,0,0]),(2,[0,0,3,0]),(1,[0,0]),(0,[0,0])]) [97,98,99] (A6 [(0,[5,0]),(1,[0,0])]) (some [4]) [] [] []
noncomputable def Ky {R:Type} (lf n:Nat) (a0 b1:By) (k0:Int->Option R) (k1:Int->Int->Option R):Option R:=match n with | 0=>none | n+1=>cond (A3 a0.length) (vl (G7 (u8n (46:Int)) a0) λn'2=>cond (A3 b1.length) (vl (G7 (u8n (46:Int)) b1) λn'3=>cond (N6 (A1 (n'2+1)) (a0.length:Int) a0.length) (vl (cut a0 (A1 (n'2+1)) (a0.length:Int)) λs'6=>cond (N6 (A1 (n'3+1)) (b1.length:Int) b1.length) (vl (cut b1 (A1 (n'3+1)) (b1.length:Int)) λs'7=>cond ((T3 s'6 s'7) != 0) (k0 (T3 s'6 s'7)) (cond (ltI n'2 0) (k1 n'2 n'3) (cond (ltI n'3 0) (k1 n'2 n'3) (cond (N6 0 n'2 a0.length) (cond (N6 0 n'3 b1.length) (Ky lf n (cut a0 0 n'2) (cut b1 0 n'3) k0 k1) none) none)))) none) none) none) none
theorem SM (n a0 b1):D5 0 ((Mo lf).keep 2) (bd (Mo lf) cl yh (cd [1,0,1,1,0,0,0] Am5)) n ⟨gp [(0,pS a0),(0,pS b1)] 39,[],s⟩ k =
 Ky lf n a0 b1 (λn0=>k .ret ⟨gp [(4,pI n0)] 36,[],s⟩) (λi0 kk1=>k (.exit 0) ⟨gp [(5,pI i0),(0,pI kk1)] 34,[],s⟩):=by
 induction n generalizing a0 b1 with
 | zero=>rfl
 | succ n ih=>rw [Ky];simp only [<-ih];kernel_rfl
noncomputable def A88 {R:Type} (lf:Nat) (a0 b1:By) (k0:Int->Option R):Option R:=Ky lf lf a0 b1 (λn'8=>k0 n'8) (λi'9 kk'10=>vl (GD (if ((0:Int)<i'9) then (0:Int) else i'9) (if ((0:Int)<kk'10) then (0:Int) else kk'10)) λn'11=>k0 n'11)
theorem A89 (d:Nat) (a0 b1):evC (Mo lf) (d+1) σ yh 63 [pS a0,pS b1] [] s=A88 lf a0 b1 (λr0=>some (pI r0,[],s)):=by
 refine (evE (fn:=Tryz.f63) (by kernel_rfl)).trans ?_
 generalize evC (Mo lf) d=cl
 unfold A88;exact (Eq.trans (by kernel_rfl) ((SM lf cl yh s (G5 0 (G9 (Mo lf) cl yh (cd [1,0,1,1,1] Am5) (H9 (Mo lf) Tryz.f63))) lf a0 b1).trans (by kernel_rfl)))
noncomputable def PK (lf:Nat):Cfg:=C1 lf [58] (A6 []) [(59,WF)] (A6 [(1,[2]),(0,[1])]) [59] (A6 []) (some [2]) [] [] []
noncomputable def A65 {R:Type} (lf:Nat) (x0:By) (x1:Bool) (k0:Bool->By->Bool->Option R):Option R:=cond (A3 x0.length) (k0 (not (E0 x0)) x0 x1) none
theorem A66 (d:Nat) (x0 x1):evC (PK lf) (d+1) σ yh 58 [.agg [pS x0,pB x1]] [] s=A65 lf x0 x1 (λr0 s1 b2=>some (pB r0,[.box [pS s1,pB b2]],s)):=by
 refine (evE (fn:=Tryz.f58) (by kernel_rfl)).trans ?_
 generalize evC (PK lf) d=cl
 unfold A65;kernel_rfl
noncomputable def An2 (lf:Nat):Cfg:=C1 lf [66] (A6 []) [(63,Ak5)] (A6 [(1,[4]),(0,[1,0])]) [63] (A6 []) (some [4]) [] [] []
noncomputable def lgf {R:Type} (lf:Nat) (x0:By) (x1:Bool) (name2:By) (k0:Int->By->Bool->Option R):Option R:=cond (A3 x0.length) (cond (A3 name2.length) (k0 (O7 x0 name2) x0 x1) none) none
theorem Bl0 (d:Nat) (x0 x1 name2):evC (An2 lf) (d+1) σ yh 66 [.agg [pS x0,pB x1],pS name2] [] s=lgf lf x0 x1 name2 (λr0 s1 b2=>some (pI r0,[.box [pS s1,pB b2]],s)):=by
 refine (evE (fn:=Tryz.f66) (by kernel_rfl)).trans ?_
 generalize evC (An2 lf) d=cl
 unfold lgf;kernel_rfl
noncomputable abbrev Am1:Code:=D9 Tryz.f92
noncomputable def Mj (lf:Nat):Cfg:=C1 lf [92] (A6 [(2,[0,0,2,2,0])]) [(58,Ak1)] (A6 [(7,[4]),(6,[0,0,5,0]),(5,[4]),(4,[0,0,3,1,0,7]),(3,[0,0,3,1,0]),(2,[0,0,5,0,0]),(1,[0,0,5,0]),(0,[0,0])]) [58] (A6 [(0,[]),(1,[0,0,5,0])]) (some [4]) [] [] []
noncomputable def Hh {R:Type} (lf n:Nat) (s_z0 s_t1:Bool) (s2:LL) (n3 n4:Int) (k0:Int->Option R) (k1:Unit->Option R):Option R:=match n with | 0=>none | n+1=>cond (ltI n4 n3) (cond (inR n4 s2.length) (cond (okE ⟨true,true,[.str,.bool]⟩ s2 (Int.toNat n4) 0) (cond (A3 (List.length (gX s2 (Int.toNat n4) 0))) (cond (not (E0 (gX s2 (Int.toNat n4) 0))) (k0 n4) (Hh lf n s_z0 s_t1 s2 n3 (A1 (n4+1)) k0 k1)) none) none) none) (k1 ())
theorem RL (n s_z0 s_t1 s2 n3 n4):D5 0 ((Mj lf).keep 2) (bd (Mj lf) cl yh (cd [1,0,1,0,0] Am1)) n ⟨gp [(0,.s (.sl s_z0 s_t1 2 s2)),(0,.s (.fn (Fn.func 58) [] [])),(5,pI n3),(0,pI n4)] 10,[],s⟩ k =
 Hh lf n s_z0 s_t1 s2 n3 n4 (λn0=>k .ret ⟨gp [(4,pI n0)] 14,[],s⟩) (λ_=>k (.exit 0) ⟨gp [] 19,[],s⟩):=by
 induction n generalizing s_z0 s_t1 s2 n3 n4 with
 | zero=>rfl
 | succ n ih=>rw [Hh];simp only [<-ih];kernel_rfl
noncomputable def A63 {R:Type} (lf:Nat) (l_z l_t:Bool) (l:LL) (k0:Int->Option R):Option R:=Hh lf lf l_z l_t l (l.length:Int) 0 (λn'0=>k0 n'0) (λ_=>k0 (-1))
theorem A64 (d:Nat) (l_z l_t l):evC (Mj lf) (d+1) σ yh 92 [.s (.sl l_z l_t 2 l),.s (.fn (Fn.func 58) [] [])] [] s=A63 lf l_z l_t l (λr0=>some (pI r0,[],s)):=by
 refine (evE (fn:=Tryz.f92) (by kernel_rfl)).trans ?_
 generalize evC (Mj lf) d=cl
 unfold A63;exact (Eq.trans (by kernel_rfl) ((RL lf cl yh s (G5 0 (G9 (Mj lf) cl yh (cd [1,1] Am1) (H9 (Mj lf) Tryz.f92))) lf l_z l_t l (l.length:Int) 0).trans (by kernel_rfl)))
noncomputable def PJ (lf:Nat):Cfg:=C1 lf [57] (A6 []) [(92,Ak0)] (A6 [(1,[4]),(0,[0,0])]) [92] (A6 []) (some [4]) [] [] []
noncomputable def A60 {R:Type} (lf:Nat) (l_z l_t:Bool) (l:LL) (k0:Bool->Option R):Option R:=cond (List.all l F8) (cond (List.all l smE) (cond (A3 l.length) (k0 (not (ltI (ixE (List.map A5 l)) (0:Int)))) none) none) none
theorem A61 (d:Nat) (l_z l_t l):evC (PJ lf) (d+1) σ yh 57 [.s (.sl l_z l_t 2 l),.s (.fn (Fn.func 58) [] [])] [] s=A60 lf l_z l_t l (λr0=>some (pB r0,[],s)):=by
 refine (evE (fn:=Tryz.f57) (by kernel_rfl)).trans ?_
 generalize evC (PJ lf) d=cl
 unfold A60;kernel_rfl
noncomputable def PI (lf:Nat):Cfg:=C1 lf [60] (A6 []) [] (A6 [(3,[2]),(2,[2]),(1,[0,3]),(0,[0])]) [] (A6 []) (some [2]) [] [] []
noncomputable def A58 {R:Type} (lf:Nat) (l_z l_t:Bool) (l:LL) (k0:Bool->LL->Option R):Option R:=cond l_z (k0 true []) (cond (E3 (0+l.length)) (k0 false l) none)
theorem A59 (d:Nat) (l_z l_t l):evC (PI lf) (d+1) σ yh 60 [.s (.sl l_z l_t 2 l)] [] s=A58 lf l_z l_t l (λz0 l1=>some (.fl 0,[.arr z0 63 2 l1],s)):=by
 refine (evE (fn:=Tryz.f60) (by kernel_rfl)).trans ?_
 generalize evC (PI lf) d=cl
 unfold A58;kernel_rfl
noncomputable abbrev Am0:Code:=D9 Tryz.f65
noncomputable def Mi (lf:Nat):Cfg:=C1 lf [65] (A6 [(3,[0,0,0,3,0,0,0,0])]) [(66,Bg7)] (A6 [(8,[6,0]),(6,[0,0,0,5,0,0]),(7,[0,0,0,5,0,0]),(5,[0,0,0,5,0,0,0,19]),(4,[0,0,0,5,0,0,0]),(3,[0,0,0,5,0,0,6]),(2,[0,0,0,5,0,0]),(1,[0,0,0,5]),(0,[0,0,0])]) [66] (A6 [(0,[0,0,0,5,0]),(1,[0,0,0,5,0,0])]) (some [6,0]) [] [] []
noncomputable def Ef {R:Type} (lf n:Nat) (x_z0 x_t1:Bool) (x2:LL) (target3:By) (n4 i5 j6:Int) (k0:Bool->Bool->LL->By->Int->Int->Option R):Option R:=match n with | 0=>none | n+1=>cond (ltI i5 j6) (vl (Ax3 .u64 (Ay9 (A1 (i5+j6))) (1:Int)) λn'1=>cond (inR (A1 n'1) x2.length) (cond (okE ⟨true,true,[.str,.bool]⟩ x2 (Int.toNat (A1 n'1)) 0) (vl (gX x2 (Int.toNat (A1 n'1)) 0) λs'2=>cond (A3 s'2.length) (cond (A3 target3.length) (cond (ltI (O7 s'2 target3) (0:Int)) (vl (A1 ((A1 n'1)+1)) λn'3=>Ef lf n x_z0 x_t1 x2 target3 n4 n'3 j6 k0) (Ef lf n x_z0 x_t1 x2 target3 n4 i5 (A1 n'1) k0)) none) none) none) none) (k0 x_z0 x_t1 x2 target3 n4 i5)
theorem RF (n x_z0 x_t1 x2 target3 n4 i5 j6):D5 0 ((Mi lf).keep 3) (bd (Mi lf) cl yh (cd [1,1,1,0,0,0] Am0)) n ⟨gp [(0,.s (.sl x_z0 x_t1 2 x2)),(0,pS target3),(0,.s (.fn (Fn.func 66) [] [])),(5,pI n4),(0,pI i5),(0,pI j6)] 38,[],s⟩ k =
 Ef lf n x_z0 x_t1 x2 target3 n4 i5 j6 (λx_z0 x_t1 x2 target3 n4 i5=>k (.exit 0) ⟨gp [(0,.s (.sl x_z0 x_t1 2 x2)),(0,pS target3),(0,.s (.fn (Fn.func 66) [] [])),(5,pI n4),(0,pI i5)] 39,[],s⟩):=by
 induction n generalizing x_z0 x_t1 x2 target3 n4 i5 j6 with
 | zero=>rfl
 | succ n ih=>rw [Ef];simp only [<-ih];kernel_rfl
noncomputable def A56 {R:Type} (lf:Nat) (l_z l_t:Bool) (l:LL) (q:By) (k0:Int->Bool->Option R):Option R:=Ef lf lf l_z l_t l q (l.length:Int) 0 (l.length:Int) (λx_z'4 x_t'5 x'6 target'7 n'8 i'9=>cond (ltI i'9 n'8) (cond (inR i'9 x'6.length) (cond (okE ⟨true,true,[.str,.bool]⟩ x'6 (Int.toNat i'9) 0) (vl (gX x'6 (Int.toNat i'9) 0) λs'10=>cond (A3 s'10.length) (cond (A3 target'7.length) (k0 i'9 ((O7 s'10 target'7)==0)) none) none) none) none) (k0 i'9 false))
theorem A57 (d:Nat) (l_z l_t l q):evC (Mi lf) (d+1) σ yh 65 [.s (.sl l_z l_t 2 l),pS q,.s (.fn (Fn.func 66) [] [])] [] s=A56 lf l_z l_t l q (λr0 r1=>some (.tup [pI r0,pB r1],[],s)):=by
 refine (evE (fn:=Tryz.f65) (by kernel_rfl)).trans ?_
 generalize evC (Mi lf) d=cl
 unfold A56;exact (Eq.trans (by kernel_rfl) ((RF lf cl yh s (G5 0 (G9 (Mi lf) cl yh (cd [1,1,1,1] Am0) (H9 (Mi lf) Tryz.f65))) lf l_z l_t l q (l.length:Int) 0 (l.length:Int)).trans (by kernel_rfl)))
end
end
section
open Go Go.Op
set_option maxRecDepth 100000
theorem Ae0 {R:Type} {k0:Bool->Option R} (s:By):A80 LF s k0=k0 false:=by unfold A80;simp
theorem Ad9 {R:Type} {k0:Bool->Option R} (n:Int):A78 LF n k0=k0 false:=by unfold A78;simp
theorem An6 {R:Type} {k0:Int->Option R} (a b:By):ccs LF a b k0=k0 (T3 a b):=by
 unfold ccs T3
 cases h:bytesLess a b with
 | true=>rfl
 | false=>
  have e:(not (false || a==b))=bytesLess b a:=by
   rw [T1] at h ⊢
   have h:=of_decide_eq_false h
   by_cases hab:a=b
   ·subst hab;simp
   ·have:b<a:=by
     apply Decidable.byContradiction
     intro g
     exact hab (List.le_antisymm (List.not_lt.1 g) (List.not_lt.1 h))
    simp [hab,this]
  rw [e]
  cases bytesLess b a<;>rfl
theorem An5 {R:Type} {k0:Int->Option R} (a b:Int):cci LF a b k0=k0 (GD a b):=by
 unfold cci GD
 cases ltI a b<;>cases ltI b a<;>rfl
theorem Aa:∀ s:By,((46:UInt8)∉s/\G7 46 s = -1)\/∃ p q,s=p++46::q/\(46:UInt8)∉q/\G7 46 s=(p.length:Int)
 | []=>.inl ⟨by simp,rfl⟩
 | b::r=>by
  rcases Aa r with ⟨h1,h2⟩ | ⟨p,q,h1,h2,h3⟩
  ·by_cases hb:b=46
   ·exact .inr ⟨[],r,by rw [hb];rfl,h1,by unfold G7;rw [h2,if_pos (by decide),if_pos hb];rfl⟩
   ·exact .inl ⟨by simp [h1];exact λe=>hb e.symm,by unfold G7;rw [h2,if_pos (by decide),if_neg hb]⟩
  ·refine .inr ⟨b::p,q,by rw [h1];rfl,h2,?_⟩
   unfold G7
   rw [h3,H6]
   simp
theorem Yx {s:By} (h:(46:UInt8)∉s):rl s=[s]:=by
 unfold rl pcs
 rw [Cc 46 s [] h]
 rfl
theorem Yy (p:By) {q:By} (h:(46:UInt8)∉q):rl (p++46::q)=q::rl p:=by
 unfold rl pcs
 rw [Cb,Cc 46 q [] h,List.reverse_append]
 rfl
theorem YV (s:By):rl s≠[]:=by
 unfold rl
 simpa using Jr 46 s
theorem T4 {a b:By} (h:T3 a b=0):a=b:=by
 unfold T3 at h
 cases h1:bytesLess a b with
 | true=>rw [h1] at h;cases h
 | false=>
  cases h2:bytesLess b a with
  | true=>rw [h1,h2] at h;cases h
  | false=>
   rw [T1] at h1 h2
   exact List.le_antisymm (List.not_lt.1 (of_decide_eq_false h2)) (List.not_lt.1 (of_decide_eq_false h1))
theorem Rb (a:By):bytesLess a a=false:=by rw [T1];simp
def Ns (x y:List By):Int:=cond (Ye x y) (-1) (cond (Ye y x) 1 0)
theorem L8 {a b:By} {x y:List By} (h:T3 a b≠0):Ns (a::x) (b::y)=T3 a b:=by
 have hne:a≠b:=λe=>h (by rw [e];unfold T3;rw [Rb];rfl)
 have e1:(a==b)=false:=by simpa using hne
 have e2:(b==a)=false:=by simpa using Ne.symm hne
 unfold Ns T3
 simp only [Ye,e1,e2,Bool.false_and,Bool.or_false]
theorem L7 {a:By} {x y:List By}:Ns (a::x) (a::y)=Ns x y:=by
 unfold Ns
 simp only [Ye,Rb,beq_self_eq_true,Bool.true_and,Bool.false_or]
theorem BY {R:Type} {k0:Int->Option R}:∀ (n:Nat) (a b:By),a.length<=1000000000->b.length<=1000000000->a.length<n->
  Ky LF n a b k0 (λi k=>k0 (GD (if ((0:Int)<i) then (0:Int) else i) (if ((0:Int)<k) then (0:Int) else k)))=k0 (O7 a b)
 | 0,a,b,_,_,h=>by omega
 | n+1,a,b,ha,hb,h=>by
  have e46:u8n (46:Int)=46:=rfl
  have hcmp:∀ x y:By,O7 x y=Ns (rl x) (rl y):=λx y=>rfl
  rw [Ky]
  simp only [vl,e46]
  rw [J3 ha,J3 hb,cond_true,cond_true,hcmp]
  rcases Aa a with ⟨a1,a2⟩ | ⟨p,q,rfl,a1,a2⟩<;>rcases Aa b with ⟨b1,b2⟩ | ⟨p',q',rfl,b1,b2⟩<;>rw [a2,b2]
  ·have e1:cut a (A1 (-1+1)) (a.length:Int)=a:=by rw [A4,M8];rfl
   have e2:cut b (A1 (-1+1)) (b.length:Int)=b:=by rw [A4,M8];rfl
   rw [e1,e2,Q7 (by rw [A4];omega) (by rw [A4];omega),Q7 (by rw [A4];omega) (by rw [A4];omega),cond_true,cond_true,Yx a1,Yx b1]
   by_cases hc:T3 a b=0
   ·rw [show (T3 a b != 0)=false by rw [hc];rfl,cond_false,A8,cond_true,T4 hc,L7];rfl
   ·rw [show (T3 a b != 0)=true by simpa using hc,cond_true,L8 hc]
  ·have e1:cut a (A1 (-1+1)) (a.length:Int)=a:=by rw [A4,M8];rfl
   have e2:cut (p'++46::q') (A1 ((p'.length:Int)+1)) ((p'++46::q').length:Int)=q':=by
    simp only [List.length_append,List.length_cons] at hb
    rw [A4,M8,show (((p'.length:Int)+1).toNat)=p'.length+1 by omega]
    simp
   have hl:(p'++46::q').length=p'.length+(q'.length+1):=by simp
   rw [e1,e2,Q7 (by rw [A4];omega) (by rw [A4];omega),Q7 (by rw [A4];omega) (by rw [A4];omega),cond_true,cond_true,Yx a1,Yy p' b1]
   by_cases hc:T3 a q'=0
   ·rw [show (T3 a q' != 0)=false by rw [hc];rfl,cond_false,A8,cond_true,T4 hc,L7,H6]
    have e3:(if (0:Int)<(p'.length:Int) then (0:Int) else (p'.length:Int))=0:=by split<;>omega
    rw [e3]
    have:Ns [] (rl p') = -1:=by
     unfold Ns
     cases hr:rl p' with
     | nil=>exact absurd hr (YV p')
     | cons x r=>rfl
    rw [this];rfl
   ·rw [show (T3 a q' != 0)=true by simpa using hc,cond_true,L8 hc]
  ·have e1:cut (p++46::q) (A1 ((p.length:Int)+1)) ((p++46::q).length:Int)=q:=by
    simp only [List.length_append,List.length_cons] at ha
    rw [A4,M8,show (((p.length:Int)+1).toNat)=p.length+1 by omega]
    simp
   have e2:cut b (A1 (-1+1)) (b.length:Int)=b:=by rw [A4,M8];rfl
   have hl:(p++46::q).length=p.length+(q.length+1):=by simp
   rw [e1,e2,Q7 (by rw [A4];omega) (by rw [A4];omega),Q7 (by rw [A4];omega) (by rw [A4];omega),cond_true,cond_true,Yx b1,Yy p a1]
   by_cases hc:T3 q b=0
   ·rw [show (T3 q b != 0)=false by rw [hc];rfl,cond_false,A7,cond_false,A8,cond_true,T4 hc,L7]
    have e3:(if (0:Int)<(p.length:Int) then (0:Int) else (p.length:Int))=0:=by split<;>omega
    rw [e3,H6]
    have:Ns (rl p) []=1:=by
     unfold Ns
     cases hr:rl p with
     | nil=>exact absurd hr (YV p)
     | cons x r=>rfl
    rw [this];rfl
   ·rw [show (T3 q b != 0)=true by simpa using hc,cond_true,L8 hc]
  ·have e1:cut (p++46::q) (A1 ((p.length:Int)+1)) ((p++46::q).length:Int)=q:=by
    simp only [List.length_append,List.length_cons] at ha
    rw [A4,M8,show (((p.length:Int)+1).toNat)=p.length+1 by omega]
    simp
   have e2:cut (p'++46::q') (A1 ((p'.length:Int)+1)) ((p'++46::q').length:Int)=q':=by
    simp only [List.length_append,List.length_cons] at hb
    rw [A4,M8,show (((p'.length:Int)+1).toNat)=p'.length+1 by omega]
    simp
   have hl:(p++46::q).length=p.length+(q.length+1):=by simp
   have hl':(p'++46::q').length=p'.length+(q'.length+1):=by simp
   rw [e1,e2,Q7 (by rw [A4];omega) (by rw [A4];omega),Q7 (by rw [A4];omega) (by rw [A4];omega),cond_true,cond_true,Yy p a1,Yy p' b1]
   by_cases hc:T3 q q'=0
   ·rw [show (T3 q q' != 0)=false by rw [hc];rfl,cond_false,A7,cond_false,A7,cond_false,Q7,cond_true,Q7,cond_true,T4 hc,L7,X6,X6,Int.toNat_natCast,Int.toNat_natCast,List.take_left,List.take_left,BY n p p' (by omega) (by omega) (by omega)]
    rfl
   ·rw [show (T3 q q' != 0)=true by simpa using hc,cond_true,L8 hc]
theorem Ae7 {R:Type} {k0:Int->Option R} (a b:By) (h0:A3 a.length=true) (h1:A3 b.length=true):A88 LF a b k0=k0 (O7 a b):=by
 have hLF:=D6
 have ha:=M3 h0
 unfold A88
 exact BY LF a b ha (M3 h1) (by omega)
theorem A67 (h:By) (b:Bool) (h0:A3 h.length=true):∃ r H,A65 LF h b (λr0 s1 b2=>rv (.s (.bool r0)) [.box [.s (.str s1),.s (.bool b2)]])=rv r H/\r.stab [] H = .s (.bool (not (E0 h))):=by
 unfold A65
 rw [h0]
 exact ⟨_,_,rfl,rfl⟩
theorem Bl1 (h:By) (b:Bool) (s:By) (h0:A3 h.length=true) (h1:A3 s.length=true):∃ r H,lgf LF h b s (λr0 s1 b2=>rv (.s (.int .i64 r0)) [.box [.s (.str s1),.s (.bool b2)]])=rv r H/\r.stab [] H = .s (.int .i64 (O7 h s)):=by
 unfold lgf
 rw [h0,h1]
 exact ⟨_,_,rfl,rfl⟩
theorem Ac7 {R:Type} (z t:Bool) (l:List Ent) (hs:(B8 l).all smE=true) (k0:Int->Option R) (k1:Unit->Option R) (hl:l.length<=1000000000):∀ (r i m:Nat),i+r=l.length->r<m->
  Hh LF m z t (B8 l) (l.length:Int) (i:Int) k0 k1=match (l.drop i).findIdx? (λe=>!E0 e.1) with | some j=>k0 ((i+j:Nat):Int) | none=>k1 ():=by
 intro r
 induction r with
 | zero=>
  intro i m hi hm
  obtain ⟨m,rfl⟩:∃ q,m=q+1:=⟨m-1,by omega⟩
  rw [Hh,A7,List.drop_of_length_le (by omega)]
  rfl
 | succ r ih=>
  intro i m hi hm
  obtain ⟨m,rfl⟩:∃ q,m=q+1:=⟨m-1,by omega⟩
  have e1:A1 ((i:Int)+1)=((i+1:Nat):Int):=by rw [A4];rfl
  have hd:l.drop i=l.getD i noE::l.drop (i+1):=by
   rw [List.getD_eq_getElem?_getD,List.getElem?_eq_getElem (by omega),Option.getD_some,List.getElem_cons_drop]
  rw [Hh,A8,J6 (by omega) (by rw [B4];omega),Int.toNat_natCast,Hl (by omega),V3 (by omega),Ht hs (by omega),e1,hd,List.findIdx?_cons]
  simp only [cond_true]
  cases E0 (l.getD i noE).1 with
  | false=>simp
  | true=>
   rw [Bool.not_true,cond_false,ih (i+1) m (by omega) (by omega)]
   cases (l.drop (i+1)).findIdx? (λe=>!E0 e.1) with
   | none=>rfl
   | some j=>simp [Nat.add_assoc,Nat.add_comm 1 j]
theorem Ac8 {R:Type} {k0:Int->Option R} (z t:Bool) (l:LL) (h0:l.all F8=true) (h1:l.all smE=true) (h2:A3 l.length=true):A63 LF z t l k0=k0 (ixE (l.map A5)):=by
 have hLF:=D6
 have hl:=M3 h2
 rw [Ah h0] at h1 hl ⊢
 generalize l.map A5=q at h1 hl ⊢
 rw [B4] at hl
 unfold A63 ixE
 rw [B4,Kp]
 refine (Ac7 z t q h1 _ _ hl q.length 0 LF (by omega) (by omega)).trans ?_
 rw [List.drop_zero]
 cases q.findIdx? (λe=>!E0 e.1) with
 | none=>rfl
 | some j=>
  show k0 ((0+j:Nat):Int)=k0 (j:Int)
  rw [Nat.zero_add]
theorem Bk9 (l:List Ent):(!ltI (ixE l) 0)=Zu l:=by
 unfold ixE Zu
 cases h:l.findIdx? (λe=>!E0 e.1) with
 | none=>
  rw [List.findIdx?_eq_none_iff] at h
  show (!ltI (-1) 0)=_
  rw [A8]
  exact (List.any_eq_false.2 λx hx=>by rw [h x hx];simp).symm
 | some j=>
  show (!ltI (j:Int) 0)=_
  rw [A7]
  exact (List.any_eq_true.2 (by
   obtain ⟨hj,hp,_⟩:=List.findIdx?_eq_some_iff_getElem.1 h
   exact ⟨_,List.getElem_mem hj,hp⟩)).symm
theorem Ac4 {R:Type} {k0:Bool->Option R} (z t:Bool) (l:LL) (h0:l.all F8=true) (h1:l.all smE=true) (h2:A3 l.length=true):A60 LF z t l k0=k0 (Zu (l.map A5)):=by
 unfold A60
 rw [h0,h1,h2,<-Bk9]
 rfl
theorem At5 {z:Bool} {l:LL} (h:Jn z l=true) (hz:z=true):l=[]:=by
 subst hz
 simpa [Jn] using h
theorem Ac3 {R:Type} {k0:Bool->LL->Option R} (z t:Bool) (l:LL) (h0:A3 l.length=true) (h1:Jn z l=true):A58 LF z t l k0=k0 z l:=by
 unfold A58
 cases z with
 | true=>rw [At5 h1 rfl];rfl
 | false=>
  have:=M3 h0
  rw [D4 (by omega)]
  rfl
theorem Bt5 {a b:Nat} (h:a+b<=4000000000):A1 (Ax3 .u64 (Ay9 (A1 ((a:Int)+(b:Int)))) 1)=(((a+b) / 2:Nat):Int):=by
 have e1:A1 ((a:Int)+(b:Int))=((a+b:Nat):Int):=by rw [A4];omega
 have e2:Ay9 ((a+b:Nat):Int)=((a+b:Nat):Int):=ZI (by omega) (by omega)
 have e3:Ax3 .u64 ((a+b:Nat):Int) 1=(((a+b) / 2:Nat):Int):=Bc7 .u64 (a+b) 1 (by decide)
 rw [e1,e2,e3,A4]
theorem BM {R:Type} (z t:Bool) (l:List Ent) (s:By) (hs:(B8 l).all smE=true) (h1:A3 s.length=true) (n:Int) (k0:Bool->Bool->LL->By->Int->Int->Option R) (hl:l.length<=1000000000):∀ (r i j m:Nat),j-i<=r->i<=j->j<=l.length->r<m->
  Ef LF m z t (B8 l) s n (i:Int) (j:Int) k0=k0 z t (B8 l) s n ((Me (λi=>O7 ((l.map Prod.fst).getD i []) s) (r+1) i j:Nat):Int):=by
 intro r
 induction r with
 | zero=>
  intro i j m hr hi hj hm
  obtain ⟨m,rfl⟩:∃ q,m=q+1:=⟨m-1,by omega⟩
  rw [Ef,A7]
  unfold Me
  rw [H6]
  rfl
 | succ r ih=>
  intro i j m hr hi hj hm
  obtain ⟨m,rfl⟩:∃ q,m=q+1:=⟨m-1,by omega⟩
  rw [Ef]
  by_cases hij:i<j
  ·have hh:(i+j) / 2<l.length:=by omega
   rw [A8,Me,if_pos hij]
   simp only [vl,cond_true]
   rw [Bt5 (by omega),J6 (by omega) (by rw [B4];omega),Int.toNat_natCast,Hl hh,V3 hh,Ht hs hh,h1,XT Prod.fst (d:=noE) hh]
   simp only [cond_true]
   have e1:A1 ((((i+j) / 2:Nat):Int)+1)=(((i+j) / 2+1:Nat):Int):=by rw [A4];rfl
   by_cases hc:O7 (l.getD ((i+j) / 2) noE).1 s<0
   ·rw [B9 hc,cond_true,if_pos hc,e1,ih _ _ m (by omega) (by omega) hj (by omega)]
   ·rw [D1 (by omega),cond_false,if_neg hc,ih _ _ m (by omega) (by omega) (by omega) (by omega)]
  ·rw [A7,Me,if_neg hij]
   rfl
theorem Ac2 {R:Type} {k0:Int->Bool->Option R} (z t:Bool) (l:LL) (s:By) (h0:l.all F8=true) (h1:l.all smE=true) (h2:A3 l.length=true) (h3:A3 s.length=true) :
  A56 LF z t l s k0=k0 (bsI ((l.map A5).map Prod.fst) s:Int) (bsB ((l.map A5).map Prod.fst) s):=by
 have hLF:=D6
 have hl:=M3 h2
 rw [Ah h0] at h1 hl ⊢
 generalize l.map A5=q at h1 hl ⊢
 rw [B4] at hl
 unfold A56
 rw [B4,Kp]
 have hlo:=BM (R:=R) z t q s h1 h3 (q.length:Int)
 refine (BM z t q s h1 h3 _ _ hl q.length 0 q.length LF (by omega) (by omega) (by omega) (by omega)).trans ?_
 have hle:=(Up (λi=>O7 ((q.map Prod.fst).getD i []) s) (q.length+1) 0 q.length (by omega)).2
 have e:bsI (q.map Prod.fst) s=Me (λi=>O7 ((q.map Prod.fst).getD i []) s) (q.length+1) 0 q.length:=by unfold bsI;rw [List.length_map]
 rw [<-e] at hle ⊢
 unfold bsB
 generalize bsI (q.map Prod.fst) s=i at hle ⊢
 rw [List.length_map]
 by_cases hi:i<q.length
 ·simp only [vl]
  rw [A8,J6 (by omega) (by rw [B4];omega),Int.toNat_natCast,Hl hi,V3 hi,Ht h1 hi,h3,show Nat.blt i q.length=true from Gt.2 hi,XT Prod.fst (d:=noE) hi,ZU]
  rfl
 ·rw [A7,show Nat.blt i q.length=false by cases hb:Nat.blt i q.length with | false=>rfl | true=>exact absurd (Gt.1 hb) hi]
  rfl
theorem Ax4 {l:List Ent} (h:(B8 l).all smE=true):∀ e∈l,e.1.length<=1000000000:=λe he=>by
 have:=List.all_eq_true.1 h (Rp e) (List.mem_map.2 ⟨e,he,rfl⟩)
 exact M3 this
end
section
open Go Go.Proofs
set_option maxRecDepth 100000
section
variable {σ R : Type} (lf : Nat) (cl : D7) (yh : Yh σ) (s : σ) (k : Out -> St σ -> Option R)
noncomputable abbrev Am2:Code:=D9 Tryz.f26
noncomputable def Ml (lf:Nat):Cfg:=C1 lf [26] (A6 [(8,[2,0,0,0])]) [(57,DQ),(60,DO)] (A6 [(12,[2,0]),(9,[4,0]),(11,[2,0]),(10,[4,0,26]),(8,[4,0,12]),(7,[4,0]),(6,[4]),(5,[4]),(4,[2,0]),(3,[0,9]),(2,[2,0]),(1,[0,7]),(0,[0])]) [57] (A6 [(0,[4]),(1,[4,0])]) (some [2,0]) [] [] [] (nt:=[(105,0,63,2)]) (Z:=[(61,Qo)])
noncomputable def Ai {R:Type} (lf n:Nat) (i0:Int) (z1:Bool) (l2:LL) (k0:(List Blk)->Option R) (k1:Bool->LL->Option R):Option R:=match n with | 0=>none | n+1=>cond (ltI i0 (l2.length:Int)) (cond (inR i0 l2.length) (cond (okE Dw l2 (Int.toNat i0) 0) (cond (inR (A1 (i0-1)) l2.length) (cond (okE Dw l2 (Int.toNat (A1 (i0-1))) 0) (vl (gX l2 (Int.toNat (A1 (i0-1))) 0) λs'0=>cond ((gX l2 (Int.toNat i0) 0)==s'0) (k0 [(Blk.arr z1 63 2 l2)]) (Ai lf n (A1 (i0+1)) z1 l2 k0 k1)) none) none) none) none) (k1 z1 l2)
theorem RM (n i0 z1 l2):D5 1 ((Ml lf).keep 8) (bd (Ml lf) cl yh (cd [1,1,1,1,1,0,1,0,0] Am2)) n ⟨gp [(4,.fl 0),(0,pI i0)] 30,[.arr z1 63 2 l2],s⟩ k =
 Ai lf n i0 z1 l2 (λH0=>k .ret ⟨gp [(2,.s (.nilp)),(0,pI (17:Int))] 32,H0,s⟩) (λz0 l1=>k (.exit 0) ⟨gp [(4,.fl 0)] 31,[.arr z0 63 2 l1],s⟩):=by
 induction n generalizing i0 z1 l2 with
 | zero=>rfl
 | succ n ih=>rw [Ai];simp only [<-ih];kernel_rfl
noncomputable def Ac9 {R:Type} (lf:Nat) (l_z0 l_t1:Bool) (l2:LL) (k0:Int->(List Blk)->Option R) (k1:Bool->LL->(List Blk)->Option R):Option R:=cond (ltI 1000 (l2.length:Int)) (k0 3 []) (cond (List.all l2 F8) (cond (List.all l2 smE) (cond (A3 l2.length) (cond (Zu (List.map A5 l2)) (k0 14 []) (cond (A3 l2.length) (cond (Jn l_z0 l2) (cond ((List.all l2 F8)&&((List.all l2 smE)&&(A3 l2.length))) (Ai lf lf 1 l_z0 (B8 (S6 (List.map A5 l2))) (λH'1=>k0 17 H'1) (λz'2 l'3=>k1 z'2 l'3 [])) none) none) none)) none) none) none)
theorem YC (d:Nat) (l_z0 l_t1 l2):evC (Ml lf) (d+1) σ yh 26 [.s (.sl l_z0 l_t1 2 l2)] [] s=Ac9 lf l_z0 l_t1 l2 (λr0 H1=>some (.tup [.s (.nilp),pI r0],H1,s)) (λz0 l1 H2=>some (.tup [.ptr 1 0 0,pI (0:Int)],(.arr z0 63 2 l1::.box [.fl 0]::H2),s)):=by
 refine (evE (fn:=Tryz.f26) (by kernel_rfl)).trans ?_
 generalize evC (Ml lf) d=cl
 unfold Ac9;exact (Eq.trans (by kernel_rfl) (A0 rfl (A0 (A0 (A0 (A0 rfl (A0 (A0 (A0 ((RM lf cl yh s (G5 0 (G9 (Ml lf) cl yh (cd [1,1,1,1,1,1] Am2) (H9 (Ml lf) Tryz.f26))) lf 1 l_z0 (B8 (S6 (List.map A5 l2)))).trans (by kernel_rfl)) rfl) rfl) rfl)) rfl) rfl) rfl)))
noncomputable abbrev As5 (l_z0 l_t1:Bool) (l2:LL):Option (PV × List Blk × Unit):=Ac9 LF l_z0 l_t1 l2 (λr0 H1=>some (.tup [.s (.nilp),pI r0],H1,())) (λz0 l1 H2=>some (.tup [.ptr 1 0 0,pI (0:Int)],(.arr z0 63 2 l1::.box [.fl 0]::H2),()))
noncomputable def FR (lf:Nat):Cfg:=C1 lf [28] (A6 []) [(65,OG)] (A6 [(6,[4,0]),(5,[4,0]),(4,[0,3,1,14]),(3,[0,3,1,0]),(2,[4,0]),(1,[0,0,2,4]),(0,[0,0,2])]) [65] (A6 []) (some [4,0]) [] [] []
noncomputable def YA {R:Type} (lf:Nat) (lz lt:Bool) (l:LL) (q:By) (k0:By->Bool->Bool->By->Bool->Option R):Option R:=cond (List.all l F8) (cond (List.all l smE) (cond (A3 l.length) (cond (A3 q.length) (vl (↑(bsI (List.map Prod.fst (List.map A5 l)) q):Int) λn'1=>cond (not (bsB (List.map Prod.fst (List.map A5 l)) q)) (k0 ([]:List UInt8) false false ([]:List UInt8) false) (cond (inR n'1 l.length) (cond (okE ⟨true,true,[.str,.bool]⟩ l (Int.toNat n'1) 0) (k0 (gX l (Int.toNat n'1) 0) (gY l (Int.toNat n'1) 1) true (gX l (Int.toNat n'1) 0) (gY l (Int.toNat n'1) 1)) none) none)) none) none) none) none
theorem As0 (d:Nat) (lz lt l q):evC (FR lf) (d+1) σ yh 28 [.s (.sp [[.sl lz lt 2 l]] 0 0),pS q] [] s=YA lf lz lt l q (λr0 r1 r2 s3 b4=>some (.tup [.agg [pS r0,pB r1],pB r2],[.box [pS s3,pB b4]],s)):=by
 refine (evE (fn:=Tryz.f28) (by kernel_rfl)).trans ?_
 generalize evC (FR lf) d=cl
 unfold YA;kernel_rfl
noncomputable abbrev YB (lz lt:Bool) (l:LL) (q:By):Option (PV × List Blk × Unit):=YA LF lz lt l q (λr0 r1 r2 s3 b4=>some (.tup [.agg [pS r0,pB r1],pB r2],[.box [pS s3,pB b4]],()))
noncomputable def FS (lf:Nat):Cfg:=C1 lf [28] (A6 []) [] (A6 [(6,[4,0]),(5,[4,0]),(4,[0,3,1,14]),(3,[0,3,1,0]),(2,[4,0]),(1,[0,0,2,4]),(0,[0,0,2])]) [] (A6 []) (some [4,0]) [] [] []
noncomputable def As2 {R:Type} (lf:Nat) (q:By) (k0:Unit->Option R):Option R:=k0 ()
theorem As3 (d:Nat) (q):evC (FS lf) (d+1) σ yh 28 [.s (.nilp),pS q] [] s=As2 lf q (λ_=>some (.tup [.agg [pS ([]:List UInt8),pB false],pB false],[.box [pS ([]:List UInt8),pB false]],s)):=by
 refine (evE (fn:=Tryz.f28) (by kernel_rfl)).trans ?_
 generalize evC (FS lf) d=cl
 unfold As2;kernel_rfl
noncomputable abbrev A62 (q:By):Option (PV × List Blk × Unit):=As2 LF q (λ_=>some (.tup [.agg [pS ([]:List UInt8),pB false],pB false],[.box [pS ([]:List UInt8),pB false]],()))
noncomputable abbrev Kg:Code:=D9 Tryz.f30
noncomputable def X3 (lf:Nat):Cfg:=C1 lf [30] (A6 []) [(28,Ls),(41,Ql)] (A6 [(9,[4,0]),(8,[4,0]),(7,[2,1,0,3,22]),(6,[2,1,0,3,0]),(5,[2,1,0,2]),(4,[2,1,0,14]),(3,[4,0]),(2,[1,0,1,0,0,10]),(1,[1,0,1,0,0,0]),(0,[1,0,1,0])]) [] (A6 [(0,[4,0]),(1,[2,1,0])]) (some [4,0]) [] [(76,Gn)] []
noncomputable def Ks {R:Type} (lf:Nat) (x'2:By) (xs:List By) (self:Bool->Bool->LL->By->Bool->Option R) (z0 t1:Bool) (l2:LL) (s3:By) (b4:Bool) (k0:Bool->Bool->LL->By->Bool->Option R) (k1:Bool->Bool->LL->By->Bool->By->Bool->Option R):Option R:=cond (List.all l2 F8) (cond (List.all l2 smE) (cond (A3 l2.length) (cond (A3 x'2.length) (vl (((H7 (List.map A5 l2) x'2)).1).1 λs'3=>cond ((H7 (List.map A5 l2) x'2)).2 (cond (((H7 (List.map A5 l2) x'2)).1).2 (k1 z0 t1 l2 s'3 (((H7 (List.map A5 l2) x'2)).1).2 s3 b4) (self z0 t1 l2 s3 b4)) (self z0 t1 l2 s3 b4)) none) none) none) none
noncomputable def Jl {R:Type} (lf:Nat) (L:List By) (z0 t1:Bool) (l2:LL) (s3:By) (b4:Bool) (k0:Bool->Bool->LL->By->Bool->Option R) (k1:Bool->Bool->LL->By->Bool->By->Bool->Option R):Option R:=Ba6 (α:=Bool->Bool->LL->By->Bool->Option R) (λz0 t1 l2 s3 b4=>k0 z0 t1 l2 s3 b4) (λx'2 xs self z0 t1 l2 s3 b4=>Ks lf x'2 xs self z0 t1 l2 s3 b4 k0 k1) L z0 t1 l2 s3 b4
theorem Xx {R:Type} (lf:Nat) (x'2:By) (xs:List By) (z0 t1:Bool) (l2:LL) (s3:By) (b4:Bool) (k0:Bool->Bool->LL->By->Bool->Option R) (k1:Bool->Bool->LL->By->Bool->By->Bool->Option R):Jl lf (x'2::xs) z0 t1 l2 s3 b4 k0 k1=Ks lf x'2 xs (λz0 t1 l2 s3 b4=>Jl lf xs z0 t1 l2 s3 b4 k0 k1) z0 t1 l2 s3 b4 k0 k1:=rfl
theorem KY (L:List By) (z0 t1:Bool) (l2:LL) (s3:By) (b4:Bool):R2 #[21] (gp [(2,.ptr 0 0 0),(1,.ptr 1 0 0),(0,.ptr 2 0 0),(14,.fnr (Fn.func 76) [] [.bad])] 14) (bd (X3 lf) cl yh (cd [1,1,0,1,0,0] Kg)) (bd (X3 lf) cl yh (cd [1,1,0,1,0,1] Kg)) (L.map (λ(x'2:By)=>([pS x'2]:List PV))) [.box [.s (.sp [[.sl z0 t1 2 l2]] 0 0)],.box [pS ([]:List UInt8),pB false],.box [pB false],.box [pS s3,pB b4],.dead] s (rgK (gp [(2,.ptr 0 0 0),(1,.ptr 1 0 0),(0,.ptr 2 0 0),(14,.fnr (Fn.func 76) [] [.bad])] 14) (λH=>R9 H [4] [.box [.bad]]) k) =
 Jl lf L z0 t1 l2 s3 b4 (λz0 t1 l2 s3 b4=>k .normal ⟨gp [(2,.ptr 0 0 0),(1,.ptr 1 0 0),(0,.ptr 2 0 0),(14,.fnr (Fn.func 76) [] [.bad])] 14,[.box [.s (.sp [[.sl z0 t1 2 l2]] 0 0)],.box [pS ([]:List UInt8),pB false],.box [pB false],.box [pS s3,pB b4],.box [.bad]],s⟩) (λz0 t1 l2 s3 b4 s5 b6=>k .ret ⟨gp [(2,.ptr 0 0 0),(1,.ptr 1 0 0),(0,.ptr 2 0 0),(14,.fnr (Fn.func 76) [] [.bad])] 14,[.box [.s (.sp [[.sl z0 t1 2 l2]] 0 0)],.box [pS s3,pB b4],.box [pB true],.box [pS s5,pB b6],.box [.bad]],s⟩):=by
 induction L generalizing z0 t1 l2 s3 b4 with
 | nil=>rfl
 | cons x'2 xs ih=>rw [Xx];unfold Ks;exact (Eq.trans (by kernel_rfl) (A0 (A0 (A0 (A0 (A9 λs'3=>(A0 (A0 rfl (ih z0 t1 l2 s3 b4)) (ih z0 t1 l2 s3 b4))) rfl) rfl) rfl) rfl))
noncomputable def On {R:Type} (lf:Nat) (z0 t1:Bool) (l2:LL) (s3:By) (b4:Bool) (s5:By) (k0:Bool->Bool->LL->By->Bool->Option R) (k1:Bool->Bool->LL->By->Bool->By->Bool->Option R):Option R:=cond (A3 s5.length) (Jl lf (I8 s5) z0 t1 l2 s3 b4 k0 k1) none
abbrev Xw (b:Code):Prop:=∀ (k:Out->St σ->Option R) z0 t1 l2 s3 b4 s5,B2 (X3 lf) cl yh b ⟨gp [(2,.ptr 0 0 0),(1,.ptr 1 0 0),(0,.ptr 2 0 0),(14,.fnr (Fn.func 76) [] [.ptr 4 0 0])] 14,[.box [.s (.sp [[.sl z0 t1 2 l2]] 0 0)],.box [pS ([]:List UInt8),pB false],.box [pB false],.box [pS s3,pB b4],.box [pS s5]],s⟩ k=On lf z0 t1 l2 s3 b4 s5 (λz0 t1 l2 s3 b4=>k .normal ⟨gp [(2,.ptr 0 0 0),(1,.ptr 1 0 0),(0,.ptr 2 0 0),(14,.fnr (Fn.func 76) [] [.bad])] 14,[.box [.s (.sp [[.sl z0 t1 2 l2]] 0 0)],.box [pS ([]:List UInt8),pB false],.box [pB false],.box [pS s3,pB b4],.box [.bad]],s⟩) (λz0 t1 l2 s3 b4 s5 b6=>k .ret ⟨gp [(2,.ptr 0 0 0),(1,.ptr 1 0 0),(0,.ptr 2 0 0),(14,.fnr (Fn.func 76) [] [.bad])] 14,[.box [.s (.sp [[.sl z0 t1 2 l2]] 0 0)],.box [pS s3,pB b4],.box [pB true],.box [pS s5,pB b6],.box [.bad]],s⟩)
theorem KX:Xw (R:=R) lf cl yh s (cd [1,1,0,1,0] Kg):=by
 intro k z0 t1 l2 s3 b4 s5;unfold On;exact ((Ap2 [1,1,0,1,0] (by kernel_rfl)).trans (by kernel_rfl)).trans (Mw (KY lf cl yh s k (I8 s5) z0 t1 l2 s3 b4))
noncomputable def KW {R:Type} (lf:Nat) (lz lt:Bool) (l:LL) (q:By) (k0:By->Bool->Bool->Bool->LL->Option R) (k1:By->Bool->Bool->Bool->Bool->LL->By->Bool->Bool->By->Bool->Option R):Option R:=cond (List.all l F8) (cond (List.all l smE) (cond (A3 l.length) (cond (A3 q.length) (vl (((H7 (List.map A5 l) q)).1).1 λs'1=>cond ((H7 (List.map A5 l) q)).2 (k0 s'1 (((H7 (List.map A5 l) q)).1).2 lz lt l) (On lf lz lt l s'1 (((H7 (List.map A5 l) q)).1).2 q (λz'4 t'5 l'6 s'7 b'8=>k1 ([]:List UInt8) false false z'4 t'5 l'6 ([]:List UInt8) false false s'7 b'8) (λz'9 t'10 l'11 s'12 b'13 s'14 b'15=>k1 s'12 b'13 true z'9 t'10 l'11 s'12 b'13 true s'14 b'15))) none) none) none) none
theorem Ar4 (b_11010:Code) (h_lfndA_e1:Xw (R:=PV × List Blk × σ) lf cl yh s b_11010) (lz lt:Bool) (l:LL) (q:By):B2 (X3 lf) cl yh (cd [] (O9 [1,1,0,1,0] b_11010 Kg)) ⟨[.s (.sp [[.sl lz lt 2 l]] 0 0),pS q]++tps 33,[],s⟩ (H9 (X3 lf) Tryz.f30)=KW lf lz lt l q (λr0 r1 z2 t3 l4=>some (.tup [.agg [pS r0,pB r1],pB true],[.box [.s (.sp [[.sl z2 t3 2 l4]] 0 0)],.box [pS r0,pB r1],.box [pB true],.box [pS r0,pB r1]],s)) (λr0 r1 r2 z3 t4 l5 s6 b7 b8 s9 b10=>some (.tup [.agg [pS r0,pB r1],pB r2],[.box [.s (.sp [[.sl z3 t4 2 l5]] 0 0)],.box [pS s6,pB b7],.box [pB b8],.box [pS s9,pB b10],.box [.bad]],s)):=by
 unfold KW;exact (Eq.trans (by kernel_rfl) (A0 (A0 (A0 (A0 (A9 λs'1=>(A0 rfl ((h_lfndA_e1 (G5 0 (G9 (X3 lf) cl yh (cd [1,1,1] Kg) (H9 (X3 lf) Tryz.f30))) lz lt l s'1 (((H7 (List.map A5 l) q)).1).2 q).trans (by kernel_rfl)))) rfl) rfl) rfl) rfl))
theorem Ar5 (d:Nat) (lz lt l q):evC (X3 lf) (d+1) σ yh 30 [.s (.sp [[.sl lz lt 2 l]] 0 0),pS q] [] s=KW lf lz lt l q (λr0 r1 z2 t3 l4=>some (.tup [.agg [pS r0,pB r1],pB true],[.box [.s (.sp [[.sl z2 t3 2 l4]] 0 0)],.box [pS r0,pB r1],.box [pB true],.box [pS r0,pB r1]],s)) (λr0 r1 r2 z3 t4 l5 s6 b7 b8 s9 b10=>some (.tup [.agg [pS r0,pB r1],pB r2],[.box [.s (.sp [[.sl z3 t4 2 l5]] 0 0)],.box [pS s6,pB b7],.box [pB b8],.box [pS s9,pB b10],.box [.bad]],s)):=
 (evE (fn:=Tryz.f30) (by kernel_rfl)).trans (Eq.trans (by kernel_rfl) (Ar4 lf (evC (X3 lf) d) yh s (cd [1,1,0,1,0] Kg) (KX lf (evC (X3 lf) d) yh s) lz lt l q))
noncomputable abbrev XY (lz lt:Bool) (l:LL) (q:By):Option (PV × List Blk × Unit):=KW LF lz lt l q (λr0 r1 z2 t3 l4=>some (.tup [.agg [pS r0,pB r1],pB true],[.box [.s (.sp [[.sl z2 t3 2 l4]] 0 0)],.box [pS r0,pB r1],.box [pB true],.box [pS r0,pB r1]],())) (λr0 r1 r2 z3 t4 l5 s6 b7 b8 s9 b10=>some (.tup [.agg [pS r0,pB r1],pB r2],[.box [.s (.sp [[.sl z3 t4 2 l5]] 0 0)],.box [pS s6,pB b7],.box [pB b8],.box [pS s9,pB b10],.box [.bad]],()))
noncomputable abbrev Kh:Code:=D9 Tryz.f30
noncomputable def X4 (lf:Nat):Cfg:=C1 lf [30] (A6 []) [(28,Ls),(41,Ql)] (A6 [(9,[4,0]),(8,[4,0]),(7,[2,1,0,3,22]),(6,[2,1,0,3,0]),(5,[2,1,0,2]),(4,[2,1,0,14]),(3,[4,0]),(2,[1,0,1,0,0,10]),(1,[1,0,1,0,0,0]),(0,[1,0,1,0])]) [] (A6 [(0,[4,0]),(1,[2,1,0])]) (some [4,0]) [] [(76,Gn)] []
noncomputable def Sg {R:Type} (lf:Nat) (x'0:By) (xs:List By) (self:Unit->Option R) (k0:Unit->Option R):Option R:=self ()
noncomputable def Jm {R:Type} (lf:Nat) (L:List By) (k0:Unit->Option R):Option R:=Ba6 (α:=Unit->Option R) (λ_=>k0 ()) (λx'0 xs self _=>Sg lf x'0 xs self  k0) L ()
theorem RK {R:Type} (lf:Nat) (x'0:By) (xs:List By) (k0:Unit->Option R):Jm lf (x'0::xs)  k0=Sg lf x'0 xs (λ_=>Jm lf xs  k0)  k0:=rfl
theorem LB (L:List By):R2 #[21] (gp [(2,.ptr 0 0 0),(1,.ptr 1 0 0),(0,.ptr 2 0 0),(14,.fnr (Fn.func 76) [] [.bad])] 14) (bd (X4 lf) cl yh (cd [1,1,0,1,0,0] Kh)) (bd (X4 lf) cl yh (cd [1,1,0,1,0,1] Kh)) (L.map (λ(x'0:By)=>([pS x'0]:List PV))) [.box [.s (.nilp)],.box [pS ([]:List UInt8),pB false],.box [pB false],.box [pS ([]:List UInt8),pB false],.dead] s (rgK (gp [(2,.ptr 0 0 0),(1,.ptr 1 0 0),(0,.ptr 2 0 0),(14,.fnr (Fn.func 76) [] [.bad])] 14) (λH=>R9 H [4] [.box [.bad]]) k) =
 Jm lf L  (λ_=>k .normal ⟨gp [(2,.ptr 0 0 0),(1,.ptr 1 0 0),(0,.ptr 2 0 0),(14,.fnr (Fn.func 76) [] [.bad])] 14,[.box [.s (.nilp)],.box [pS ([]:List UInt8),pB false],.box [pB false],.box [pS ([]:List UInt8),pB false],.box [.bad]],s⟩):=by
 induction L with
 | nil=>rfl
 | cons x'0 xs ih=>rw [RK];unfold Sg;exact (Eq.trans (by kernel_rfl) ih)
noncomputable def Oo {R:Type} (lf:Nat) (s0:By) (k0:Unit->Option R):Option R:=cond (A3 s0.length) (Jm lf (I8 s0)  k0) none
abbrev Xz (b:Code):Prop:=∀ (k:Out->St σ->Option R) s0,B2 (X4 lf) cl yh b ⟨gp [(2,.ptr 0 0 0),(1,.ptr 1 0 0),(0,.ptr 2 0 0),(14,.fnr (Fn.func 76) [] [.ptr 4 0 0])] 14,[.box [.s (.nilp)],.box [pS ([]:List UInt8),pB false],.box [pB false],.box [pS ([]:List UInt8),pB false],.box [pS s0]],s⟩ k=Oo lf s0 (λ_=>k .normal ⟨gp [(2,.ptr 0 0 0),(1,.ptr 1 0 0),(0,.ptr 2 0 0),(14,.fnr (Fn.func 76) [] [.bad])] 14,[.box [.s (.nilp)],.box [pS ([]:List UInt8),pB false],.box [pB false],.box [pS ([]:List UInt8),pB false],.box [.bad]],s⟩)
theorem LA:Xz (R:=R) lf cl yh s (cd [1,1,0,1,0] Kh):=by
 intro k s0;unfold Oo;exact ((Ap2 [1,1,0,1,0] (by kernel_rfl)).trans (by kernel_rfl)).trans (Mw (LB lf cl yh s k (I8 s0) ))
noncomputable def KZ {R:Type} (lf:Nat) (q:By) (k0:Unit->Option R):Option R:=Oo lf q (λ_=>k0 ())
theorem Ar7 (b_11010:Code) (h_lfndB_e1:Xz (R:=PV × List Blk × σ) lf cl yh s b_11010) (q:By):B2 (X4 lf) cl yh (cd [] (O9 [1,1,0,1,0] b_11010 Kh)) ⟨[.s (.nilp),pS q]++tps 33,[],s⟩ (H9 (X4 lf) Tryz.f30)=KZ lf q (λ_=>some (.tup [.agg [pS ([]:List UInt8),pB false],pB false],[.box [.s (.nilp)],.box [pS ([]:List UInt8),pB false],.box [pB false],.box [pS ([]:List UInt8),pB false],.box [.bad]],s)):=by
 unfold KZ;exact (Eq.trans (by kernel_rfl) ((h_lfndB_e1 (G5 0 (G9 (X4 lf) cl yh (cd [1,1,1] Kh) (H9 (X4 lf) Tryz.f30))) q).trans (by kernel_rfl)))
theorem Ar8 (d:Nat) (q):evC (X4 lf) (d+1) σ yh 30 [.s (.nilp),pS q] [] s=KZ lf q (λ_=>some (.tup [.agg [pS ([]:List UInt8),pB false],pB false],[.box [.s (.nilp)],.box [pS ([]:List UInt8),pB false],.box [pB false],.box [pS ([]:List UInt8),pB false],.box [.bad]],s)):=
 (evE (fn:=Tryz.f30) (by kernel_rfl)).trans (Eq.trans (by kernel_rfl) (Ar7 lf (evC (X4 lf) d) yh s (cd [1,1,0,1,0] Kh) (LA lf (evC (X4 lf) d) yh s) q))
noncomputable abbrev XZ (q:By):Option (PV × List Blk × Unit):=KZ LF q (λ_=>some (.tup [.agg [pS ([]:List UInt8),pB false],pB false],[.box [.s (.nilp)],.box [pS ([]:List UInt8),pB false],.box [pB false],.box [pS ([]:List UInt8),pB false],.box [.bad]],()))
end
end
section
open Go Go.Op
set_option maxRecDepth 100000
theorem U7 {l:List Ent} {i:Nat} (h:i<l.length):okE Dw (B8 l) i 0=true:=by unfold okE;rw [Jc h];simp [h,okS,Rp,SV.has,Dw]
theorem U6 {α:Type} (d:α) {l:List α} {i:Nat} (h:i<l.length):l.drop i=l.getD i d::l.drop (i+1):=by
 rw [List.getD_eq_getElem?_getD,List.getElem?_eq_getElem h,Option.getD_some,List.getElem_cons_drop]
theorem BO {R:Type} (z:Bool) (S:List Ent) (k0:List Blk->Option R) (k1:Bool->LL->Option R) (hl:S.length<=1000000000):∀ (r j m:Nat),j+1+r=S.length->r<m->
  Ai LF m ((j+1:Nat):Int) z (B8 S) k0 k1=if FJ (S.drop j) then k0 [.arr z 63 2 (B8 S)] else k1 z (B8 S)
 | 0,j,m,hj,hm=>by
  obtain ⟨m,rfl⟩:∃ q,m=q+1:=⟨m-1,by omega⟩
  rw [Ai,D1 (by rw [B4];omega),U6 noE (by omega),List.drop_of_length_le (i:=j+1) (by omega)]
  rfl
 | r+1,j,m,hj,hm=>by
  obtain ⟨m,rfl⟩:∃ q,m=q+1:=⟨m-1,by omega⟩
  have e1:A1 (((j+1:Nat):Int)-1)=(j:Int):=by rw [A4];omega
  have e2:A1 (((j+1:Nat):Int)+1)=((j+1+1:Nat):Int):=by rw [A4];rfl
  rw [Ai,B9 (by rw [B4];omega),J6 (by omega) (by rw [B4];omega),Int.toNat_natCast,U7 (by omega),e1,J6 (by omega) (by rw [B4];omega),Int.toNat_natCast,U7 (by omega),V3 (by omega),V3 (by omega),e2]
  simp only [cond_true,vl]
  rw [U6 noE (by omega:j<S.length),U6 noE (by omega:j+1<S.length)]
  unfold FJ
  cases hq:((S.getD (j+1) noE).1==(S.getD j noE).1) with
  | true=>rfl
  | false=>
   rw [cond_false,BO z S k0 k1 hl r (j+1) m (by omega) (by omega),U6 noE (by omega:j+1<S.length),Bool.false_or]
theorem BP {R:Type} {k0:Int->List Blk->Option R} {k1:Bool->LL->List Blk->Option R} (z t:Bool) (l:LL) (h0:l.all F8=true) (h1:l.all smE=true) (h2:A3 l.length=true) (hz:Jn z l=true) :
  (De (l.map A5)=0->Ac9 LF z t l k0 k1=k1 z (B8 (isE (l.map A5))) [])/\(De (l.map A5)≠0->∃ H,Ac9 LF z t l k0 k1=k0 (De (l.map A5):Nat) H):=by
 have hLF:=D6
 have hl:=M3 h2
 have hr:=Ah h0
 generalize hE:l.map A5=E at hr
 subst hr
 rw [B4] at hl
 have hs:=Ax4 h1
 have hp:=(Dv hs).length_eq
 unfold Ac9 De
 rw [Kp] at hE ⊢
 by_cases c1:1000<E.length
 ·rw [B9 (by rw [B4];omega),if_pos c1]
  exact ⟨λh=>(by cases h),λ_=>⟨_,rfl⟩⟩
 ·rw [D1 (by rw [B4];omega),if_neg c1,cond_false,h0,h1,h2]
  simp only [cond_true,Bool.and_self]
  cases c2:Zu E with
  | true=>exact ⟨λh=>(by cases h),λ_=>⟨_,rfl⟩⟩
  | false=>
   rw [hz]
   simp only [cond_true,cond_false,Bool.false_eq_true,if_false]
   have key:Ai LF LF 1 z (B8 (S6 E)) (λH=>k0 17 H) (λz l=>k1 z l [])=if Ms (E.map Prod.fst) then k0 17 [.arr z 63 2 (B8 (S6 E))] else k1 z (B8 (S6 E)) []:=by
    rw [<-Al3 hs]
    by_cases c0:E.length=0
    ·have e0:S6 E=[]:=List.eq_nil_of_length_eq_zero (by omega)
     rw [e0]
     obtain ⟨m,hm⟩:∃ q,LF=q+1:=⟨LF-1,by omega⟩
     have:∀ m,m=LF->Ai LF m 1 z (B8 []) (λH=>k0 17 H) (λz l=>k1 z l [])=k1 z (B8 []) []:=λm' hm'=>by
      obtain ⟨q,rfl⟩:∃ q,m'=q+1:=⟨m'-1,by omega⟩
      rw [Ai];rfl
     exact this LF rfl
    ·exact BO z (S6 E) (λH=>k0 17 H) (λz l=>k1 z l []) (by omega) (E.length-1) 0 LF (by omega) (by omega)
   rw [key]
   cases c3:Ms (E.map Prod.fst) with
   | true=>exact ⟨λh=>(by cases h),λ_=>⟨_,rfl⟩⟩
   | false=>
    rw [Ah8 hs c3]
    exact ⟨λ_=>rfl,λh=>absurd rfl h⟩
theorem YD (z t:Bool) (l:LL) (h0:l.all F8=true) (h1:l.all smE=true) (h2:A3 l.length=true) (hz:Jn z l=true) {b:Bool} (hb:(De (l.map A5)==0)=b) :
  ∃ r H,As5 z t l=rv r H/\r.stabQ [0,0] [2] H=cond b (.tup [.s (.sp [[.sl z z 2 (B8 (isE (l.map A5)))]] 0 0),pI 0]) (.tup [.s .nilp,pI (De (l.map A5):Nat)]):=by
 unfold As5
 cases b with
 | true=>
  refine ⟨_,_,(BP z t l h0 h1 h2 hz).1 (eq_of_beq hb),?_⟩
  have hzz:(z&&(B8 (isE (l.map A5))).isEmpty)=z:=by
   cases z with
   | false=>rfl
   | true=>rw [At5 hz rfl];rfl
  show PV.tup [.s (.sp [[.sl (z&&(B8 (isE (l.map A5))).isEmpty) (z&&(B8 (isE (l.map A5))).isEmpty) 2 (B8 (isE (l.map A5)))]] 0 0),pI 0]=_
  rw [hzz];rfl
 | false=>
  obtain ⟨H,e⟩:=(BP z t l h0 h1 h2 hz).2 (by simpa using hb)
  exact ⟨_,_,e,rfl⟩
theorem Bj1 {h:List By} {s:By} (H:bsB h s=true):bsI h s<h.length:=by
 unfold bsB at H
 rw [Bool.and_eq_true] at H
 exact Gt.1 H.1
theorem As1 (lz lt:Bool) (l:LL) (q:By) (h0:l.all F8=true) (h1:l.all smE=true) (h2:A3 l.length=true) (h3:A3 q.length=true) :
  ∃ r H,YB lz lt l q=rv r H/\r.stab [0,0] H = .tup [.agg [pS (H7 (l.map A5) q).1.1,pB (H7 (l.map A5) q).1.2],pB (H7 (l.map A5) q).2]:=by
 have hl:=M3 h2
 have hr:=Ah h0
 unfold YB YA
 rw [h0,h1,h2,h3]
 simp only [cond_true,vl]
 generalize hE:l.map A5=E at hr
 subst hr
 rw [B4] at hl ⊢
 unfold H7 Ap9
 cases hb:bsB (E.map Prod.fst) q with
 | false=>exact ⟨_,_,rfl,rfl⟩
 | true=>
  have hlt:bsI (E.map Prod.fst) q<E.length:=by have:=Bj1 hb;rwa [List.length_map] at this
  rw [Bool.not_true,cond_false,J6 (by omega) (by omega),Int.toNat_natCast,Hl hlt,V3 hlt,GI hlt]
  exact ⟨_,_,rfl,rfl⟩
theorem As4 (q:By):∃ r H,A62 q=rv r H/\r.stab [0,0] H = .tup [.agg [pS [],pB false],pB false]:=⟨_,_,rfl,rfl⟩
theorem IH {s:By} (h:A3 s.length=true):∀ u∈I8 s,A3 u.length=true:=λu hu=>by
 have:=(Z5 (Q2 s) u hu).2
 have:=M3 h
 exact ZF
theorem Xy {R:Type} (z t:Bool) (l:LL) (s:By) (b:Bool) (k0:Bool->Bool->LL->By->Bool->Option R) (k1:Bool->Bool->LL->By->Bool->By->Bool->Option R) (h0:l.all F8=true) (h1:l.all smE=true) (h2:A3 l.length=true):∀ L:List By,(∀ u∈L,A3 u.length=true)->
  Jl LF L z t l s b k0 k1=match L.find? λu=>(H7 (l.map A5) u).2&&(H7 (l.map A5) u).1.2 with
   | some u=>k1 z t l (H7 (l.map A5) u).1.1 (H7 (l.map A5) u).1.2 s b
   | none=>k0 z t l s b
 | [],_=>rfl
 | x::r,hs=>by
  have ih:=Xy z t l s b k0 k1 h0 h1 h2 r λu hu=>hs u (by simp [hu])
  rw [Xx]
  unfold Ks
  rw [h0,h1,h2,hs x (by simp),List.find?_cons]
  simp only [cond_true,vl]
  rw [ih]
  cases q1:(H7 (l.map A5) x).2 with
  | false=>rfl
  | true=>
   cases q2:(H7 (l.map A5) x).1.2 with
   | false=>rfl
   | true=>show k1 z t l _ true s b=k1 z t l _ (H7 (l.map A5) x).1.2 s b;rw [q2]
abbrev A40 (v:Ent × Bool):PV:=.tup [.agg [pS v.1.1,pB v.1.2],pB v.2]
theorem Ar6 (lz lt:Bool) (l:LL) (q:By) (h0:l.all F8=true) (h1:l.all smE=true) (h2:A3 l.length=true) (h3:A3 q.length=true):∃ r H,XY lz lt l q=rv r H/\r.stab [0,0] H=A40 (O2 (l.map A5) q):=by
 unfold XY KW On O2
 rw [h0,h1,h2,h3]
 simp only [cond_true,vl]
 cases hg:(H7 (l.map A5) q).2 with
 | true=>refine ⟨_,_,rfl,?_⟩;rw [if_pos rfl];show A40 (_,true)=A40 (H7 (l.map A5) q);rw [<-hg]
 | false=>
  rw [cond_false,Xy lz lt l _ _ _ _ h0 h1 h2 _ (IH h3),if_neg (by simp)]
  cases hf:(I8 q).find? λu=>(H7 (l.map A5) u).2&&(H7 (l.map A5) u).1.2 with
  | none=>exact ⟨_,_,rfl,rfl⟩
  | some u=>
   have hu:=List.find?_some hf
   rw [Bool.and_eq_true] at hu
   refine ⟨_,_,rfl,?_⟩
   show A40 ((H7 (l.map A5) u).1,true)=_
   rw [<-hu.1]
theorem Ya {R:Type} (k0:Unit->Option R):∀ L:List By,Jm LF L k0=k0 ()
 | []=>rfl
 | x::r=>Ya k0 r
theorem Ar9 (q:By) (h3:A3 q.length=true):∃ r H,XZ q=rv r H/\r.stab [0,0] H = .tup [.agg [pS [],pB false],pB false]:=by
 unfold XZ KZ Oo
 rw [h3,cond_true,Ya]
 exact ⟨_,_,rfl,rfl⟩
theorem Ap0 (l:List Ent):(B8 l).all F8=true:=by
 rw [List.all_eq_true]
 intro x hx
 obtain ⟨e,_,rfl⟩:=List.mem_map.1 hx
 rfl
theorem Bk6 {l:LL} (h0:l.all F8=true) (h1:l.all smE=true):(B8 (isE (l.map A5))).all smE=true:=by
 rw [Ah h0] at h1
 rw [List.all_eq_true] at h1 ⊢
 intro x hx
 obtain ⟨e,he,rfl⟩:=List.mem_map.1 hx
 exact h1 _ (List.mem_map.2 ⟨e,GQ.1 he,rfl⟩)
theorem Ab8 {l:LL} (h:A3 l.length=true):A3 (B8 (isE (l.map A5))).length=true:=by
 rw [B4,(Dc _).length_eq,List.length_map]
 exact h
end
section
open Go Go.Proofs
set_option maxRecDepth 100000
section
variable {σ R : Type} (lf : Nat) (cl : D7) (yh : Yh σ) (s : σ) (k : Out -> St σ -> Option R)
noncomputable abbrev XH:Code:=D9 Tryz.f64
noncomputable def Gx (lf:Nat):Cfg:=C1 lf [64] (A6 [(3,[4,0,0,0])]) [(53,Nk)] (A6 [(14,[4]),(11,[4]),(13,[4]),(12,[52]),(10,[5,0,39]),(4,[5,0,0]),(9,[4]),(8,[5,0,0,37]),(7,[4]),(6,[5,0,0,0,0,32]),(5,[5,0,0,0,0]),(3,[5,0,0,15]),(2,[5,0,0]),(1,[5,0]),(0,[0,0])]) [] (A6 [(2,[]),(0,[5,0]),(1,[5,0,0])]) (some [4]) [] [] []
noncomputable def Dp {R:Type} (lf n:Nat) (x0 y1:LL) (i2:Int) (k0:Int->Option R) (k1:LL->LL->Option R):Option R:=match n with | 0=>none | n+1=>cond (not (ltI (x0.length:Int) i2)) (cond (not (ltI (y1.length:Int) i2)) (vl (A1 ((x0.length:Int)-i2)) λn'4=>cond (inR n'4 x0.length) (cond (okE Dw x0 (Int.toNat n'4) 0) (vl (gX x0 (Int.toNat n'4) 0) λs'5=>vl (A1 ((y1.length:Int)-i2)) λn'6=>cond (inR n'6 y1.length) (cond (okE Dw y1 (Int.toNat n'6) 0) (vl (gX y1 (Int.toNat n'6) 0) λs'7=>cond (bytesLess s'5 s'7) (k0 (-1)) (cond (not ((bytesLess s'5 s'7) || (s'5==s'7))) (k0 1) (Dp lf n x0 y1 (A1 (i2+1)) k0 k1))) none) none) none) none) (k1 x0 y1)) (k1 x0 y1)
theorem MO (n x0 y1 i2):D5 0 ((Gx lf).keep 3) (bd (Gx lf) cl yh (cd [1,1,0,1,0,0] XH)) n ⟨gp [(5,.s (.sl false false 1 x0)),(0,.s (.sl false false 1 y1)),(0,pI i2)] 50,[],s⟩ k =
 Dp lf n x0 y1 i2 (λn0=>k .ret ⟨gp [(4,pI n0)] 53,[],s⟩) (λx0 y1=>k (.exit 0) ⟨gp [(5,.s (.sl false false 1 x0)),(0,.s (.sl false false 1 y1))] 51,[],s⟩):=by
 induction n generalizing x0 y1 i2 with
 | zero=>rfl
 | succ n ih=>rw [Dp];simp only [<-ih];kernel_rfl
noncomputable def ZB {R:Type} (lf:Nat) (a0 b1:By) (k0:Int->Option R):Option R:=cond (A3 a0.length) (vl (H5 (pcs (u8n (46:Int)) a0)) λl'2=>cond (A3 b1.length) (vl (H5 (pcs (u8n (46:Int)) b1)) λl'3=>Dp lf lf l'2 l'3 1 (λn'8=>k0 n'8) (λx'9 y'10=>cond (ltI (x'9.length:Int) (y'10.length:Int)) (k0 (-1)) (cond (ltI (y'10.length:Int) (x'9.length:Int)) (k0 1) (k0 0)))) none) none
theorem Aw6 (d:Nat) (a0 b1):evC (Gx lf) (d+1) σ yh 64 [pS a0,pS b1] [] s=ZB lf a0 b1 (λr0=>some (pI r0,[],s)):=by
 refine (evE (fn:=Tryz.f64) (by kernel_rfl)).trans ?_
 generalize evC (Gx lf) d=cl
 unfold ZB;exact (Eq.trans (by kernel_rfl) (A0 (A9 λl'2=>(A0 (A9 λl'3=>((MO lf cl yh s (G5 0 (G9 (Gx lf) cl yh (cd [1,1,1] XH) (H9 (Gx lf) Tryz.f64))) lf l'2 l'3 1).trans (by kernel_rfl))) rfl)) rfl))
noncomputable abbrev L5:Code:=D9 Tryz.f27
noncomputable def E6 (lf:Nat):Cfg:=C1 lf [27] (A6 [(13,[0,1,0,1,0,0]),(10,[0,1,0,1,0]),(4,[0,1,0,0])]) [(32,EO),(64,WS)] (A6 [(18,[2,0]),(11,[0,4,0]),(17,[0,4,0]),(16,[2,0]),(15,[0,4,0,0,58]),(14,[0,4,0,0]),(13,[0,4,0,0,39]),(12,[0,4,0,0]),(10,[0,4,0,20]),(9,[0,4,0]),(8,[0,4]),(5,[0,3]),(7,[2,0]),(6,[0,3,18]),(4,[0,3,9]),(3,[0,3]),(2,[2,0]),(1,[0,9]),(0,[0])]) [32,64] (A6 [(2,[5]),(3,[0,4,0]),(4,[0,4,0,0]),(5,[0,4,0,0]),(0,[0]),(1,[0,3])]) (some [2,0]) [] [] [] (rw:=[(17,9)]) (fr:=[(17,[4,8],[0])])
noncomputable def Dk {R:Type} (lf n:Nat) (l_z0 l_t1:Bool) (l2:LL) (i3:Int) (k0:(List Blk)->Option R) (k1:Bool->Bool->LL->Option R):Option R:=match n with | 0=>none | n+1=>cond (ltI i3 (l2.length:Int)) (cond (inR i3 l2.length) (cond (okE Dw l2 (Int.toNat i3) 0) (cond (A3 (List.length (gX l2 (Int.toNat i3) 0))) (cond (not (E0 (gX l2 (Int.toNat i3) 0))) (k0 []) (Dk lf n l_z0 l_t1 l2 (A1 (i3+1)) k0 k1)) none) none) none) (k1 l_z0 l_t1 l2)
theorem ME (n l_z0 l_t1 l2 i3):D5 0 ((E6 lf).keep 4) (bd (E6 lf) cl yh (cd [1,1,0,1,0,0] L5)) n ⟨gp [(0,.s (.sl l_z0 l_t1 2 l2)),(3,pI i3)] 78,[],s⟩ k =
 Dk lf n l_z0 l_t1 l2 i3 (λH0=>k .ret ⟨gp [(2,.fl 0),(0,pI (14:Int))] 79,(.arr true 63 2 []::H0),s⟩) (λl_z0 l_t1 l2=>k (.exit 0) ⟨gp [(0,.s (.sl l_z0 l_t1 2 l2))] 82,[],s⟩):=by
 induction n generalizing l_z0 l_t1 l2 i3 with
 | zero=>rfl
 | succ n ih=>rw [Dk];simp only [<-ih];kernel_rfl
noncomputable def Dl {R:Type} (lf n:Nat) (l_z0 l_t1:Bool) (l2 out3:LL) (i4 kk5:Int) (k0:Bool->Bool->LL->LL->Int->Int->Option R):Option R:=match n with | 0=>none | n+1=>cond (ltI kk5 (out3.length:Int)) (cond (inR kk5 out3.length) (cond (okE Dw out3 (Int.toNat kk5) 0) (vl (gX out3 (Int.toNat kk5) 0) λs'4=>cond (inR i4 l2.length) (cond (okE Dw l2 (Int.toNat i4) 0) (cond (A3 s'4.length) (cond (A3 (List.length (gX l2 (Int.toNat i4) 0))) (vl (O7 s'4 (gX l2 (Int.toNat i4) 0)) λn'5=>cond (ltI n'5 0) (Dl lf n l_z0 l_t1 l2 out3 i4 (A1 (kk5+1)) k0) (k0 l_z0 l_t1 l2 out3 i4 kk5)) none) none) none) none) none) none) (k0 l_z0 l_t1 l2 out3 i4 kk5)
theorem MF (n l_z0 l_t1 l2 out3 i4 kk5):D5 1 ((E6 lf).keep 13) (bd (E6 lf) cl yh (cd [1,1,1,1,0,1,0,0,1,0,0,1,0,0,0] L5)) n ⟨gp [(0,.s (.sl l_z0 l_t1 2 l2)),(4,.s (.sl false false 2 out3)),(0,pI i4),(0,pI kk5)] 75,[.arr true 63 2 []],s⟩ k =
 Dl lf n l_z0 l_t1 l2 out3 i4 kk5 (λl_z0 l_t1 l2 out3 i4 kk5=>k (.exit 4) ⟨gp [(0,.s (.sl l_z0 l_t1 2 l2)),(4,.s (.sl false false 2 out3)),(0,pI i4),(0,pI kk5)] 75,[.arr true 63 2 []],s⟩):=by
 induction n generalizing l_z0 l_t1 l2 out3 i4 kk5 with
 | zero=>rfl
 | succ n ih=>rw [Dl];simp only [<-ih];kernel_rfl
noncomputable def Gg {R:Type} (l_z0 l_t1:Bool) (l2 out3:LL) (i4 kk5:Int) (k0:Bool->Bool->LL->Int->LL->Option R):Option R:=cond (N6 0 kk5 out3.length) (cond (inR i4 l2.length) (cond (okE ⟨true,true,[.str,.bool]⟩ l2 (Int.toNat i4) 0) (cond (N6 kk5 (out3.length:Int) out3.length) (vl (cut out3 kk5 (out3.length:Int)) λl'16=>cond (E3 (0+(List.length (cut out3 0 kk5)))) (cond (E3 ((List.length (cut out3 0 kk5))+1)) (vl ((cut out3 0 kk5)++[[(SV.str (gX l2 (Int.toNat i4) 0)),(SV.bool (gY l2 (Int.toNat i4) 1))]]) λl'17=>cond (E3 (l'17.length+l'16.length)) (k0 l_z0 l_t1 l2 i4 (l'17++l'16)) none) none) none) none) none) none) none
abbrev Hr (b:Code):Prop:=∀ (k:Out->St σ->Option R) l_z0 l_t1 l2 out3 i4 kk5 b6,B2 (E6 lf) cl yh b ⟨gp [(0,.s (.sl l_z0 l_t1 2 l2)),(4,.s (.sl false false 2 out3)),(0,pI i4),(0,pI kk5),(58,pB b6)] 16,[.arr true 63 2 []],s⟩ k=Gg l_z0 l_t1 l2 out3 i4 kk5 (λl_z0 l_t1 l2 i3 l4=>k .normal ⟨gp [(0,.s (.sl l_z0 l_t1 2 l2)),(4,.fl 1),(0,pI i3)] 76,[.arr true 63 2 [],.arr false 63 2 l4],s⟩)
theorem MC:Hr (R:=R) lf cl yh s (cd [1,1,1,1,0,1,0,0,1,0,0,1,1,1] L5):=by
 intro k l_z0 l_t1 l2 out3 i4 kk5 b6;unfold Gg;kernel_rfl
noncomputable def Y2 {R:Type} (lf n:Nat) (l_z0 l_t1:Bool) (l2 out3:LL) (i4:Int) (k0:Blk->(List Blk)->Option R) (k1:LL->Option R):Option R:=match n with | 0=>none | n+1=>cond (ltI i4 (l2.length:Int)) (Dl lf lf l_z0 l_t1 l2 out3 i4 0 (λl_z'6 l_t'7 l'8 out'9 i'10 kk'11=>cond (ltI kk'11 (out'9.length:Int)) (cond (inR kk'11 out'9.length) (cond (okE Dw out'9 (Int.toNat kk'11) 0) (vl (gX out'9 (Int.toNat kk'11) 0) λs'14=>cond (inR i'10 l'8.length) (cond (okE Dw l'8 (Int.toNat i'10) 0) (vl (gX l'8 (Int.toNat i'10) 0) λs'15=>cond (s'14==s'15) (k0 (Blk.arr true 63 2 []) []) (Gg l_z'6 l_t'7 l'8 out'9 i'10 kk'11 (λl_z'18 l_t'19 l'20 i'21 l'22=>vl (A1 (i'21+1)) λn'23=>Y2 lf n l_z'18 l_t'19 l'20 l'22 n'23 k0 k1))) none) none) none) none) (Gg l_z'6 l_t'7 l'8 out'9 i'10 kk'11 (λl_z'24 l_t'25 l'26 i'27 l'28=>vl (A1 (i'27+1)) λn'29=>Y2 lf n l_z'24 l_t'25 l'26 l'28 n'29 k0 k1)))) (k1 out3)
theorem MG (b_11110100100111:Code) (h_rlnew_j0:Hr (R:=R) lf cl yh s b_11110100100111) (n:Nat) (l_z0 l_t1:Bool) (l2 out3:LL) (i4:Int):D5 1 ((E6 lf).keep 10) (bd (E6 lf) cl yh (cd [1,1,1,1,0,1,0,0] (O9 [1,1,1,1,0,1,0,0,1,0,0,1,1,1] b_11110100100111 L5))) n ⟨gp [(0,.s (.sl l_z0 l_t1 2 l2)),(4,.s (.sl false false 2 out3)),(0,pI i4)] 76,[.arr true 63 2 []],s⟩ k =
 Y2 lf n l_z0 l_t1 l2 out3 i4 (λB0 H1=>k .ret ⟨gp [(2,.fl 1),(0,pI (17:Int))] 79,(B0::.arr true 63 2 []::H1),s⟩) (λout0=>k (.exit 2) ⟨gp [(5,.s (.sl false false 2 out0))] 77,[.arr true 63 2 []],s⟩):=by
 induction n generalizing l_z0 l_t1 l2 out3 i4 with
 | zero=>rfl
 | succ n ih=>rw [Y2];exact let K0:=(G5 3 (G9 (E6 lf) cl yh (cd [1,1,1,1,0,1,0,0,1,1] L5) (lpK 1 ((E6 lf).keep 10) (bd (E6 lf) cl yh (cd [1,1,1,1,0,1,0,0] (O9 [1,1,1,1,0,1,0,0,1,0,0,1,1,1] b_11110100100111 L5))) n k)));(Eq.trans (by kernel_rfl) (A0 ((MF lf cl yh s (G5 4 (G9 (E6 lf) cl yh (cd [1,1,1,1,0,1,0,0,1,0,0,1,1] (O9 [1,1,1,1,0,1,0,0,1,0,0,1,1,1] b_11110100100111 L5)) K0)) lf l_z0 l_t1 l2 out3 i4 0).trans (congr rfl (fx6 λl_z'6 l_t'7 l'8 out'9 i'10 kk'11=>(Eq.trans (by kernel_rfl) (A0 (A0 (A0 (A9 λs'14=>(A0 (A0 (A9 λs'15=>(A0 rfl ((h_rlnew_j0 K0 l_z'6 l_t'7 l'8 out'9 i'10 kk'11 (s'14==s'15)).trans (congr rfl (fx5 λl_z'18 l_t'19 l'20 i'21 l'22=>(Eq.trans (by kernel_rfl) (A9 λn'23=>(ih l_z'18 l_t'19 l'20 l'22 n'23)))))))) rfl) rfl)) rfl) rfl) ((h_rlnew_j0 K0 l_z'6 l_t'7 l'8 out'9 i'10 kk'11 false).trans (congr rfl (fx5 λl_z'24 l_t'25 l'26 i'27 l'28=>(Eq.trans (by kernel_rfl) (A9 λn'29=>(ih l_z'24 l_t'25 l'26 l'28 n'29))))))))))) rfl))
noncomputable def Jt {R:Type} (lf n:Nat) (l_z0 l_t1:Bool) (l2:LL) (k0:Bool->Bool->LL->Option R):Option R:=match n with | 0=>none | n+1=>k0 l_z0 l_t1 l2
theorem MH (n l_z0 l_t1 l2):D5 1 ((E6 lf).keep 13) (bd (E6 lf) cl yh (cd [1,1,1,1,0,1,0,0,1,0,0,1,0,0,0] L5)) n ⟨gp [(0,.s (.sl l_z0 l_t1 2 l2)),(4,.fl 0),(0,pI (0:Int)),(0,pI (0:Int))] 75,[.arr true 63 2 []],s⟩ k =
 Jt lf n l_z0 l_t1 l2 (λl_z0 l_t1 l2=>k (.exit 4) ⟨gp [(0,.s (.sl l_z0 l_t1 2 l2)),(4,.fl 0),(0,pI (0:Int)),(0,pI (0:Int))] 75,[.arr true 63 2 []],s⟩):=by
 induction n generalizing l_z0 l_t1 l2 with
 | zero=>rfl
 | succ n ih=>rw [Jt];kernel_rfl
noncomputable def Pj {R:Type} (l_z0 l_t1:Bool) (l2:LL) (k0:Bool->Bool->LL->By->Bool->Option R):Option R:=cond (inR 0 l2.length) (cond (okE ⟨true,true,[.str,.bool]⟩ l2 0 0) (k0 l_z0 l_t1 l2 (gX l2 0 0) (gY l2 0 1)) none) none
abbrev Nd (b:Code):Prop:=∀ (k:Out->St σ->Option R) l_z0 l_t1 l2,B2 (E6 lf) cl yh b ⟨gp [(0,.s (.sl l_z0 l_t1 2 l2)),(4,.fl 0),(0,pI (0:Int)),(0,pI (0:Int)),(58,pB false)] 16,[.arr true 63 2 []],s⟩ k=Pj l_z0 l_t1 l2 (λl_z0 l_t1 l2 s3 b4=>k .normal ⟨gp [(0,.s (.sl l_z0 l_t1 2 l2)),(4,.fl 1),(0,pI (0:Int))] 76,[.arr true 63 2 [],.arr false 63 2 [[.str s3,.bool b4]]],s⟩)
theorem MD:Nd (R:=R) lf cl yh s (cd [1,1,1,1,0,1,0,0,1,0,0,1,1,1] L5):=by
 intro k l_z0 l_t1 l2;unfold Pj;kernel_rfl
noncomputable def Gh {R:Type} (lf n:Nat) (l_z0 l_t1:Bool) (l2:LL) (k0:Blk->(List Blk)->Option R) (k1:LL->Option R) (k2:Unit->Option R):Option R:=match n with | 0=>none | n+1=>cond (ltI 0 (l2.length:Int)) (Jt lf lf l_z0 l_t1 l2 (λl_z'30 l_t'31 l'32=>Pj l_z'30 l_t'31 l'32 (λl_z'33 l_t'34 l'35 s'36 b'37=>Y2 lf n l_z'33 l_t'34 l'35 [[(SV.str s'36),(SV.bool b'37)]] 1 (λB'38 H'39=>k0 B'38 H'39) (λout'40=>k1 out'40)))) (k2 ())
theorem MI (b_11110100100111:Code) (h_rlnew_j0:Hr (R:=R) lf cl yh s b_11110100100111) (h_rlnew_j1:Nd (R:=R) lf cl yh s b_11110100100111) (n:Nat) (l_z0 l_t1:Bool) (l2:LL):D5 1 ((E6 lf).keep 10) (bd (E6 lf) cl yh (cd [1,1,1,1,0,1,0,0] (O9 [1,1,1,1,0,1,0,0,1,0,0,1,1,1] b_11110100100111 L5))) n ⟨gp [(0,.s (.sl l_z0 l_t1 2 l2)),(4,.fl 0),(0,pI (0:Int))] 76,[.arr true 63 2 []],s⟩ k =
 Gh lf n l_z0 l_t1 l2 (λB0 H1=>k .ret ⟨gp [(2,.fl 1),(0,pI (17:Int))] 79,(B0::.arr true 63 2 []::H1),s⟩) (λout0=>k (.exit 2) ⟨gp [(5,.s (.sl false false 2 out0))] 77,[.arr true 63 2 []],s⟩) (λ_=>k (.exit 2) ⟨gp [(5,.fl 0)] 77,[.arr true 63 2 []],s⟩):=by
 induction n generalizing l_z0 l_t1 l2 with
 | zero=>rfl
 | succ n ih=>rw [Gh];exact (Eq.trans (by kernel_rfl) (A0 ((MH lf cl yh s (G5 4 (G9 (E6 lf) cl yh (cd [1,1,1,1,0,1,0,0,1,0,0,1,1] (O9 [1,1,1,1,0,1,0,0,1,0,0,1,1,1] b_11110100100111 L5)) (G5 3 (G9 (E6 lf) cl yh (cd [1,1,1,1,0,1,0,0,1,1] L5) (lpK 1 ((E6 lf).keep 10) (bd (E6 lf) cl yh (cd [1,1,1,1,0,1,0,0] (O9 [1,1,1,1,0,1,0,0,1,0,0,1,1,1] b_11110100100111 L5))) n k))))) lf l_z0 l_t1 l2).trans (congr rfl (fx3 λl_z'30 l_t'31 l'32=>(Eq.trans (by kernel_rfl) ((h_rlnew_j1 (G5 3 (G9 (E6 lf) cl yh (cd [1,1,1,1,0,1,0,0,1,1] L5) (lpK 1 ((E6 lf).keep 10) (bd (E6 lf) cl yh (cd [1,1,1,1,0,1,0,0] (O9 [1,1,1,1,0,1,0,0,1,0,0,1,1,1] b_11110100100111 L5))) n k))) l_z'30 l_t'31 l'32).trans (congr rfl (fx5 λl_z'33 l_t'34 l'35 s'36 b'37=>(Eq.trans (by kernel_rfl) ((MG lf cl yh s k b_11110100100111 h_rlnew_j0 n l_z'33 l_t'34 l'35 [[(SV.str s'36),(SV.bool b'37)]] 1).trans (congr (congr rfl (fx2 λB'38 H'39=>rfl)) (fx1 λout'40=>rfl))))))))))) rfl))
noncomputable def MA {R:Type} (lf:Nat) (l_z0 l_t1:Bool) (l2:LL) (k0:Int->(List Blk)->Option R) (k1:Blk->(List Blk)->Option R) (k2:LL->(List Blk)->Option R):Option R:=cond (ltI 1000 (l2.length:Int)) (k0 3 []) (Dk lf lf l_z0 l_t1 l2 0 (λH'0=>k0 14 H'0) (λl_z'1 l_t'2 l'3=>Gh lf lf l_z'1 l_t'2 l'3 (λB'41 H'42=>k1 B'41 H'42) (λout'43=>k2 out'43 [(Blk.arr true 63 2 [])]) (λ_=>k0 0 [])))
theorem Aw2 (b_11110100100111:Code) (h_rlnew_j0:Hr (R:=PV × List Blk × σ) lf cl yh s b_11110100100111) (h_rlnew_j1:Nd (R:=PV × List Blk × σ) lf cl yh s b_11110100100111) (l_z0 l_t1:Bool) (l2:LL):B2 (E6 lf) cl yh (cd [] (O9 [1,1,1,1,0,1,0,0,1,0,0,1,1,1] b_11110100100111 L5)) ⟨[.s (.sl l_z0 l_t1 2 l2)]++tps 82,[],s⟩ (H9 (E6 lf) Tryz.f27)=MA lf l_z0 l_t1 l2 (λr0 H1=>some (.tup [.fl 0,pI r0],(.arr true 63 2 []::H1),s)) (λB0 H1=>some (.tup [.fl 1,pI (17:Int)],(B0::.arr true 63 2 []::H1),s)) (λr0 H1=>some (.tup [.s (.sl false false 2 r0),pI (0:Int)],H1,s)):=by
 unfold MA;exact (Eq.trans (by kernel_rfl) (A0 rfl ((ME lf cl yh s (G5 0 (G9 (E6 lf) cl yh (cd [1,1,1] (O9 [1,1,1,1,0,1,0,0,1,0,0,1,1,1] b_11110100100111 L5)) (H9 (E6 lf) Tryz.f27))) lf l_z0 l_t1 l2 0).trans (congr (congr rfl (by kernel_rfl)) (fx3 λl_z'1 l_t'2 l'3=>(Eq.trans (by kernel_rfl) ((MI lf cl yh s (G5 2 (G9 (E6 lf) cl yh (cd [1,1,1,1,1] L5) (H9 (E6 lf) Tryz.f27))) b_11110100100111 h_rlnew_j0 h_rlnew_j1 lf l_z'1 l_t'2 l'3).trans (by kernel_rfl))))))))
theorem MB (d:Nat) (l_z0 l_t1 l2):evC (E6 lf) (d+1) σ yh 27 [.s (.sl l_z0 l_t1 2 l2)] [] s=MA lf l_z0 l_t1 l2 (λr0 H1=>some (.tup [.fl 0,pI r0],(.arr true 63 2 []::H1),s)) (λB0 H1=>some (.tup [.fl 1,pI (17:Int)],(B0::.arr true 63 2 []::H1),s)) (λr0 H1=>some (.tup [.s (.sl false false 2 r0),pI (0:Int)],H1,s)):=
 (evE (fn:=Tryz.f27) (by kernel_rfl)).trans (Eq.trans (by kernel_rfl) (Aw2 lf (evC (E6 lf) d) yh s (cd [1,1,1,1,0,1,0,0,1,0,0,1,1,1] L5) (MC lf (evC (E6 lf) d) yh s) (MD lf (evC (E6 lf) d) yh s) l_z0 l_t1 l2))
noncomputable abbrev YY (l_z0 l_t1:Bool) (l2:LL):Option (PV × List Blk × Unit):=MA LF l_z0 l_t1 l2 (λr0 H1=>some (.tup [.fl 0,pI r0],(.arr true 63 2 []::H1),())) (λB0 H1=>some (.tup [.fl 1,pI (17:Int)],(B0::.arr true 63 2 []::H1),())) (λr0 H1=>some (.tup [.s (.sl false false 2 r0),pI (0:Int)],H1,()))
noncomputable def JJ (lf:Nat):Cfg:=C1 lf [7] (A6 []) [(12,OF),(22,Qi),(26,OJ),(27,ET),(28,Ls),(29,ES),(30,OH),(31,OQ)] (A6 [(11,[4]),(10,[9,0,0,0,0,0,0,0]),(9,[1,5,1,0,0,0,0,0]),(8,[1,3,1,1,0,0,0]),(7,[1,3,1,1,0]),(6,[4]),(5,[1,3,1,30]),(4,[1,3,0,0,0]),(3,[0,0,3,0]),(2,[4]),(1,[0,0,22]),(0,[0,0])]) [12,22] (A6 []) (some [4]) [] [] []
noncomputable def lpf {R:Type} (lf:Nat) (l_z0 l_t1:Bool) (l2:LL) (name3:By) (k0:Bool->(List Blk)->Option R):Option R:=cond (List.all l2 F8) (cond (ltI 60 1001) (cond (not (Ng (60:Int) l2)) (k0 true []) (cond (ltI 400 (name3.length:Int)) (k0 true []) (cond (List.all l2 F8) (cond (List.all l2 smE) (cond (A3 l2.length) (cond (Jn l_z0 l2) (cond ((De (List.map A5 l2))==0) (cond (List.all l2 F8) (cond (List.all l2 smE) (cond (A3 l2.length) (cond ((De (List.map A5 l2))==0) (vl (B8 (isE (List.map A5 l2))) λl'3=>cond (List.all (B8 (isE (List.map A5 l2))) F8) (cond (List.all (B8 (isE (List.map A5 l2))) smE) (cond (A3 (List.length (B8 (isE (List.map A5 l2))))) (cond (A3 name3.length) (vl (((H7 (List.map A5 (B8 (isE (List.map A5 l2)))) name3)).1).1 λs'5=>cond (List.all l'3 F8) (cond (A3 l'3.length) (vl (((N8 (List.map A5 l'3) name3)).1).1 λs'7=>cond (List.all (B8 (isE (List.map A5 l2))) F8) (cond (List.all (B8 (isE (List.map A5 l2))) smE) (cond (A3 (List.length (B8 (isE (List.map A5 l2))))) (cond (A3 name3.length) (vl (((O2 (List.map A5 (B8 (isE (List.map A5 l2)))) name3)).1).1 λs'9=>cond (List.all l'3 F8) (cond (List.all l'3 smE) (cond (A3 l'3.length) (cond (A3 name3.length) (vl ((G3 (List.map A5 l'3) name3)).1 λs'11=>cond ((s'5==s'7)&&(((((H7 (List.map A5 (B8 (isE (List.map A5 l2)))) name3)).1).2==(((N8 (List.map A5 l'3) name3)).1).2)&&true)) (cond (((H7 (List.map A5 (B8 (isE (List.map A5 l2)))) name3)).2==((N8 (List.map A5 l'3) name3)).2) (cond ((s'9==s'11)&&(((((O2 (List.map A5 (B8 (isE (List.map A5 l2)))) name3)).1).2==((G3 (List.map A5 l'3) name3)).2)&&true)) (cond (((O2 (List.map A5 (B8 (isE (List.map A5 l2)))) name3)).2==(not (List.isEmpty ((G3 (List.map A5 l'3) name3)).1))) (k0 true [(Blk.box [(PV.s (SV.str s'5)),(PV.s (SV.bool (((H7 (List.map A5 (B8 (isE (List.map A5 l2)))) name3)).1).2))]),(Blk.box [(PV.s (SV.str s'7)),(PV.s (SV.bool (((N8 (List.map A5 l'3) name3)).1).2))]),(Blk.box [(PV.s (SV.str s'9)),(PV.s (SV.bool (((O2 (List.map A5 (B8 (isE (List.map A5 l2)))) name3)).1).2))]),(Blk.box [(PV.s (SV.str s'11)),(PV.s (SV.bool ((G3 (List.map A5 l'3) name3)).2))])]) (k0 false [(Blk.box [(PV.s (SV.str s'5)),(PV.s (SV.bool (((H7 (List.map A5 (B8 (isE (List.map A5 l2)))) name3)).1).2))]),(Blk.box [(PV.s (SV.str s'7)),(PV.s (SV.bool (((N8 (List.map A5 l'3) name3)).1).2))]),(Blk.box [(PV.s (SV.str s'9)),(PV.s (SV.bool (((O2 (List.map A5 (B8 (isE (List.map A5 l2)))) name3)).1).2))]),(Blk.box [(PV.s (SV.str s'11)),(PV.s (SV.bool ((G3 (List.map A5 l'3) name3)).2))])])) (k0 false [(Blk.box [(PV.s (SV.str s'5)),(PV.s (SV.bool (((H7 (List.map A5 (B8 (isE (List.map A5 l2)))) name3)).1).2))]),(Blk.box [(PV.s (SV.str s'7)),(PV.s (SV.bool (((N8 (List.map A5 l'3) name3)).1).2))]),(Blk.box [(PV.s (SV.str s'9)),(PV.s (SV.bool (((O2 (List.map A5 (B8 (isE (List.map A5 l2)))) name3)).1).2))]),(Blk.box [(PV.s (SV.str s'11)),(PV.s (SV.bool ((G3 (List.map A5 l'3) name3)).2))])])) (k0 false [(Blk.box [(PV.s (SV.str s'5)),(PV.s (SV.bool (((H7 (List.map A5 (B8 (isE (List.map A5 l2)))) name3)).1).2))]),(Blk.box [(PV.s (SV.str s'7)),(PV.s (SV.bool (((N8 (List.map A5 l'3) name3)).1).2))]),(Blk.box [(PV.s (SV.str s'9)),(PV.s (SV.bool (((O2 (List.map A5 (B8 (isE (List.map A5 l2)))) name3)).1).2))]),(Blk.box [(PV.s (SV.str s'11)),(PV.s (SV.bool ((G3 (List.map A5 l'3) name3)).2))])])) (k0 false [(Blk.box [(PV.s (SV.str s'5)),(PV.s (SV.bool (((H7 (List.map A5 (B8 (isE (List.map A5 l2)))) name3)).1).2))]),(Blk.box [(PV.s (SV.str s'7)),(PV.s (SV.bool (((N8 (List.map A5 l'3) name3)).1).2))]),(Blk.box [(PV.s (SV.str s'9)),(PV.s (SV.bool (((O2 (List.map A5 (B8 (isE (List.map A5 l2)))) name3)).1).2))]),(Blk.box [(PV.s (SV.str s'11)),(PV.s (SV.bool ((G3 (List.map A5 l'3) name3)).2))])])) none) none) none) none) none) none) none) none) none) none) none) none) none) none) (vl (↑(De (List.map A5 l2)):Int) λn'12=>cond ((0:Int) != n'12) (k0 false []) (cond (List.all (B8 (isE (List.map A5 l2))) F8) (cond (List.all (B8 (isE (List.map A5 l2))) smE) (cond (A3 (List.length (B8 (isE (List.map A5 l2))))) (cond (A3 name3.length) (vl (((H7 (List.map A5 (B8 (isE (List.map A5 l2)))) name3)).1).1 λs'14=>cond (List.all [] F8) (vl (((N8 (List.map A5 []) name3)).1).1 λs'16=>cond (List.all (B8 (isE (List.map A5 l2))) F8) (cond (List.all (B8 (isE (List.map A5 l2))) smE) (cond (A3 (List.length (B8 (isE (List.map A5 l2))))) (cond (A3 name3.length) (vl (((O2 (List.map A5 (B8 (isE (List.map A5 l2)))) name3)).1).1 λs'18=>cond (List.all [] F8) (cond (List.all [] smE) (cond (A3 name3.length) (vl ((G3 (List.map A5 []) name3)).1 λs'20=>cond ((s'14==s'16)&&(((((H7 (List.map A5 (B8 (isE (List.map A5 l2)))) name3)).1).2==(((N8 (List.map A5 []) name3)).1).2)&&true)) (cond (((H7 (List.map A5 (B8 (isE (List.map A5 l2)))) name3)).2==((N8 (List.map A5 []) name3)).2) (cond ((s'18==s'20)&&(((((O2 (List.map A5 (B8 (isE (List.map A5 l2)))) name3)).1).2==((G3 (List.map A5 []) name3)).2)&&true)) (cond (((O2 (List.map A5 (B8 (isE (List.map A5 l2)))) name3)).2==(not (List.isEmpty ((G3 (List.map A5 []) name3)).1))) (k0 true [(Blk.box [(PV.s (SV.str s'14)),(PV.s (SV.bool (((H7 (List.map A5 (B8 (isE (List.map A5 l2)))) name3)).1).2))]),(Blk.box [(PV.s (SV.str s'16)),(PV.s (SV.bool (((N8 (List.map A5 []) name3)).1).2))]),(Blk.box [(PV.s (SV.str s'18)),(PV.s (SV.bool (((O2 (List.map A5 (B8 (isE (List.map A5 l2)))) name3)).1).2))]),(Blk.box [(PV.s (SV.str s'20)),(PV.s (SV.bool ((G3 (List.map A5 []) name3)).2))])]) (k0 false [(Blk.box [(PV.s (SV.str s'14)),(PV.s (SV.bool (((H7 (List.map A5 (B8 (isE (List.map A5 l2)))) name3)).1).2))]),(Blk.box [(PV.s (SV.str s'16)),(PV.s (SV.bool (((N8 (List.map A5 []) name3)).1).2))]),(Blk.box [(PV.s (SV.str s'18)),(PV.s (SV.bool (((O2 (List.map A5 (B8 (isE (List.map A5 l2)))) name3)).1).2))]),(Blk.box [(PV.s (SV.str s'20)),(PV.s (SV.bool ((G3 (List.map A5 []) name3)).2))])])) (k0 false [(Blk.box [(PV.s (SV.str s'14)),(PV.s (SV.bool (((H7 (List.map A5 (B8 (isE (List.map A5 l2)))) name3)).1).2))]),(Blk.box [(PV.s (SV.str s'16)),(PV.s (SV.bool (((N8 (List.map A5 []) name3)).1).2))]),(Blk.box [(PV.s (SV.str s'18)),(PV.s (SV.bool (((O2 (List.map A5 (B8 (isE (List.map A5 l2)))) name3)).1).2))]),(Blk.box [(PV.s (SV.str s'20)),(PV.s (SV.bool ((G3 (List.map A5 []) name3)).2))])])) (k0 false [(Blk.box [(PV.s (SV.str s'14)),(PV.s (SV.bool (((H7 (List.map A5 (B8 (isE (List.map A5 l2)))) name3)).1).2))]),(Blk.box [(PV.s (SV.str s'16)),(PV.s (SV.bool (((N8 (List.map A5 []) name3)).1).2))]),(Blk.box [(PV.s (SV.str s'18)),(PV.s (SV.bool (((O2 (List.map A5 (B8 (isE (List.map A5 l2)))) name3)).1).2))]),(Blk.box [(PV.s (SV.str s'20)),(PV.s (SV.bool ((G3 (List.map A5 []) name3)).2))])])) (k0 false [(Blk.box [(PV.s (SV.str s'14)),(PV.s (SV.bool (((H7 (List.map A5 (B8 (isE (List.map A5 l2)))) name3)).1).2))]),(Blk.box [(PV.s (SV.str s'16)),(PV.s (SV.bool (((N8 (List.map A5 []) name3)).1).2))]),(Blk.box [(PV.s (SV.str s'18)),(PV.s (SV.bool (((O2 (List.map A5 (B8 (isE (List.map A5 l2)))) name3)).1).2))]),(Blk.box [(PV.s (SV.str s'20)),(PV.s (SV.bool ((G3 (List.map A5 []) name3)).2))])])) none) none) none) none) none) none) none) none) none) none) none) none))) none) none) none) (vl (↑(De (List.map A5 l2)):Int) λn'21=>cond (List.all l2 F8) (cond (List.all l2 smE) (cond (A3 l2.length) (cond ((De (List.map A5 l2))==0) (vl (B8 (isE (List.map A5 l2))) λl'24=>cond (n'21 != 0) (k0 false []) (cond (List.all l'24 F8) (cond (A3 l'24.length) (vl (((N8 (List.map A5 l'24) name3)).1).1 λs'26=>cond (A3 name3.length) (cond (List.all l'24 F8) (cond (List.all l'24 smE) (cond (A3 l'24.length) (cond (A3 name3.length) (vl ((G3 (List.map A5 l'24) name3)).1 λs'28=>cond ((([]:List UInt8)==s'26)&&((false==(((N8 (List.map A5 l'24) name3)).1).2)&&true)) (cond (false==((N8 (List.map A5 l'24) name3)).2) (cond ((([]:List UInt8)==s'28)&&((false==((G3 (List.map A5 l'24) name3)).2)&&true)) (cond (false==(not (List.isEmpty ((G3 (List.map A5 l'24) name3)).1))) (k0 true [(Blk.box [(PV.s (SV.str ([]:List UInt8))),(PV.s (SV.bool false))]),(Blk.box [(PV.s (SV.str s'26)),(PV.s (SV.bool (((N8 (List.map A5 l'24) name3)).1).2))]),(Blk.box [(PV.s (SV.str ([]:List UInt8))),(PV.s (SV.bool false))]),(Blk.box [(PV.s (SV.str s'28)),(PV.s (SV.bool ((G3 (List.map A5 l'24) name3)).2))])]) (k0 false [(Blk.box [(PV.s (SV.str ([]:List UInt8))),(PV.s (SV.bool false))]),(Blk.box [(PV.s (SV.str s'26)),(PV.s (SV.bool (((N8 (List.map A5 l'24) name3)).1).2))]),(Blk.box [(PV.s (SV.str ([]:List UInt8))),(PV.s (SV.bool false))]),(Blk.box [(PV.s (SV.str s'28)),(PV.s (SV.bool ((G3 (List.map A5 l'24) name3)).2))])])) (k0 false [(Blk.box [(PV.s (SV.str ([]:List UInt8))),(PV.s (SV.bool false))]),(Blk.box [(PV.s (SV.str s'26)),(PV.s (SV.bool (((N8 (List.map A5 l'24) name3)).1).2))]),(Blk.box [(PV.s (SV.str ([]:List UInt8))),(PV.s (SV.bool false))]),(Blk.box [(PV.s (SV.str s'28)),(PV.s (SV.bool ((G3 (List.map A5 l'24) name3)).2))])])) (k0 false [(Blk.box [(PV.s (SV.str ([]:List UInt8))),(PV.s (SV.bool false))]),(Blk.box [(PV.s (SV.str s'26)),(PV.s (SV.bool (((N8 (List.map A5 l'24) name3)).1).2))]),(Blk.box [(PV.s (SV.str ([]:List UInt8))),(PV.s (SV.bool false))]),(Blk.box [(PV.s (SV.str s'28)),(PV.s (SV.bool ((G3 (List.map A5 l'24) name3)).2))])])) (k0 false [(Blk.box [(PV.s (SV.str ([]:List UInt8))),(PV.s (SV.bool false))]),(Blk.box [(PV.s (SV.str s'26)),(PV.s (SV.bool (((N8 (List.map A5 l'24) name3)).1).2))]),(Blk.box [(PV.s (SV.str ([]:List UInt8))),(PV.s (SV.bool false))]),(Blk.box [(PV.s (SV.str s'28)),(PV.s (SV.bool ((G3 (List.map A5 l'24) name3)).2))])])) none) none) none) none) none) none) none)) (vl (↑(De (List.map A5 l2)):Int) λn'29=>cond (n'21 != n'29) (k0 false []) (cond (List.all [] F8) (vl (((N8 (List.map A5 []) name3)).1).1 λs'31=>cond (A3 name3.length) (cond (List.all [] F8) (cond (List.all [] smE) (cond (A3 name3.length) (vl ((G3 (List.map A5 []) name3)).1 λs'33=>cond ((([]:List UInt8)==s'31)&&((false==(((N8 (List.map A5 []) name3)).1).2)&&true)) (cond (false==((N8 (List.map A5 []) name3)).2) (cond ((([]:List UInt8)==s'33)&&((false==((G3 (List.map A5 []) name3)).2)&&true)) (cond (false==(not (List.isEmpty ((G3 (List.map A5 []) name3)).1))) (k0 true [(Blk.box [(PV.s (SV.str ([]:List UInt8))),(PV.s (SV.bool false))]),(Blk.box [(PV.s (SV.str s'31)),(PV.s (SV.bool (((N8 (List.map A5 []) name3)).1).2))]),(Blk.box [(PV.s (SV.str ([]:List UInt8))),(PV.s (SV.bool false))]),(Blk.box [(PV.s (SV.str s'33)),(PV.s (SV.bool ((G3 (List.map A5 []) name3)).2))])]) (k0 false [(Blk.box [(PV.s (SV.str ([]:List UInt8))),(PV.s (SV.bool false))]),(Blk.box [(PV.s (SV.str s'31)),(PV.s (SV.bool (((N8 (List.map A5 []) name3)).1).2))]),(Blk.box [(PV.s (SV.str ([]:List UInt8))),(PV.s (SV.bool false))]),(Blk.box [(PV.s (SV.str s'33)),(PV.s (SV.bool ((G3 (List.map A5 []) name3)).2))])])) (k0 false [(Blk.box [(PV.s (SV.str ([]:List UInt8))),(PV.s (SV.bool false))]),(Blk.box [(PV.s (SV.str s'31)),(PV.s (SV.bool (((N8 (List.map A5 []) name3)).1).2))]),(Blk.box [(PV.s (SV.str ([]:List UInt8))),(PV.s (SV.bool false))]),(Blk.box [(PV.s (SV.str s'33)),(PV.s (SV.bool ((G3 (List.map A5 []) name3)).2))])])) (k0 false [(Blk.box [(PV.s (SV.str ([]:List UInt8))),(PV.s (SV.bool false))]),(Blk.box [(PV.s (SV.str s'31)),(PV.s (SV.bool (((N8 (List.map A5 []) name3)).1).2))]),(Blk.box [(PV.s (SV.str ([]:List UInt8))),(PV.s (SV.bool false))]),(Blk.box [(PV.s (SV.str s'33)),(PV.s (SV.bool ((G3 (List.map A5 []) name3)).2))])])) (k0 false [(Blk.box [(PV.s (SV.str ([]:List UInt8))),(PV.s (SV.bool false))]),(Blk.box [(PV.s (SV.str s'31)),(PV.s (SV.bool (((N8 (List.map A5 []) name3)).1).2))]),(Blk.box [(PV.s (SV.str ([]:List UInt8))),(PV.s (SV.bool false))]),(Blk.box [(PV.s (SV.str s'33)),(PV.s (SV.bool ((G3 (List.map A5 []) name3)).2))])])) none) none) none) none) none))) none) none) none)) none) none) none) none))) none) none
theorem Bl2 (d:Nat) (l_z0 l_t1 l2 name3):evC (JJ lf) (d+1) σ yh 7 [.s (.sl l_z0 l_t1 2 l2),pS name3] [] s=lpf lf l_z0 l_t1 l2 name3 (λr0 H1=>some (pB r0,H1,s)):=by
 refine (evE (fn:=Tryz.f7) (by kernel_rfl)).trans ?_
 generalize evC (JJ lf) d=cl
 unfold lpf;kernel_rfl
end
section
variable {σ R : Type} (lf : Nat) (cl : D7) (yh : Yh σ) (s : σ) (k : Out -> St σ -> Option R)
noncomputable abbrev XF:Code:=D9 Tryz.f29
noncomputable def Gv (lf:Nat):Cfg:=C1 lf [29] (A6 [(2,[0,0,2,0,0])]) [] (A6 [(6,[4,0]),(3,[0,0,2,1]),(5,[4,0]),(4,[0,0,2,1,12]),(2,[0,0,2,1,3]),(1,[0,0,2,1]),(0,[0,0,2])]) [] (A6 [(0,[4]),(1,[0,0,2,1])]) (some [4,0]) [] [] []
noncomputable def Dj {R:Type} (lf n:Nat) (l_z0 l_t1:Bool) (l2:LL) (name3:By) (i4:Int) (k0:By->Bool->(List Blk)->Option R) (k1:Unit->Option R):Option R:=match n with | 0=>none | n+1=>cond (ltI i4 (l2.length:Int)) (cond (inR i4 l2.length) (cond (okE Dw l2 (Int.toNat i4) 0) (cond ((gX l2 (Int.toNat i4) 0)==name3) (cond (inR i4 l2.length) (cond (okE ⟨true,true,[.str,.bool]⟩ l2 (Int.toNat i4) 0) (k0 (gX l2 (Int.toNat i4) 0) (gY l2 (Int.toNat i4) 1) []) none) none) (Dj lf n l_z0 l_t1 l2 name3 (A1 (i4+1)) k0 k1)) none) none) (k1 ())
theorem LZ (n l_z0 l_t1 l2 name3 i4):D5 1 ((Gv lf).keep 2) (bd (Gv lf) cl yh (cd [1,0,1,0,0] XF)) n ⟨gp [(0,.s (.sl l_z0 l_t1 2 l2)),(0,pS name3),(2,.ptr 0 0 0),(1,pI i4)] 18,[.box [pS ([]:List UInt8),pB false]],s⟩ k =
 Dj lf n l_z0 l_t1 l2 name3 i4 (λs0 b1 H2=>k .ret ⟨gp [(4,.ptr 0 0 0),(0,pB true)] 19,(.box [pS s0,pB b1]::H2),s⟩) (λ_=>k (.exit 0) ⟨gp [(4,.ptr 0 0 0)] 20,[.box [pS ([]:List UInt8),pB false]],s⟩):=by
 induction n generalizing l_z0 l_t1 l2 name3 i4 with
 | zero=>rfl
 | succ n ih=>rw [Dj];simp only [<-ih];kernel_rfl
noncomputable def YW {R:Type} (lf:Nat) (l_z0 l_t1:Bool) (l2:LL) (name3:By) (k0:By->Bool->Bool->(List Blk)->Option R):Option R:=Dj lf lf l_z0 l_t1 l2 name3 0 (λs'0 b'1 H'2=>k0 s'0 b'1 true ((Blk.box [(PV.s (SV.str s'0)),(PV.s (SV.bool b'1))])::H'2)) (λ_=>k0 ([]:List UInt8) false false [(Blk.box [(PV.s (SV.str ([]:List UInt8))),(PV.s (SV.bool false))])])
theorem Aw0 (d:Nat) (l_z0 l_t1 l2 name3):evC (Gv lf) (d+1) σ yh 29 [.s (.sl l_z0 l_t1 2 l2),pS name3] [] s=YW lf l_z0 l_t1 l2 name3 (λr0 r1 r2 H3=>some (.tup [.agg [pS r0,pB r1],pB r2],H3,s)):=by
 refine (evE (fn:=Tryz.f29) (by kernel_rfl)).trans ?_
 generalize evC (Gv lf) d=cl
 unfold YW;exact (Eq.trans (by kernel_rfl) ((LZ lf cl yh s (G5 0 (G9 (Gv lf) cl yh (cd [1,1] XF) (H9 (Gv lf) Tryz.f29))) lf l_z0 l_t1 l2 name3 0).trans (by kernel_rfl)))
noncomputable abbrev YX (l_z0 l_t1:Bool) (l2:LL) (name3:By):Option (PV × List Blk × Unit):=YW LF l_z0 l_t1 l2 name3 (λr0 r1 r2 H3=>some (.tup [.agg [pS r0,pB r1],pB r2],H3,()))
end
end
section
open Go Go.Op
set_option maxRecDepth 100000
theorem Pi {l:List By} {i:Nat} (h1:1<=i) (h2:i<=l.length):l.reverse.drop (i-1)=l.getD (l.length-i) []::l.reverse.drop i:=by
 rw [U6 [] (by rw [List.length_reverse];omega),show i-1+1=i by omega]
 congr 1
 rw [List.getD_eq_getElem?_getD,List.getD_eq_getElem?_getD,List.getElem?_reverse (by omega),show l.length-1-(i-1)=l.length-i by omega]
theorem Zd {R:Type} (k0:Int->Option R) (x y:List By) (hx:x.length<=2000000000) (hy:y.length<=2000000000):∀ (r i m:Nat),i+r=x.length+1->1<=i->i<=y.length+1->r<m->
  Dp LF m (H5 x) (H5 y) (i:Int) (λn=>k0 n) (λx' y'=>cond (ltI (x'.length:Int) (y'.length:Int)) (k0 (-1)) (cond (ltI (y'.length:Int) (x'.length:Int)) (k0 1) (k0 0)))=k0 (Ns (x.reverse.drop (i-1)) (y.reverse.drop (i-1)))
 | 0,i,m,hi,h1,h2,hm=>by
  obtain ⟨m,rfl⟩:∃ q,m=q+1:=⟨m-1,by omega⟩
  rw [Dp,L2,L2,B9 (by omega),List.drop_of_length_le (i:=i-1) (l:=x.reverse) (by rw [List.length_reverse];omega)]
  simp only [Bool.not_true,cond_false,L2]
  rw [D1 (a:=(y.length:Int)) (by omega)]
  by_cases c:x.length<y.length
  ·rw [B9 (by omega),Pi (l:=y) h1 (by omega)]
   rfl
  ·rw [D1 (by omega),List.drop_of_length_le (by rw [List.length_reverse];omega)]
   rfl
 | r+1,i,m,hi,h1,h2,hm=>by
  obtain ⟨m,rfl⟩:∃ q,m=q+1:=⟨m-1,by omega⟩
  have hlt:i<=x.length:=by omega
  rw [Dp,L2,L2,D1 (by omega)]
  by_cases c:y.length<i
  ·rw [B9 (by omega),List.drop_of_length_le (i:=i-1) (l:=y.reverse) (by rw [List.length_reverse];omega),Pi h1 hlt]
   simp only [Bool.not_true,Bool.not_false,cond_true,cond_false,L2]
   rw [D1 (by omega),B9 (by omega)]
   rfl
  ·have e1:A1 ((x.length:Int)-(i:Int))=((x.length-i:Nat):Int):=by rw [A4];omega
   have e2:A1 ((y.length:Int)-(i:Int))=((y.length-i:Nat):Int):=by rw [A4];omega
   have e3:A1 ((i:Int)+1)=((i+1:Nat):Int):=by rw [A4];rfl
   rw [D1 (by omega)]
   simp only [Bool.not_false,cond_true,vl,e1,e2,e3,Int.toNat_natCast]
   rw [J6 (by omega) (by omega),J6 (by omega) (by omega),Az (by omega),Az (by omega),Ed,Ed,Pi h1 hlt,Pi (l:=y) h1 (by omega)]
   simp only [cond_true]
   generalize x.getD (x.length-i) []=s
   generalize y.getD (y.length-i) []=t
   by_cases hst:s=t
   ·subst hst
    rw [Rb,beq_self_eq_true,L7]
    have:=Zd k0 x y hx hy r (i+1) m (by omega) (by omega) (by omega) (by omega)
    rw [Nat.add_sub_cancel] at this
    exact this
   ·have hc:T3 s t≠0:=λe=>hst (T4 e)
    rw [L8 hc,show (s==t)=false by simpa using hst]
    unfold T3 at hc ⊢
    cases h3:bytesLess s t with
    | true=>rfl
    | false=>
     rw [h3] at hc
     cases h4:bytesLess t s with
     | true=>rfl
     | false=>rw [h4] at hc;exact absurd rfl hc
theorem UM {R:Type} {k0:Int->Option R} (a b:By) (h0:A3 a.length=true) (h1:A3 b.length=true):ZB LF a b k0=k0 (O7 a b):=by
 have hLF:=D6
 have ha:=M3 h0
 have hb:=M3 h1
 have la:(pcs 46 a).length<=2000000000:=by rw [Br];have:=List.count_le_length (a:=(46:UInt8)) (l:=a);omega
 have lb:(pcs 46 b).length<=2000000000:=by rw [Br];have:=List.count_le_length (a:=(46:UInt8)) (l:=b);omega
 unfold ZB
 rw [h0,h1]
 simp only [cond_true,vl,show u8n (46:Int)=(46:UInt8) from rfl]
 exact Zd k0 (pcs 46 a) (pcs 46 b) la lb (pcs 46 a).length 1 LF (by omega) (by omega) (by omega) (by omega)
theorem Tx {R:Type} (z t:Bool) (E:List Ent) (k0:List Blk->Option R) (k1:Bool->Bool->LL->Option R) (hs:(B8 E).all smE=true) (hl:E.length<=1000000000):∀ (r i m:Nat),i+r=E.length->r<m->
  Dk LF m z t (B8 E) (i:Int) k0 k1=if Zu (E.drop i) then k0 [] else k1 z t (B8 E)
 | 0,i,m,hi,hm=>by
  obtain ⟨m,rfl⟩:∃ q,m=q+1:=⟨m-1,by omega⟩
  rw [Dk,D1 (by rw [B4];omega),List.drop_of_length_le (by omega)]
  rfl
 | r+1,i,m,hi,hm=>by
  obtain ⟨m,rfl⟩:∃ q,m=q+1:=⟨m-1,by omega⟩
  have hlt:i<E.length:=by omega
  have e2:A1 ((i:Int)+1)=((i+1:Nat):Int):=by rw [A4];rfl
  rw [Dk,B9 (by rw [B4];omega),J6 (by omega) (by rw [B4];omega),Int.toNat_natCast,U7 hlt,V3 hlt,Ht hs hlt,e2,Tx z t E k0 k1 hs hl r (i+1) m (by omega) (by omega),U6 noE hlt]
  simp only [cond_true]
  unfold Zu
  rw [List.any_cons]
  cases E0 (E.getD i noE).1<;>rfl
theorem Za {R:Type} (z t:Bool) (E O:List Ent) (i:Nat) (k0:Bool->Bool->LL->LL->Int->Int->Option R) (hi:i<E.length) (hs:(B8 E).all smE=true) (ho:(B8 O).all smE=true) (hl:O.length<=1000000000) (hE:E.length<=1000000000):∀ (r j m:Nat),j+r=O.length->r<m->
  Dl LF m z t (B8 E) (B8 O) (i:Int) (j:Int) k0=k0 z t (B8 E) (B8 O) (i:Int) ((j+kE (E.getD i noE) (O.drop j):Nat):Int)
 | 0,j,m,hj,hm=>by
  obtain ⟨m,rfl⟩:∃ q,m=q+1:=⟨m-1,by omega⟩
  rw [Dl,D1 (by rw [B4];omega),List.drop_of_length_le (by omega)]
  rfl
 | r+1,j,m,hj,hm=>by
  obtain ⟨m,rfl⟩:∃ q,m=q+1:=⟨m-1,by omega⟩
  have hlt:j<O.length:=by omega
  have e2:A1 ((j:Int)+1)=((j+1:Nat):Int):=by rw [A4];rfl
  rw [Dl,B9 (by rw [B4];omega),J6 (by omega) (by rw [B4];omega),J6 (by omega) (by rw [B4];omega),Int.toNat_natCast,Int.toNat_natCast,U7 hlt,U7 hi,V3 hlt,V3 hi,Ht hs hi,e2,Za z t E O i k0 hi hs ho hl hE r (j+1) m (by omega) (by omega),U6 noE hlt]
  simp only [cond_true,vl,Ht ho hlt]
  have ec:ltI (O7 (O.getD j noE).1 (E.getD i noE).1) 0=N0 (O.getD j noE).1 (E.getD i noE).1:=by rw [Bf];exact X5 _ _
  rw [ec]
  unfold kE
  rw [List.takeWhile_cons]
  cases N0 (O.getD j noE).1 (E.getD i noE).1 with
  | true=>
   simp only [cond_true,if_true,List.length_cons]
   rw [show j+1+(List.takeWhile (λa=>N0 a.1 (E.getD i noE).1) (O.drop (j+1))).length=j+((List.takeWhile (λa=>N0 a.1 (E.getD i noE).1) (O.drop (j+1))).length+1) by omega]
  | false=>rfl
theorem Ag4 {R:Type} (z t:Bool) (E O:List Ent) (i q:Nat) (k0:Bool->Bool->LL->Int->LL->Option R) (hi:i<E.length) (hq:q<=O.length) (hl:O.length<=1000000000) (hE:E.length<=1000000000) :
  Gg z t (B8 E) (B8 O) (i:Int) (q:Int) k0=k0 z t (B8 E) (i:Int) (B8 (O.take q++E.getD i noE::O.drop q)):=by
 unfold Gg
 have hc0:cut (B8 O) 0 (q:Int)=B8 (O.take q):=by rw [X6];simp [B8,List.map_take]
 have hc1:cut (B8 O) (q:Int) (((B8 O).length:Nat):Int)=B8 (O.drop q):=by rw [M8];simp [B8,List.map_drop]
 rw [S7 (by omega) (by omega) (by rw [B4];omega),J6 (by omega) (by rw [B4];omega),Int.toNat_natCast,Hl hi,V3 hi,GI hi,hc0,hc1,S7 (by omega) (by rw [B4];omega) (by omega)]
 simp only [cond_true,vl,B4,List.length_append,List.length_cons,List.length_nil]
 have l1:(O.take q).length<=O.length:=by rw [List.length_take];omega
 have l2:(O.drop q).length<=O.length:=by rw [List.length_drop];omega
 rw [D4 (by omega),D4 (by omega),D4 (by omega)]
 simp only [cond_true]
 congr 1
 simp [B8,Rp]
abbrev XC:Blk:=.arr true 63 2 []
theorem Aq7 (l:List Ent) (e:Ent):isE (l++[e])=Sb e (isE l):=by unfold isE;rw [List.foldl_append];rfl
theorem Zb {R:Type} (z t:Bool) (E:List Ent) (k0:Blk->List Blk->Option R) (k1:LL->Option R) (hs:(B8 E).all smE=true) (hE:E.length<=1000000000):∀ (r i m:Nat),i+r=E.length->r<m->((E.take i).map Prod.fst).Nodup->
  Y2 LF m z t (B8 E) (B8 (isE (E.take i))) (i:Int) k0 k1=if (E.map Prod.fst).Nodup then k1 (B8 (isE E)) else k0 XC []
 | 0,i,m,hi,hm,hn=>by
  obtain ⟨m,rfl⟩:∃ q,m=q+1:=⟨m-1,by omega⟩
  rw [List.take_of_length_le (by omega)] at hn ⊢
  rw [Y2,D1 (by rw [B4];omega),if_pos hn]
  rfl
 | r+1,i,m,hi,hm,hn=>by
  obtain ⟨m,rfl⟩:∃ q,m=q+1:=⟨m-1,by omega⟩
  have hLF:=D6
  have hlt:i<E.length:=by omega
  have e2:A1 ((i:Int)+1)=((i+1:Nat):Int):=by rw [A4];rfl
  have htk:E.take (i+1)=E.take i++[E.getD i noE]:=by
   rw [List.getD_eq_getElem?_getD,List.getElem?_eq_getElem hlt,Option.getD_some,List.take_succ_eq_append_getElem hlt]
  have hol:(isE (E.take i)).length=i:=by rw [(Dc _).length_eq,List.length_take];omega
  have hos:(B8 (isE (E.take i))).all smE=true:=by
   rw [List.all_eq_true] at hs ⊢
   intro x hx
   obtain ⟨e,he,rfl⟩:=List.mem_map.1 hx
   exact hs _ (List.mem_map.2 ⟨e,List.mem_of_mem_take (GQ.1 he),rfl⟩)
  have hd:=Ar0 (e:=E.getD i noE) (Mu (E.take i))
  have hk:=Bh4 (E.getD i noE) (isE (E.take i))
  have hmem:((isE (E.take i)).map Prod.fst).contains (E.getD i noE).1=((E.take i).map Prod.fst).contains (E.getD i noE).1:=by
   rw [Bool.eq_iff_iff,List.contains_iff_mem,List.contains_iff_mem]
   exact ((Dc (E.take i)).map Prod.fst).mem_iff
  rw [Y2,B9 (by rw [B4];omega)]
  simp only [cond_true]
  have hf:=λk=>Za (R:=R) z t E (isE (E.take i)) i k hlt hs hos (by omega) hE (isE (E.take i)).length 0 LF (by omega) (by omega)
  simp only [Int.ofNat_zero,List.drop_zero,Nat.zero_add] at hf
  rw [hf]
  generalize hO:isE (E.take i)=O at *
  generalize hq:kE (E.getD i noE) O=q at *
  have hput:=λk=>Ag4 (R:=R) z t E O i q k hlt hk (by omega) hE
  have hins:B8 (O.take q++E.getD i noE::O.drop q)=B8 (isE (E.take (i+1))):=by
   rw [htk,Aq7,hO,Xp,hq]
  have nodup_app:¬ ((E.take i).map Prod.fst).contains (E.getD i noE).1=true->((E.take (i+1)).map Prod.fst).Nodup:=λh=>by
   rw [htk,List.map_append,List.map_cons,List.map_nil,List.nodup_append]
   refine ⟨hn,by simp,λa ha b hb e=>?_⟩
   simp at hb
   subst e
   rw [hb] at ha
   exact h (List.contains_iff_mem.2 ha)
  have cont:¬ ((E.take i).map Prod.fst).contains (E.getD i noE).1=true->Y2 LF m z t (B8 E) (B8 (isE (E.take (i+1)))) ((i+1:Nat):Int) k0 k1=if (E.map Prod.fst).Nodup then k1 (B8 (isE E)) else k0 XC []:=λh=>
   Zb z t E k0 k1 hs hE r (i+1) m (by omega) (by omega) (nodup_app h)
  by_cases c1:q<O.length
  ·rw [B9 (by rw [B4];omega),J6 (by omega) (by rw [B4];omega),Int.toNat_natCast,U7 c1,V3 c1,J6 (by omega) (by rw [B4];omega),Int.toNat_natCast,U7 hlt,V3 hlt]
   simp only [cond_true,vl]
   rw [show decide (q<O.length)=true by simpa using c1,Bool.true_and,hmem] at hd
   cases c2:((O.getD q noE).1==(E.getD i noE).1) with
   | true=>
    rw [c2] at hd
    have hnn:¬ (E.map Prod.fst).Nodup:=λh=>by
     have h2:((E.take (i+1)).map Prod.fst).Nodup:=by
      rw [List.map_take]
      exact h.sublist (List.take_sublist _ _)
     rw [htk,List.map_append,List.map_cons,List.map_nil,List.nodup_append] at h2
     exact h2.2.2 _ (List.contains_iff_mem.1 hd.symm) _ (by simp) rfl
    rw [if_neg hnn]
    rfl
   | false=>
    rw [c2] at hd
    simp only [cond_false,hput,e2,hins]
    exact cont (by rw [<-hd];simp)
  ·rw [D1 (by rw [B4];omega)]
   simp only [cond_false,hput,e2,hins,vl]
   rw [show decide (q<O.length)=false by simpa using c1,Bool.false_and,hmem] at hd
   exact cont (by rw [<-hd];simp)
end
section
open Go Go.Proofs
set_option maxRecDepth 100000
section
variable {σ R : Type} (lf : Nat) (cl : D7) (yh : Yh σ) (s : σ) (k : Out -> St σ -> Option R)
noncomputable def PS (lf:Nat):Cfg:=C1 lf [67] (A6 []) [(32,EO),(19,WQ)] (A6 [(1,[4]),(0,[1,0])]) [32,19] (A6 []) (some [4]) [] [] []
noncomputable def Bb3 {R:Type} (lf:Nat) (e0:By) (e1:Bool) (name2:By) (k0:Bool->(List Blk)->Option R):Option R:=cond (A3 name2.length) (cond (E0 name2) (cond (e0==name2) (k0 true [(Blk.box [(PV.s (SV.str e0)),(PV.s (SV.bool e1))])]) (cond e1 (cond (A3 e0.length) (cond (A3 name2.length) (k0 (E7 e0 name2) [(Blk.box [(PV.s (SV.str e0)),(PV.s (SV.bool e1))])]) none) none) (k0 false [(Blk.box [(PV.s (SV.str e0)),(PV.s (SV.bool e1))])]))) (k0 false [(Blk.box [(PV.s (SV.str e0)),(PV.s (SV.bool e1))])])) none
theorem Bb4 (d:Nat) (e0 e1 name2):evC (PS lf) (d+1) σ yh 67 [.agg [pS e0,pB e1],pS name2] [] s=Bb3 lf e0 e1 name2 (λr0 H1=>some (pB r0,H1,s)):=by
 refine (evE (fn:=Tryz.f67) (by kernel_rfl)).trans ?_
 generalize evC (PS lf) d=cl
 unfold Bb3;kernel_rfl
noncomputable abbrev Av8 (e0:By) (e1:Bool) (name2:By):Option (PV × List Blk × Unit):=Bb3 LF e0 e1 name2 (λr0 H1=>some (pB r0,H1,()))
noncomputable abbrev Am7:Code:=D9 Tryz.f31
noncomputable def Mq (lf:Nat):Cfg:=C1 lf [31] (A6 [(3,[0,0,2,0,0,0])]) [(67,Ak9)] (A6 [(7,[4,0]),(4,[0,0,2,1,0]),(6,[0,0,2,1,0]),(5,[0,0,2,1,0,24]),(3,[0,0,2,1,0,4]),(2,[0,0,2,1,0]),(1,[0,0,2,1]),(0,[0,0,2])]) [67] (A6 [(0,[4,1]),(1,[0,0,2,1,0])]) (some [4,0]) [] [] [] (fr:=[(7,[2,4],[0])])
noncomputable def Bw {R:Type} (lf n:Nat) (l_z0 l_t1:Bool) (l2:LL) (name3:By) (i4:Int) (s5:By) (b6:Bool) (k0:By->Bool->Option R):Option R:=match n with | 0=>none | n+1=>cond (ltI i4 (l2.length:Int)) (cond (inR i4 l2.length) (cond (okE ⟨true,true,[.str,.bool]⟩ l2 (Int.toNat i4) 0) (cond (A3 (List.length (gX l2 (Int.toNat i4) 0))) (cond (A3 name3.length) (cond (Fv name3 (At1 (gX l2 (Int.toNat i4) 0) (gY l2 (Int.toNat i4) 1))) (cond (inR i4 l2.length) (cond (okE Dw l2 (Int.toNat i4) 0) (cond (ltI (s5.length:Int) (↑(List.length (gX l2 (Int.toNat i4) 0)):Int)) (cond (inR i4 l2.length) (cond (okE ⟨true,true,[.str,.bool]⟩ l2 (Int.toNat i4) 0) (Bw lf n l_z0 l_t1 l2 name3 (A1 (i4+1)) (gX l2 (Int.toNat i4) 0) (gY l2 (Int.toNat i4) 1) k0) none) none) (Bw lf n l_z0 l_t1 l2 name3 (A1 (i4+1)) s5 b6 k0)) none) none) (Bw lf n l_z0 l_t1 l2 name3 (A1 (i4+1)) s5 b6 k0)) none) none) none) none) (k0 s5 b6)
theorem TZ (n l_z0 l_t1 l2 name3 i4 s5 b6):D5 2 ((Mq lf).keep 3) (bd (Mq lf) cl yh (cd [1,1,0,1,0,0] Am7)) n ⟨gp [(0,.s (.sl l_z0 l_t1 2 l2)),(0,pS name3),(2,.ptr 0 0 0),(1,.ptr 1 0 0),(0,pI i4)] 33,[.box [pS ([]:List UInt8),pB false],.box [pS s5,pB b6]],s⟩ k =
 Bw lf n l_z0 l_t1 l2 name3 i4 s5 b6 (λs0 b1=>k (.exit 0) ⟨gp [(4,.ptr 0 0 0),(1,.ptr 1 0 0)] 34,[.box [pS ([]:List UInt8),pB false],.box [pS s0,pB b1]],s⟩):=by
 induction n generalizing l_z0 l_t1 l2 name3 i4 s5 b6 with
 | zero=>rfl
 | succ n ih=>rw [Bw];simp only [<-ih];kernel_rfl
noncomputable def Bb6 {R:Type} (lf:Nat) (l_z0 l_t1:Bool) (l2:LL) (name3:By) (k0:By->Bool->Bool->(List Blk)->Option R):Option R:=Bw lf lf l_z0 l_t1 l2 name3 0 ([]:List UInt8) false (λs'0 b'1=>k0 s'0 b'1 (not (s'0==[])) [(Blk.box [(PV.s (SV.str s'0)),(PV.s (SV.bool b'1))]),(Blk.box [(PV.s (SV.str s'0)),(PV.s (SV.bool b'1))])])
theorem Bb7 (d:Nat) (l_z0 l_t1 l2 name3):evC (Mq lf) (d+1) σ yh 31 [.s (.sl l_z0 l_t1 2 l2),pS name3] [] s=Bb6 lf l_z0 l_t1 l2 name3 (λr0 r1 r2 H3=>some (.tup [.agg [pS r0,pB r1],pB r2],H3,s)):=by
 refine (evE (fn:=Tryz.f31) (by kernel_rfl)).trans ?_
 generalize evC (Mq lf) d=cl
 unfold Bb6;exact (Eq.trans (by kernel_rfl) ((TZ lf cl yh s (G5 0 (G9 (Mq lf) cl yh (cd [1,1,1] Am7) (H9 (Mq lf) Tryz.f31))) lf l_z0 l_t1 l2 name3 0 ([]:List UInt8) false).trans (by kernel_rfl)))
noncomputable abbrev Av9 (l_z0 l_t1:Bool) (l2:LL) (name3:By):Option (PV × List Blk × Unit):=Bb6 LF l_z0 l_t1 l2 name3 (λr0 r1 r2 H3=>some (.tup [.agg [pS r0,pB r1],pB r2],H3,()))
noncomputable abbrev Al9:Code:=D9 Tryz.f12
noncomputable def Mh (lf:Nat):Cfg:=C1 lf [12] (A6 [(4,[0,3,0])]) [] (A6 [(8,[4]),(5,[0,4]),(7,[4]),(6,[0,4,16]),(4,[0,4,7]),(3,[0,4]),(2,[4]),(1,[0,8]),(0,[0,0])]) [] (A6 [(0,[]),(1,[0,4])]) (some [4]) [] [] []
noncomputable def Hg {R:Type} (lf n:Nat) (l_z0 l_t1:Bool) (l2:LL) (i3:Int) (k0:Unit->Option R) (k1:Unit->Option R):Option R:=match n with | 0=>none | n+1=>cond (ltI i3 (l2.length:Int)) (cond (inR i3 l2.length) (cond (okE Dw l2 (Int.toNat i3) 0) (cond (ltI 300 (↑(List.length (gX l2 (Int.toNat i3) 0)):Int)) (k0 ()) (Hg lf n l_z0 l_t1 l2 (A1 (i3+1)) k0 k1)) none) none) (k1 ())
theorem QZ (n l_z0 l_t1 l2 i3):D5 0 ((Mh lf).keep 4) (bd (Mh lf) cl yh (cd [1,1,0,1,0,0] Al9)) n ⟨gp [(0,.s (.sl l_z0 l_t1 2 l2)),(4,pI i3)] 17,[],s⟩ k =
 Hg lf n l_z0 l_t1 l2 i3 (λ_=>k .ret ⟨gp [(4,pB false)] 18,[],s⟩) (λ_=>k (.exit 0) ⟨gp [] 23,[],s⟩):=by
 induction n generalizing l_z0 l_t1 l2 i3 with
 | zero=>rfl
 | succ n ih=>rw [Hg];simp only [<-ih];kernel_rfl
noncomputable def A51 {R:Type} (lf:Nat) (l_z0 l_t1:Bool) (l2:LL) (n3:Int) (k0:Bool->Option R):Option R:=cond (ltI n3 (l2.length:Int)) (k0 false) (Hg lf lf l_z0 l_t1 l2 0 (λ_=>k0 false) (λ_=>k0 true))
theorem A52 (d:Nat) (l_z0 l_t1 l2 n3):evC (Mh lf) (d+1) σ yh 12 [.s (.sl l_z0 l_t1 2 l2),pI n3] [] s=A51 lf l_z0 l_t1 l2 n3 (λr0=>some (pB r0,[],s)):=by
 refine (evE (fn:=Tryz.f12) (by kernel_rfl)).trans ?_
 generalize evC (Mh lf) d=cl
 unfold A51;exact (Eq.trans (by kernel_rfl) (A0 rfl ((QZ lf cl yh s (G5 0 (G9 (Mh lf) cl yh (cd [1,1,1] Al9) (H9 (Mh lf) Tryz.f12))) lf l_z0 l_t1 l2 0).trans (by kernel_rfl))))
end
def Tru (x:Option (PV × List Blk × Unit)):Prop:=∃ H,x=some (.s (.bool true),H,())
theorem Ap1 {els:LL} (h:∀ el∈els,Ty.ofL [.str,.bool] el):els.all F8=true:=by
 rw [List.all_eq_true]
 intro el he
 have:=h el he
 simp only [Ty.ofL,Ty.of] at this
 obtain ⟨_,_,rfl,⟨l,rfl,_⟩,_,_,rfl,⟨b,rfl⟩,rfl⟩:=this
 rfl
theorem Al5 {P:Program} {t:Nat} {v:PV} (h:Vf P t v) (e:Er P 20 t=some [.slice [.str,.bool]]) (ha:Nm P t=false):∃ z l,v = .s (.sl z false 2 l)/\l.all F8=true/\Jn z l=true:=by
 obtain ⟨x,rfl,h5⟩:=XA h e ha
 simp only [Ty.of,List.length_cons,List.length_nil] at h5
 rcases h5 with rfl | ⟨els,rfl,hl,hall⟩
 ·exact ⟨true,[],rfl,rfl,rfl⟩
 ·exact ⟨false,els,rfl,Ap1 hall,rfl⟩
theorem Ah7 {n:Int} {l:LL} (hn:n<=1000) (h:Ng n l=true):l.all smE=true/\A3 l.length=true:=by
 unfold Ng at h
 rw [Bool.and_eq_true,List.all_eq_true] at h
 refine ⟨List.all_eq_true.2 λel he=>?_,?_⟩
 ·have:=h.2 el he
  rw [Bf] at this
  unfold smE
  exact J3 (by simp at this;omega)
 ·have:=h.1
  rw [Bf] at this
  exact J3 (by simp at this;omega)
end
section
open Go Go.Op
set_option maxRecDepth 100000
theorem Bb5 (h:By) (b:Bool) (s:By) (h0:A3 h.length=true) (h1:A3 s.length=true):∃ r H,Av8 h b s=rv r H/\r.stab [] H=pB (Fv s (At1 h b)):=by
 unfold Av8 Bb3 Fv At1
 rw [h0,h1]
 simp only [cond_true]
 cases E0 s<;>cases (h==s)<;>cases b<;>exact ⟨_,_,rfl,rfl⟩
theorem CF {R:Type} (z t:Bool) (E:List Ent) (s:By) (k0:By->Bool->Option R) (hs:(B8 E).all smE=true) (h1:A3 s.length=true) (hl:E.length<=1000000000):∀ (r i m:Nat) (b:Ent),i+r=E.length->r<m->
  Bw LF m z t (B8 E) s (i:Int) b.1 b.2 k0=k0 ((E.drop i).foldl (λb e=>if Fv s e&&Nat.blt b.1.length e.1.length then e else b) b).1 ((E.drop i).foldl (λb e=>if Fv s e&&Nat.blt b.1.length e.1.length then e else b) b).2
 | 0,i,m,b,hi,hm=>by
  obtain ⟨m,rfl⟩:∃ q,m=q+1:=⟨m-1,by omega⟩
  rw [Bw,D1 (by rw [B4];omega),List.drop_of_length_le (by omega)]
  rfl
 | r+1,i,m,b,hi,hm=>by
  obtain ⟨m,rfl⟩:∃ q,m=q+1:=⟨m-1,by omega⟩
  have hlt:i<E.length:=by omega
  have e2:A1 ((i:Int)+1)=((i+1:Nat):Int):=by rw [A4];rfl
  rw [Bw,B9 (by rw [B4];omega),J6 (by omega) (by rw [B4];omega),Int.toNat_natCast,Hl hlt,U7 hlt,V3 hlt,GI hlt,Ht hs hlt,h1,e2,U6 noE hlt,List.foldl_cons]
  simp only [cond_true]
  have ih:=λb=>CF z t E s k0 hs h1 hl r (i+1) m b (by omega) (by omega)
  have eb:ltI (b.1.length:Int) ((E.getD i noE).1.length:Int)=Nat.blt b.1.length (E.getD i noE).1.length:=by
   rw [Bf,Bool.eq_iff_iff,decide_eq_true_eq,Nat.blt_eq]
   omega
  rw [eb,show At1 (E.getD i noE).1 (E.getD i noE).2=E.getD i noE from rfl]
  cases c1:Fv s (E.getD i noE) with
  | false=>exact ih b
  | true=>
   cases c2:Nat.blt b.1.length (E.getD i noE).1.length with
   | false=>exact ih b
   | true=>exact ih (E.getD i noE)
theorem Bb8 (z t:Bool) (l:LL) (s:By) (h0:l.all F8=true) (h1:l.all smE=true) (h2:A3 l.length=true) (h3:A3 s.length=true) :
  ∃ r H,Av9 z t l s=rv r H/\r.stab [0,0] H = .tup [.agg [pS (G3 (l.map A5) s).1,pB (G3 (l.map A5) s).2],pB (not (List.isEmpty (G3 (l.map A5) s).1))]:=by
 have hLF:=D6
 have hl:=M3 h2
 have hr:=Ah h0
 generalize hE:l.map A5=E at hr
 subst hr
 rw [B4] at hl
 unfold Av9 Bb6
 have:=CF z t E s (λs'0 b'1=>some (PV.tup [.agg [pS s'0,pB b'1],pB (not (s'0==[]))],[(Blk.box [(PV.s (SV.str s'0)),(PV.s (SV.bool b'1))]),(Blk.box [(PV.s (SV.str s'0)),(PV.s (SV.bool b'1))])],())) h1 h3 hl E.length 0 LF noE (by omega) (by omega)
 rw [List.drop_zero] at this
 refine ⟨_,_,this,?_⟩
 rw [Kp] at hE
 show PV.tup [.agg [pS (G3 E s).1,pB (G3 E s).2],pB (not ((G3 E s).1==[]))]=_
 rw [show ((G3 E s).1==[])=(G3 E s).1.isEmpty by cases (G3 E s).1<;>rfl]
theorem BK {R:Type} (z t:Bool) (T:List Ent) (k0 k1:Unit->Option R) (hl:T.length<=1000000000):∀ (r i m:Nat),i+r=T.length->r<m->
  Hg LF m z t (B8 T) (i:Int) k0 k1=cond ((B8 (T.drop i)).all λel=>!ltI 300 (elS el).length) (k1 ()) (k0 ())
 | 0,i,m,hi,hm=>by
  obtain ⟨m,rfl⟩:∃ q,m=q+1:=⟨m-1,by omega⟩
  rw [Hg,D1 (by rw [B4];omega),List.drop_of_length_le (by omega)]
  rfl
 | r+1,i,m,hi,hm=>by
  obtain ⟨m,rfl⟩:∃ q,m=q+1:=⟨m-1,by omega⟩
  have hlt:i<T.length:=by omega
  have e2:A1 ((i:Int)+1)=((i+1:Nat):Int):=by rw [A4];rfl
  rw [Hg,B9 (by rw [B4];omega),J6 (by omega) (by rw [B4];omega),Int.toNat_natCast,U7 hlt,V3 hlt,e2,BK z t T k0 k1 hl r (i+1) m (by omega) (by omega),U6 noE hlt]
  simp only [cond_true]
  show _=cond ((!ltI 300 ((T.getD i noE).1.length:Nat))&&(B8 (T.drop (i+1))).all λel=>!ltI 300 (elS el).length) (k1 ()) (k0 ())
  cases ltI 300 ((T.getD i noE).1.length:Nat)<;>rfl
theorem Ac0 {R:Type} {k0:Bool->Option R} (z t:Bool) (l:LL) (n:Int) (h0:l.all F8=true) (hn:ltI n 1001=true):A51 LF z t l n k0=k0 (Ng n l):=by
 have hLF:=D6
 rw [Bf,decide_eq_true_eq] at hn
 have hr:=Ah h0
 generalize hE:l.map A5=T at hr
 subst hr
 unfold A51 Ng
 cases c:ltI n ((B8 T).length:Nat) with
 | true=>rfl
 | false=>
  rw [Bf,decide_eq_false_iff_not,B4] at c
  have:=BK z t T (λ_=>k0 false) (λ_=>k0 true) (by omega) T.length 0 LF (by omega) (by omega)
  rw [List.drop_zero] at this
  refine this.trans ?_
  rw [Bool.not_false,Bool.true_and]
  cases (B8 T).all λel=>!ltI 300 (elS el).length<;>rfl
end
section
open Go Go.Op Go.Proofs
set_option maxRecDepth 100000
theorem UA {R:Type} (z t:Bool) (E:List Ent) (k0:Blk->List Blk->Option R) (k1:LL->Option R) (k2:Unit->Option R) (hs:(B8 E).all smE=true) (hE:E.length<=1000000000) :
  Gh LF LF z t (B8 E) k0 k1 k2=if E.isEmpty then k2 () else if (E.map Prod.fst).Nodup then k1 (B8 (isE E)) else k0 XC []:=by
 have hLF:=D6
 have three:∀ m,m=LF->∀ k:Bool->Bool->LL->Option R,Jt LF m z t (B8 E) k=k z t (B8 E):=λm hm k=>by
  obtain ⟨q,rfl⟩:∃ q,m=q+1:=⟨m-1,by omega⟩
  rw [Jt]
 have four:∀ m,m=LF->Gh LF m z t (B8 E) k0 k1 k2=if E.isEmpty then k2 () else if (E.map Prod.fst).Nodup then k1 (B8 (isE E)) else k0 XC []:=λm hm=>by
  obtain ⟨q,rfl⟩:∃ q,m=q+1:=⟨m-1,by omega⟩
  rw [Gh]
  cases E with
  | nil=>rfl
  | cons e r=>
   rw [B9 (by rw [B4,List.length_cons];omega),cond_true,three LF rfl]
   unfold Pj
   rw [J6 (by omega) (by rw [B4,List.length_cons];omega)]
   have:=Zb (R:=R) z t (e::r) k0 k1 hs hE r.length 1 q (by rw [List.length_cons];omega) (by rw [List.length_cons] at hE;omega) (by simp)
   refine Eq.trans ?_ this
   rfl
 exact four LF rfl
theorem MJ (z t:Bool) (l:LL) (h0:l.all F8=true) (h1:l.all smE=true) (h2:A3 l.length=true) {b:Bool} (hb:(De (l.map A5)==0)=b) :
  ∃ r H,YY z t l=rv r H/\r.stab [2,0] H=cond b (.tup [.s (.sl (List.isEmpty (l.map A5)) (List.isEmpty (l.map A5)) 2 (B8 (isE (l.map A5)))),pI 0]) (.tup [.s (.sl true true 2 []),pI (De (l.map A5):Nat)]):=by
 have hLF:=D6
 have hl:=M3 h2
 have hr:=Ah h0
 generalize hE:l.map A5=E at hr hb ⊢
 subst hr
 rw [B4] at hl
 subst hb
 unfold YY MA De
 by_cases c1:1000<E.length
 ·rw [B9 (by rw [B4];omega),if_pos c1]
  exact ⟨_,_,rfl,rfl⟩
 rw [D1 (by rw [B4];omega),if_neg c1,cond_false]
 have hv:=λk0 k1=>Tx (R:=PV × List Blk × Unit) z t E k0 k1 h1 hl E.length 0 LF (by omega) (by omega)
 simp only [Int.ofNat_zero,List.drop_zero] at hv
 rw [hv]
 cases c2:Zu E with
 | true=>exact ⟨_,_,rfl,rfl⟩
 | false=>
  simp only [Bool.false_eq_true,if_false]
  rw [UA z t E _ _ _ h1 hl]
  cases c3:Ms (E.map Prod.fst) with
  | true=>
   have hn:¬ (E.map Prod.fst).Nodup:=λh=>by rw [Au.2 h] at c3;cases c3
   have hne:E.isEmpty=false:=by
    cases E with
    | nil=>cases c3
    | cons a r=>rfl
   rw [hne,if_neg hn]
   exact ⟨_,_,rfl,rfl⟩
  | false=>
   rw [if_pos (Au.1 c3)]
   cases E with
   | nil=>exact ⟨_,_,rfl,rfl⟩
   | cons a r=>exact ⟨_,_,rfl,rfl⟩
theorem Yz {R:Type} (z t:Bool) (E:List Ent) (q:By) (k0:By->Bool->List Blk->Option R) (k1:Unit->Option R) (hE:E.length<=1000000000):∀ (r i m:Nat),i+r=E.length->r<m->
  Dj LF m z t (B8 E) q (i:Int) k0 k1=match (E.drop i).find? (λe=>e.1==q) with
   | some e=>k0 e.1 e.2 []
   | none=>k1 ()
 | 0,i,m,hi,hm=>by
  obtain ⟨m,rfl⟩:∃ q,m=q+1:=⟨m-1,by omega⟩
  rw [Dj,D1 (by rw [B4];omega),List.drop_of_length_le (by omega)]
  rfl
 | r+1,i,m,hi,hm=>by
  obtain ⟨m,rfl⟩:∃ q,m=q+1:=⟨m-1,by omega⟩
  have hlt:i<E.length:=by omega
  have e2:A1 ((i:Int)+1)=((i+1:Nat):Int):=by rw [A4];rfl
  rw [Dj,B9 (by rw [B4];omega),J6 (by omega) (by rw [B4];omega),Int.toNat_natCast,U7 hlt,Hl hlt,V3 hlt,GI hlt,e2,Yz z t E q k0 k1 hE r (i+1) m (by omega) (by omega),U6 noE hlt,List.find?_cons]
  simp only [cond_true]
  cases ((E.getD i noE).1==q)<;>rfl
theorem Aw1 (z t:Bool) (l:LL) (q:By) (h0:l.all F8=true) (h2:A3 l.length=true) :
  ∃ r H,YX z t l q=rv r H/\r.stab [0,0] H = .tup [.agg [pS (N8 (l.map A5) q).1.1,pB (N8 (l.map A5) q).1.2],pB (N8 (l.map A5) q).2]:=by
 have hLF:=D6
 have hl:=M3 h2
 have hr:=Ah h0
 generalize hE:l.map A5=E at hr ⊢
 subst hr
 rw [B4] at hl
 unfold YX YW N8
 have:=λk0 k1=>Yz (R:=PV × List Blk × Unit) z t E q k0 k1 hl E.length 0 LF (by omega) (by omega)
 simp only [Int.ofNat_zero,List.drop_zero] at this
 rw [this]
 cases E.find? (λe=>e.1==q) with
 | none=>exact ⟨_,_,rfl,rfl⟩
 | some e=>exact ⟨_,_,rfl,rfl⟩
theorem As6 (lz:Bool) (l:LL) (s:By) (hl:l.all F8=true) (hlz:Jn lz l=true) :
  Tru (evC (JJ LF) 1 Unit noY 7 [.s (.sl lz false 2 l),pS s] [] ()):=by
 refine Eq.subst (motive:=Tru) (Bl2 (σ:=Unit) LF noY () 0 lz false l s).symm ?_
 unfold lpf
 rw [hl]
 simp only [cond_true,show ltI 60 1001=true from rfl]
 cases c2:Ng 60 l with
 | false=>exact ⟨_,rfl⟩
 | true=>
 rw [Bool.not_true,cond_false]
 by_cases c3:(400:Int)<s.length
 ·rw [B9 c3];exact ⟨_,rfl⟩
 obtain ⟨s3,s4⟩:=Ah7 (by decide) c2
 have gs:A3 s.length=true:=J3 (by omega)
 rw [A7,s3,s4,hlz]
 simp only [cond_true,cond_false,vl]
 cases c5:(De (List.map A5 l)==0) with
 | false=>
  have hne:De (List.map A5 l)≠0:=by simpa using c5
  simp only [cond_false,bne_self_eq_false,List.all_nil,cond_true,List.map_nil,gs,show N8 [] s=(noE,false) from rfl,show G3 [] s=noE from rfl,show noE.1=[] from rfl,show noE.2=false from rfl,beq_self_eq_true,Bool.and_true,List.isEmpty_nil,Bool.not_true]
  exact ⟨_,rfl⟩
 | true=>
 have hn:=eq_of_beq c5
 obtain ⟨_,hv,hd⟩:=A82 hn
 have hg:=A41 (XS hd) s
 have hf:=QO (XS hd) (λx hx=>hv x (GQ.1 hx)) s
 simp only [Ap0,Bk6 hl s3,Ab8 s4,Kp,gs,cond_true,hg,hf,beq_self_eq_true,Bool.and_true]
 exact ⟨_,rfl⟩
theorem A71 (args:List PV) (h:Gm Tryz.prog [23,9] args):∃ d Hc,evC (JJ LF) d Unit noY 7 args [] ()=some (.s (.bool true),Hc,()):=by
 obtain ⟨v3,q3,rfl,h3,v4',q4,rfl,h4,rfl⟩:=h
 obtain ⟨lz,l,rfl,hl,hlz⟩:=Al5 h3 (by kernel_rfl) (by kernel_rfl)
 obtain ⟨s,rfl,_⟩:=A20 h4 (by kernel_rfl) (by kernel_rfl)
 exact ⟨1,As6 lz l s hl hlz⟩
end
end Go.Proofs.YtelhbgonncceeaaGreatDoor.E
