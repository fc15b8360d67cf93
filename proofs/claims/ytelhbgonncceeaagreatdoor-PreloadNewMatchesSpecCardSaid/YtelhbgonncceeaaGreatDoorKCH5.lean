/-
  New, Entries, Len and Format are as specified for arbitrary entries, as its tied card says. Conditions: what the card itself names (the package-level variables that are listed, tied to the program's text).
-/
import Derived.Test.YtelhbgonncceeaaGreatDoorKCH4
import Derived.BigCall
import Derived.BigGuard
import Derived.BigQuiet
import Derived.Deep.QuietTactic
import Derived.Ground.SlsfProg
import Derived.LoopTactic
import Derived.Shelf.Abstract
import Derived.Shelf.SlSortCmp.NoneTotal
import Derived.Shelf.SlSortCmp.WholeK
import Derived.Shelf.Strings.BuilderK
import Derived.Shelf.Strings.LastIndex
import Derived.Shelf.Strings.OnBuilder
import Derived.Test.YtelhbgonncceeaaGreatDoorCards
import Derived.Test.YtelhbgonncceeaaGreatDoorProg
import Derived.Test.YtelhbgonncceeaaGreatDoorTie
import Derived.WalkKit
import Derived.WalkMore
namespace Go.Proofs.YtelhbgonncceeaaGreatDoor.E
set_option linter.all false
section
open Go Go.Proofs Go.RowKit
set_option maxRecDepth 100000
theorem Bj3 (x:ByteArray) (w:World):Calls Tryz.prog 143 #[.string x] w λe w'=>e = .returned (.bool false)/\w'=w:=by
 go_enter Tryz.func143,Tryz.ntmps143
 go_wp2
 go_ret
 exact ⟨by simp,rfl⟩
theorem Bj2 (x:Int) (w:World):Calls Tryz.prog 144 #[.int .i64 x] w λe w'=>e = .returned (.bool false)/\w'=w:=by
 go_enter Tryz.func144,Tryz.ntmps144
 go_wp2
 go_ret
 exact ⟨by simp,rfl⟩
theorem Az4 (x y:Int):FR x y=if x<y then -1 else if y<x then 1 else 0:=by
 unfold FR
 rw [Y5,Y5]
 by_cases h:x<y<;>by_cases g:y<x<;>simp [h,g]
theorem Bp0 (x y:Int) (w:World):Calls Tryz.prog 99 #[.int .i64 x,.int .i64 y] w λe w'=>e = .returned (.int .i64 (FR x y))/\w'=w:=by
 have e7:∀ args w,(callFunc 144 args).run Tryz.prog w = .ok (.enter 144 args) w:=enters_of Tryz.func144 (by kernel_rfl) rfl
 go_enter Tryz.func99,Tryz.ntmps99
 go_wp2_with (go_at_fn 144;refine (Bj2 _ _).mono ?_;rintro e w' ⟨rfl,hw⟩;rw [hw])
 all_goals (go_ret;refine ⟨?_,rfl⟩;rw [Az4];(repeat' split)<;>first | rfl | (exfalso;omega))
theorem Az3 (x y:ByteArray):S8 x.data.toList y.data.toList=if Op.bytesLess x.toList y.toList=true then -1 else if (!x.toList==y.toList)=true then 1 else 0:=by
 rw [ByteArray.toList_eq,ByteArray.toList_eq,<-Np]
 generalize x.data.toList=a
 generalize y.data.toList=b
 unfold S8
 cases h:bytesLess a b with
 | true=>rfl
 | false=>
  have e:(!a==b)=bytesLess b a:=by
   rw [S6] at h ⊢
   have h:=of_decide_eq_false h
   by_cases hab:a=b
   ·subst hab;simp
   ·have:b<a:=by
     apply Decidable.byContradiction
     intro g
     exact hab (List.le_antisymm (List.not_lt.1 g) (List.not_lt.1 h))
    simp [hab,this]
  rw [e]
  cases bytesLess b a<;>rfl
theorem Bp1 (x y:ByteArray) (w:World):Calls Tryz.prog 98 #[.string x,.string y] w λe w'=>e = .returned (.int .i64 (S8 x.data.toList y.data.toList))/\w'=w:=by
 have e7:∀ args w,(callFunc 143 args).run Tryz.prog w = .ok (.enter 143 args) w:=enters_of Tryz.func143 (by kernel_rfl) rfl
 go_enter Tryz.func98,Tryz.ntmps98
 go_wp2_with (go_at_fn 143;refine (Bj3 _ _).mono ?_;rintro e w' ⟨rfl,hw⟩;rw [hw])
 all_goals (go_ret;refine ⟨?_,rfl⟩;rw [Az3];(try simp [*]))
theorem Ap4 (s:ByteArray):Lib.lastIndexByte s 46=G4 46 s.data.toList:=by
 have hsz:s.size=s.data.toList.length:=by rw [Array.length_toList];rfl
 have hb:∀ j (hj:j<s.data.toList.length),((s.data[j]!).toNat:Int)=46↔s.data.toList[j]=46:=λj hj=>by
  have hj':j<s.data.size:=by simpa using hj
  rw [getElem!_pos s.data j hj',Array.getElem_toList]
  constructor
  ·intro h
   exact UInt8.toNat_inj.1 (show s.data[j].toNat=46 by omega)
  ·intro h
   rw [h]
   rfl
 rcases Lib.lastIndexByte_spec s 46 with ⟨e,hn⟩ | ⟨i,hi,e,hc,hn⟩
 ·rw [e]
  rcases Ag s.data.toList with ⟨_,h2⟩ | ⟨p,q,h1,h2,h3⟩
  ·exact h2.symm
  ·have hp:p.length<s.data.toList.length:=by rw [h1];simp
   exact absurd ((hb p.length hp).2 (by simp [h1])) (hn p.length (by omega))
 ·rw [e]
  have hi':i<s.data.toList.length:=by omega
  have hci:=(hb i hi').1 hc
  rcases Ag s.data.toList with ⟨h1,_⟩ | ⟨p,q,h1,h2,h3⟩
  ·exact absurd (hci ▸ List.getElem_mem hi') h1
  ·rw [h3]
   have hp:p.length<s.data.toList.length:=by rw [h1];simp
   have hcp:=(hb p.length hp).2 (by simp [h1])
   by_cases h4:i<p.length
   ·exact absurd hcp (hn p.length h4 (by omega))
   ·by_cases h5:p.length<i
    ·refine absurd ?_ h2
     have:s.data.toList[i]? = some 46:=by rw [List.getElem?_eq_getElem hi',hci]
     rw [h1,List.getElem?_append_right (by omega),show i-p.length=(i-p.length-1)+1 by omega,List.getElem?_cons_succ] at this
     exact List.mem_of_getElem? this
    ·omega
theorem Av6 (s:ByteArray) (hs:s.size<4611686018427387904) (w:World):Calls Tryz.prog 97 #[.string s,.int .u8 46] w λe w'=>e = .returned (.int .i64 (G4 46 s.data.toList))/\w'=w:=by
 rw [<-Ap4]
 exact Any.strings_LastIndexByte Tryz.lays149 s 46 hs w
theorem MW (s:ByteArray) (l:Int) (h0:0<=l) (h1:l<=s.size) (w:World):(Instr.sliceAt 9 (.string s) (some (.int .i64 l)) none none).run Tryz.prog w = .ok (.string (s.extract l.toNat s.size)) w:=by
 simp [Instr.sliceAt,Instr.slice,run_underlying Tryz.underlying9,Instr.sliceBounds,run_sliceBound,Result.andThen,h0,h1]
theorem Au6 (s:ByteArray) (l:Int) (h0:0<=l) (h1:l<=s.size) (w:World):(Instr.sliceAt 9 (.string s) none (some (.int .i64 l)) none).run Tryz.prog w = .ok (.string (s.extract 0 l.toNat)) w:=by
 simp [Instr.sliceAt,Instr.slice,run_underlying Tryz.underlying9,Instr.sliceBounds,run_sliceBound,Result.andThen,h0,h1]
theorem JP (s:ByteArray) (n:Nat):(s.extract n s.size).data.toList=s.data.toList.drop n:=by
 rw [ByteArray.data_extract,Array.toList_extract]
 simp only [List.extract]
 exact List.take_of_length_le (by rw [List.length_drop,Array.length_toList];exact Nat.le_refl _)
theorem An6 (s:ByteArray) (n:Nat):(s.extract 0 n).data.toList=s.data.toList.take n:=by
 rw [ByteArray.data_extract,Array.toList_extract]
 simp [List.extract]
set_option maxHeartbeats 4000000 in theorem Bj5 (a b:ByteArray) (ha:a.size<=1000000000) (hb:b.size<=1000000000) (w:World):Calls Tryz.prog 63 #[.string a,.string b] w λe w'=>e = .returned (.int .i64 (O6 a.data.toList b.data.toList))/\∃ q,w'=w.drewN q:=by
 have eL:∀ args w,(callFunc 97 args).run Tryz.prog w = .ok (.enter 97 args) w:=enters_of Tryz.func97 (by kernel_rfl) rfl
 have eS:∀ args w,(callFunc 98 args).run Tryz.prog w = .ok (.enter 98 args) w:=enters_of Tryz.func98 (by kernel_rfl) rfl
 have eI:∀ args w,(callFunc 99 args).run Tryz.prog w = .ok (.enter 99 args) w:=enters_of Tryz.func99 (by kernel_rfl) rfl
 go_enter Tryz.func63,Tryz.ntmps63
 go_wp2
 go_step3
 go_wp2
 try go_step3
 try go_wp2
 go_loopw [0,1] (λva vb wr=>∃ (x y:ByteArray) (n:Nat),va = .string x/\vb = .string y/\x.size<=1000000000/\y.size<=1000000000/\wr=w.drewN n/\Hid (O6 a.data.toList b.data.toList=O6 x.data.toList y.data.toList)) (λva _ _=>match va with | .string x=>x.size | _=>0)
 case atStart=>exact ⟨a,b,0,rfl,rfl,ha,hb,rfl,rfl⟩
 case round=>
  obtain ⟨x,y,n,rfl,rfl,hx,hy,hwr,hh⟩:=hrel
  obtain ⟨i,hi⟩:∃ i,i=G4 46 x.data.toList:=⟨_,rfl⟩
  obtain ⟨k,hk⟩:∃ k,k=G4 46 y.data.toList:=⟨_,rfl⟩
  have hxl:x.data.toList.length=x.size:=by rw [Array.length_toList];rfl
  have hyl:y.data.toList.length=y.size:=by rw [Array.length_toList];rfl
  have hi1:-1<=i/\i<x.size:=by rcases Ol x.data.toList with ⟨h,_⟩ | ⟨h,h',_⟩<;>omega
  have hk1:-1<=k/\k<y.size:=by rcases Ol y.data.toList with ⟨h,_⟩ | ⟨h,h',_⟩<;>omega
  obtain ⟨hi1,hi2⟩:=hi1
  obtain ⟨hk1,hk2⟩:=hk1
  have wx:∀ w,Calls Tryz.prog 97 #[.string x,.int .u8 46] w λe w'=>e = .returned (.int .i64 i)/\w'=w:=by rw [hi];exact Av6 x (by omega)
  have wy:∀ w,Calls Tryz.prog 97 #[.string y,.int .u8 46] w λe w'=>e = .returned (.int .i64 k)/\w'=w:=by rw [hk];exact Av6 y (by omega)
  have HI:Hid (i=G4 46 x.data.toList):=hi
  have HK:Hid (k=G4 46 y.data.toList):=hk
  have HW:Hid (wr=w.drewN n):=hwr
  clear hi hk hxl hyl hwr
  go_wp2_with (go_at_fn 97;refine (wx _).mono ?_;rintro e w' ⟨rfl,hw⟩;rw [hw])
  clear wx
  go_wp2_with (go_at_fn 97;refine (wy _).mono ?_;rintro e w' ⟨rfl,hw⟩;rw [hw])
  clear wy
  have ei:IntKind.i64.wrap (i+1)=i+1:=by simp [IntKind.wrap,IntKind.bits,IntKind.signed];omega
  have ek:IntKind.i64.wrap (k+1)=k+1:=by simp [IntKind.wrap,IntKind.bits,IntKind.signed];omega
  have s1:=MW x (i+1) (by omega) (by omega)
  have s2:=MW y (k+1) (by omega) (by omega)
  go_quiet (first | (go_at_call 98;exact Calls.quiet_of_same (Bp1 _ _ _)))
  rw [JP,JP]
  obtain ⟨c,hc⟩:∃ c,c=S8 (x.data.toList.drop (i+1).toNat) (y.data.toList.drop (k+1).toNat):=⟨_,rfl⟩
  rw [<-hc]
  have HC:Hid (c=S8 (x.data.toList.drop (i+1).toNat) (y.data.toList.drop (k+1).toNat)):=hc
  clear hc s1 s2 ei ek eS
  obtain ⟨w2,hw2⟩:∃ w2,w2=wr.drewN nq:=⟨_,rfl⟩
  rw [<-hw2]
  have HW2:Hid (w2=w.drewN (n+nq)):=by rw [hw2,HW.out,World.drewN_drewN];rfl
  clear hw2
  generalize n+nq=n2 at HW2
  have FIN:Hid (∀ v,v=O6 x.data.toList y.data.toList->(Ending.returned (.int .i64 v)=Ending.returned (.int .i64 (O6 a.data.toList b.data.toList))/\∃ m,w2=w.drewN m)):=λv hv=>⟨by rw [hh.out,hv],n2,HW2.out⟩
  have st:=Am1 x.data.toList y.data.toList i k HI.out HK.out
  rw [<-HC.out] at st
  have ST:Hid (_/\_/\_):=st
  clear st
  go_wp2_with (go_at_fn 99;refine (Bp0 _ _ _).mono ?_;rintro e w' ⟨rfl,hw⟩;rw [hw])
  ·have hc0:c≠0:=by simpa using ‹(c != 0)=true›
   simp only [Exit.noGoto_ret]
   go_ret
   exact FIN.out _ (ST.out.1 hc0).symm
  ·have hc0:c=0:=by simpa using ‹(c != 0)=false›
   simp only [Exit.noGoto_ret]
   go_ret
   exact FIN.out _ (ST.out.2.1 hc0 (by omega)).symm
  ·have hc0:c=0:=by simpa using ‹(c != 0)=false›
   have s3:=Au6 x i (by omega) (by omega)
   have s4:=Au6 y k (by omega) (by omega)
   have E:=ST.out.2.2 hc0 (by omega) (by omega)
   have HE:Hid (O6 x.data.toList y.data.toList=O6 (x.data.toList.take i.toNat) (y.data.toList.take k.toNat)):=E
   clear E
   go_quiet (fail)
   go_wp2
   go_roundw
   case rel=>exact ⟨x.extract 0 i.toNat,y.extract 0 k.toNat,n2+nq,rfl,rfl,by simp [ByteArray.size_extract];omega,by simp [ByteArray.size_extract];omega,by rw [HW2.out,World.drewN_drewN],by rw [hh.out,HE.out,An6,An6];rfl⟩
   case measure=>simp [ByteArray.size_extract];omega
  ·have hc0:c=0:=by simpa using ‹(c != 0)=false›
   simp only [Exit.noGoto_ret]
   go_ret
   exact FIN.out _ (ST.out.2.1 hc0 (by omega)).symm
theorem Ao4 (w:World) (A B:Obj) (n:Nat):((w.alloc A).alloc B).drewN n=Sort.grow (w.drewN n) #[A,B]:=by
 have h:(w.heap.push A).push B=w.heap++#[A,B]:=by apply Array.toList_inj.1;simp
 show ({ (w.drewN n) with heap:=(w.heap.push A).push B }:World) = { (w.drewN n) with heap:=w.heap++#[A,B] }
 rw [h]
theorem Bj4 (a b:ByteArray) (p q:Bool) (ha:a.size<=1000000000) (hb:b.size<=1000000000) (w:World):Calls Tryz.prog 62 #[.agg #[.string a,.bool p],.agg #[.string b,.bool q]] w λe w'=>e = .returned (.int .i64 (O6 a.data.toList b.data.toList))/\∃ n os,w'=Sort.grow (w.drewN n) os:=by
 have eC:∀ args w,(callFunc 63 args).run Tryz.prog w = .ok (.enter 63 args) w:=enters_of Tryz.func63 (by kernel_rfl) rfl
 go_enter Tryz.func62,Tryz.ntmps62
 go_wp2_with (go_at_fn 63;refine (Bj5 _ _ ha hb _).mono ?_;rintro e w' ⟨rfl,m0,hw⟩;rw [hw])
 go_ret
 refine ⟨rfl,m0,#[.cells #[.string a,.bool p] 63,.cells #[.string b,.bool q] 63],?_⟩
 exact Ao4 _ _ _ _
end
end Go.Proofs.YtelhbgonncceeaaGreatDoor.E
namespace Go.Proofs
open Go.Shelf
def Tryz.sortEnt_ren:Go.Shelf.Ren:=⟨fun | 6=>61 | 15=>96 | 14=>95 | 28=>140 | 29=>141 | 20=>132 | 21=>133 | 22=>134 | 23=>135 | 24=>136 | 25=>137 | 26=>138 | 27=>139 | 46=>171 | 47=>172 | 48=>173 | 49=>174 | 50=>175 | 57=>190 | n=>n,fun | 22=>23 | 24=>63 | 25=>103 | 3=>3 | 39=>139 | 0=>0 | 53=>24 | 55=>168 | 4=>4 | 46=>161 | 45=>160 | 50=>84 | 5=>5 | 9=>9 | 66=>182 | 70=>186 | 76=>201 | 77=>202 | n=>n,fun | n=>n⟩
theorem Tryz.sortEnt:Go.Proofs.SlLaysF0.n6 Tryz.prog Tryz.sortEnt_ren:={
 mixed:=by kernel_rfl
 f6:=⟨Tryz.f61.name,by decide,Tryz.func61.trans (congrArg some (by kernel_rfl))⟩
 f14:=⟨Tryz.f95.name,by decide,Tryz.func95.trans (congrArg some (by kernel_rfl))⟩
 f15:=Tryz.func96.trans (congrArg some (by kernel_rfl))
 f20:=⟨Tryz.f132.name,by decide,Tryz.func132.trans (congrArg some (by kernel_rfl))⟩
 f21:=⟨Tryz.f133.name,by decide,Tryz.func133.trans (congrArg some (by kernel_rfl))⟩
 f22:=⟨Tryz.f134.name,by decide,Tryz.func134.trans (congrArg some (by kernel_rfl))⟩
 f23:=⟨Tryz.f135.name,by decide,Tryz.func135.trans (congrArg some (by kernel_rfl))⟩
 f24:=⟨Tryz.f136.name,by decide,Tryz.func136.trans (congrArg some (by kernel_rfl))⟩
 f25:=⟨Tryz.f137.name,by decide,Tryz.func137.trans (congrArg some (by kernel_rfl))⟩
 f26:=⟨Tryz.f138.name,by decide,Tryz.func138.trans (congrArg some (by kernel_rfl))⟩
 f27:=⟨Tryz.f139.name,by decide,Tryz.func139.trans (congrArg some (by kernel_rfl))⟩
 f28:=Tryz.func140.trans (congrArg some (by kernel_rfl))
 f29:=Tryz.func141.trans (congrArg some (by kernel_rfl))
 f46:=⟨Tryz.f171.name,by decide,Tryz.func171.trans (congrArg some (by kernel_rfl))⟩
 f47:=Tryz.func172.trans (congrArg some (by kernel_rfl))
 f48:=Tryz.func173.trans (congrArg some (by kernel_rfl))
 f49:=⟨Tryz.f174.name,by decide,Tryz.func174.trans (congrArg some (by kernel_rfl))⟩
 f50:=⟨Tryz.f175.name,by decide,Tryz.func175.trans (congrArg some (by kernel_rfl))⟩
 f57:=⟨Tryz.f190.name,by decide,Tryz.func190.trans (congrArg some (by kernel_rfl))⟩
 t0:=Tryz.underlying0
 a0:=Tryz.isAgg0
 z0:=Tryz.sizeOf0
 v0:=Tryz.zeroValue0
 t3:=Tryz.underlying3
 a3:=Tryz.isAgg3
 z3:=Tryz.sizeOf3
 v3:=Tryz.zeroValue3
 t4:=Tryz.underlying4
 a4:=Tryz.isAgg4
 z4:=Tryz.sizeOf4
 v4:=Tryz.zeroValue4
 t5:=Tryz.underlying5
 a5:=Tryz.isAgg5
 z5:=Tryz.sizeOf5
 v5:=Tryz.zeroValue5
 t9:=Tryz.underlying9
 a9:=Tryz.isAgg9
 z9:=Tryz.sizeOf9
 v9:=Tryz.zeroValue9
 t22:=Tryz.underlying23
 a22:=Tryz.isAgg23
 z22:=Tryz.sizeOf23
 v22:=Tryz.zeroValue23
 t25:=Tryz.underlying103
 a25:=Tryz.isAgg103
 z25:=Tryz.sizeOf103
 v25:=Tryz.zeroValue103
 t39:=Tryz.underlying139
 a39:=Tryz.isAgg139
 z39:=Tryz.sizeOf139
 v39:=Tryz.zeroValue139
 t45:=Tryz.underlying160
 a45:=Tryz.isAgg160
 z45:=Tryz.sizeOf160
 v45:=Tryz.zeroValue160
 t46:=Tryz.underlying161
 a46:=Tryz.isAgg161
 z46:=Tryz.sizeOf161
 v46:=Tryz.zeroValue161
 t50:=Tryz.underlying84
 a50:=Tryz.isAgg84
 z50:=Tryz.sizeOf84
 v50:=Tryz.zeroValue84
 t53:=Tryz.underlying24
 a53:=Tryz.isAgg24
 z53:=Tryz.sizeOf24
 v53:=Tryz.zeroValue24
 t55:=Tryz.underlying168
 a55:=Tryz.isAgg168
 z55:=Tryz.sizeOf168
 v55:=Tryz.zeroValue168
 t66:=Tryz.underlying182
 a66:=Tryz.isAgg182
 z66:=Tryz.sizeOf182
 v66:=Tryz.zeroValue182
 t70:=Tryz.underlying186
 a70:=Tryz.isAgg186
 z70:=Tryz.sizeOf186
 v70:=Tryz.zeroValue186
 t76:=Tryz.underlying201
 a76:=Tryz.isAgg201
 z76:=Tryz.sizeOf201
 v76:=Tryz.zeroValue201
 t77:=Tryz.underlying202
 a77:=Tryz.isAgg202
 z77:=Tryz.sizeOf202
 v77:=Tryz.zeroValue202 }
end Go.Proofs
namespace Go.Proofs.YtelhbgonncceeaaGreatDoor.E
set_option linter.all false
section
open Go Go.Proofs Go.RowKit Go.Sort
set_option maxRecDepth 100000
abbrev cfE:Ls->Ls->Int:=λx y=>O6 x.1.1 y.1.1
def Oc (e:Ls):List Value:=[.string ⟨e.1.1.toArray⟩,.bool e.1.2]
theorem Am0 (blk off size:Nat) (w:World):CmpLays Tryz.prog 62 #[] Oc 2 cfE blk off size w:=by
 intro m os dk hs x y
 have h:=Bj4 ⟨x.1.1.toArray⟩ ⟨y.1.1.toArray⟩ x.1.2 y.1.2 (by have:=x.2;simpa [ByteArray.size] using this) (by have:=y.2;simpa [ByteArray.size] using this) (sortWorldK Oc 2 w blk off m dk os)
 exact h
theorem As1 {w:World} {blk e:Nat} {cur:Array Value} {fr:Nat × Nat} (h:w.heap[blk]? = some (.cells cur e fr)) (d:Array Ls) :
  (putRowK Oc 2 w blk 0 d).heap[blk]? = some (.cells (putCells id 0 (flatK Oc 2 d) cur) e fr)/\(∀ k,k≠blk->(putRowK Oc 2 w blk 0 d).heap[k]? = w.heap[k]?):=by
 unfold putRowK putRow mapBlock
 constructor
 ·simp only [Array.getElem?_modify,if_true,h,Option.map_some,onCells]
 ·intro k hk
  simp only [Array.getElem?_modify]
  rw [if_neg (λe=>hk e.symm)]
theorem A74 {cur:Array Value} {d:Array Ls} {i j:Nat} (hi:i<d.size) (hj:j<2) (hs:d.size*2<=cur.size):(putCells id 0 (flatK Oc 2 d) cur)[i*2+j]? = some ((Oc d[i]!)[j]!):=by
 have hlt:i*2+j<d.size*2:=by omega
 have hc:i*2+j<cur.size:=by omega
 unfold putCells
 rw [Array.getElem?_mapIdx,Array.getElem?_eq_getElem hc]
 simp only [Option.map_some,size_flatK,Nat.zero_le,true_and,Nat.zero_add,hlt,if_true,Nat.sub_zero,id]
 rw [get_flatK _ _ _ _ hlt,show (i*2+j) / 2=i by omega,show (i*2+j) % 2=j by omega]
theorem IF:IR Tryz.prog 61 Lw:=by
 intro St w x X els hx h
 generalize hp:Lw x els=pr at h ⊢
 obtain ⟨b,L⟩:=pr
 dsimp only at h ⊢
 unfold Lw at hp
 split at hp
 case h_2=>
  obtain ⟨rfl,_⟩:=Prod.mk.inj hp
  cases h
 have eX:X = .func (.func 62) #[] #[]:=by
  cases hx with
  | fn _ _ _ A B As Bs _ hA hB _ _ _ _=>
   have:A = #[]:=by simpa using hA
   have:B = #[]:=by simpa using hB
   simp_all
 subst eX
 obtain ⟨hb,hL⟩:=Prod.mk.inj hp
 rw [<-hb] at h
 simp only [Bool.and_eq_true] at h
 obtain ⟨h0,h1,h2⟩:=h
 have none':∀ (p:Option Addr) cap,K8 Tryz.prog ((callFunc 61 #[.slice p 0 cap,.func (.func 62) #[] #[]]).run Tryz.prog w) λV w'=>V=undef/\w'=w:=λp cap=>
  Ar (fn:=Tryz.f61) (by kernel_rfl) (by kernel_rfl) (by kernel_rfl) ((AnyF.slices_SortFunc_none Tryz.sortEnt p cap _ w).mono λe w' ⟨he,hw⟩=>⟨_,he,rfl,hw⟩)
 obtain ⟨E,rfl⟩:∃ E,els=C4 E:=⟨_,Bx h0⟩
 rw [Uj] at hL
 subst hL
 have hsm:=Au3 h1
 have hlen:=(Dw hsm).length_eq
 refine ⟨λhn=>?_,?_⟩
 ·have hE:E=[]:=by
   cases E with
   | nil=>rfl
   | cons a r=>cases hn
  subst hE
  refine (none' none 0).mono λV w' ⟨hv,hw⟩=>⟨hv,?_,hw ▸ J2.refl _⟩
  have:R4 []=[]:=List.length_eq_zero_iff.1 hlen
  rw [this];rfl
 intro g0 cur e sz cap hg hcs hle hcap hst hlt hsz hcells
 by_cases hn:E=[]
 ·subst hn
  have hs0:R4 []=[]:=List.length_eq_zero_iff.1 hlen
  refine (none' _ cap).mono λV w' ⟨hv,hw⟩=>?_
  rw [hw]
  rw [hs0]
  exact ⟨hv,rfl,w,cur,hg,rfl,λ_ _=>rfl,rfl,rfl,rfl,rfl,λi h=>absurd h (Nat.not_lt_zero _),λi h=>absurd h (Nat.not_lt_zero _),J2.refl _⟩
 have hE:0<E.length:=List.length_pos_iff.2 hn
 have hel:∀ i (h:i<(C4 E).length),(C4 E)[i]=Mt (E[i]'(by simpa using h)):=λi h=>by simp [C4]
 have hs2:sz=2:=by
  have:=hsz 0 (by simpa using hE)
  rw [<-this,hel];rfl
 subst hs2
 obtain ⟨d,hd⟩:∃ d,(E.map mkS).toArray=d:=⟨_,rfl⟩
 have dsz:d.size=E.length:=by rw [<-hd];simp
 have dval:∀ i (hi:i<E.length),(d[i]!).1=E[i]:=λi hi=>by
  subst hd
  rw [getElem!_pos _ _ (by simpa using hi)]
  simp only [List.getElem_toArray,List.getElem_map]
  exact XQ (hsm _ (List.getElem_mem hi))
 have hcell:∀ t,t<d.size*2->cur[t]? = some ((Oc d[t / 2]!)[t % 2]!):=λt ht=>by
  have hi:t / 2<E.length:=by omega
  have hi':t / 2<(C4 E).length:=by simpa using hi
  have hl:((C4 E)[t / 2]).length=2:=by rw [hel];rfl
  obtain ⟨V,hV,hs⟩:=hcells (t / 2) hi' (t % 2) (by rw [hl];omega)
  rw [show t / 2*2+t % 2=t by omega] at hV
  have hx:((C4 E)[t / 2][t % 2]'(by rw [hl];omega))=(Mt E[t / 2])[t % 2]'(by show t % 2<2;omega):=by simp only [hel]
  rw [hx] at hs
  rw [hV]
  have dv:=dval _ hi
  rcases (show t % 2=0\/t % 2=1 by omega) with h | h
  ·have hs:VS St w (.str (E[t / 2]).1) V:=by simpa [h,Mt] using hs
   obtain ⟨s,hV2,hs2⟩:=hs.inv_str
   rw [hV2,h]
   show _=some (Value.string ⟨(d[t / 2]!).1.1.toArray⟩)
   rw [dv,<-hs2]
  ·have hs:VS St w (.bool (E[t / 2]).2) V:=by simpa [h,Mt] using hs
   rw [hs.inv_bool,h]
   show _=some (Value.bool (d[t / 2]!).1.2)
   rw [dv]
 have hH:HoldsK Oc 2 w g0 0 d:=λj hj=>by
  have hj':j<d.size*2:=by simpa using hj
  constructor
  ·simp only [World.cell?,hg,Nat.zero_add]
   rw [get_flatK _ _ _ _ hj']
   exact hcell j hj'
  ·simp [World.frozen?,hg]
 have hblk:g0<w.heap.size:=(Array.getElem?_eq_some_iff.1 hg).1
 have eg:∀ args w,(callFunc 62 args).run Tryz.prog w = .ok (.enter 62 args) w:=enters_of Tryz.func62 (by kernel_rfl) rfl
 have hm:cap<=9223372036854775807:=hcap
 have h2:(A3 (C4 E).length)=true:=h2
 have hb:d.size<4611686018427387904:=by
  have:=M7 h2
  rw [B3] at this
  omega
 have hh:=AnyQ.slices_SortFunc_eq Tryz.sortEnt 2 (λw=>by kernel_rfl) (λw=>by kernel_rfl) Oc (λ_=>rfl) (λx v hv=>by simp [Oc] at hv;rcases hv with rfl | rfl<;>rfl) cfE (MY λx:Ls=>x.1.1) 62 #[] g0 0 cap d w eg (Am0 g0 0 d.size w) hH hblk hb
 have hsrt:=Zb d
 have hS:R4 E=(Fm d).toList.map (·.1):=by unfold R4;rw [hd]
 have ssz:(Fm d).size=d.size:=hsrt.2.1
 rw [show (C4 E).length=d.size by rw [B3,dsz]]
 refine Ar (fn:=Tryz.f61) (by kernel_rfl) (by kernel_rfl) (by kernel_rfl) (hh.mono λe' w' ⟨he,n,os,hw⟩=>⟨_,he,rfl,by rw [B3,hlen,dsz],?_⟩)
 have hcur:cur.size=cap*2:=hcs
 have hcap2:d.size*2<=cur.size:=by
  have:(C4 E).length<=cap:=hle
  rw [B3] at this
  omega
 obtain ⟨p1,p2⟩:=As1 hg (Fm d)
 have hel2:∀ i (h:i<(C4 (R4 E)).length),(C4 (R4 E))[i]=Mt ((Fm d)[i]!).1:=λi h=>by
  have hi:i<(Fm d).size:=by rw [B3,hlen] at h;omega
  rw [getElem!_pos (Fm d) i hi]
  simp [C4,hS]
 refine ⟨putRowK Oc 2 w g0 0 (Fm d),putCells id 0 (flatK Oc 2 (Fm d)) cur,p1,by simp [putCells],p2,by simp [putRowK,putRow,mapBlock],rfl,rfl,rfl,λi h=>by rw [hel2];rfl,λi h j h'=>?_,?_⟩
 ·have hl:((C4 (R4 E))[i]).length=2:=by rw [hel2];rfl
  have hj:j<2:=by rw [<-hl];exact h'
  have hi:i<(Fm d).size:=by rw [B3,hlen] at h;omega
  refine ⟨_,A74 hi hj (by omega),?_⟩
  have hx:(C4 (R4 E))[i][j]=(Mt ((Fm d)[i]!).1)[j]'(by show j<2;exact hj):=by simp only [hel2]
  rw [hx]
  rcases (show j=0\/j=1 by omega) with rfl | rfl
  ·have:=VS.str (St:=St) (w:=putRowK Oc 2 w g0 0 (Fm d)) ⟨((Fm d)[i]!).1.1.toArray⟩
   exact this
  ·exact VS.bool _
 ·rw [hw]
  refine ⟨⟨λg hgl=>heap_grow_old _ _ hgl,by simp only [sortWorldK,grow,Array.size_append];exact Nat.le_add_right _ _⟩,rfl,rfl,rfl⟩
end
section
open Go Go.Proofs Go.Sort
set_option maxRecDepth 100000
theorem Bc6:IJ Tryz.prog GX 76 DD:=by
 refine Tv (C₀:=Kj LF) ((K3.ok (l:=[(59,VR),(50,EP)]) rfl ⟨Be6,Ax4,trivial⟩)) (F5 rfl (by kernel_rfl)) follows ?_
 intro args H L h σ yh s s' hr
 unfold DD at h
 split at h
 ·rename_i t
  simp only [Option.some.injEq,Prod.mk.injEq] at h
  obtain ⟨h1,rfl⟩:=h
  obtain ⟨t',f⟩:=QH (R:=PV × List Blk × σ) yh t s s' h1 hr
  exact ⟨1,_,(Ao7 LF yh 0 t s).trans (f _)⟩
 ·cases h
end
section
open Go Go.Proofs
set_option maxRecDepth 100000
section
theorem Bk7:B4 Tryz.prog GX 26 DN:=by
 refine B4.fix (pf:=Gq) _ (Zj [0,0] [2] (C₀:=Jb LF) (Ay0 (lx:=[(57,Vb),(60,Lv)]) (ly:=[]) (ls:=[]) (lz:=[(61,Lw)]) rfl rfl rfl rfl ⟨VI,IC,trivial⟩ trivial trivial ⟨IF,trivial⟩) (F5 rfl (by kernel_rfl)) follows ?_)
 intro args ret Hc h
 unfold Gq at h
 split at h
 ·rename_i l_z l_t l
  obtain ⟨h0,h⟩:=C0 h
  obtain ⟨h1,h⟩:=C0 h
  obtain ⟨h2,h⟩:=C0 h
  obtain ⟨h3,h⟩:=C0 h
  rcases Px h with ⟨h4,h⟩ | ⟨h4,h⟩
  ·skip
   obtain ⟨rfl,rfl⟩:=G7 h
   obtain ⟨rr,hH,ee,qq⟩:=XH l_z l_t l h0 h1 h2 h3 h4
   exact ⟨rfl,rfl,rfl,1,rr,hH,(Ul LF noY () 0 l_z l_t l).trans ee,qq⟩
  ·skip
   obtain ⟨rfl,rfl⟩:=G7 h
   obtain ⟨rr,hH,ee,qq⟩:=XH l_z l_t l h0 h1 h2 h3 h4
   exact ⟨rfl,rfl,rfl,1,rr,hH,(Ul LF noY () 0 l_z l_t l).trans ee,qq⟩
 ·cases h
end
section
variable {σ R : Type} (lf : Nat) (cl : D5) (yh : Yh σ) (s : σ) (k : Out -> St σ -> Option R)
noncomputable def Wl (lf:Nat):Cfg:=C6 lf [165] (A5 []) [] (A5 [(1,[2]),(0,[0])]) [] (A5 []) (some [2]) [] [] []
noncomputable def HM {R:Type} (lf:Nat) (n0:Int) (k0:Bool->Option R):Option R:=cond (not (ltI n0 0)) (cond (not (ltI 1114111 n0)) (cond (ltI n0 55296) (k0 true) (k0 (ltI 57343 n0))) (k0 false)) (k0 false)
theorem Ae8 (d:Nat) (n0):evC (Wl lf) (d+1) σ yh 165 [pI n0] [] s=HM lf n0 (λr0=>some (pB r0,[],s)):=by
 refine (evE (fn:=Tryz.f165) (by kernel_rfl)).trans ?_
 generalize evC (Wl lf) d=cl
 unfold HM;kernel_rfl
noncomputable abbrev Iy:Code:=E1 Tryz.f168
noncomputable def Q9 (lf:Nat):Cfg:=C6 lf [168] (A5 [(6,[0,5,0])]) [] (A5 [(9,[6]),(8,[0,6]),(7,[0,6]),(6,[0,6,11]),(5,[0,6]),(4,[0]),(2,[0,0]),(3,[0,0]),(1,[0,0,6]),(0,[0,0,0])]) [] (A5 [(0,[0,6]),(1,[0,6])]) (some [6]) [] [] []
noncomputable def Cs {R:Type} (lf n:Nat) (delta0 kk1:Int) (k0:Int->Int->Option R):Option R:=match n with | 0=>none | n+1=>cond (ltI 455 delta0) (vl (A1 (Int.tdiv delta0 (35:Int))) λn'6=>vl (A1 (kk1+36)) λn'7=>Cs lf n n'6 n'7 k0) (k0 delta0 kk1)
theorem GY (n delta0 kk1):D6 0 ((Q9 lf).keep 6) (bd (Q9 lf) cl yh (cd [1,1,1,1,0,0,0] Iy)) n ⟨gp [(0,pI delta0),(6,pI kk1)] 23,[],s⟩ k =
 Cs lf n delta0 kk1 (λdelta0 kk1=>k (.exit 0) ⟨gp [(0,pI delta0),(6,pI kk1)] 23,[],s⟩):=by
 induction n generalizing delta0 kk1 with
 | zero=>rfl
 | succ n ih=>rw [Cs];simp only [<-ih];kernel_rfl
noncomputable def Cr {R:Type} (lf:Nat) (delta0 n1:Int) (k0:Int->Option R):Option R:=cond (n1 != 0) (vl (A1 (Int.tdiv delta0 n1)) λn'5=>Cs lf lf (A1 (delta0+n'5)) 0 (λdelta'8 kk'9=>vl (A1 ((36:Int)*delta'8)) λn'10=>vl (A1 (delta'8+38)) λn'11=>cond (n'11 != 0) (vl (A1 (Int.tdiv n'10 n'11)) λn'12=>k0 (A1 (kk'9+n'12))) none)) none
abbrev Tn (b:Code):Prop:=∀ (k:Out->St σ->Option R) delta0 n1,B2 (Q9 lf) cl yh b ⟨gp [(0,pI delta0),(0,pI n1)] 29,[],s⟩ k=Cr lf delta0 n1 (λn0=>k .ret ⟨gp [(6,pI n0)] 24,[],s⟩)
theorem GW:Tn (R:=R) lf cl yh s (cd [1,1] Iy):=by
 intro k delta0 n1;unfold Cr;exact (Eq.trans (by kernel_rfl) (A0 (A7 λn'5=>((GY lf cl yh s (G3 0 (G9 (Q9 lf) cl yh (cd [1,1,1,1,1] Iy) k)) lf (A1 (delta0+n'5)) 0).trans (by kernel_rfl))) rfl))
noncomputable def Yi {R:Type} (lf:Nat) (delta0 n1:Int) (first2:Bool) (k0:Int->Option R):Option R:=cond first2 (vl (A1 (Int.tdiv delta0 (700:Int))) λn'2=>Cr lf n'2 n1 (λn'13=>k0 n'13)) (vl (A1 (Int.tdiv delta0 (2:Int))) λn'3=>Cr lf n'3 n1 (λn'14=>k0 n'14))
theorem Ad4 (b_11:Code) (h_radapt_j0:Tn (R:=PV × List Blk × σ) lf cl yh s b_11) (delta0 n1:Int) (first2:Bool):B2 (Q9 lf) cl yh (cd [] (P5 [1,1] b_11 Iy)) ⟨[pI delta0,pI n1,pB first2]++tps 28,[],s⟩ (I8 (Q9 lf) Tryz.f168)=Yi lf delta0 n1 first2 (λr0=>some (pI r0,[],s)):=by
 unfold Yi;exact let K0:=(I8 (Q9 lf) Tryz.f168);(Eq.trans (by kernel_rfl) (A0 (A7 λn'2=>((h_radapt_j0 K0 n'2 n1).trans (by kernel_rfl))) (A7 λn'3=>((h_radapt_j0 K0 n'3 n1).trans (by kernel_rfl)))))
theorem Ad5 (d:Nat) (delta0 n1 first2):evC (Q9 lf) (d+1) σ yh 168 [pI delta0,pI n1,pB first2] [] s=Yi lf delta0 n1 first2 (λr0=>some (pI r0,[],s)):=
 (evE (fn:=Tryz.f168) (by kernel_rfl)).trans (Eq.trans (by kernel_rfl) (Ad4 lf (evC (Q9 lf) d) yh s (cd [1,1] Iy) (GW lf (evC (Q9 lf) d) yh s) delta0 n1 first2))
noncomputable def PD (lf:Nat):Cfg:=C6 lf [166] (A5 []) [] (A5 [(1,[4]),(0,[0,0])]) [] (A5 []) (some [4]) [] [] []
noncomputable def A89 {R:Type} (lf:Nat) (kk0 bias1:Int) (k0:Int->Option R):Option R:=vl (A1 ((36:Int)*(A1 (kk0+1)))) λn'0=>vl (if ((if ((A1 (n'0-bias1))<(26:Int)) then (A1 (n'0-bias1)) else (26:Int)) > (1:Int)) then (if ((A1 (n'0-bias1))<(26:Int)) then (A1 (n'0-bias1)) else (26:Int)) else (1:Int)) λn'1=>k0 n'1
theorem A90 (d:Nat) (kk0 bias1):evC (PD lf) (d+1) σ yh 166 [pI kk0,pI bias1] [] s=A89 lf kk0 bias1 (λr0=>some (pI r0,[],s)):=by
 refine (evE (fn:=Tryz.f166) (by kernel_rfl)).trans ?_
 generalize evC (PD lf) d=cl
 unfold A89;kernel_rfl
noncomputable def FN (lf:Nat):Cfg:=C6 lf [167] (A5 []) [] (A5 [(3,[2]),(2,[2]),(1,[0,3]),(0,[0])]) [] (A5 []) (some [2]) [] [] []
noncomputable def XW {R:Type} (lf:Nat) (d0:Int) (k0:Int->Option R):Option R:=cond (ltI d0 26) (vl (wu8 (A1 ((97:Int)+d0))) λn'0=>k0 n'0) (vl (A1 ((A1 ((48:Int)+d0))-26)) λn'1=>k0 (wu8 n'1))
theorem As4 (d:Nat) (d0):evC (FN lf) (d+1) σ yh 167 [pI d0] [] s=XW lf d0 (λr0=>some (p8 r0,[],s)):=by
 refine (evE (fn:=Tryz.f167) (by kernel_rfl)).trans ?_
 generalize evC (FN lf) d=cl
 unfold XW;kernel_rfl
noncomputable abbrev Mh:Code:=E1 Tryz.f176
noncomputable def Ez (lf:Nat):Cfg:=C6 lf [176] (A5 []) [] (A5 [(7,[2]),(2,[2]),(4,[2]),(6,[2]),(5,[0,22]),(3,[0,12]),(1,[0,2]),(0,[0])]) [] (A5 [(0,[])]) (some [2]) [] [] []
noncomputable def Pn {R:Type} (b0:Int) (b1:Bool) (k0:Int->Option R) (k1:Int->Bool->Option R):Option R:=cond b1 (vl (A1 (wu8 (b0-65))) λn'1=>k0 n'1) (cond (not (ltI b0 48)) (cond (not (ltI 57 b0)) (vl (A1 (wu8 (b0-48))) λn'2=>vl (A1 (n'2+26)) λn'3=>k0 n'3) (k1 b0 (not (ltI 57 b0)))) (k1 b0 false))
abbrev CE (b:Code):Prop:=∀ (k:Out->St σ->Option R) b0 b1,B2 (Ez lf) cl yh b ⟨gp [(0,p8 b0),(12,pB b1)] 20,[],s⟩ k=Pn b0 b1 (λn0=>k .ret ⟨gp [(2,pI n0)] 31,[],s⟩) (λb0 b1=>k .normal ⟨gp [(0,p8 b0),(22,pB b1)] 10,[],s⟩)
theorem UO:CE (R:=R) lf cl yh s (cd [1,0,0,1,1,1] Mh):=by
 intro k b0 b1;unfold Pn;kernel_rfl
noncomputable def Po {R:Type} (b0:Int) (b1:Bool) (k0:Int->Option R) (k1:Int->Bool->Option R):Option R:=cond b1 (vl (A1 (wu8 (b0-97))) λn'0=>k0 n'0) (cond (not (ltI b0 65)) (Pn b0 (not (ltI 90 b0)) (λn'4=>k0 n'4) (λb'5 b'6=>k1 b'5 b'6)) (Pn b0 false (λn'7=>k0 n'7) (λb'8 b'9=>k1 b'8 b'9)))
abbrev Sj (b:Code):Prop:=∀ (k:Out->St σ->Option R) b0 b1,B2 (Ez lf) cl yh b ⟨gp [(0,p8 b0),(2,pB b1)] 30,[],s⟩ k=Po b0 b1 (λn0=>k .ret ⟨gp [(2,pI n0)] 31,[],s⟩) (λb0 b1=>k .normal ⟨gp [(0,p8 b0),(22,pB b1)] 10,[],s⟩)
theorem UP (b_100111:Code) (h_rval_j0:CE (R:=R) lf cl yh s b_100111):Sj (R:=R) lf cl yh s (cd [1,0,0,1] (P5 [1,0,0,1,1,1] b_100111 Mh)):=by
 intro k b0 b1;unfold Po;simp only [<-h_rval_j0 k];kernel_rfl
theorem UQ:Sj (R:=R) lf cl yh s (cd [1,0,0,1] Mh):=by
 intro k b0 b1;exact Eq.trans (by kernel_rfl) (UP lf cl yh s (cd [1,0,0,1,1,1] Mh) (UO lf cl yh s) k b0 b1)
noncomputable def At9 {R:Type} (lf:Nat) (b0:Int) (k0:Int->Option R):Option R:=cond (not (ltI b0 97)) (Po b0 (not (ltI 122 b0)) (λn'10=>k0 n'10) (λb'11 b'12=>k0 (-1))) (Po b0 false (λn'13=>k0 n'13) (λb'14 b'15=>k0 (-1)))
theorem A91 (b_1001:Code) (h_rval_j1:Sj (R:=PV × List Blk × σ) lf cl yh s b_1001) (b0:Int):B2 (Ez lf) cl yh (cd [] (P5 [1,0,0,1] b_1001 Mh)) ⟨[p8 b0]++tps 33,[],s⟩ (I8 (Ez lf) Tryz.f176)=At9 lf b0 (λr0=>some (pI r0,[],s)):=by
 unfold At9;exact let K0:=(G3 0 (G9 (Ez lf) cl yh (cd [1,1] Mh) (I8 (Ez lf) Tryz.f176)));(Eq.trans (by kernel_rfl) (A0 ((h_rval_j1 K0 b0 (not (ltI 122 b0))).trans (by kernel_rfl)) ((h_rval_j1 K0 b0 false).trans (by kernel_rfl))))
theorem A92 (d:Nat) (b0):evC (Ez lf) (d+1) σ yh 176 [p8 b0] [] s=At9 lf b0 (λr0=>some (pI r0,[],s)):=
 (evE (fn:=Tryz.f176) (by kernel_rfl)).trans (Eq.trans (by kernel_rfl) (A91 lf (evC (Ez lf) d) yh s (cd [1,0,0,1] Mh) (UQ lf (evC (Ez lf) d) yh s) b0))
noncomputable abbrev X9:Code:=E1 Tryz.f125
noncomputable def J5 (lf:Nat):Cfg:=C6 lf [125] (A5 [(32,[0,1,0,0,1,0,0,0,0,2,0,0]),(25,[0,1,0,0,1,0,0,0,0,2]),(18,[0,1,0,0,1,0,0,0,0,0,0]),(15,[0,1,0,0,1,0,0,0,0]),(5,[0,1,0,0,0])]) [(165,Vt),(166,OD),(167,VX),(168,Vk)] (A5 [(43,[2,0]),(42,[0,3,1,0,0,0,0]),(41,[0,3,1,0,0,0,0]),(26,[0,3,1,0,0,0,0,2]),(40,[0,3,1,0,0,0,0,2]),(39,[0,3,1,0,0,0,0,2]),(38,[0,3,1,0,0,1,2]),(37,[0,3,1,0,0,0,3]),(36,[0,3,1,0,0,0,0,2,0,0]),(35,[0,3,1,0,0,0,0,2,0,0]),(34,[0,3,1,0,0,0,0,2,0,0,0]),(33,[0,3,1,0,0,0,0,2,0,0,0]),(32,[0,3,1,0,0,0,0,2,0,0,94]),(31,[0,3,1,0,0,0,0,2,0,0]),(30,[0,3,1,0,0,0,0,2,0]),(29,[0,3,1,0,0,0,0,2,90]),(28,[0,3,1,0,0,0,0,2]),(27,[0,3,1,0,0,0,0,2,82]),(25,[0,3,1,0,0,0,0,2,74]),(24,[0,3,1,0,0,0,0,2]),(23,[0,3,1,0,0,0,0]),(22,[0,3,1,0,1,0,0]),(19,[0,3,1,0,0,0,0,0,0]),(21,[0,3,1,0,0,0,0,0,0]),(20,[0,3,1,0,0,0,0,0,0,56]),(18,[0,3,1,0,0,0,0,0,0,48]),(17,[0,3,1,0,0,0,0,0,0]),(16,[0,3,1,0,0,0,0,0]),(15,[0,3,1,0,0,0,0,46]),(14,[0,3,1,0,0,0,0]),(13,[0,3,1,0]),(12,[0,3,1,0,42]),(11,[0,3,1,0]),(6,[0,3,0]),(10,[0,3,0]),(9,[0,3,0,30]),(8,[2,0]),(7,[0,3,0,25]),(5,[0,3,0,17]),(4,[0,3,0]),(3,[0,3]),(2,[2,0]),(1,[0,18]),(0,[0])]) [165,166,167,168] (A5 [(2,[4]),(3,[0,3,1,0,0,0,0]),(6,[0,3,1,0,0,0,0]),(7,[0,3,1,0,0,0,0,2]),(8,[0,3,1,0,0,0,3,0]),(9,[0,3,1,0,0,0,0,2,0,0]),(4,[0,3,1,0,0,0,0,0]),(5,[0,3,1,0,0,0,0,0,0]),(0,[0,3]),(1,[0,3,0])]) (some [2,0]) [] [] []
noncomputable def O9 {R:Type} (lf n:Nat) (points_z0 points_t1:Bool) (points2:LL) (i3:Int) (l4:LL) (k0:LL->Option R) (k1:Bool->Bool->LL->LL->Option R):Option R:=match n with | 0=>none | n+1=>cond (ltI i3 (points2.length:Int)) (cond (inR i3 points2.length) (cond (okE Gk points2 (Int.toNat i3) 0) (vl (gE points2 (Int.toNat i3) 0) λn'1=>cond (not (ptI n'1)) (k0 l4) (cond (inR i3 points2.length) (cond (okE Gk points2 (Int.toNat i3) 0) (vl (gE points2 (Int.toNat i3) 0) λn'3=>cond (ltI n'3 128) (cond (inR i3 points2.length) (cond (okE Gk points2 (Int.toNat i3) 0) (vl (gE points2 (Int.toNat i3) 0) λn'4=>cond (D9 (l4.length+1)) (O9 lf n points_z0 points_t1 points2 (A1 (i3+1)) (l4++[[(SV.int .u8 (wu8 n'4))]]) k0 k1) none) none) none) (O9 lf n points_z0 points_t1 points2 (A1 (i3+1)) l4 k0 k1)) none) none)) none) none) (k1 points_z0 points_t1 points2 l4)
theorem TH (n points_z0 points_t1 points2 i3 l4):D6 1 ((J5 lf).keep 5) (bd (J5 lf) cl yh (cd [1,1,1,0,1,0,0] X9)) n ⟨gp [(0,.s (.sl points_z0 points_t1 1 points2)),(3,.fl 0),(0,pI i3)] 148,[.arr true 5 1 l4],s⟩ k =
 O9 lf n points_z0 points_t1 points2 i3 l4 (λl0=>k .ret ⟨gp [(2,pS ([]:List UInt8)),(0,pI (2:Int))] 150,[.arr true 5 1 l0],s⟩) (λpoints_z0 points_t1 points2 l3=>k (.exit 0) ⟨gp [(0,.s (.sl points_z0 points_t1 1 points2)),(3,.fl 0)] 149,[.arr true 5 1 l3],s⟩):=by
 induction n generalizing points_z0 points_t1 points2 i3 l4 with
 | zero=>rfl
 | succ n ih=>rw [O9];simp only [<-ih];kernel_rfl
noncomputable def Em {R:Type} (lf n:Nat) (points_z0 points_t1:Bool) (points2:LL) (done3 basic4 n5 delta6 bias7 least8 i9:Int) (l10:LL) (k0:Bool->Bool->LL->Int->Int->Int->Int->Int->Int->LL->Option R):Option R:=match n with | 0=>none | n+1=>cond (ltI i9 (points2.length:Int)) (cond (inR i9 points2.length) (cond (okE Gk points2 (Int.toNat i9) 0) (vl (gE points2 (Int.toNat i9) 0) λn'14=>cond (not (ltI n'14 n5)) (cond (inR i9 points2.length) (cond (okE Gk points2 (Int.toNat i9) 0) (vl (gE points2 (Int.toNat i9) 0) λn'15=>vl (if (n'15<least8) then n'15 else least8) λn'16=>Em lf n points_z0 points_t1 points2 done3 basic4 n5 delta6 bias7 n'16 (A1 (i9+1)) l10 k0) none) none) (Em lf n points_z0 points_t1 points2 done3 basic4 n5 delta6 bias7 least8 (A1 (i9+1)) l10 k0)) none) none) (k0 points_z0 points_t1 points2 done3 basic4 n5 delta6 bias7 least8 l10)
theorem TJ (n points_z0 points_t1 points2 done3 basic4 n5 delta6 bias7 least8 i9 l10):D6 1 ((J5 lf).keep 18) (bd (J5 lf) cl yh (cd [1,1,1,1,1,1,1,0,0,0,1,0,1,0,1,0,0] X9)) n ⟨gp [(0,.s (.sl points_z0 points_t1 1 points2)),(3,.fl 0),(1,pI done3),(0,pI basic4),(0,pI n5),(0,pI delta6),(0,pI bias7),(0,pI least8),(0,pI i9)] 141,[.arr true 5 1 l10],s⟩ k =
 Em lf n points_z0 points_t1 points2 done3 basic4 n5 delta6 bias7 least8 i9 l10 (λpoints_z0 points_t1 points2 done3 basic4 n5 delta6 bias7 least8 l9=>k (.exit 4) ⟨gp [(0,.s (.sl points_z0 points_t1 1 points2)),(3,.fl 0),(1,pI done3),(0,pI basic4),(0,pI n5),(0,pI delta6),(0,pI bias7),(0,pI least8)] 142,[.arr true 5 1 l9],s⟩):=by
 induction n generalizing points_z0 points_t1 points2 done3 basic4 n5 delta6 bias7 least8 i9 l10 with
 | zero=>rfl
 | succ n ih=>rw [Em];simp only [<-ih];kernel_rfl
noncomputable def Ce {R:Type} (lf n:Nat) (points_z0 points_t1:Bool) (points2:LL) (done3 basic4 n5 delta6 bias7 i8 q9 kk10:Int) (l11:LL) (k0:Bool->Bool->LL->Int->Int->Int->Int->Int->Int->LL->Option R):Option R:=match n with | 0=>none | n+1=>cond (ltN kk10 10000000000) (cond (ltN bias7 1000000) (vl (I4 (Int.mul (36:Int) kk10) bias7) λn'40=>cond (not (ltI q9 n'40)) (cond (ltN kk10 10000000000) (cond (ltN bias7 1000000) (vl (I4 (Int.mul (36:Int) kk10) bias7) λn'42=>vl (A1 ((36:Int)-n'42)) λn'46=>cond (n'46 != 0) (vl (Int.tmod (A1 (q9-n'42)) n'46) λn'47=>cond (ltN (A1 (n'42+n'47)) 36) (vl (↑(UInt8.toNat (U4 (Int.toNat (A1 (n'42+n'47))))):Int) λn'48=>cond (D9 (l11.length+1)) (vl (A1 ((36:Int)-n'42)) λn'49=>cond (n'49 != 0) (vl (A1 (Int.tdiv (A1 (q9-n'42)) n'49)) λn'50=>vl (A1 (kk10+1)) λn'51=>Ce lf n points_z0 points_t1 points2 done3 basic4 n5 delta6 bias7 i8 n'50 n'51 (l11++[[(SV.int .u8 n'48)]]) k0) none) none) none) none) none) none) (k0 points_z0 points_t1 points2 done3 basic4 n5 delta6 i8 q9 l11)) none) none
theorem Yk (n points_z0 points_t1 points2 done3 basic4 n5 delta6 bias7 i8 q9 kk10 l11):D6 1 ((J5 lf).keep 32) (bd (J5 lf) cl yh (cd [1,1,1,1,1,1,1,0,0,0,1,0,1,1,1,1,0,1,0,0,1,0,0,1,1,1,1,0,0,0] X9)) n ⟨gp [(0,.s (.sl points_z0 points_t1 1 points2)),(3,.fl 0),(1,pI done3),(0,pI basic4),(0,pI n5),(0,pI delta6),(0,pI bias7),(2,pI i8),(0,pI q9),(0,pI kk10)] 138,[.arr true 5 1 l11],s⟩ k =
 Ce lf n points_z0 points_t1 points2 done3 basic4 n5 delta6 bias7 i8 q9 kk10 l11 (λpoints_z0 points_t1 points2 done3 basic4 n5 delta6 i7 q8 l9=>k (.exit 8) ⟨gp [(0,.s (.sl points_z0 points_t1 1 points2)),(3,.fl 0),(1,pI done3),(0,pI basic4),(0,pI n5),(0,pI delta6),(3,pI i7),(0,pI q8)] 139,[.arr true 5 1 l9],s⟩):=by
 induction n generalizing points_z0 points_t1 points2 done3 basic4 n5 delta6 bias7 i8 q9 kk10 l11 with
 | zero=>rfl
 | succ n ih=>rw [Ce];simp only [<-ih];kernel_rfl
noncomputable def V2 {R:Type} (lf n:Nat) (points_z0 points_t1:Bool) (points2:LL) (done3 basic4 n5 delta6 bias7 i8:Int) (l9:LL) (k0:Bool->Bool->LL->Int->Int->Int->Int->Int->LL->Option R):Option R:=match n with | 0=>none | n+1=>cond (ltI i8 (points2.length:Int)) (cond (inR i8 points2.length) (cond (okE Gk points2 (Int.toNat i8) 0) (vl (gE points2 (Int.toNat i8) 0) λn'33=>cond (ltI n'33 n5) (vl (A1 (delta6+1)) λn'34=>cond (inR i8 points2.length) (cond (okE Gk points2 (Int.toNat i8) 0) (vl (gE points2 (Int.toNat i8) 0) λn'36=>cond (n'36 != n5) (V2 lf n points_z0 points_t1 points2 done3 basic4 n5 n'34 bias7 (A1 (i8+1)) l9 k0) (Ce lf lf points_z0 points_t1 points2 done3 basic4 n5 n'34 bias7 i8 n'34 0 l9 (λpoints_z'52 points_t'53 points'54 done'55 basic'56 n'57 delta'58 i'59 q'60 l'61=>cond (ltN q'60 36) (vl (↑(UInt8.toNat (U4 (Int.toNat q'60))):Int) λn'63=>cond (D9 (l'61.length+1)) (vl (A1 (done'55+1)) λn'64=>cond (ltN delta'58 1152921504606846976) (cond (ltN n'64 1000000) (cond (ltI 0 n'64) (vl (↑(M5 (Int.toNat delta'58) (Int.toNat n'64) (done'55==basic'56)):Int) λn'65=>vl (A1 (done'55+1)) λn'66=>vl (A1 (i'59+1)) λn'67=>V2 lf n points_z'52 points_t'53 points'54 n'66 basic'56 n'57 0 n'65 n'67 (l'61++[[(SV.int .u8 n'63)]]) k0) none) none) none) none) none))) none) none) (cond (inR i8 points2.length) (cond (okE Gk points2 (Int.toNat i8) 0) (vl (gE points2 (Int.toNat i8) 0) λn'38=>cond (n'38 != n5) (V2 lf n points_z0 points_t1 points2 done3 basic4 n5 delta6 bias7 (A1 (i8+1)) l9 k0) (Ce lf lf points_z0 points_t1 points2 done3 basic4 n5 delta6 bias7 i8 delta6 0 l9 (λpoints_z'68 points_t'69 points'70 done'71 basic'72 n'73 delta'74 i'75 q'76 l'77=>cond (ltN q'76 36) (vl (↑(UInt8.toNat (U4 (Int.toNat q'76))):Int) λn'79=>cond (D9 (l'77.length+1)) (vl (A1 (done'71+1)) λn'80=>cond (ltN delta'74 1152921504606846976) (cond (ltN n'80 1000000) (cond (ltI 0 n'80) (vl (↑(M5 (Int.toNat delta'74) (Int.toNat n'80) (done'71==basic'72)):Int) λn'81=>vl (A1 (done'71+1)) λn'82=>vl (A1 (i'75+1)) λn'83=>V2 lf n points_z'68 points_t'69 points'70 n'82 basic'72 n'73 0 n'81 n'83 (l'77++[[(SV.int .u8 n'79)]]) k0) none) none) none) none) none))) none) none)) none) none) (k0 points_z0 points_t1 points2 done3 basic4 n5 delta6 bias7 l9)
theorem TK (n points_z0 points_t1 points2 done3 basic4 n5 delta6 bias7 i8 l9):D6 1 ((J5 lf).keep 25) (bd (J5 lf) cl yh (cd [1,1,1,1,1,1,1,0,0,0,1,0,1,1,1,1,0,1,0,0] X9)) n ⟨gp [(0,.s (.sl points_z0 points_t1 1 points2)),(3,.fl 0),(1,pI done3),(0,pI basic4),(0,pI n5),(0,pI delta6),(0,pI bias7),(2,pI i8)] 140,[.arr true 5 1 l9],s⟩ k =
 V2 lf n points_z0 points_t1 points2 done3 basic4 n5 delta6 bias7 i8 l9 (λpoints_z0 points_t1 points2 done3 basic4 n5 delta6 bias7 l8=>k (.exit 6) ⟨gp [(0,.s (.sl points_z0 points_t1 1 points2)),(3,.fl 0),(1,pI done3),(0,pI basic4),(0,pI n5),(0,pI delta6),(0,pI bias7)] 143,[.arr true 5 1 l8],s⟩):=by
 induction n generalizing points_z0 points_t1 points2 done3 basic4 n5 delta6 bias7 i8 l9 with
 | zero=>rfl
 | succ n ih=>rw [V2];exact let K0:=(G3 8 (G9 (J5 lf) cl yh (cd [1,1,1,1,1,1,1,0,0,0,1,0,1,1,1,1,0,1,0,0,1,0,0,1,1,1,1,1] X9) (G3 7 (G9 (J5 lf) cl yh (cd [1,1,1,1,1,1,1,0,0,0,1,0,1,1,1,1,0,1,0,0,1,1] X9) (lpK 1 ((J5 lf).keep 25) (bd (J5 lf) cl yh (cd [1,1,1,1,1,1,1,0,0,0,1,0,1,1,1,1,0,1,0,0] X9)) n k)))));(Eq.trans (by kernel_rfl) (A0 (A0 (A0 (A7 λn'33=>(A0 (A7 λn'34=>(A0 (A0 (A7 λn'36=>(A0 (ih points_z0 points_t1 points2 done3 basic4 n5 n'34 bias7 (A1 (i8+1)) l9) ((Yk lf cl yh s K0 lf points_z0 points_t1 points2 done3 basic4 n5 n'34 bias7 i8 n'34 0 l9).trans (congr rfl (A12 λpoints_z'52 points_t'53 points'54 done'55 basic'56 n'57 delta'58 i'59 q'60 l'61=>(Eq.trans (by kernel_rfl) (A0 (A7 λn'63=>(A0 (A7 λn'64=>(A0 (A0 (A0 (A7 λn'65=>(A7 λn'66=>(A7 λn'67=>(ih points_z'52 points_t'53 points'54 n'66 basic'56 n'57 0 n'65 n'67 (l'61++[[(SV.int .u8 n'63)]]))))) rfl) rfl) rfl)) rfl)) rfl))))))) rfl) rfl)) (A0 (A0 (A7 λn'38=>(A0 (ih points_z0 points_t1 points2 done3 basic4 n5 delta6 bias7 (A1 (i8+1)) l9) ((Yk lf cl yh s K0 lf points_z0 points_t1 points2 done3 basic4 n5 delta6 bias7 i8 delta6 0 l9).trans (congr rfl (A12 λpoints_z'68 points_t'69 points'70 done'71 basic'72 n'73 delta'74 i'75 q'76 l'77=>(Eq.trans (by kernel_rfl) (A0 (A7 λn'79=>(A0 (A7 λn'80=>(A0 (A0 (A0 (A7 λn'81=>(A7 λn'82=>(A7 λn'83=>(ih points_z'68 points_t'69 points'70 n'82 basic'72 n'73 0 n'81 n'83 (l'77++[[(SV.int .u8 n'79)]]))))) rfl) rfl) rfl)) rfl)) rfl))))))) rfl) rfl))) rfl) rfl) rfl))
noncomputable def Cf {R:Type} (lf n:Nat) (points_z0 points_t1:Bool) (points2:LL) (done3 basic4 n5 delta6 bias7:Int) (l8:LL) (k0:LL->Option R):Option R:=match n with | 0=>none | n+1=>cond (ltI done3 (points2.length:Int)) (Em lf lf points_z0 points_t1 points2 done3 basic4 n5 delta6 bias7 1073741824 0 l8 (λpoints_z'17 points_t'18 points'19 done'20 basic'21 n'22 delta'23 bias'24 least'25 l'26=>vl (A1 (done'20+1)) λn'29=>vl (A1 ((A1 (least'25-n'22))*n'29)) λn'30=>V2 lf lf points_z'17 points_t'18 points'19 done'20 basic'21 least'25 (A1 (delta'23+n'30)) bias'24 0 l'26 (λpoints_z'84 points_t'85 points'86 done'87 basic'88 n'89 delta'90 bias'91 l'92=>vl (A1 (delta'90+1)) λn'93=>vl (A1 (n'89+1)) λn'94=>Cf lf n points_z'84 points_t'85 points'86 done'87 basic'88 n'94 n'93 bias'91 l'92 k0))) (k0 l8)
theorem Yl (n points_z0 points_t1 points2 done3 basic4 n5 delta6 bias7 l8):D6 1 ((J5 lf).keep 15) (bd (J5 lf) cl yh (cd [1,1,1,1,1,1,1,0,0,0] X9)) n ⟨gp [(0,.s (.sl points_z0 points_t1 1 points2)),(3,.fl 0),(1,pI done3),(0,pI basic4),(0,pI n5),(0,pI delta6),(0,pI bias7)] 143,[.arr true 5 1 l8],s⟩ k =
 Cf lf n points_z0 points_t1 points2 done3 basic4 n5 delta6 bias7 l8 (λl0=>k (.exit 2) ⟨gp [(4,.fl 0)] 149,[.arr true 5 1 l0],s⟩):=by
 induction n generalizing points_z0 points_t1 points2 done3 basic4 n5 delta6 bias7 l8 with
 | zero=>rfl
 | succ n ih=>rw [Cf];exact (Eq.trans (by kernel_rfl) (A0 ((TJ lf cl yh s (G3 4 (G9 (J5 lf) cl yh (cd [1,1,1,1,1,1,1,0,0,0,1,0,1,1] X9) (G3 3 (lpK 1 ((J5 lf).keep 15) (bd (J5 lf) cl yh (cd [1,1,1,1,1,1,1,0,0,0] X9)) n k)))) lf points_z0 points_t1 points2 done3 basic4 n5 delta6 bias7 1073741824 0 l8).trans (congr rfl (A12 λpoints_z'17 points_t'18 points'19 done'20 basic'21 n'22 delta'23 bias'24 least'25 l'26=>(Eq.trans (by kernel_rfl) (A7 λn'29=>(A7 λn'30=>((TK lf cl yh s (G3 6 (G9 (J5 lf) cl yh (cd [1,1,1,1,1,1,1,0,0,0,1,0,1,1,1,1,1] X9) (G3 3 (lpK 1 ((J5 lf).keep 15) (bd (J5 lf) cl yh (cd [1,1,1,1,1,1,1,0,0,0] X9)) n k)))) lf points_z'17 points_t'18 points'19 done'20 basic'21 least'25 (A1 (delta'23+n'30)) bias'24 0 l'26).trans (congr rfl (fx9 λpoints_z'84 points_t'85 points'86 done'87 basic'88 n'89 delta'90 bias'91 l'92=>(Eq.trans (by kernel_rfl) (A7 λn'93=>(A7 λn'94=>(ih points_z'84 points_t'85 points'86 done'87 basic'88 n'94 n'93 bias'91 l'92))))))))))))) rfl))
noncomputable def LG {R:Type} (lf:Nat) (points_z0 points_t1:Bool) (points2:LL) (k0:Unit->Option R) (k1:By->Int->LL->Option R):Option R:=cond (ltI 256 (points2.length:Int)) (k0 ()) (O9 lf lf points_z0 points_t1 points2 0 [] (λl'5=>k1 ([]:List UInt8) 2 l'5) (λpoints_z'6 points_t'7 points'8 l'9=>vl (l'9.length:Int) λn'12=>vl (l'9.length:Int) λn'13=>cond (ltI 0 n'13) (cond (D9 (l'9.length+1)) (Cf lf lf points_z'6 points_t'7 points'8 n'12 n'13 128 0 72 (l'9++[[(SV.int .u8 (45:Int))]]) (λl'95=>cond (List.all l'95 Uc) (k1 (List.map Rj l'95) 0 l'95) none)) none) (Cf lf lf points_z'6 points_t'7 points'8 n'12 n'13 128 0 72 l'9 (λl'96=>cond (List.all l'96 Uc) (k1 (List.map Rj l'96) 0 l'96) none))))
theorem A81 (d:Nat) (points_z0 points_t1 points2):evC (J5 lf) (d+1) σ yh 125 [.s (.sl points_z0 points_t1 1 points2)] [] s=LG lf points_z0 points_t1 points2 (λ_=>some (.tup [pS ([]:List UInt8),pI (3:Int)],[],s)) (λr0 r1 l2=>some (.tup [pS r0,pI r1],[.arr true 5 1 l2],s)):=by
 refine (evE (fn:=Tryz.f125) (by kernel_rfl)).trans ?_
 generalize evC (J5 lf) d=cl
 unfold LG;exact let K0:=(G3 2 (G9 (J5 lf) cl yh (cd [1,1,1,1,1,1,1,1] X9) (I8 (J5 lf) Tryz.f125)));(Eq.trans (by kernel_rfl) (A0 rfl ((TH lf cl yh s (G3 0 (G9 (J5 lf) cl yh (cd [1,1,1,1] X9) (I8 (J5 lf) Tryz.f125))) lf points_z0 points_t1 points2 0 []).trans (congr (congr rfl (by kernel_rfl)) (fx4 λpoints_z'6 points_t'7 points'8 l'9=>(Eq.trans (by kernel_rfl) (A7 λn'12=>(A7 λn'13=>(A0 (A0 ((Yl lf cl yh s K0 lf points_z'6 points_t'7 points'8 n'12 n'13 128 0 72 (l'9++[[(SV.int .u8 (45:Int))]])).trans (by kernel_rfl)) rfl) ((Yl lf cl yh s K0 lf points_z'6 points_t'7 points'8 n'12 n'13 128 0 72 l'9).trans (by kernel_rfl)))))))))))
noncomputable abbrev R9:Code:=E1 Tryz.f146
noncomputable def G5 (lf:Nat):Cfg:=C6 lf [146] (A5 [(27,[0,1,0,2,1,0,0,0,0,0,0,0]),(23,[0,1,0,2,1,0,0,0,0]),(13,[0,1,0,0,1,0]),(5,[0,1,0,0,0])]) [(176,Aj4),(166,OD),(168,Vk),(165,Vt)] (A5 [(51,[2,0]),(50,[0,5,1,0,0,0,0]),(49,[2,0]),(48,[0,5,1,0,0,0,0,118]),(47,[0,5,1,0,0,0,0]),(46,[2,0]),(45,[0,5,1,0,0,0,0,103]),(44,[0,5,1,0,0,0,0]),(43,[0,5,1,0,0,0,0]),(42,[0,5,1,0,0,0,0]),(41,[0,5,1,0,0,0]),(26,[0,5,1,0,0,0,0,0,0,0]),(40,[2,0]),(39,[0,5,1,0,0,0,0,0,0,0,77]),(38,[0,5,1,0,0,0,0,0,0,0]),(37,[0,5,1,0,0,0,0,0,0,0,1,69]),(36,[0,5,1,0,0,0,0,0,0,0,0,0]),(35,[2,0]),(34,[0,5,1,0,0,0,0,0,0,0,0,64]),(33,[0,5,1,0,0,0,0,0,0,0,0]),(32,[2,0]),(31,[0,5,1,0,0,0,0,0,0,0,0,57]),(30,[0,5,1,0,0,0,0,0,0,0,0]),(29,[0,5,1,0,0,0,0,0,0,0,0]),(28,[2,0]),(27,[0,5,1,0,0,0,0,0,0,0,50]),(25,[0,5,1,0,0,0,0,0,0,0]),(24,[0,5,1,0,0,0,0,0,0]),(23,[0,5,1,0,0,0,0,46]),(22,[0,5,1,0,0,0,0]),(21,[0,5,1,0,0,0]),(20,[0,5,1]),(19,[0,5,1,44]),(18,[0,3,1,1]),(17,[2,0]),(16,[0,3,1,43]),(14,[0,3,1,0]),(15,[0,3,1,0]),(13,[0,3,1,0,30]),(12,[0,3,1,0]),(11,[0,3,1]),(6,[0,3,0]),(10,[0,3,0]),(9,[0,3,0,28]),(8,[2,0]),(7,[0,3,0,24]),(5,[0,3,0,18]),(4,[0,3,0]),(3,[0,3]),(2,[2,0]),(1,[0,19]),(0,[0])]) [176,166,168,165] (A5 [(4,[6]),(5,[0,5,1,0,0,0,0]),(6,[0,5,1,0,0,1,0]),(7,[0,5,1,0,0,0,0,0,0,0]),(2,[0,3,1]),(3,[0,3,1,0]),(0,[0,3]),(1,[0,3,0])]) (some [2,0]) [] [] [] (rw:=[(47,6)])
noncomputable def Be {R:Type} (lf n:Nat) (s0:By) (cut1 i2:Int) (k0:Unit->Option R) (k1:By->Int->Option R):Option R:=match n with | 0=>none | n+1=>cond (ltI i2 (s0.length:Int)) (cond (inR i2 s0.length) (cond (not (ltI (bAt s0 i2) (128:Int))) (k0 ()) (cond (inR i2 s0.length) (cond ((bAt s0 i2)==45) (Be lf n s0 i2 (A1 (i2+1)) k0 k1) (Be lf n s0 cut1 (A1 (i2+1)) k0 k1)) none)) none) (k1 s0 cut1)
theorem MC (n s0 cut1 i2):D6 0 ((G5 lf).keep 5) (bd (G5 lf) cl yh (cd [1,1,1,0,1,0,0] R9)) n ⟨gp [(0,pS s0),(3,pI cut1),(0,pI i2)] 129,[],s⟩ k =
 Be lf n s0 cut1 i2 (λ_=>k .ret ⟨gp [(2,.fl 0),(0,pI (4:Int))] 131,[.arr true 3 1 []],s⟩) (λs0 cut1=>k (.exit 0) ⟨gp [(0,pS s0),(3,pI cut1)] 130,[],s⟩):=by
 induction n generalizing s0 cut1 i2 with
 | zero=>rfl
 | succ n ih=>rw [Be];simp only [<-ih];kernel_rfl
noncomputable def Dt {R:Type} (lf n:Nat) (s0:By) (cut1 i2:Int) (l3:LL) (k0:By->Int->LL->Option R):Option R:=match n with | 0=>none | n+1=>cond (ltI i2 cut1) (cond (inR i2 s0.length) (cond (D9 (l3.length+1)) (Dt lf n s0 cut1 (A1 (i2+1)) (l3++[[(SV.int .i64 (A1 (bAt s0 i2)))]]) k0) none) none) (k0 s0 cut1 l3)
theorem MD (n s0 cut1 i2 l3):D6 1 ((G5 lf).keep 13) (bd (G5 lf) cl yh (cd [1,1,1,1,1,0,1,0,0] R9)) n ⟨gp [(0,pS s0),(3,pI cut1),(1,.fl 0),(0,pI i2)] 127,[.arr true 3 1 l3],s⟩ k =
 Dt lf n s0 cut1 i2 l3 (λs0 cut1 l2=>k (.exit 2) ⟨gp [(0,pS s0),(3,pI cut1),(1,.fl 0)] 128,[.arr true 3 1 l2],s⟩):=by
 induction n generalizing s0 cut1 i2 l3 with
 | zero=>rfl
 | succ n ih=>rw [Dt];simp only [<-ih];kernel_rfl
noncomputable def P6 {R:Type} (lf n:Nat) (s0:By) (out1:LL) (at2 n3 i4 bias5 old6 w7 kk8:Int) (l9:LL) (k0:Int->LL->Option R) (k1:By->LL->Int->Int->Int->Int->LL->Option R):Option R:=match n with | 0=>none | n+1=>cond (not (ltI at2 (s0.length:Int))) (k0 4 l9) (cond (inR at2 s0.length) (cond (inR (bAt s0 at2) 256) (vl (C7 (u8n (bAt s0 at2))) λn'8=>cond (ltI n'8 0) (k0 4 l9) (vl (A1 (i4+(A1 (n'8*w7)))) λn'10=>cond (ltI 1099511627776 n'10) (k0 19 l9) (cond (ltN kk8 10000000000) (cond (ltN bias5 1000000) (vl (I4 (Int.mul (36:Int) kk8) bias5) λn'12=>cond (ltI n'8 n'12) (k1 s0 out1 (A1 (at2+1)) n3 n'10 old6 l9) (vl (A1 ((36:Int)-n'12)) λn'13=>cond (ltI 1099511627776 (A1 (w7*n'13))) (k0 19 l9) (P6 lf n s0 out1 (A1 (at2+1)) n3 n'10 bias5 old6 (A1 (w7*n'13)) (A1 (kk8+1)) l9 k0 k1))) none) none))) none) none)
theorem ME (n s0 out1 at2 n3 i4 bias5 old6 w7 kk8 l9):D6 1 ((G5 lf).keep 27) (bd (G5 lf) cl yh (cd [1,1,1,1,1,1,1,1,1,1,1,0,0,0,1,0,1,0,1,0,0] R9)) n ⟨gp [(0,pS s0),(5,.s (.sl false false 1 out1)),(1,pI at2),(0,pI n3),(0,pI i4),(0,pI bias5),(0,pB false),(0,pI old6),(0,pI w7),(0,pI kk8)] 119,[.arr true 3 1 l9],s⟩ k =
 P6 lf n s0 out1 at2 n3 i4 bias5 old6 w7 kk8 l9 (λn0 l1=>k .ret ⟨gp [(2,.fl 1),(0,pI n0)] 131,[.arr true 3 1 l1,.arr true 3 1 []],s⟩) (λs0 out1 at2 n3 i4 old5 l6=>k (.exit 6) ⟨gp [(0,pS s0),(5,.s (.sl false false 1 out1)),(1,pI at2),(0,pI n3),(0,pI i4),(1,pB false),(0,pI old5)] 121,[.arr true 3 1 l6],s⟩):=by
 induction n generalizing s0 out1 at2 n3 i4 bias5 old6 w7 kk8 l9 with
 | zero=>rfl
 | succ n ih=>rw [P6];simp only [<-ih];kernel_rfl
noncomputable def L3 {R:Type} (lf n:Nat) (s0:By) (out1:LL) (at2 n3 i4 bias5:Int) (l6:LL) (k0:Int->LL->Option R) (k1:LL->LL->Option R) (k2:LL->LL->Option R):Option R:=match n with | 0=>none | n+1=>cond (ltI at2 (s0.length:Int)) (P6 lf lf s0 out1 at2 n3 i4 bias5 i4 1 0 l6 (λn'14 l'15=>k0 n'14 l'15) (λs'16 out'17 at'18 n'19 i'20 old'21 l'22=>vl (A1 ((out'17.length:Int)+1)) λn'25=>cond (ltN (A1 (i'20-old'21)) 1152921504606846976) (cond (ltN n'25 1000000) (cond (ltI 0 n'25) (vl (↑(M5 (Int.toNat (A1 (i'20-old'21))) (Int.toNat n'25) false):Int) λn'26=>vl (A1 ((out'17.length:Int)+1)) λn'29=>cond (n'29 != 0) (vl (A1 (Int.tdiv i'20 n'29)) λn'30=>vl (A1 ((out'17.length:Int)+1)) λn'32=>cond (n'32 != 0) (cond (not (ptI (A1 (n'19+n'30)))) (k0 2 l'22) (cond (N7 0 (Int.tmod i'20 n'32) out'17.length) (vl (cut out'17 0 (Int.tmod i'20 n'32)) λl'33=>cond (N7 (Int.tmod i'20 n'32) (out'17.length:Int) out'17.length) (vl (cut out'17 (Int.tmod i'20 n'32) (out'17.length:Int)) λl'34=>cond (D9 (0+l'33.length)) (cond (D9 (l'33.length+1)) (cond (D9 ((List.length (l'33++[[(SV.int .i64 (A1 (n'19+n'30)))]]))+l'34.length)) (cond (ltI 256 (↑(List.length ((l'33++[[(SV.int .i64 (A1 (n'19+n'30)))]])++l'34)):Int)) (k1 l'22 ((l'33++[[(SV.int .i64 (A1 (n'19+n'30)))]])++l'34)) (vl (A1 ((Int.tmod i'20 n'32)+1)) λn'35=>L3 lf n s'16 ((l'33++[[(SV.int .i64 (A1 (n'19+n'30)))]])++l'34) at'18 (A1 (n'19+n'30)) n'35 n'26 l'22 k0 k1 k2)) none) none) none) none) none)) none) none) none) none) none)) (k2 out1 l6)
theorem MF (n s0 out1 at2 n3 i4 bias5 l6):D6 1 ((G5 lf).keep 23) (bd (G5 lf) cl yh (cd [1,1,1,1,1,1,1,1,1,1,1,0,0,0] R9)) n ⟨gp [(0,pS s0),(5,.s (.sl false false 1 out1)),(1,pI at2),(0,pI n3),(0,pI i4),(0,pI bias5),(0,pB false)] 122,[.arr true 3 1 l6],s⟩ k =
 L3 lf n s0 out1 at2 n3 i4 bias5 l6 (λn0 l1=>k .ret ⟨gp [(2,.fl 1),(0,pI n0)] 131,[.arr true 3 1 l1,.arr true 3 1 []],s⟩) (λl0 l1=>k .ret ⟨gp [(2,.fl 2),(0,pI (3:Int))] 131,[.arr true 3 1 l0,.arr false 3 1 l1,.arr true 3 1 []],s⟩) (λout0 l1=>k (.exit 4) ⟨gp [(6,.s (.sl false false 1 out0))] 128,[.arr true 3 1 l1],s⟩):=by
 induction n generalizing s0 out1 at2 n3 i4 bias5 l6 with
 | zero=>rfl
 | succ n ih=>rw [L3];exact (Eq.trans (by kernel_rfl) (A0 ((ME lf cl yh s (G3 6 (G9 (G5 lf) cl yh (cd [1,1,1,1,1,1,1,1,1,1,1,0,0,0,1,0,1,1] R9) (G3 5 (lpK 1 ((G5 lf).keep 23) (bd (G5 lf) cl yh (cd [1,1,1,1,1,1,1,1,1,1,1,0,0,0] R9)) n k)))) lf s0 out1 at2 n3 i4 bias5 i4 1 0 l6).trans (congr (congr rfl (by kernel_rfl)) (fx7 λs'16 out'17 at'18 n'19 i'20 old'21 l'22=>(Eq.trans (by kernel_rfl) (A7 λn'25=>(A0 (A0 (A0 (A7 λn'26=>(A7 λn'29=>(A0 (A7 λn'30=>(A7 λn'32=>(A0 (A0 rfl (A0 (A7 λl'33=>(A0 (A7 λl'34=>(A0 (A0 (A0 (A0 rfl (A7 λn'35=>(ih s'16 ((l'33++[[(SV.int .i64 (A1 (n'19+n'30)))]])++l'34) at'18 (A1 (n'19+n'30)) n'35 n'26 l'22))) rfl) rfl) rfl)) rfl)) rfl)) rfl))) rfl))) rfl) rfl) rfl)))))) rfl))
noncomputable def P7 {R:Type} (lf n:Nat) (s0:By) (at1 i2 w3 kk4:Int) (l5:LL) (k0:Int->LL->Option R) (k1:By->Int->Int->LL->Option R):Option R:=match n with | 0=>none | n+1=>cond (not (ltI at1 (s0.length:Int))) (k0 4 l5) (cond (inR at1 s0.length) (cond (inR (bAt s0 at1) 256) (vl (C7 (u8n (bAt s0 at1))) λn'37=>cond (ltI n'37 0) (k0 4 l5) (vl (A1 (i2+(A1 (n'37*w3)))) λn'39=>cond (ltI 1099511627776 n'39) (k0 19 l5) (cond (ltN kk4 10000000000) (cond (ltN 72 1000000) (vl (I4 (Int.mul (36:Int) kk4) (72:Int)) λn'41=>cond (ltI n'37 n'41) (k1 s0 (A1 (at1+1)) n'39 l5) (vl (A1 ((36:Int)-n'41)) λn'42=>cond (ltI 1099511627776 (A1 (w3*n'42))) (k0 19 l5) (P7 lf n s0 (A1 (at1+1)) n'39 (A1 (w3*n'42)) (A1 (kk4+1)) l5 k0 k1))) none) none))) none) none)
theorem MG (n s0 at1 i2 w3 kk4 l5):D6 1 ((G5 lf).keep 27) (bd (G5 lf) cl yh (cd [1,1,1,1,1,1,1,1,1,1,1,0,0,0,1,0,1,0,1,0,0] R9)) n ⟨gp [(0,pS s0),(5,.fl 0),(1,pI at1),(0,pI (128:Int)),(0,pI i2),(0,pI (72:Int)),(0,pB true),(0,pI (0:Int)),(0,pI w3),(0,pI kk4)] 119,[.arr true 3 1 l5],s⟩ k =
 P7 lf n s0 at1 i2 w3 kk4 l5 (λn0 l1=>k .ret ⟨gp [(2,.fl 1),(0,pI n0)] 131,[.arr true 3 1 l1,.arr true 3 1 []],s⟩) (λs0 at1 i2 l3=>k (.exit 6) ⟨gp [(0,pS s0),(5,.fl 0),(1,pI at1),(0,pI (128:Int)),(0,pI i2),(1,pB true),(0,pI (0:Int))] 121,[.arr true 3 1 l3],s⟩):=by
 induction n generalizing s0 at1 i2 w3 kk4 l5 with
 | zero=>rfl
 | succ n ih=>rw [P7];simp only [<-ih];kernel_rfl
noncomputable def I1 {R:Type} (lf n:Nat) (s0:By) (at1:Int) (l2:LL) (k0:Int->LL->Option R) (k1:LL->LL->Option R) (k2:LL->LL->Option R) (k3:LL->Option R):Option R:=match n with | 0=>none | n+1=>cond (ltI at1 (s0.length:Int)) (P7 lf lf s0 at1 0 1 0 l2 (λn'43 l'44=>k0 n'43 l'44) (λs'45 at'46 i'47 l'48=>vl (A1 (i'47-0)) λn'52=>vl (A1 ((l'48.length:Int)+1)) λn'53=>cond (ltN n'52 1152921504606846976) (cond (ltN n'53 1000000) (cond (ltI 0 n'53) (vl (↑(M5 (Int.toNat n'52) (Int.toNat n'53) true):Int) λn'54=>vl (A1 ((l'48.length:Int)+1)) λn'58=>cond (n'58 != 0) (vl (A1 (Int.tdiv i'47 n'58)) λn'59=>vl (A1 ((128:Int)+n'59)) λn'60=>vl (A1 ((l'48.length:Int)+1)) λn'62=>cond (n'62 != 0) (cond (not (ptI n'60)) (k0 2 l'48) (cond (N7 0 (Int.tmod i'47 n'62) l'48.length) (cond (N7 (Int.tmod i'47 n'62) (l'48.length:Int) l'48.length) (cond (D9 (0+(List.length (List.take ((Int.toNat (Int.tmod i'47 n'62))-0) (List.drop 0 l'48))))) (cond (D9 ((List.length (List.take ((Int.toNat (Int.tmod i'47 n'62))-0) (List.drop 0 l'48)))+1)) (vl ((List.take ((Int.toNat (Int.tmod i'47 n'62))-0) (List.drop 0 l'48))++[[(SV.int .i64 n'60)]]) λl'63=>cond (D9 (l'63.length+(List.length (List.take ((Int.toNat (l'48.length:Int))-(Int.toNat (Int.tmod i'47 n'62))) (List.drop (Int.toNat (Int.tmod i'47 n'62)) l'48))))) (vl (l'63++(List.take ((Int.toNat (l'48.length:Int))-(Int.toNat (Int.tmod i'47 n'62))) (List.drop (Int.toNat (Int.tmod i'47 n'62)) l'48))) λl'64=>cond (ltI 256 (l'64.length:Int)) (k1 l'48 l'64) (vl (A1 ((Int.tmod i'47 n'62)+1)) λn'65=>L3 lf n s'45 l'64 at'46 n'60 n'65 n'54 l'48 (λn'66 l'67=>k0 n'66 l'67) (λl'68 l'69=>k1 l'68 l'69) (λout'70 l'71=>k2 out'70 l'71))) none) none) none) none) none)) none) none) none) none) none)) (k3 l2)
theorem Tt (n s0 at1 l2):D6 1 ((G5 lf).keep 23) (bd (G5 lf) cl yh (cd [1,1,1,1,1,1,1,1,1,1,1,0,0,0] R9)) n ⟨gp [(0,pS s0),(5,.fl 0),(1,pI at1),(0,pI (128:Int)),(0,pI (0:Int)),(0,pI (72:Int)),(0,pB true)] 122,[.arr true 3 1 l2],s⟩ k =
 I1 lf n s0 at1 l2 (λn0 l1=>k .ret ⟨gp [(2,.fl 1),(0,pI n0)] 131,[.arr true 3 1 l1,.arr true 3 1 []],s⟩) (λl0 l1=>k .ret ⟨gp [(2,.fl 2),(0,pI (3:Int))] 131,[.arr true 3 1 l0,.arr false 3 1 l1,.arr true 3 1 []],s⟩) (λout0 l1=>k (.exit 4) ⟨gp [(6,.s (.sl false false 1 out0))] 128,[.arr true 3 1 l1],s⟩) (λl0=>k (.exit 4) ⟨gp [(6,.fl 0)] 128,[.arr true 3 1 l0],s⟩):=by
 induction n generalizing s0 at1 l2 with
 | zero=>rfl
 | succ n ih=>rw [I1];exact (Eq.trans (by kernel_rfl) (A0 ((MG lf cl yh s (G3 6 (G9 (G5 lf) cl yh (cd [1,1,1,1,1,1,1,1,1,1,1,0,0,0,1,0,1,1] R9) (G3 5 (lpK 1 ((G5 lf).keep 23) (bd (G5 lf) cl yh (cd [1,1,1,1,1,1,1,1,1,1,1,0,0,0] R9)) n k)))) lf s0 at1 0 1 0 l2).trans (congr (congr rfl (by kernel_rfl)) (fx4 λs'45 at'46 i'47 l'48=>(Eq.trans (by kernel_rfl) (A7 λn'52=>(A7 λn'53=>(A0 (A0 (A0 (A7 λn'54=>(A7 λn'58=>(A0 (A7 λn'59=>(A7 λn'60=>(A7 λn'62=>(A0 (A0 rfl (A0 (A0 (A0 (A0 (A7 λl'63=>(A0 (A7 λl'64=>(A0 rfl (A7 λn'65=>((MF lf cl yh s k n s'45 l'64 at'46 n'60 n'65 n'54 l'48).trans (congr (congr (congr rfl (fx2 λn'66 l'67=>rfl)) (fx2 λl'68 l'69=>rfl)) (fx2 λout'70 l'71=>rfl)))))) rfl)) rfl) rfl) rfl) rfl)) rfl)))) rfl))) rfl) rfl) rfl))))))) rfl))
noncomputable def YD {R:Type} (lf:Nat) (s0:By) (k0:Int->LL->Option R) (k1:Int->LL->Option R) (k2:LL->LL->Option R) (k3:LL->LL->Option R):Option R:=cond (ltI 1024 (s0.length:Int)) (k0 3 []) (Be lf lf s0 0 0 (λ_=>k0 4 []) (λs'0 cut'1=>Dt lf lf s'0 cut'1 0 [] (λs'2 cut'3 l'4=>cond (ltI 256 (l'4.length:Int)) (k1 3 l'4) (cond (ltI 0 cut'3) (vl (A1 (cut'3+1)) λn'6=>I1 lf lf s'2 n'6 l'4 (λn'72 l'73=>k1 n'72 l'73) (λl'74 l'75=>k2 l'74 l'75) (λout'76 l'77=>k3 out'76 l'77) (λl'78=>k0 0 l'78)) (I1 lf lf s'2 cut'3 l'4 (λn'79 l'80=>k1 n'79 l'80) (λl'81 l'82=>k2 l'81 l'82) (λout'83 l'84=>k3 out'83 l'84) (λl'85=>k0 0 l'85))))))
theorem At6 (d:Nat) (s0):evC (G5 lf) (d+1) σ yh 146 [pS s0] [] s=YD lf s0 (λr0 l1=>some (.tup [.fl 0,pI r0],[.arr true 3 1 l1],s)) (λr0 l1=>some (.tup [.fl 1,pI r0],[.arr true 3 1 l1,.arr true 3 1 []],s)) (λl0 l1=>some (.tup [.fl 2,pI (3:Int)],[.arr true 3 1 l0,.arr false 3 1 l1,.arr true 3 1 []],s)) (λr0 l1=>some (.tup [.s (.sl false false 1 r0),pI (0:Int)],[.arr true 3 1 l1],s)):=by
 refine (evE (fn:=Tryz.f146) (by kernel_rfl)).trans ?_
 generalize evC (G5 lf) d=cl
 unfold YD;exact let K0:=(G3 4 (G9 (G5 lf) cl yh (cd [1,1,1,1,1,1,1,1,1,1,1,1] R9) (I8 (G5 lf) Tryz.f146)));(Eq.trans (by kernel_rfl) (A0 rfl ((MC lf cl yh s (G3 0 (G9 (G5 lf) cl yh (cd [1,1,1,1] R9) (I8 (G5 lf) Tryz.f146))) lf s0 0 0).trans (congr (congr rfl (by kernel_rfl)) (fx2 λs'0 cut'1=>(Eq.trans (by kernel_rfl) ((MD lf cl yh s (G3 2 (G9 (G5 lf) cl yh (cd [1,1,1,1,1,1] R9) (I8 (G5 lf) Tryz.f146))) lf s'0 cut'1 0 []).trans (congr rfl (fx3 λs'2 cut'3 l'4=>(Eq.trans (by kernel_rfl) (A0 rfl (A0 (A7 λn'6=>((Tt lf cl yh s K0 lf s'2 n'6 l'4).trans (by kernel_rfl))) ((Tt lf cl yh s K0 lf s'2 cut'3 l'4).trans (by kernel_rfl))))))))))))))
noncomputable def HO {R:Type} (lf n:Nat) (s0:By) (i1 v2:Int) (l3:LL) (k0:By->Int->Int->LL->Option R):Option R:=match n with | 0=>none | n+1=>k0 s0 i1 v2 l3
noncomputable def HN {R:Type} (lf:Nat) (s0:By) (i1 b2:Int) (l4:LL) (k0:LL->Option R) (k1:By->Int->LL->Option R):Option R:=vl (A1 ((s0.length:Int)-i1)) λn'1=>cond (ltI n'1 1) (k0 l4) (HO lf lf s0 i1 b2 l4 (λs'2 i'3 v'4 l'5=>cond (ltI v'4 0) (k0 l'5) (cond (not (ptI v'4)) (k0 l'5) (cond (D9 (l'5.length+1)) (k1 s'2 (A1 (i'3+1)) (l'5++[[(SV.int .i64 v'4)]])) none))))
noncomputable def Pk {R:Type} (s0:By) (i1 b2:Int) (b3:Bool) (l4:LL) (k0:By->Int->Int->Int->Int->LL->Option R) (k1:LL->Option R):Option R:=cond b3 (vl (A1 (b2-224)) λn'11=>k0 s0 i1 3 n'11 2048 l4) (cond (not (ltI b2 240)) (cond (ltI b2 245) (vl (A1 (b2-240)) λn'12=>k0 s0 i1 4 n'12 65536 l4) (k1 l4)) (k1 l4))
noncomputable def Pl {R:Type} (s0:By) (i1 b2:Int) (b3:Bool) (l4:LL) (k0:By->Int->Int->Int->Int->LL->Option R) (k1:LL->Option R):Option R:=cond b3 (vl (A1 (b2-192)) λn'10=>k0 s0 i1 2 n'10 128 l4) (cond (not (ltI b2 224)) (Pk s0 i1 b2 (ltI b2 240) l4 (λs'13 i'14 n'15 v'16 least'17 l'18=>k0 s'13 i'14 n'15 v'16 least'17 l'18) (λl'19=>k1 l'19)) (Pk s0 i1 b2 false l4 (λs'20 i'21 n'22 v'23 least'24 l'25=>k0 s'20 i'21 n'22 v'23 least'24 l'25) (λl'26=>k1 l'26)))
noncomputable def Hu {R:Type} (lf n:Nat) (s0:By) (i1 n2 v3 least4 kk5:Int) (l6:LL) (k0:LL->Option R) (k1:By->Int->Int->Int->Int->LL->Option R):Option R:=match n with | 0=>none | n+1=>cond (ltI kk5 n2) (cond (inR (A1 (i1+kk5)) s0.length) (vl (bAt s0 (A1 (i1+kk5))) λn'37=>cond (ltI (A1 n'37) (128:Int)) (k0 l6) (cond (ltI 191 (A1 n'37)) (k0 l6) (vl (A1 ((A1 (v3*64))+(A1 n'37))) λn'38=>vl (A1 (n'38-128)) λn'39=>Hu lf n s0 i1 n2 n'39 least4 (A1 (kk5+1)) l6 k0 k1))) none) (k1 s0 i1 n2 v3 least4 l6)
noncomputable def Eo {R:Type} (lf:Nat) (s0:By) (i1 n2 v3 least4:Int) (l5:LL) (k0:LL->Option R) (k1:By->Int->LL->Option R):Option R:=vl (A1 ((s0.length:Int)-i1)) λn'35=>cond (ltI n'35 n2) (k0 l5) (Hu lf lf s0 i1 n2 v3 least4 1 l5 (λl'40=>k0 l'40) (λs'41 i'42 n'43 v'44 least'45 l'46=>cond (ltI v'44 least'45) (k0 l'46) (cond (not (ptI v'44)) (k0 l'46) (cond (D9 (l'46.length+1)) (k1 s'41 (A1 (i'42+n'43)) (l'46++[[(SV.int .i64 v'44)]])) none))))
noncomputable def Z0 {R:Type} (lf n:Nat) (s0:By) (i1:Int) (l2:LL) (k0:LL->Option R) (k1:LL->Option R):Option R:=match n with | 0=>none | n+1=>cond (ltI i1 (s0.length:Int)) (cond (inR i1 s0.length) (cond (ltI (A1 (bAt s0 i1)) (128:Int)) (HN lf s0 i1 (A1 (bAt s0 i1)) l2 (λl'6=>k0 l'6) (λs'7 i'8 l'9=>Z0 lf n s'7 i'8 l'9 k0 k1)) (cond (not (ltI (A1 (bAt s0 i1)) (194:Int))) (Pl s0 i1 (A1 (bAt s0 i1)) (ltI (A1 (bAt s0 i1)) (224:Int)) l2 (λs'27 i'28 n'29 v'30 least'31 l'32=>Eo lf s'27 i'28 n'29 v'30 least'31 l'32 (λl'47=>k0 l'47) (λs'48 i'49 l'50=>Z0 lf n s'48 i'49 l'50 k0 k1)) (λl'33=>k0 l'33)) (Pl s0 i1 (A1 (bAt s0 i1)) false l2 (λs'51 i'52 n'53 v'54 least'55 l'56=>Eo lf s'51 i'52 n'53 v'54 least'55 l'56 (λl'58=>k0 l'58) (λs'59 i'60 l'61=>Z0 lf n s'59 i'60 l'61 k0 k1)) (λl'57=>k0 l'57)))) none) (k1 l2)
noncomputable def Br3 {R:Type} (lf:Nat) (s0:By) (k0:LL->Option R) (k1:LL->Option R):Option R:=Z0 lf lf s0 0 [] (λl'62=>k0 l'62) (λl'63=>k1 l'63)
noncomputable abbrev WO:Code:=E1 Tryz.f103
noncomputable def Gz (lf:Nat):Cfg:=C6 lf [103] (A5 [(6,[0,1,0,1,0])]) [(146,WA),(125,Aj1)] (A5 [(12,[2]),(11,[0,4,1,0]),(7,[0,2,1,0]),(10,[2]),(9,[0,2,1,0,34]),(8,[0,2,1,0]),(6,[0,2,1,0,12]),(5,[0,2,1,0]),(4,[0,2,1]),(3,[2]),(2,[0,2,11]),(1,[0,2,0]),(0,[0])]) [125] (A5 [(0,[0,2,1]),(1,[0,2,1,0])]) (some [2]) [] [] []
noncomputable def R3 {R:Type} (lf n:Nat) (rest0:By) (p_z1:Bool) (p2:LL) (other3:Bool) (i4:Int) (k0:Unit->Option R) (k1:By->Bool->LL->Bool->Option R):Option R:=match n with | 0=>none | n+1=>cond (ltI i4 (p2.length:Int)) (cond other3 (cond (inR i4 p2.length) (cond (okE Gk p2 (Int.toNat i4) 0) (cond (not (ltI (gE p2 (Int.toNat i4) 0) (65:Int))) (cond (inR i4 p2.length) (cond (okE Gk p2 (Int.toNat i4) 0) (cond (not (ltI 90 (gE p2 (Int.toNat i4) 0))) (k0 ()) (R3 lf n rest0 p_z1 p2 true (A1 (i4+1)) k0 k1)) none) none) (R3 lf n rest0 p_z1 p2 true (A1 (i4+1)) k0 k1)) none) none) (cond (inR i4 p2.length) (cond (okE Gk p2 (Int.toNat i4) 0) (cond (inR i4 p2.length) (cond (okE Gk p2 (Int.toNat i4) 0) (cond (not (ltI (gE p2 (Int.toNat i4) 0) (65:Int))) (cond (inR i4 p2.length) (cond (okE Gk p2 (Int.toNat i4) 0) (cond (not (ltI 90 (gE p2 (Int.toNat i4) 0))) (k0 ()) (R3 lf n rest0 p_z1 p2 (not (ltI (gE p2 (Int.toNat i4) 0) (128:Int))) (A1 (i4+1)) k0 k1)) none) none) (R3 lf n rest0 p_z1 p2 (not (ltI (gE p2 (Int.toNat i4) 0) (128:Int))) (A1 (i4+1)) k0 k1)) none) none) none) none)) (k1 rest0 p_z1 p2 other3)
theorem MI (n rest0 p_z1 p2 other3 i4):D6 0 ((Gz lf).keep 6) (bd (Gz lf) cl yh (cd [1,1,1,1,0,1,0,0] WO)) n ⟨gp [(0,pS rest0),(2,.s (.sl p_z1 p_z1 1 p2)),(1,pB other3),(0,pI i4)] 50,[],s⟩ k =
 R3 lf n rest0 p_z1 p2 other3 i4 (λ_=>k .ret ⟨gp [(2,pB false)] 54,[],s⟩) (λrest0 p_z1 p2 other3=>k (.exit 0) ⟨gp [(0,pS rest0),(2,.s (.sl p_z1 p_z1 1 p2)),(1,pB other3)] 51,[],s⟩):=by
 induction n generalizing rest0 p_z1 p2 other3 i4 with
 | zero=>rfl
 | succ n ih=>rw [R3];simp only [<-ih];kernel_rfl
noncomputable def YE {R:Type} (lf:Nat) (rest0:By) (k0:Bool->Option R):Option R:=cond (A3 rest0.length) (vl (↑((J8 rest0)).2:Int) λn'1=>cond (n'1 != 0) (k0 false) (R3 lf lf rest0 (List.isEmpty ((J8 rest0)).1) (Sc ((J8 rest0)).1) false 0 (λ_=>k0 false) (λrest'2 p_z'3 p'4 other'5=>cond (List.all p'4 Jm) (vl ((R0 (List.map elI p'4))).1 λs'8=>vl (↑((R0 (List.map elI p'4))).2:Int) λn'9=>cond (n'9==0) (cond (s'8==rest'2) (k0 other'5) (k0 false)) (k0 false)) none))) none
theorem At8 (d:Nat) (rest0):evC (Gz lf) (d+1) σ yh 103 [pS rest0] [] s=YE lf rest0 (λr0=>some (pB r0,[],s)):=by
 refine (evE (fn:=Tryz.f103) (by kernel_rfl)).trans ?_
 generalize evC (Gz lf) d=cl
 unfold YE;exact (Eq.trans (by kernel_rfl) (A0 (A7 λn'1=>(A0 rfl ((MI lf cl yh s (G3 0 (G9 (Gz lf) cl yh (cd [1,1,1,1,1] WO) (I8 (Gz lf) Tryz.f103))) lf rest0 (List.isEmpty ((J8 rest0)).1) (Sc ((J8 rest0)).1) false 0).trans (by kernel_rfl)))) rfl))
noncomputable abbrev WM:Code:=E1 Tryz.f69
noncomputable def Gx (lf:Nat):Cfg:=C6 lf [69] (A5 [(4,[0,1,0])]) [(103,WB)] (A5 [(9,[2]),(5,[0,2]),(8,[2]),(7,[0,2,52]),(6,[0,2,0]),(4,[0,2,24]),(3,[0,2]),(2,[2]),(1,[0,23]),(0,[0])]) [103] (A5 [(0,[0]),(1,[0,2])]) (some [2]) [] [] []
noncomputable def K5 {R:Type} (lf n:Nat) (s0:By) (i1:Int) (k0:Unit->Option R) (k1:By->Option R):Option R:=match n with | 0=>none | n+1=>cond (ltI i1 (s0.length:Int)) (cond (inR i1 s0.length) (cond (not (ltI (bAt s0 i1) (97:Int))) (cond (not (ltI 122 (bAt s0 i1))) (K5 lf n s0 (A1 (i1+1)) k0 k1) (cond (not (ltI (bAt s0 i1) (48:Int))) (cond (not (ltI 57 (bAt s0 i1))) (K5 lf n s0 (A1 (i1+1)) k0 k1) (cond ((bAt s0 i1)==45) (K5 lf n s0 (A1 (i1+1)) k0 k1) (cond (not ((bAt s0 i1)==95)) (k0 ()) (K5 lf n s0 (A1 (i1+1)) k0 k1)))) (cond ((bAt s0 i1)==45) (K5 lf n s0 (A1 (i1+1)) k0 k1) (cond (not ((bAt s0 i1)==95)) (k0 ()) (K5 lf n s0 (A1 (i1+1)) k0 k1))))) (cond (not (ltI (bAt s0 i1) (48:Int))) (cond (not (ltI 57 (bAt s0 i1))) (K5 lf n s0 (A1 (i1+1)) k0 k1) (cond ((bAt s0 i1)==45) (K5 lf n s0 (A1 (i1+1)) k0 k1) (cond (not ((bAt s0 i1)==95)) (k0 ()) (K5 lf n s0 (A1 (i1+1)) k0 k1)))) (cond ((bAt s0 i1)==45) (K5 lf n s0 (A1 (i1+1)) k0 k1) (cond (not ((bAt s0 i1)==95)) (k0 ()) (K5 lf n s0 (A1 (i1+1)) k0 k1))))) none) (k1 s0)
theorem LX (n s0 i1):D6 0 ((Gx lf).keep 4) (bd (Gx lf) cl yh (cd [1,1,0,1,0,0] WM)) n ⟨gp [(0,pS s0),(2,pI i1)] 66,[],s⟩ k =
 K5 lf n s0 i1 (λ_=>k .ret ⟨gp [(2,pB false)] 67,[],s⟩) (λs0=>k (.exit 0) ⟨gp [(0,pS s0)] 69,[],s⟩):=by
 induction n generalizing s0 i1 with
 | zero=>rfl
 | succ n ih=>rw [K5];simp only [<-ih];kernel_rfl
noncomputable def YA {R:Type} (lf:Nat) (s0:By) (k0:Bool->Option R):Option R:=cond (s0==[]) (k0 false) (cond (ltI 63 (s0.length:Int)) (k0 false) (cond (inR 0 s0.length) (cond ((bAt s0 (0:Int))==45) (k0 false) (vl (A1 ((s0.length:Int)-1)) λn'1=>cond (inR n'1 s0.length) (cond ((bAt s0 n'1)==45) (k0 false) (K5 lf lf s0 0 (λ_=>k0 false) (λs'2=>cond (ltI (s'2.length:Int) (4:Int)) (k0 true) (cond (N7 0 (4:Int) s'2.length) (vl (cut s'2 0 (4:Int)) λs'3=>cond (not (s'3==[120,110,45,45])) (k0 true) (cond (N7 4 (s'2.length:Int) s'2.length) (vl (cut s'2 4 (s'2.length:Int)) λs'4=>cond (A3 s'4.length) (k0 (Ap s'4)) none) none)) none)))) none)) none))
theorem At2 (d:Nat) (s0):evC (Gx lf) (d+1) σ yh 69 [pS s0] [] s=YA lf s0 (λr0=>some (pB r0,[],s)):=by
 refine (evE (fn:=Tryz.f69) (by kernel_rfl)).trans ?_
 generalize evC (Gx lf) d=cl
 unfold YA;exact (Eq.trans (by kernel_rfl) (A0 rfl (A0 rfl (A0 (A0 rfl (A7 λn'1=>(A0 (A0 rfl ((LX lf cl yh s (G3 0 (G9 (Gx lf) cl yh (cd [1,1,1] WM) (I8 (Gx lf) Tryz.f69))) lf s0 0).trans (by kernel_rfl))) rfl))) rfl))))
end
theorem MH {R:Type} {k0:Bool->Option R} (n:Int):HM LF n k0=k0 (ptI n):=by
 unfold HM
 by_cases h:n<0
 ·rw [B9 h]
  have:ptI n=false:=by
   cases n with
   | ofNat m=>exact absurd h (by simp)
   | negSucc m=>rfl
  grind
 ·obtain ⟨m,rfl⟩:=Int.eq_ofNat_of_zero_le (show 0<=n by omega)
  rw [A8,Hq]
  unfold P4
  by_cases h1:1114111<m
  ·rw [A9]
   have:Nat.ble m 1114111=false:=by rw [Bool.eq_false_iff,ne_eq,Nat.ble_eq];omega
   grind
  ·rw [A8]
   have:Nat.ble m 1114111=true:=by rw [Nat.ble_eq];omega
   rw [this]
   by_cases h2:m<55296
   ·rw [A9]
    have:Nat.blt m 55296=true:=by rw [Nat.blt_eq];omega
    grind
   ·rw [A8]
    have e:Nat.blt m 55296=false:=by rw [Bool.eq_false_iff,ne_eq,Nat.blt_eq];omega
    rw [e]
    simp only [Bool.not_false,cond_true,cond_false,Bool.false_or,Bool.true_and]
    congr 1
theorem LC {R:Type} {k0:Int->Int->Option R}:∀ (d n k:Nat),d<2305843009213693952->d<n->k+d<=4611686018427387904->
  ∃ d' k',d'<=455/\k'<=k+d/\Qu d k=k'+36*d' / (d'+38)/\Cs LF n (d:Int) (k:Int) k0=k0 (d':Int) (k':Int):=by
 intro d
 induction d using Nat.strongRecOn with
 | _ d ih=>
  intro n k hd hn hk
  obtain ⟨n,rfl⟩:∃ m,n=m+1:=⟨n-1,by omega⟩
  rw [Cs]
  by_cases h:455<d
  ·obtain ⟨d',k',h1,h2,h3,h4⟩:=ih (d / 35) (by omega) n (k+36) (by omega) (by omega) (by omega)
   refine ⟨d',k',h1,by omega,by rw [Vz h];exact h3,?_⟩
   have e:Int.tdiv (d:Int) 35=((d / 35:Nat):Int):=K6 d 35
   have e1:A1 ((d / 35:Nat):Int)=((d / 35:Nat):Int):=A4
   have e2:A1 ((k:Int)+36)=((k+36:Nat):Int):=by rw [A4];rfl
   rw [A9]
   simp only [cond_true,vl,e,e1,e2]
   exact h4
  ·refine ⟨d,k,by omega,by omega,Ma h,?_⟩
   rw [A8]
   rfl
theorem LD {R:Type} {k0:Int->Option R} (d c:Int) (f:Bool) (h0:ltN d 1152921504606846976=true) (h1:ltN c 1000000=true) (h2:ltI 0 c=true):Yi LF d c f k0=k0 (M5 d.toNat c.toNat f:Nat):=by
 obtain ⟨hd0,hd1⟩:=M0.1 h0
 obtain ⟨hc0,hc1⟩:=M0.1 h1
 obtain ⟨d,rfl⟩:=Int.eq_ofNat_of_zero_le hd0
 obtain ⟨c,rfl⟩:=Int.eq_ofNat_of_zero_le hc0
 have hc:=XK.1 h2
 have hLF:=D7
 have key:∀ x:Nat,x<1152921504606846976->Cr LF (x:Int) (c:Int) k0=k0 ((Qu (x+x / c) 0:Nat):Int):=by
  intro x hx
  have hxc:x / c<=x:=Nat.div_le_self _ _
  unfold Cr
  have e1:Int.tdiv (x:Int) (c:Int)=((x / c:Nat):Int):=K6 x c
  generalize x / c=q at *
  have e2:A1 (q:Int)=(q:Int):=A4
  have e3:A1 ((x:Int)+(q:Int))=((x+q:Nat):Int):=by rw [A4];rfl
  rw [show ((c:Int) != 0)=true by simp;omega]
  simp only [cond_true,vl,e1,e2,e3]
  obtain ⟨d',k',g1,g2,g3,g4⟩:=LC (R:=R) (k0:=λdelta'7 k'8=>vl (A1 ((36)*delta'7)) λn'9=>vl (A1 (delta'7+(38))) λn'10=>cond (n'10 != (0)) (vl (A1 (Int.tdiv n'9 n'10)) λn'11=>k0 (A1 (k'8+n'11))) none) (x+q) LF 0 (by omega) (by omega) (by omega)
  refine Eq.trans g4 ?_
  have hq:36*d' / (d'+38)<=36*d':=Nat.div_le_self _ _
  have f1:A1 (36*(d':Int))=((36*d':Nat):Int):=by rw [A4];rfl
  have f2:A1 ((d':Int)+38)=((d'+38:Nat):Int):=by rw [A4];rfl
  have f3:Int.tdiv ((36*d':Nat):Int) ((d'+38:Nat):Int)=((36*d' / (d'+38):Nat):Int):=K6 _ _
  have f4:A1 ((36*d' / (d'+38):Nat):Int)=((36*d' / (d'+38):Nat):Int):=A4
  have f5:A1 ((k':Int)+((36*d' / (d'+38):Nat):Int))=((k'+36*d' / (d'+38):Nat):Int):=by rw [A4];rfl
  simp only [vl,f1,f2,f3,f4,f5]
  rw [show (((d'+38:Nat):Int) != 0)=true by simp;omega,g3]
  rfl
 unfold Yi M5
 rw [Int.toNat_natCast,Int.toNat_natCast]
 cases f with
 | true=>
  have e1:Int.tdiv (d:Int) 700=((d / 700:Nat):Int):=K6 d 700
  have e2:A1 ((d / 700:Nat):Int)=((d / 700:Nat):Int):=A4
  simp only [cond_true,vl,e1,e2,if_true]
  exact key _ (by omega)
 | false=>
  have e1:Int.tdiv (d:Int) 2=((d / 2:Nat):Int):=K6 d 2
  have e2:A1 ((d / 2:Nat):Int)=((d / 2:Nat):Int):=A4
  simp only [cond_false,vl,e1,e2,Bool.false_eq_true,if_false]
  exact key _ (by omega)
theorem SW {R:Type} {k0:Int->Option R} (d:Int) (h0:ltN d 36=true):XW LF d k0=k0 ((U4 d.toNat).toNat:Nat):=by
 obtain ⟨hd0,hd1⟩:=M0.1 h0
 obtain ⟨d,rfl⟩:=Int.eq_ofNat_of_zero_le hd0
 unfold XW
 rw [Int.toNat_natCast,AR (by omega)]
 by_cases h:d<26
 ·rw [A9,if_pos h]
  simp only [cond_true,vl]
  congr 1
  rw [A4,R8]
  rfl
 ·rw [A8,if_neg h]
  simp only [cond_false,vl]
  congr 1
  rw [E3 (n:=48+(d:Int)) (by omega) (by omega),A4,R8]
  omega
theorem Af5 {R:Type} {k0:Int->Option R} (b:Int) (h0:inR b 256=true):At9 LF b k0=k0 (C7 (u8n b)):=by
 simp only [inR,Bool.and_eq_true,decide_eq_true_eq] at h0
 have hc:b=((u8n b).toNat:Int):=by
  unfold u8n
  simp
  omega
 generalize u8n b=c at *
 subst hc
 have hbt:=c.toNat_lt
 unfold At9 C7
 simp only [Po,Pn,vl]
 rcases Tz c with ⟨h1,h2,e⟩ | ⟨h1,h2,e⟩ | ⟨h1,h2,e⟩ | ⟨h1,h2,h3,e⟩
 ·have e2:A1 (wu8 ((c.toNat:Int)-97))=((c.toNat-97:Nat):Int):=by
   rw [R8,A4];omega
  simp (disch:=omega) only [B9,C9,Bool.not_true,Bool.not_false,cond_false,cond_true,e2,e]
 ·have e2:A1 (wu8 ((c.toNat:Int)-65))=((c.toNat-65:Nat):Int):=by
   rw [R8,A4];omega
  simp (disch:=omega) only [B9,C9,Bool.not_true,Bool.not_false,cond_false,cond_true,e2,e]
 ·have e2:A1 (A1 (wu8 ((c.toNat:Int)-48))+26)=((c.toNat-22:Nat):Int):=by
   rw [R8,E3 (n:=(c.toNat:Int)-48) (by omega) (by omega),A4];omega
  simp (disch:=omega) only [B9,C9,Bool.not_true,Bool.not_false,cond_false,cond_true,e2,e]
 ·rw [e]
  by_cases c1:c.toNat<48
  ·simp (disch:=omega) only [B9,C9,Bool.not_true,Bool.not_false,cond_false,cond_true]
  ·by_cases c2:c.toNat<65
   ·simp (disch:=omega) only [B9,C9,Bool.not_true,Bool.not_false,cond_false,cond_true]
   ·by_cases c3:c.toNat<97
    ·simp (disch:=omega) only [B9,C9,Bool.not_true,Bool.not_false,cond_false,cond_true]
    ·simp (disch:=omega) only [B9,C9,Bool.not_true,Bool.not_false,cond_false,cond_true]
theorem Af4 {R:Type} {k0:Int->Option R} (k b:Int) (h0:ltN k 10000000000=true) (h1:ltN b 1000000=true):A89 LF k b k0=k0 (I4 (Int.mul 36 k) b):=by
 obtain ⟨k1,k2⟩:=M0.1 h0
 obtain ⟨b1,b2⟩:=M0.1 h1
 unfold A89 I4
 have e1:A1 (k+1)=k+1:=A4
 have e2:A1 ((36:Int)*(k+1))=36*(k+1):=A4
 have e3:A1 (36*(k+1)-b)=36*(k+1)-b:=A4
 grind
theorem As9 (z t:Bool) (pts:LL) (done basic nn delta i:Int) (b:Nat) (hb:b<1000000):∀ (r q k n:Nat) (l:LL),q<10 ^ r->q<1152921504606846976->k+r<=1000->r<n->l.length+r<=200000->
  ∃ (q':Nat) (pre:By),q'<36/\L9 q k b=pre++[U4 q']/\∀ (R:Type) (k0:Bool->Bool->LL->Int->Int->Int->Int->Int->Int->LL->Option R),Ce LF n z t pts done basic nn delta (b:Int) i (q:Int) (k:Int) l k0=k0 z t pts done basic nn delta i (q':Int) (l++pre.map D4):=by
 have hthr:∀ k:Nat,I4 (Int.mul 36 (k:Int)) (b:Int)=(thr k b:Int):=λk=>by
  rw [show Int.mul 36 (k:Int)=((36*k:Nat):Int) from rfl,Pw]
 have fin:∀ (q k n:Nat) (l:LL),q<thr k b->k<=1000->∃ (q':Nat) (pre:By),q'<36/\L9 q k b=pre++[U4 q']/\∀ (R:Type) (k0:Bool->Bool->LL->Int->Int->Int->Int->Int->Int->LL->Option R),Ce LF (n+1) z t pts done basic nn delta (b:Int) i (q:Int) (k:Int) l k0=k0 z t pts done basic nn delta i (q':Int) (l++pre.map D4):=by
  intro q k n l hq hk
  have ht:=P9 k b
  refine ⟨q,[],by omega,by rw [Kp hq];rfl,λR k0=>?_⟩
  rw [Ce]
  have hq':ltI (q:Int) (thr k b:Int)=true:=A9
  rw [M3,M3,hthr]
  grind
 intro r
 induction r with
 | zero=>
  intro q k n l h _ hk hn hl
  have ht:=P9 k b
  obtain ⟨n,rfl⟩:∃ m,n=m+1:=⟨n-1,by omega⟩
  exact fin q k n l (by simp at h;omega) (by omega)
 | succ r ih=>
  intro q k n l h hq60 hk hn hl
  have ht:=P9 k b
  obtain ⟨n,rfl⟩:∃ m,n=m+1:=⟨n-1,by omega⟩
  by_cases hq:q<thr k b
  ·exact fin q k n l hq (by omega)
  ·have hd:(q-thr k b) / (36-thr k b)<10 ^ r:=FT (by omega) (by rw [Nat.pow_succ] at h;omega)
   have hd2:(q-thr k b) / (36-thr k b)<=q:=Nat.le_trans (Nat.div_le_self _ _) (by omega)
   have hm2:(q-thr k b) % (36-thr k b)<36-thr k b:=Nat.mod_lt _ (by omega)
   obtain ⟨q',pre,e0,e1,e⟩:=ih ((q-thr k b) / (36-thr k b)) (k+1) n (l++[D4 (U4 (thr k b+(q-thr k b) % (36-thr k b)))]) hd (by omega) (by omega) (by omega) (by rw [List.length_append,List.length_singleton];omega)
   refine ⟨q',U4 (thr k b+(q-thr k b) % (36-thr k b))::pre,e0,by rw [Rk hq,e1];rfl,λR k0=>?_⟩
   rw [Ce]
   have c1:A1 ((q:Int)-(thr k b:Int))=((q-thr k b:Nat):Int):=by rw [A4];omega
   have c2:A1 ((36:Int)-(thr k b:Int))=((36-thr k b:Nat):Int):=by rw [A4];omega
   have c3:Int.tmod ((q-thr k b:Nat):Int) ((36-thr k b:Nat):Int)=(((q-thr k b) % (36-thr k b):Nat):Int):=Gm _ _
   have c4:Int.tdiv ((q-thr k b:Nat):Int) ((36-thr k b:Nat):Int)=(((q-thr k b) / (36-thr k b):Nat):Int):=K6 _ _
   have c7:((((36-thr k b:Nat):Int)) != 0)=true:=by rw [bne_iff_ne];omega
   have c8:A1 ((k:Int)+1)=((k+1:Nat):Int):=by rw [A4];rfl
   have hq':ltI (q:Int) (thr k b:Int)=false:=A8
   rw [M3,M3,hthr]
   simp only [vl,hq',c1,c2,c3,c4,c7,c8,cond_true,cond_false,Bool.not_false]
   generalize hA:(q-thr k b) / (36-thr k b)=A at *
   generalize hB:(q-thr k b) % (36-thr k b)=B at *
   have c5:A1 ((thr k b:Int)+(B:Int))=((thr k b+B:Nat):Int):=by rw [A4];rfl
   have c6:A1 (A:Int)=(A:Int):=A4
   rw [c5,c6,M3,D3 (by omega),Int.toNat_natCast]
   refine Eq.trans (e R k0) ?_
   simp [List.append_assoc,D4]
theorem A82 (z t:Bool) (pts:List Nat) (basic m:Nat) (hm:m<=1114112) (hl:pts.length<=256):∀ (r i n:Nat) (s:CT),i+r=pts.length->r<n->s.delta+r<=1000000000000->s.bias<=500->s.out.length+20*r<=90000->s.done+r<=1000->basic<=256->
  (∀ (R:Type) (k0:Bool->Bool->LL->Int->Int->Int->Int->Int->LL->Option R),V2 LF n z t (B1 pts) (s.done:Int) (basic:Int) (m:Int) (s.delta:Int) (s.bias:Int) (i:Int) (s.out.map D4) k0 =
   k0 z t (B1 pts) ((F4 m basic (pts.drop i) s).done:Int) (basic:Int) (m:Int) ((F4 m basic (pts.drop i) s).delta:Int) ((F4 m basic (pts.drop i) s).bias:Int) ((F4 m basic (pts.drop i) s).out.map D4))/\
  (F4 m basic (pts.drop i) s).bias<=500/\(F4 m basic (pts.drop i) s).out.length<=s.out.length+20*(pts.drop i).countP (· == m)/\(F4 m basic (pts.drop i) s).done=s.done+(pts.drop i).countP (· == m)/\
  (F4 m basic (pts.drop i) s).delta<=(if 0<(pts.drop i).countP (· == m) then r else s.delta+r):=by
 have hLF:=D7
 intro r
 induction r with
 | zero=>
  intro i n s hi hn h1 h2 h3 h4 hb
  obtain ⟨n,rfl⟩:∃ m,n=m+1:=⟨n-1,by omega⟩
  rw [List.drop_of_length_le (by omega)]
  refine ⟨λR k0=>?_,h2,by simp [F4],by simp [F4],by simp [F4]⟩
  rw [V2]
  rw [C1,A8]
  rfl
 | succ r ih=>
  intro i n s hi hn h1 h2 h3 h4 hb
  obtain ⟨n,rfl⟩:∃ m,n=m+1:=⟨n-1,by omega⟩
  rw [Ob pts i (by omega)]
  have hg:=Rp pts i (by omega)
  have ok:=Kw (l:=pts) (i:=i) (by omega)
  have hin:inR (i:Int) (B1 pts).length=true:=I6 (by omega) (by rw [C1];omega)
  have hlt:ltI (i:Int) ((B1 pts).length:Int)=true:=B9 (by rw [C1];omega)
  generalize pts.getD i 0=p at *
  have e1:A1 ((i:Int)+1)=((i+1:Nat):Int):=by rw [A4];rfl
  have e2:A1 ((s.delta:Int)+1)=((s.delta+1:Nat):Int):=by rw [A4];rfl
  have e3:A1 ((s.done:Int)+1)=((s.done+1:Nat):Int):=by rw [A4];rfl
  by_cases hp:p<m
  ·have hne:(p==m)=false:=by rw [beq_eq_false_iff_ne];omega
   have hs:F4 m basic (p::pts.drop (i+1)) s=F4 m basic (pts.drop (i+1)) { s with delta:=s.delta+1 }:=by rw [F4,if_pos hp]
   obtain ⟨q1,q2,q3,q4,q5⟩:=ih (i+1) n { s with delta:=s.delta+1 } (by omega) (by omega) (by simp only;omega) h2 (by simp only;omega) (by simp only;omega) hb
   rw [hs,List.countP_cons_of_neg (by rw [hne];simp)]
   refine ⟨λR k0=>?_,q2,q3,q4,?_⟩
   ·rw [V2]
    rw [Int.toNat_natCast]
    simp only [hin,hlt,ok,cond_true,vl,hg,e1,e2]
    rw [A9,cond_true,show ((p:Int) != (m:Int))=true by rw [bne_iff_ne];omega,cond_true]
    exact q1 R k0
   ·simp only at q5
    split at q5<;>split<;>omega
  ·by_cases hq:p=m
   ·subst hq
    have hn20:=AT (q:=s.delta) (k:=0) (b:=s.bias) (by omega)
    have had:=Iv s.delta (s.done+1) (s.done==basic) (by omega)
    have hs:F4 p basic (p::pts.drop (i+1)) s=F4 p basic (pts.drop (i+1)) { delta:=0,bias:=M5 s.delta (s.done+1) (s.done==basic),done:=s.done+1,out:=s.out++L9 s.delta 0 s.bias }:=by rw [F4,if_neg hp,if_pos rfl]
    obtain ⟨q1,q2,q3,q4,q5⟩:=ih (i+1) n { delta:=0,bias:=M5 s.delta (s.done+1) (s.done==basic),done:=s.done+1,out:=s.out++L9 s.delta 0 s.bias } (by omega) (by omega) (by simp only;omega) had (by simp only [List.length_append];omega) (by simp only;omega) hb
    obtain ⟨q',pre,f1,f2,f3⟩:=As9 z t (B1 pts) (s.done:Int) (basic:Int) (p:Int) (s.delta:Int) (i:Int) s.bias (by omega) 19 s.delta 0 LF (s.out.map D4) (by omega) (by omega) (by omega) (by omega) (by rw [List.length_map];omega)
    rw [hs,List.countP_cons_of_pos (by simp)]
    refine ⟨λR k0=>?_,q2,?_,?_,?_⟩
    ·rw [V2]
     have hbeq:((s.done:Int)==(basic:Int))=(s.done==basic):=by
      rw [Bool.eq_iff_iff,beq_iff_eq,beq_iff_eq];omega
     rw [Int.toNat_natCast]
     simp only [hin,hlt,ok,cond_true,vl,hg,e1,e3]
     rw [A8,cond_false,bne_self_eq_false,cond_false]
     refine Eq.trans (f3 R _) ?_
     have hpl:pre.length+1=(L9 s.delta 0 s.bias).length:=by rw [f2];simp
     rw [M3,Int.toNat_natCast,D3 (by rw [List.length_append,List.length_map,List.length_map];omega)]
     simp only [vl,cond_true,e1,e3]
     rw [M3,M3,A9,hbeq]
     simp only [cond_true,Int.toNat_natCast]
     have hrow:s.out.map D4++pre.map D4++[[SV.int .u8 (((U4 q').toNat:Nat):Int)]]=(s.out++L9 s.delta 0 s.bias).map D4:=by
      rw [f2,List.map_append,List.map_append,List.append_assoc];rfl
     rw [hrow]
     exact q1 R k0
    ·simp only [List.length_append] at q3;omega
    ·simp only at q4;omega
    ·simp only at q5
     rw [Bn]
     split at q5<;>omega
   ·have hne:(p==m)=false:=by rw [beq_eq_false_iff_ne];omega
    have hs:F4 m basic (p::pts.drop (i+1)) s=F4 m basic (pts.drop (i+1)) s:=by rw [F4,if_neg hp,if_neg hq]
    obtain ⟨q1,q2,q3,q4,q5⟩:=ih (i+1) n s (by omega) (by omega) (by omega) h2 (by omega) (by omega) hb
    rw [hs,List.countP_cons_of_neg (by rw [hne];simp)]
    refine ⟨λR k0=>?_,q2,q3,q4,?_⟩
    ·rw [V2]
     rw [Int.toNat_natCast]
     simp only [hin,hlt,ok,cond_true,vl,hg,e1]
     rw [A8,cond_false,show ((p:Int) != (m:Int))=true by rw [bne_iff_ne];omega,cond_true]
     exact q1 R k0
    ·split at q5<;>split<;>omega
theorem TL {R:Type} {k0:Bool->Bool->LL->Int->Int->Int->Int->Int->Int->LL->Option R} (z t:Bool) (pts:List Nat) (hl:pts.length<=256) (n0:Nat) (basic delta bias done:Int) (l:LL):∀ (r i n m:Nat),i+r=pts.length->r<n->
  Em LF n z t (B1 pts) done basic (n0:Int) delta bias (m:Int) (i:Int) l k0=k0 z t (B1 pts) done basic (n0:Int) delta bias ((F3 n0 (pts.drop i) m:Nat):Int) l:=by
 intro r
 induction r with
 | zero=>
  intro i n m hi hn
  obtain ⟨n,rfl⟩:∃ m,n=m+1:=⟨n-1,by omega⟩
  rw [Em]
  rw [C1,A8,List.drop_of_length_le (by omega)]
  rfl
 | succ r ih=>
  intro i n m hi hn
  obtain ⟨n,rfl⟩:∃ m,n=m+1:=⟨n-1,by omega⟩
  have hg:=Rp pts i (by omega)
  have ok:=Kw (l:=pts) (i:=i) (by omega)
  have hin:inR (i:Int) (B1 pts).length=true:=I6 (by omega) (by rw [C1];omega)
  have hlt:ltI (i:Int) ((B1 pts).length:Int)=true:=B9 (by rw [C1];omega)
  rw [Em,Ob pts i (by omega)]
  generalize pts.getD i 0=p at *
  have e1:A1 ((i:Int)+1)=((i+1:Nat):Int):=by rw [A4];rfl
  rw [Int.toNat_natCast]
  simp only [hin,hlt,ok,cond_true,vl,hg,e1,F3]
  by_cases h:n0<=p
  ·rw [if_pos h,A8,Bool.not_false,cond_true]
   have:(if (p:Int)<(m:Int) then (p:Int) else (m:Int))=((min m p:Nat):Int):=by split<;>omega
   rw [this]
   exact ih (i+1) n (min m p) (by omega) (by omega)
  ·rw [if_neg h,A9,Bool.not_true,cond_false]
   exact ih (i+1) n m (by omega) (by omega)
theorem At0 (z t:Bool) (pts:List Nat) (basic:Nat) (hl:pts.length<=256) (hb:basic<=256) (hall:∀ p∈pts,p<=1114111):∀ (f n n':Nat) (s:CT),s.done=pts.countP (λp=>decide (p<n))->pts.length<=s.done+f->f<n'->s.delta<=300->s.bias<=500->s.out.length+20*(pts.length-s.done)<=80000->n<=1114112->
  ∀ (R:Type) (k0:LL->Option R),Cf LF n' z t (B1 pts) (s.done:Int) (basic:Int) (n:Int) (s.delta:Int) (s.bias:Int) (s.out.map D4) k0=k0 ((N1 pts basic f n s).out.map D4):=by
 intro f
 have hLF:=D7
 induction f with
 | zero=>
  intro n n' s hd hf hn h1 h2 h3 h4 R k0
  obtain ⟨n',rfl⟩:∃ m,n'=m+1:=⟨n'-1,by omega⟩
  rw [Cf]
  rw [C1,A8]
  rfl
 | succ f ih=>
  intro n n' s hd hf hn h1 h2 h3 h4 R k0
  obtain ⟨n',rfl⟩:∃ m,n'=m+1:=⟨n'-1,by omega⟩
  rw [Cf]
  rw [C1]
  have hcl:pts.countP (λp=>decide (p<n))<=pts.length:=List.countP_le_length
  by_cases hlt:s.done<pts.length
  ·obtain ⟨p0,hp0,hp1⟩:=PH (n:=n) (l:=pts) (by omega)
   obtain ⟨g1,g2,g3⟩:=Bc n pts 1114112
   obtain ⟨b1,b2,b3⟩:=Bc n pts 1073741824
   have g4:=g3 p0 hp0 hp1
   have b4:=b3 p0 hp0 hp1
   have g5:=hall p0 hp0
   have hmem:F3 n pts 1114112∈pts/\n<=F3 n pts 1114112:=by grind
   have bmem:F3 n pts 1073741824∈pts/\n<=F3 n pts 1073741824:=by grind
   have heq:F3 n pts 1073741824=F3 n pts 1114112:=by grind
   have he:N1 pts basic (f+1) n s=N1 pts basic f (F3 n pts 1114112+1) { F4 (F3 n pts 1114112) basic pts { s with delta:=s.delta+(F3 n pts 1114112-n)*(s.done+1) } with delta:=(F4 (F3 n pts 1114112) basic pts { s with delta:=s.delta+(F3 n pts 1114112-n)*(s.done+1) }).delta+1 }:=by
    rw [N1,if_pos hlt]
   rw [he,A9,cond_true]
   have hleast:=λ(K:Bool->Bool->LL->Int->Int->Int->Int->Int->Int->LL->Option R)=>TL (k0:=K) z t pts hl n (basic:Int) (s.delta:Int) (s.bias:Int) (s.done:Int) (s.out.map D4) pts.length 0 LF 1073741824 (by omega) (by omega)
   rw [List.drop_zero,heq] at hleast
   refine Eq.trans (hleast _) ?_
   clear hleast heq b1 b2 b3 b4 bmem
   generalize F3 n pts 1114112=m at *
   have hmul:(m-n)*(s.done+1)<=1114112*256:=Nat.mul_le_mul (by omega) (by omega)
   have e1:A1 ((s.done:Int)+1)=((s.done+1:Nat):Int):=by rw [A4];rfl
   have e2:A1 ((m:Int)-(n:Int))=((m-n:Nat):Int):=by rw [A4];omega
   have e3:A1 (((m-n:Nat):Int)*((s.done+1:Nat):Int))=(((m-n)*(s.done+1):Nat):Int):=by
    rw [<-Int.natCast_mul]
    exact A4
   have e4:A1 ((s.delta:Int)+(((m-n)*(s.done+1):Nat):Int))=((s.delta+(m-n)*(s.done+1):Nat):Int):=by
    rw [A4];rfl
   simp only [vl,e1,e2,e3,e4]
   have hin:=A82 z t pts basic m (by omega) hl pts.length 0 LF { s with delta:=s.delta+(m-n)*(s.done+1) } (by omega) (by omega) (by simp only;omega) h2 (by simp only;omega) (by simp only;omega) hb
   rw [List.drop_zero] at hin
   obtain ⟨q1,q2,q3,q4,q5⟩:=hin
   refine Eq.trans (q1 R _) ?_
   have hcnt:0<pts.countP (· == m):=List.countP_pos_iff.2 ⟨m,hmem.1,by simp⟩
   rw [if_pos hcnt] at q5
   have hstep:=Nu hmem.2 pts g3
   generalize F4 m basic pts { s with delta:=s.delta+(m-n)*(s.done+1) } = s' at *
   simp only at q3 q4
   have e5:A1 ((s'.delta:Int)+1)=((s'.delta+1:Nat):Int):=by rw [A4];rfl
   have e6:A1 ((m:Int)+1)=((m+1:Nat):Int):=by rw [A4];rfl
   have hcl2:pts.countP (λp=>decide (p<m+1))<=pts.length:=List.countP_le_length
   simp only [e5,e6]
   exact ih (m+1) n' { s' with delta:=s'.delta+1 } (by simp only;omega) (by simp only;omega) (by omega) (by simp only;omega) q2 (by simp only;omega) (by omega) R k0
  ·rw [A8]
   rw [N1,if_neg hlt]
   rfl
theorem TF (z t:Bool) (P:List Int) (hl:P.length<=256):∀ (r i n:Nat) (out:By),i+r=P.length->r<n->out.length+r<=1000->
  ((P.drop i).all ptI=true->∀ (R:Type) (k0:LL->Option R) (k1:Bool->Bool->LL->LL->Option R),O9 LF n z t (V4 P) (i:Int) (out.map D4) k0 k1=k1 z t (V4 P) ((out++Q0 (P.drop i)).map D4))/\
  ((P.drop i).all ptI=false->∃ l,∀ (R:Type) (k0:LL->Option R) (k1:Bool->Bool->LL->LL->Option R),O9 LF n z t (V4 P) (i:Int) (out.map D4) k0 k1=k0 l):=by
 intro r
 induction r with
 | zero=>
  intro i n out hi hn ho
  obtain ⟨n,rfl⟩:∃ m,n=m+1:=⟨n-1,by omega⟩
  rw [List.drop_of_length_le (by omega)]
  refine ⟨λ_ R k0 k1=>?_,λh=>(by cases h)⟩
  rw [O9]
  rw [P2,A8]
  simp [Q0]
 | succ r ih=>
  intro i n out hi hn ho
  obtain ⟨n,rfl⟩:∃ m,n=m+1:=⟨n-1,by omega⟩
  have hg:=PZ P i (by omega)
  have ok:=GN (l:=P) (i:=i) (by omega)
  have hin:inR (i:Int) (V4 P).length=true:=I6 (by omega) (by rw [P2];omega)
  have hlt:ltI (i:Int) ((V4 P).length:Int)=true:=B9 (by rw [P2];omega)
  rw [JM P i (by omega)]
  generalize P.getD i 0=x at *
  have e1:A1 ((i:Int)+1)=((i+1:Nat):Int):=by rw [A4];rfl
  cases hx:ptI x with
  | false=>
   refine ⟨λh=>?_,λ_=>⟨out.map D4,λR k0 k1=>?_⟩⟩
   ·rw [List.all_cons,hx] at h;cases h
   ·rw [O9]
    rw [Int.toNat_natCast]
    simp only [hin,hlt,ok,cond_true,vl,hg,hx,Bool.not_false]
  | true=>
   obtain ⟨p0,p1⟩:=Na hx
   rw [List.all_cons,hx,Bool.true_and]
   by_cases h128:x<128
   ·have hbs:Q0 (x::P.drop (i+1))=UInt8.ofNat x.toNat::Q0 (P.drop (i+1)):=by
     unfold Q0;rw [List.filter_cons_of_pos (by simpa using h128)];rfl
    have hrow:out.map D4++[[SV.int .u8 (wu8 x)]]=(out++[UInt8.ofNat x.toNat]).map D4:=by rw [Av3 x p0 h128];simp
    obtain ⟨q1,q2⟩:=ih (i+1) n (out++[UInt8.ofNat x.toNat]) (by omega) (by omega) (by simp;omega)
    have step:∀ (R:Type) (k0:LL->Option R) (k1:Bool->Bool->LL->LL->Option R),O9 LF (n+1) z t (V4 P) (i:Int) (out.map D4) k0 k1=O9 LF n z t (V4 P) ((i+1:Nat):Int) ((out++[UInt8.ofNat x.toNat]).map D4) k0 k1:=by
     intro R k0 k1
     rw [O9]
     rw [Int.toNat_natCast]
     simp only [hin,hlt,ok,cond_true,vl,hg,hx,Bool.not_true,cond_false,e1]
     rw [B9 h128,List.length_map,D3 (by omega),hrow]
     rfl
    refine ⟨λh R k0 k1=>?_,λh=>?_⟩
    ·rw [step,q1 h,hbs];simp
    ·obtain ⟨l,e⟩:=q2 h
     exact ⟨l,λR k0 k1=>by rw [step];exact e R k0 k1⟩
   ·have hbs:Q0 (x::P.drop (i+1))=Q0 (P.drop (i+1)):=by
     unfold Q0;rw [List.filter_cons_of_neg (by simpa using h128)]
    obtain ⟨q1,q2⟩:=ih (i+1) n out (by omega) (by omega) (by omega)
    have step:∀ (R:Type) (k0:LL->Option R) (k1:Bool->Bool->LL->LL->Option R),O9 LF (n+1) z t (V4 P) (i:Int) (out.map D4) k0 k1=O9 LF n z t (V4 P) ((i+1:Nat):Int) (out.map D4) k0 k1:=by
     intro R k0 k1
     rw [O9]
     rw [Int.toNat_natCast]
     simp only [hin,hlt,ok,cond_true,vl,hg,hx,Bool.not_true,cond_false,e1]
     rw [A8]
     rfl
    refine ⟨λh R k0 k1=>?_,λh=>?_⟩
    ·rw [step,q1 h,hbs]
    ·obtain ⟨l,e⟩:=q2 h
     exact ⟨l,λR k0 k1=>by rw [step];exact e R k0 k1⟩
theorem TG (z t:Bool) (P:List Int):(R0 P=([],3)/\∀ (R:Type) (k0:Unit->Option R) (k1:By->Int->LL->Option R),LG LF z t (V4 P) k0 k1=k0 ())\/
  (∃ l,∀ (R:Type) (k0:Unit->Option R) (k1:By->Int->LL->Option R),LG LF z t (V4 P) k0 k1=k1 (R0 P).1 ((R0 P).2:Nat) l):=by
 have hLF:=D7
 by_cases hl:256<P.length
 ·refine .inl ⟨by unfold R0;rw [if_pos hl],λR k0 k1=>?_⟩
  unfold LG
  rw [P2,A9]
  rfl
 ·right
  obtain ⟨q1,q2⟩:=TF z t P (by omega) P.length 0 LF [] (by omega) (by omega) (by simp;omega)
  rw [List.drop_zero] at q1 q2
  cases ha:P.all ptI with
  | false=>
   obtain ⟨l,e⟩:=q2 ha
   refine ⟨l,λR k0 k1=>?_⟩
   unfold LG
   rw [P2,A8,cond_false]
   refine Eq.trans (e R _ _) ?_
   unfold R0
   rw [if_neg hl,ha]
   rfl
  | true=>
   obtain ⟨pts,rfl,hp1,hp2⟩:=XV ha
   rw [List.length_map] at hl
   have hen:R0 (pts.map λn:Nat=>(n:Int))=Bw pts:=by
    unfold R0
    rw [List.length_map,if_neg hl,ha]
    simp [Function.comp_def]
   have hbl:=Mi pts
   have hbc:pts.countP (λp=>decide (p<128))<=pts.length:=List.countP_le_length
   have main:∀ (o:By),o.length<=300->∀ (R:Type) (k0:LL->Option R),Cf LF LF z t (B1 pts) ((F8 pts).length:Int) ((F8 pts).length:Int) 128 0 72 (o.map D4) k0=k0 ((N1 pts (F8 pts).length 256 128 { delta:=0,bias:=72,done:=(F8 pts).length,out:=o }).out.map D4):=by
    intro o ho R k0
    exact At0 z t pts (F8 pts).length (by omega) (by omega) hp2 256 128 LF { delta:=0,bias:=72,done:=(F8 pts).length,out:=o } hbl (by simp only;omega) (by omega) (by simp) (by simp) (by simp only;omega) (by omega) R k0
   have he2:Bw pts=((N1 pts (F8 pts).length 256 128 { delta:=0,bias:=72,done:=(F8 pts).length,out:=if (F8 pts).isEmpty then [] else F8 pts++[45] }).out,0):=by
    unfold Bw
    grind
   refine ⟨(Bw pts).1.map D4,λR k0 k1=>?_⟩
   unfold LG
   rw [P2,List.length_map,A8,cond_false,hen]
   have q1':=q1 ha R
   refine Eq.trans (q1' _ _) ?_
   rw [List.nil_append,Wd,Ku]
   simp only [vl,List.length_map]
   by_cases hbe:F8 pts=[]
   ·rw [hbe,List.length_nil,A8,cond_false]
    have mm:=main [] (by simp) R
    rw [hbe,List.length_nil] at mm
    rw [List.map_nil] at mm
    refine Eq.trans (mm _) ?_
    rw [hbe] at he2
    rw [he2]
    simp only [List.isEmpty_nil,if_true,List.length_nil]
    rw [Fq,Gc]
    rfl
   ·have hpos:0<(F8 pts).length:=List.length_pos_iff.2 hbe
    rw [A9,cond_true,D3 (by omega),cond_true]
    have hrow:(F8 pts).map D4++[[SV.int .u8 (45:Int)]]=(F8 pts++[45]).map D4:=by rw [List.map_append];rfl
    rw [hrow]
    refine Eq.trans (main (F8 pts++[45]) (by simp;omega) R _) ?_
    rw [he2,if_neg (by simpa using hbe)]
    rw [Fq,Gc]
    rfl
theorem A83 (z t:Bool) (p:LL) (h0:p.all Jm=true):∃ r H,LG LF z t p (λ_=>rv (.tup [.s (.str []),.s (.int .i64 3)]) []) (λr0 r1 l=>rv (.tup [.s (.str r0),.s (.int .i64 r1)]) [.arr true 5 1 l])=rv r H/\
  r.stab [0,0] H = .tup [.s (.str (R0 (p.map elI)).1),.s (.int .i64 ((R0 (p.map elI)).2:Nat))]:=by
 obtain ⟨P,rfl⟩:=XA h0
 rw [JN]
 rcases TG z t P with ⟨h1,h2⟩ | ⟨l,h2⟩
 ·exact ⟨_,_,h2 _ _ _,by rw [h1];rfl⟩
 ·exact ⟨_,_,h2 _ _ _,rfl⟩
theorem UG {R:Type} {k0:Unit->Option R} {k1:By->Int->Option R} (s:By) (hs:s.length<=1000000):∀ (r i n cut:Nat),i+r=s.length->r<n->
  Be LF n s (cut:Int) (i:Int) k0 k1=if (s.drop i).any (λb=>Nat.ble 128 b.toNat) then k0 () else k1 s ((if 45∈s.drop i then i+E7 (s.drop i) else cut:Nat):Int):=by
 intro r
 induction r with
 | zero=>
  intro i n cut hi hn
  obtain ⟨n,rfl⟩:∃ m,n=m+1:=⟨n-1,by omega⟩
  rw [Be]
  rw [A8,List.drop_of_length_le (by omega)]
  rfl
 | succ r ih=>
  intro i n cut hi hn
  obtain ⟨n,rfl⟩:∃ m,n=m+1:=⟨n-1,by omega⟩
  rw [Be]
  have e1:A1 ((i:Int)+1)=((i+1:Nat):Int):=by rw [A4];rfl
  rw [A9,J3,I2,J1 s i (by omega),e1,List.any_cons]
  simp only [cond_true]
  generalize s.getD i 0=b
  by_cases h:128<=b.toNat
  ·rw [A8,Nat.ble_eq_true_of_le h]
   rfl
  ·have:Nat.ble 128 b.toNat=false:=by rw [Bool.eq_false_iff,ne_eq,Nat.ble_eq];exact h
   rw [A9,this,Bool.false_or,Bool.not_true,cond_false]
   have hb:((b.toNat:Int)==45)=(b==45):=U3 b 45 (by omega)
   rw [hb]
   by_cases h45:b=45
   ·subst h45
    rw [show ((45:UInt8)==45)=true from rfl,cond_true]
    refine (ih (i+1) n i (by omega) (by omega)).trans ?_
    have hm:(45:UInt8)∈45::s.drop (i+1):=by simp
    rw [if_pos hm]
    have:(if (45:UInt8)∈s.drop (i+1) then i+1+E7 (s.drop (i+1)) else i)=i+E7 (45::s.drop (i+1)):=by
     rw [E7]
     grind
    rw [this]
   ·rw [show (b==45)=false from beq_eq_false_iff_ne.2 h45,cond_false]
    refine (ih (i+1) n cut (by omega) (by omega)).trans ?_
    have hm:((45:UInt8)∈b::s.drop (i+1))↔((45:UInt8)∈s.drop (i+1)):=by simp [Ne.symm h45]
    have:(if (45:UInt8)∈s.drop (i+1) then i+1+E7 (s.drop (i+1)) else cut)=(if (45:UInt8)∈b::s.drop (i+1) then i+E7 (b::s.drop (i+1)) else cut):=by
     by_cases q:(45:UInt8)∈s.drop (i+1)
     ·rw [if_pos q,if_pos (hm.2 q),E7,if_pos q];omega
     grind
    rw [this]
theorem UB {R:Type} {k0:By->Int->LL->Option R} (s:By) (hs:s.length<=1000000) (k:Nat) (hk:k<=s.length):∀ (r i n:Nat) (l:List Nat),i+r=k->r<n->l.length=i->
  Dt LF n s (k:Int) (i:Int) (B1 l) k0=k0 s (k:Int) (B1 (l++((s.take k).drop i).map (·.toNat))):=by
 intro r
 induction r with
 | zero=>
  intro i n l hi hn hl
  obtain ⟨n,rfl⟩:∃ m,n=m+1:=⟨n-1,by omega⟩
  rw [Dt]
  rw [A8,List.drop_of_length_le (by rw [List.length_take];omega)]
  simp
 | succ r ih=>
  intro i n l hi hn hl
  obtain ⟨n,rfl⟩:∃ m,n=m+1:=⟨n-1,by omega⟩
  rw [Dt]
  have e1:A1 ((i:Int)+1)=((i+1:Nat):Int):=by rw [A4];rfl
  have hd:(s.take k).drop i=s.getD i 0::(s.take k).drop (i+1):=by
   rw [J1 (s.take k) i (by rw [List.length_take];omega)]
   congr 1
   rw [List.getD_eq_getElem?_getD,List.getD_eq_getElem?_getD,List.getElem?_take_of_lt (by omega)]
  rw [A9,J3,I2,hd,C1,D3 (by omega),e1]
  simp only [cond_true]
  generalize s.getD i 0=b
  have hb:=b.toNat_lt
  have e2:A1 (b.toNat:Int)=(b.toNat:Int):=A4
  have hrow:B1 l++[[SV.int .i64 (A1 (b.toNat:Int))]]=B1 (l++[b.toNat]):=by rw [e2,Gd];rfl
  rw [hrow]
  refine (ih (i+1) n _ (by omega) (by omega) (by simp;omega)).trans ?_
  simp
theorem UE (s:By) (hs:s.length<=1000000) (out:LL) (n3 b old:Int) (l:LL) (hb0:0<=b) (hb1:b<1000000):∀ (r p n k:Nat) (i w:Int),p+r=s.length->r<n->0<=i->i<=1099511627776->0<=w->w<=1099511627776->k+r<=10000000->
  ((O4 b (s.drop p) i w ((36*k:Nat):Int)).1=0->∃ p',p<p'/\p'<=s.length/\(O4 b (s.drop p) i w ((36*k:Nat):Int)).2.1=s.drop p'/\∀ (R:Type) (k0:Int->LL->Option R) (k1:By->LL->Int->Int->Int->Int->LL->Option R),P6 LF n s out (p:Int) n3 i b old w (k:Int) l k0 k1=k1 s out (p':Int) n3 (O4 b (s.drop p) i w ((36*k:Nat):Int)).2.2 old l)/\
  ((O4 b (s.drop p) i w ((36*k:Nat):Int)).1≠0->∀ (R:Type) (k0:Int->LL->Option R) (k1:By->LL->Int->Int->Int->Int->LL->Option R),P6 LF n s out (p:Int) n3 i b old w (k:Int) l k0 k1=k0 (O4 b (s.drop p) i w ((36*k:Nat):Int)).1 l):=by
 intro r
 induction r with
 | zero=>
  intro p n k i w hp hn hi hi1 hw hw1 hk
  obtain ⟨n,rfl⟩:∃ m,n=m+1:=⟨n-1,by omega⟩
  rw [List.drop_of_length_le (by omega)]
  refine ⟨λh=>by simp [O4] at h,λ_ R k0 k1=>?_⟩
  rw [P6]
  rw [A8]
  rfl
 | succ r ih=>
  intro p n k i w hp hn hi hi1 hw hw1 hk
  obtain ⟨n,rfl⟩:∃ m,n=m+1:=⟨n-1,by omega⟩
  have hc:=J1 s p (by omega)
  have hbt:=I2 s p
  rw [hc]
  generalize s.getD p 0=c at *
  have hv:=Ck c
  have ht:=Hz ((36*k:Nat):Int) b
  have e0:Int.mul 36 (k:Int)=((36*k:Nat):Int):=rfl
  have e6:A1 ((p:Int)+1)=((p+1:Nat):Int):=by rw [A4];rfl
  have e7:A1 ((k:Int)+1)=((k+1:Nat):Int):=by rw [A4];rfl
  have start:∀ (R:Type) (k0:Int->LL->Option R) (k1:By->LL->Int->Int->Int->Int->LL->Option R),P6 LF (n+1) s out (p:Int) n3 i b old w (k:Int) l k0 k1 =
    cond (ltI (C7 c) 0) (k0 4 l)
     (vl (A1 (i+(A1 (C7 c*w)))) λn10=>cond (ltI 1099511627776 n10) (k0 19 l)
      (cond (ltI (C7 c) (I4 ((36*k:Nat):Int) b)) (k1 s out ((p+1:Nat):Int) n3 n10 old l)
       (vl (A1 (36-(I4 ((36*k:Nat):Int) b))) λn13=>cond (ltI 1099511627776 (A1 (w*n13))) (k0 19 l) (P6 LF n s out ((p+1:Nat):Int) n3 n10 b old (A1 (w*n13)) ((k+1:Nat):Int) l k0 k1)))):=by
   intro R k0 k1
   rw [P6]
   have hcl:=c.toNat_lt
   rw [A9,J3,hbt,J3,Pz,M3,M3,e0,e6,e7]
   rfl
  unfold O4
  by_cases h1:C7 c<0
  ·rw [if_pos h1]
   refine ⟨λh=>by simp at h,λ_ R k0 k1=>?_⟩
   rw [start,B9 h1]
   rfl
  ·rw [if_neg h1]
   have hm:=Aj (by omega) hv.2 hw hw1
   have e1:A1 (C7 c*w)=C7 c*w:=A4
   have e2:A1 (i+C7 c*w)=i+C7 c*w:=A4
   by_cases h2:1099511627776<i+C7 c*w
   ·rw [if_pos h2]
    refine ⟨λh=>by simp at h,λ_ R k0 k1=>?_⟩
    rw [start,A8,e1,e2]
    simp only [vl,cond_false]
    rw [B9 h2]
    rfl
   ·rw [if_neg h2]
    by_cases h3:C7 c<I4 ((36*k:Nat):Int) b
    ·rw [if_pos h3]
     refine ⟨λ_=>⟨p+1,by omega,by omega,rfl,λR k0 k1=>?_⟩,λh=>absurd rfl h⟩
     rw [start,A8,e1,e2]
     simp only [vl,cond_false]
     rw [A8,B9 h3]
     rfl
    ·rw [if_neg h3]
     have e3:A1 (36-I4 ((36*k:Nat):Int) b)=36-I4 ((36*k:Nat):Int) b:=A4
     have hm2:=Aj (x:=36-I4 ((36*k:Nat):Int) b) (by omega) (by omega) hw hw1
     rw [Int.mul_comm] at hm2
     have e4:A1 (w*(36-I4 ((36*k:Nat):Int) b))=w*(36-I4 ((36*k:Nat):Int) b):=A4
     by_cases h4:1099511627776<w*(36-I4 ((36*k:Nat):Int) b)
     ·rw [if_pos h4]
      refine ⟨λh=>by simp at h,λ_ R k0 k1=>?_⟩
      rw [start,A8,e1,e2]
      simp only [vl,cond_false]
      rw [A8,A8,e3,e4,B9 h4]
      rfl
     ·rw [if_neg h4]
      have ek:((36*k:Nat):Int)+36=((36*(k+1):Nat):Int):=by omega
      rw [ek]
      obtain ⟨q1,q2⟩:=ih (p+1) n (k+1) (i+C7 c*w) (w*(36-I4 ((36*k:Nat):Int) b)) (by omega) (by omega) (by omega) (by omega) (by omega) (by omega) (by omega)
      have st2:∀ (R:Type) (k0:Int->LL->Option R) (k1:By->LL->Int->Int->Int->Int->LL->Option R),P6 LF (n+1) s out (p:Int) n3 i b old w (k:Int) l k0 k1=P6 LF n s out ((p+1:Nat):Int) n3 (i+C7 c*w) b old (w*(36-I4 ((36*k:Nat):Int) b)) ((k+1:Nat):Int) l k0 k1:=by simp_all
      refine ⟨λh=>?_,λh R k0 k1=>by rw [st2];exact q2 h R k0 k1⟩
      obtain ⟨p',g1,g2,g3,g4⟩:=q1 h
      exact ⟨p',by omega,g2,g3,λR k0 k1=>by rw [st2];exact g4 R k0 k1⟩
theorem UF (s:By) (hs:s.length<=1000000) (l:LL):∀ (r p n k:Nat) (i w:Int),p+r=s.length->r<n->0<=i->i<=1099511627776->0<=w->w<=1099511627776->k+r<=10000000->
  ((O4 72 (s.drop p) i w ((36*k:Nat):Int)).1=0->∃ p',p<p'/\p'<=s.length/\(O4 72 (s.drop p) i w ((36*k:Nat):Int)).2.1=s.drop p'/\∀ (R:Type) (k0:Int->LL->Option R) (k1:By->Int->Int->LL->Option R),P7 LF n s (p:Int) i w (k:Int) l k0 k1=k1 s (p':Int) (O4 72 (s.drop p) i w ((36*k:Nat):Int)).2.2 l)/\
  ((O4 72 (s.drop p) i w ((36*k:Nat):Int)).1≠0->∀ (R:Type) (k0:Int->LL->Option R) (k1:By->Int->Int->LL->Option R),P7 LF n s (p:Int) i w (k:Int) l k0 k1=k0 (O4 72 (s.drop p) i w ((36*k:Nat):Int)).1 l):=by
 intro r
 induction r with
 | zero=>
  intro p n k i w hp hn hi hi1 hw hw1 hk
  obtain ⟨n,rfl⟩:∃ m,n=m+1:=⟨n-1,by omega⟩
  rw [List.drop_of_length_le (by omega)]
  refine ⟨λh=>by simp [O4] at h,λ_ R k0 k1=>?_⟩
  rw [P7]
  rw [A8]
  rfl
 | succ r ih=>
  intro p n k i w hp hn hi hi1 hw hw1 hk
  obtain ⟨n,rfl⟩:∃ m,n=m+1:=⟨n-1,by omega⟩
  have hc:=J1 s p (by omega)
  have hbt:=I2 s p
  rw [hc]
  generalize s.getD p 0=c at *
  have hv:=Ck c
  have ht:=Hz ((36*k:Nat):Int) 72
  have e0:Int.mul 36 (k:Int)=((36*k:Nat):Int):=rfl
  have e6:A1 ((p:Int)+1)=((p+1:Nat):Int):=by rw [A4];rfl
  have e7:A1 ((k:Int)+1)=((k+1:Nat):Int):=by rw [A4];rfl
  have start:∀ (R:Type) (k0:Int->LL->Option R) (k1:By->Int->Int->LL->Option R),P7 LF (n+1) s (p:Int) i w (k:Int) l k0 k1 =
    cond (ltI (C7 c) 0) (k0 4 l)
     (vl (A1 (i+(A1 (C7 c*w)))) λn10=>cond (ltI 1099511627776 n10) (k0 19 l)
      (cond (ltI (C7 c) (I4 ((36*k:Nat):Int) 72)) (k1 s ((p+1:Nat):Int) n10 l)
       (vl (A1 (36-(I4 ((36*k:Nat):Int) 72))) λn13=>cond (ltI 1099511627776 (A1 (w*n13))) (k0 19 l) (P7 LF n s ((p+1:Nat):Int) n10 (A1 (w*n13)) ((k+1:Nat):Int) l k0 k1)))):=by
   intro R k0 k1
   rw [P7]
   have hcl:=c.toNat_lt
   rw [A9,J3,hbt,J3,Pz,M3,M3,e0,e6,e7]
   rfl
  unfold O4
  by_cases h1:C7 c<0
  ·rw [if_pos h1]
   refine ⟨λh=>by simp at h,λ_ R k0 k1=>?_⟩
   rw [start,B9 h1]
   rfl
  ·rw [if_neg h1]
   have hm:=Aj (by omega) hv.2 hw hw1
   have e1:A1 (C7 c*w)=C7 c*w:=A4
   have e2:A1 (i+C7 c*w)=i+C7 c*w:=A4
   by_cases h2:1099511627776<i+C7 c*w
   ·rw [if_pos h2]
    refine ⟨λh=>by simp at h,λ_ R k0 k1=>?_⟩
    rw [start,A8,e1,e2]
    simp only [vl,cond_false]
    rw [B9 h2]
    rfl
   ·rw [if_neg h2]
    by_cases h3:C7 c<I4 ((36*k:Nat):Int) 72
    ·rw [if_pos h3]
     refine ⟨λ_=>⟨p+1,by omega,by omega,rfl,λR k0 k1=>?_⟩,λh=>absurd rfl h⟩
     rw [start,A8,e1,e2]
     simp only [vl,cond_false]
     rw [A8,B9 h3]
     rfl
    ·rw [if_neg h3]
     have e3:A1 (36-I4 ((36*k:Nat):Int) 72)=36-I4 ((36*k:Nat):Int) 72:=A4
     have hm2:=Aj (x:=36-I4 ((36*k:Nat):Int) 72) (by omega) (by omega) hw hw1
     rw [Int.mul_comm] at hm2
     have e4:A1 (w*(36-I4 ((36*k:Nat):Int) 72))=w*(36-I4 ((36*k:Nat):Int) 72):=A4
     by_cases h4:1099511627776<w*(36-I4 ((36*k:Nat):Int) 72)
     ·rw [if_pos h4]
      refine ⟨λh=>by simp at h,λ_ R k0 k1=>?_⟩
      rw [start,A8,e1,e2]
      simp only [vl,cond_false]
      rw [A8,A8,e3,e4,B9 h4]
      rfl
     ·rw [if_neg h4]
      have ek:((36*k:Nat):Int)+36=((36*(k+1):Nat):Int):=by omega
      rw [ek]
      obtain ⟨q1,q2⟩:=ih (p+1) n (k+1) (i+C7 c*w) (w*(36-I4 ((36*k:Nat):Int) 72)) (by omega) (by omega) (by omega) (by omega) (by omega) (by omega) (by omega)
      have st2:∀ (R:Type) (k0:Int->LL->Option R) (k1:By->Int->Int->LL->Option R),P7 LF (n+1) s (p:Int) i w (k:Int) l k0 k1=P7 LF n s ((p+1:Nat):Int) (i+C7 c*w) (w*(36-I4 ((36*k:Nat):Int) 72)) ((k+1:Nat):Int) l k0 k1:=by simp_all
      refine ⟨λh=>?_,λh R k0 k1=>by rw [st2];exact q2 h R k0 k1⟩
      obtain ⟨p',g1,g2,g3,g4⟩:=q1 h
      exact ⟨p',by omega,g2,g3,λR k0 k1=>by rw [st2];exact g4 R k0 k1⟩
theorem BN (l:List Nat) (k:Nat):(B1 l).take k=B1 (l.take k):=by unfold B1;rw [List.map_take]
theorem BM (l:List Nat) (k:Nat):(B1 l).drop k=B1 (l.drop k):=by unfold B1;rw [List.map_drop]
theorem UD (s:By) (hs:s.length<=1000000) (l:LL):∀ (r p f:Nat) (pts:List Nat) (n i b:Nat),p+r=s.length->r<f->pts.length<=256->n<=1114111->i<=1000->b<=500->
  ((F2 (s.drop p) pts n i b false).2=0->∀ (R:Type) (k0:Int->LL->Option R) (k1 k2:LL->LL->Option R),L3 LF f s (B1 pts) (p:Int) (n:Int) (i:Int) (b:Int) l k0 k1 k2=k2 (B1 (F2 (s.drop p) pts n i b false).1) l)/\
  ((F2 (s.drop p) pts n i b false).2≠0->(F2 (s.drop p) pts n i b false).1=[]/\((∀ (R:Type) (k0:Int->LL->Option R) (k1 k2:LL->LL->Option R),L3 LF f s (B1 pts) (p:Int) (n:Int) (i:Int) (b:Int) l k0 k1 k2=k0 ((F2 (s.drop p) pts n i b false).2:Nat) l)\/
   ((F2 (s.drop p) pts n i b false).2=3/\∃ l',∀ (R:Type) (k0:Int->LL->Option R) (k1 k2:LL->LL->Option R),L3 LF f s (B1 pts) (p:Int) (n:Int) (i:Int) (b:Int) l k0 k1 k2=k1 l l'))):=by
 have hLF:=D7
 intro r
 induction r using Nat.strongRecOn with
 | _ r ih=>
  intro p f pts n i b hp hf h2 h3 h4 h5
  obtain ⟨f,rfl⟩:∃ m,f=m+1:=⟨f-1,by omega⟩
  by_cases hr:r=0
  ·rw [List.drop_of_length_le (by omega),Ac]
   refine ⟨λ_ R k0 k1 k2=>?_,λh=>absurd rfl h⟩
   rw [L3]
   rw [A8]
   rfl
  ·have hne:s.drop p≠[]:=λh=>by
    have:=congrArg List.length h
    rw [List.length_drop] at this
    simp at this
    omega
   obtain ⟨g1,g2⟩:=UE s hs (B1 pts) (n:Int) (b:Int) (i:Int) l (by omega) (by omega) r p LF 0 (i:Int) 1 hp (by omega) (by omega) (by omega) (by omega) (by omega) (by omega)
   obtain ⟨d1,d2⟩:=Oa b (s.drop p) i 1 0
   have e36:O4 (b:Int) (s.drop p) (i:Int) 1 ((36*0:Nat):Int)=O4 (b:Int) (s.drop p) (i:Int) ((1:Nat):Int) ((36*0:Nat):Int):=rfl
   rw [e36] at g1 g2
   by_cases he:(C5 b (s.drop p) i 1 0).2.2=0
   ·rw [Ax hne pts n i b false he]
    have d3:=d2 he
    have hz:(O4 (b:Int) (s.drop p) (i:Int) ((1:Nat):Int) ((36*0:Nat):Int)).1=0:=by rw [d1,he];rfl
    obtain ⟨p',a1,a2,a3,a4⟩:=g1 hz
    obtain ⟨q1,q2,_⟩:=Nz (b:Int) (s.drop p) (i:Int) ((1:Nat):Int) ((36*0:Nat):Int) (by omega) (by omega) (by omega) hz
    rw [d3] at q1 q2 a3 a4
    simp only at q1 q2 a3 a4
    rw [a3]
    generalize (C5 b (s.drop p) i 1 0).1=X at *
    have el:A1 (((B1 pts).length:Int)+1)=((pts.length+1:Nat):Int):=by rw [C1,A4];rfl
    have e1:A1 ((X:Int)-(i:Int))=((X-i:Nat):Int):=by rw [A4];omega
    have ed:Int.tdiv (X:Int) ((pts.length+1:Nat):Int)=((X / (pts.length+1):Nat):Int):=K6 _ _
    have em:Int.tmod (X:Int) ((pts.length+1:Nat):Int)=((X % (pts.length+1):Nat):Int):=Gm _ _
    have hdv:X / (pts.length+1)<=X:=Nat.div_le_self _ _
    have hmod:=Nat.mod_lt X (show 0<pts.length+1 by omega)
    have had:=Iv (X-i) (pts.length+1) false (by omega)
    generalize hQ:X / (pts.length+1)=Q at *
    generalize hM:X % (pts.length+1)=M at *
    have e2:A1 (Q:Int)=(Q:Int):=A4
    have e3:A1 ((n:Int)+(Q:Int))=((n+Q:Nat):Int):=by rw [A4];rfl
    have e4:A1 ((M:Int)+1)=((M+1:Nat):Int):=by rw [A4];rfl
    have hnz:(((pts.length+1:Nat):Int) != 0)=true:=by rw [bne_iff_ne];omega
    have c1:cut (B1 pts) 0 (M:Int)=B1 (pts.take M):=by rw [Y0,Int.toNat_natCast,BN]
    have c2:cut (B1 pts) (M:Int) ((B1 pts).length:Int)=B1 (pts.drop M):=by rw [N3,Int.toNat_natCast,BM]
    have hrow:∀ N:Nat,B1 (pts.take M)++[[SV.int .i64 (N:Int)]]++B1 (pts.drop M)=B1 (P3 pts M N):=λN=>by
     unfold P3
     rw [Gd,List.append_assoc]
     rfl
    have start:∀ (R:Type) (k0:Int->LL->Option R) (k1 k2:LL->LL->Option R),L3 LF (f+1) s (B1 pts) (p:Int) (n:Int) (i:Int) (b:Int) l k0 k1 k2 =
      cond (not (P4 (n+Q))) (k0 2 l) (cond (ltI 256 ((pts.length+1:Nat):Int)) (k1 l (B1 (P3 pts M (n+Q))))
       (L3 LF f s (B1 (P3 pts M (n+Q))) (p':Int) ((n+Q:Nat):Int) ((M+1:Nat):Int) ((M5 (X-i) (pts.length+1) false:Nat):Int) l k0 k1 k2)):=by
     intro R k0 k1 k2
     rw [L3]
     rw [A9,cond_true]
     refine (a4 R _ _).trans ?_
     have s1:N7 (0:Int) (M:Int) (B1 pts).length=true:=R6 (by omega) (by omega) (by rw [C1];omega)
     have s2:N7 (M:Int) ((B1 pts).length:Int) (B1 pts).length=true:=R6 (by omega) (by rw [C1];omega) (by omega)
     have t1:ltN ((X-i:Nat):Int) 1152921504606846976=true:=M3
     have t2:ltN ((pts.length+1:Nat):Int) 1000000=true:=M3
     have t3:ltI 0 ((pts.length+1:Nat):Int)=true:=A9
     have l1:(B1 (pts.take M)).length=M:=by rw [C1,List.length_take];omega
     have l2:(B1 (pts.drop M)).length=pts.length-M:=by rw [C1,List.length_drop]
     have r1:D9 (0+(B1 (pts.take M)).length)=true:=D3 (by omega)
     have r2:D9 ((B1 (pts.take M)).length+1)=true:=D3 (by omega)
     have r3:D9 ((B1 (pts.take M)++[[SV.int .i64 ((n+Q:Nat):Int)]]).length+(B1 (pts.drop M)).length)=true:=D3 (by rw [List.length_append,List.length_singleton];omega)
     have l3:(B1 (P3 pts M (n+Q))).length=pts.length+1:=by rw [C1,W8]
     simp only [vl,el,e1,ed,em,e2,e3,e4,hnz,s1,s2,t1,t2,t3,c1,c2,r1,r2,r3,hrow,l3,cond_true,Int.toNat_natCast,Hq]
    cases hpt:P4 (n+Q) with
    | false=>
     rw [if_neg (by simp)]
     refine ⟨λh=>by simp at h,λ_=>⟨rfl,.inl λR k0 k1 k2=>?_⟩⟩
     rw [start,hpt]
     rfl
    | true=>
     rw [if_pos rfl]
     by_cases hc:256<pts.length+1
     ·rw [if_pos hc]
      refine ⟨λh=>by simp at h,λ_=>⟨rfl,.inr ⟨rfl,B1 (P3 pts M (n+Q)),λR k0 k1 k2=>?_⟩⟩⟩
      rw [start,hpt,A9]
      rfl
     ·rw [if_neg hc]
      have hn':n+Q<=1114111:=by
       unfold P4 at hpt
       simp only [Bool.and_eq_true,Nat.ble_eq] at hpt
       exact hpt.1
      have st2:∀ (R:Type) (k0:Int->LL->Option R) (k1 k2:LL->LL->Option R),L3 LF (f+1) s (B1 pts) (p:Int) (n:Int) (i:Int) (b:Int) l k0 k1 k2=L3 LF f s (B1 (P3 pts M (n+Q))) (p':Int) ((n+Q:Nat):Int) ((M+1:Nat):Int) ((M5 (X-i) (pts.length+1) false:Nat):Int) l k0 k1 k2:=by
       intro R k0 k1 k2
       rw [start,hpt,A8]
       rfl
      obtain ⟨z1,z2⟩:=ih (s.length-p') (by omega) p' f (P3 pts M (n+Q)) (n+Q) (M+1) (M5 (X-i) (pts.length+1) false) (by omega) (by omega) (by rw [W8];omega) hn' (by omega) had
      refine ⟨λh R k0 k1 k2=>by rw [st2];exact z1 h R k0 k1 k2,λh=>?_⟩
      obtain ⟨y1,y2⟩:=z2 h
      refine ⟨y1,?_⟩
      rcases y2 with y2 | ⟨y2,l',y3⟩
      ·exact .inl λR k0 k1 k2=>by rw [st2];exact y2 R k0 k1 k2
      ·exact .inr ⟨y2,l',λR k0 k1 k2=>by rw [st2];exact y3 R k0 k1 k2⟩
   ·rw [Da hne pts n i b false he]
    clear g1 d2
    refine ⟨λh=>absurd h he,λ_=>⟨rfl,.inl λR k0 k1 k2=>?_⟩⟩
    rw [L3]
    rw [A9,cond_true]
    have hfst:=congrArg Prod.fst d1
    simp only at hfst
    refine (g2 (by rw [hfst];omega) R _ _).trans ?_
    rw [hfst]
theorem YX:∀ (r:Nat) (s:By) (pts:List Nat) (n i b:Nat) (f:Bool),s.length<=r->0<pts.length->(F2 s pts n i b f).2=0->(F2 s pts n i b f).1≠[]:=by
 intro r
 induction r with
 | zero=>
  intro s pts n i b f hr hp h
  obtain rfl:=List.length_eq_zero_iff.1 (Nat.le_zero.1 hr)
  rw [Ac]
  grind
 | succ r ih=>
  intro s pts n i b f hr hp h
  by_cases hs:s=[]
  ·grind
  ·by_cases he:(C5 b s i 1 0).2.2=0
   ·rw [Ax hs pts n i b f he] at h ⊢
    split at h
    ·rename_i h1
     rw [if_pos h1]
     split at h
     ·omega
     ·rename_i h2
      rw [if_neg h2]
      have hlt:=Km b s i 1 0 he
      exact ih _ _ _ _ _ _ (by omega) (by rw [W8];omega) h
    omega
   ·rw [Da hs pts n i b f he] at h
    omega
theorem UC (s:By) (hs:s.length<=1000000) (p:Nat) (pts:List Nat) (h2:pts.length<=256) (hp:p<=s.length) :
  (s.drop p=[]/\∀ (R:Type) (k0:Int->LL->Option R) (k1 k2:LL->LL->Option R) (k3:LL->Option R),I1 LF LF s (p:Int) (B1 pts) k0 k1 k2 k3=k3 (B1 pts))\/
  ((F2 (s.drop p) pts 128 0 72 true).2=0/\(F2 (s.drop p) pts 128 0 72 true).1≠[]/\∀ (R:Type) (k0:Int->LL->Option R) (k1 k2:LL->LL->Option R) (k3:LL->Option R),I1 LF LF s (p:Int) (B1 pts) k0 k1 k2 k3=k2 (B1 (F2 (s.drop p) pts 128 0 72 true).1) (B1 pts))\/
  ((F2 (s.drop p) pts 128 0 72 true).1=[]/\((∀ (R:Type) (k0:Int->LL->Option R) (k1 k2:LL->LL->Option R) (k3:LL->Option R),I1 LF LF s (p:Int) (B1 pts) k0 k1 k2 k3=k0 ((F2 (s.drop p) pts 128 0 72 true).2:Nat) (B1 pts))\/
   ((F2 (s.drop p) pts 128 0 72 true).2=3/\∃ l',∀ (R:Type) (k0:Int->LL->Option R) (k1 k2:LL->LL->Option R) (k3:LL->Option R),I1 LF LF s (p:Int) (B1 pts) k0 k1 k2 k3=k1 (B1 pts) l'))):=by
 have hLF:=D7
 obtain ⟨f,hf⟩:∃ m,LF=m+1:=⟨LF-1,by omega⟩
 by_cases hr:s.length<=p
 ·refine .inl ⟨List.drop_of_length_le hr,λR k0 k1 k2 k3=>?_⟩
  have e:I1 LF LF s (p:Int) (B1 pts) k0 k1 k2 k3=I1 LF (f+1) s (p:Int) (B1 pts) k0 k1 k2 k3:=by rw [<-hf]
  rw [e,I1]
  rw [A8]
  rfl
 ·right
  have hne:s.drop p≠[]:=λh=>by
   have:=congrArg List.length h
   grind
  obtain ⟨g1,g2⟩:=UF s hs (B1 pts) (s.length-p) p LF 0 0 1 (by omega) (by omega) (by omega) (by omega) (by omega) (by omega) (by omega)
  obtain ⟨d1,d2⟩:=Oa 72 (s.drop p) 0 1 0
  have e36:O4 72 (s.drop p) 0 1 ((36*0:Nat):Int)=O4 ((72:Nat):Int) (s.drop p) ((0:Nat):Int) ((1:Nat):Int) ((36*0:Nat):Int):=rfl
  rw [e36] at g1 g2
  by_cases he:(C5 72 (s.drop p) 0 1 0).2.2=0
  ·rw [Ax hne pts 128 0 72 true he]
   have d3:=d2 he
   have hz:(O4 ((72:Nat):Int) (s.drop p) ((0:Nat):Int) ((1:Nat):Int) ((36*0:Nat):Int)).1=0:=by grind
   obtain ⟨p',a1,a2,a3,a4⟩:=g1 hz
   obtain ⟨q1,q2,_⟩:=Nz ((72:Nat):Int) (s.drop p) ((0:Nat):Int) ((1:Nat):Int) ((36*0:Nat):Int) (by omega) (by omega) (by omega) hz
   rw [d3] at q1 q2 a3 a4
   simp only at q1 q2 a3 a4
   clear g1 g2 d1 d2 d3 hz e36
   rw [a3]
   generalize (C5 72 (s.drop p) 0 1 0).1=X at *
   have el:A1 (((B1 pts).length:Int)+1)=((pts.length+1:Nat):Int):=by rw [C1,A4];rfl
   have e1:A1 ((X:Int)-0)=(X:Int):=by rw [A4];omega
   have ed:Int.tdiv (X:Int) ((pts.length+1:Nat):Int)=((X / (pts.length+1):Nat):Int):=K6 _ _
   have em:Int.tmod (X:Int) ((pts.length+1:Nat):Int)=((X % (pts.length+1):Nat):Int):=Gm _ _
   have hdv:X / (pts.length+1)<=X:=Nat.div_le_self _ _
   have hmod:=Nat.mod_lt X (show 0<pts.length+1 by omega)
   have had:=Iv X (pts.length+1) true (by omega)
   generalize hQ:X / (pts.length+1)=Q at *
   generalize hM:X % (pts.length+1)=M at *
   have e2:A1 (Q:Int)=(Q:Int):=A4
   have e3:A1 ((128:Int)+(Q:Int))=((128+Q:Nat):Int):=by rw [A4];rfl
   have e4:A1 ((M:Int)+1)=((M+1:Nat):Int):=by rw [A4];rfl
   have hnz:(((pts.length+1:Nat):Int) != 0)=true:=by rw [bne_iff_ne];omega
   have c1:List.take (M-0) (List.drop 0 (B1 pts))=B1 (pts.take M):=by rw [Nat.sub_zero,List.drop_zero,BN]
   have c2:List.take ((B1 pts).length-M) (List.drop M (B1 pts))=B1 (pts.drop M):=by
    rw [List.take_of_length_le (by rw [List.length_drop];omega),BM]
   have hrow:∀ N:Nat,B1 (pts.take M)++[[SV.int .i64 (N:Int)]]++B1 (pts.drop M)=B1 (P3 pts M N):=λN=>by
    unfold P3
    rw [Gd,List.append_assoc]
    rfl
   have start:∀ (R:Type) (k0:Int->LL->Option R) (k1 k2:LL->LL->Option R) (k3:LL->Option R),I1 LF LF s (p:Int) (B1 pts) k0 k1 k2 k3 =
     cond (not (P4 (128+Q))) (k0 2 (B1 pts)) (cond (ltI 256 ((pts.length+1:Nat):Int)) (k1 (B1 pts) (B1 (P3 pts M (128+Q))))
      (L3 LF f s (B1 (P3 pts M (128+Q))) (p':Int) ((128+Q:Nat):Int) ((M+1:Nat):Int) ((M5 X (pts.length+1) true:Nat):Int) (B1 pts) k0 k1 k2)):=by
    intro R k0 k1 k2 k3
    have e:I1 LF LF s (p:Int) (B1 pts) k0 k1 k2 k3=I1 LF (f+1) s (p:Int) (B1 pts) k0 k1 k2 k3:=by rw [<-hf]
    rw [e,I1]
    rw [A9,cond_true]
    refine (a4 R _ _).trans ?_
    have s1:N7 (0:Int) (M:Int) (B1 pts).length=true:=R6 (by omega) (by omega) (by rw [C1];omega)
    have s2:N7 (M:Int) ((B1 pts).length:Int) (B1 pts).length=true:=R6 (by omega) (by rw [C1];omega) (by omega)
    have t1:ltN (X:Int) 1152921504606846976=true:=M3
    have t2:ltN ((pts.length+1:Nat):Int) 1000000=true:=M3
    have t3:ltI 0 ((pts.length+1:Nat):Int)=true:=A9
    have l1:(B1 (pts.take M)).length=M:=by rw [C1,List.length_take];omega
    have l2:(B1 (pts.drop M)).length=pts.length-M:=by rw [C1,List.length_drop]
    have r1:D9 (0+(B1 (pts.take M)).length)=true:=D3 (by omega)
    have r2:D9 ((B1 (pts.take M)).length+1)=true:=D3 (by omega)
    have r3:D9 ((B1 (pts.take M)++[[SV.int .i64 ((128+Q:Nat):Int)]]).length+(B1 (pts.drop M)).length)=true:=D3 (by rw [List.length_append,List.length_singleton];omega)
    have l3:(B1 (P3 pts M (128+Q))).length=pts.length+1:=by rw [C1,W8]
    simp only [vl,el,e1,ed,em,e2,e3,e4,hnz,s1,s2,t1,t2,t3,Int.toNat_natCast,c1,c2,r1,r2,r3,hrow,l3,cond_true,Hq]
   cases hpt:P4 (128+Q) with
   | false=>
    rw [if_neg (by simp)]
    refine .inr ⟨rfl,.inl λR k0 k1 k2 k3=>?_⟩
    rw [start,hpt]
    rfl
   | true=>
    rw [if_pos rfl]
    by_cases hc:256<pts.length+1
    ·rw [if_pos hc]
     refine .inr ⟨rfl,.inr ⟨rfl,B1 (P3 pts M (128+Q)),λR k0 k1 k2 k3=>?_⟩⟩
     rw [start,hpt,A9]
     rfl
    ·rw [if_neg hc]
     have hn':128+Q<=1114111:=by
      unfold P4 at hpt
      simp_all
     have st2:∀ (R:Type) (k0:Int->LL->Option R) (k1 k2:LL->LL->Option R) (k3:LL->Option R),I1 LF LF s (p:Int) (B1 pts) k0 k1 k2 k3=L3 LF f s (B1 (P3 pts M (128+Q))) (p':Int) ((128+Q:Nat):Int) ((M+1:Nat):Int) ((M5 X (pts.length+1) true:Nat):Int) (B1 pts) k0 k1 k2:=by
      intro R k0 k1 k2 k3
      rw [start,hpt,A8]
      rfl
     obtain ⟨z1,z2⟩:=UD s hs (B1 pts) (s.length-p') p' f (P3 pts M (128+Q)) (128+Q) (M+1) (M5 X (pts.length+1) true) (by omega) (by omega) (by rw [W8];omega) hn' (by omega) had
     have hX:X-0=X:=Nat.sub_zero X
     rw [hX]
     by_cases hz:(F2 (s.drop p') (P3 pts M (128+Q)) (128+Q) (M+1) (M5 X (pts.length+1) true) false).2=0
     ·refine .inl ⟨hz,?_,λR k0 k1 k2 k3=>by rw [st2];exact z1 hz R k0 k1 k2⟩
      exact YX _ _ _ _ _ _ _ (Nat.le_refl _) (by rw [W8];omega) hz
     ·obtain ⟨y1,y2⟩:=z2 hz
      refine .inr ⟨y1,?_⟩
      rcases y2 with y2 | ⟨y2,l',y3⟩
      ·exact .inl λR k0 k1 k2 k3=>by rw [st2];exact y2 R k0 k1 k2
      ·exact .inr ⟨y2,l',λR k0 k1 k2 k3=>by rw [st2];exact y3 R k0 k1 k2⟩
  ·rw [Da hne pts 128 0 72 true he]
   clear g1 d2
   refine .inr ⟨rfl,.inl λR k0 k1 k2 k3=>?_⟩
   have e:I1 LF LF s (p:Int) (B1 pts) k0 k1 k2 k3=I1 LF (f+1) s (p:Int) (B1 pts) k0 k1 k2 k3:=by rw [<-hf]
   rw [e,I1]
   rw [A9,cond_true]
   have hfst:=congrArg Prod.fst d1
   simp only at hfst
   refine (g2 (by rw [hfst];omega) R _ _).trans ?_
   rw [hfst]
theorem At7 (s:By) (h0:A3 s.length=true):∃ r H,YD LF s (λr0 l1=>rv (.tup [.fl 0,.s (.int .i64 r0)]) [.arr true 3 1 l1]) (λr0 l1=>rv (.tup [.fl 1,.s (.int .i64 r0)]) [.arr true 3 1 l1,.arr true 3 1 []]) (λl0 l1=>rv (.tup [.fl 2,.s (.int .i64 (3:Int))]) [.arr true 3 1 l0,.arr false 3 1 l1,.arr true 3 1 []]) (λr0 l1=>rv (.tup [.s (.sl false false 1 r0),.s (.int .i64 (0:Int))]) [.arr true 3 1 l1])=rv r H/\
  r.stab [1,0] H = .tup [.s (.sl (J8 s).1.isEmpty (J8 s).1.isEmpty 1 (Sc (J8 s).1)),.s (.int .i64 ((J8 s).2:Nat))]:=by
 have hLF:=D7
 unfold YD J8
 by_cases hl:1024<s.length
 ·rw [if_pos hl,A9]
  exact ⟨_,_,rfl,rfl⟩
 ·rw [if_neg hl,A8,cond_false]
  have asc:=λ(R:Type) (K0:Unit->Option R) (K1:By->Int->Option R)=>UG (k0:=K0) (k1:=K1) s (by omega) s.length 0 LF 0 (by omega) (by omega)
  rw [List.drop_zero] at asc
  cases ha:s.any (λb=>Nat.ble 128 b.toNat) with
  | true=>
   rw [if_pos rfl]
   refine ⟨.tup [.fl 0,.s (.int .i64 4)],[.arr true 3 1 []],(asc _ _ _).trans ?_,rfl⟩
   rw [ha,if_pos rfl]
  | false=>
   rw [if_neg (by simp)]
   obtain ⟨d1,d2⟩:=Jo s
   have hlt:=Jp s
   have hcut:(if (45:UInt8)∈s then 0+E7 s else 0)=E7 s:=by
    split
    ·omega
    ·rename_i h;exact (d2 h).2.symm
   rw [ha,hcut] at asc
   have hcopy:=λ(R:Type) (K:By->Int->LL->Option R)=>UB (k0:=K) s (by omega) (E7 s) (by omega) (E7 s) 0 LF [] (by omega) (by omega) rfl
   rw [List.drop_zero] at hcopy
   have hlen:((s.take (E7 s)).map (·.toNat)).length=E7 s:=by rw [List.length_map,List.length_take];omega
   generalize hm:E7 s=m at *
   generalize hpts:(s.take m).map (·.toNat)=pts at *
   by_cases h256:256<m
   ·rw [if_pos h256]
    refine ⟨.tup [.fl 1,.s (.int .i64 3)],[.arr true 3 1 (B1 pts),.arr true 3 1 []],(asc _ _ _).trans ?_,rfl⟩
    rw [if_neg (by simp)]
    refine (hcopy _ _).trans ?_
    rw [List.nil_append,C1,hlen,A9]
    rfl
   ·rw [if_neg h256]
    have fin:∀ p:Nat,p<=s.length->∀ (X:Option (PV × List Blk × Unit)),X=I1 LF LF s (p:Int) (B1 pts) (λr0 l1=>rv (.tup [.fl 1,.s (.int .i64 r0)]) [.arr true 3 1 l1,.arr true 3 1 []]) (λl0 l1=>rv (.tup [.fl 2,.s (.int .i64 (3:Int))]) [.arr true 3 1 l0,.arr false 3 1 l1,.arr true 3 1 []]) (λr0 l1=>rv (.tup [.s (.sl false false 1 r0),.s (.int .i64 (0:Int))]) [.arr true 3 1 l1]) (λl=>rv (.tup [.fl 0,.s (.int .i64 0)]) [.arr true 3 1 l])->
      ∃ r H,X=rv r H/\r.stab [1,0] H = .tup [.s (.sl (F2 (s.drop p) pts 128 0 72 true).1.isEmpty (F2 (s.drop p) pts 128 0 72 true).1.isEmpty 1 (Sc (F2 (s.drop p) pts 128 0 72 true).1)),.s (.int .i64 ((F2 (s.drop p) pts 128 0 72 true).2:Nat))]:=by
     intro p hp X hX
     rcases UC s (by omega) p pts (by omega) hp with ⟨e1,e2⟩ | ⟨e1,e3,e2⟩ | ⟨e1,e2 | ⟨e3,l',e2⟩⟩
     ·refine ⟨_,_,hX.trans (e2 _ _ _ _ _),?_⟩
      rw [e1,Ac,Ge]
      simp [PV.stab,Ji,Ro,PV.snap,I9,Ou]
     ·refine ⟨_,_,hX.trans (e2 _ _ _ _ _),?_⟩
      rw [e1,Ge]
      have:(F2 (s.drop p) pts 128 0 72 true).1.isEmpty=false:=by
       cases h:(F2 (s.drop p) pts 128 0 72 true).1 with
       | nil=>exact absurd h e3
       | cons a r=>rfl
      rw [this]
      rfl
     ·refine ⟨_,_,hX.trans (e2 _ _ _ _ _),?_⟩
      rw [e1]
      rfl
     ·refine ⟨_,_,hX.trans (e2 _ _ _ _ _),?_⟩
      rw [e1,e3]
      rfl
    by_cases hz:m=0
    ·subst hz
     rw [if_pos rfl]
     have:=fin 0 (by omega) _ rfl
     rw [List.drop_zero] at this
     obtain ⟨r,H,g1,g2⟩:=this
     refine ⟨r,H,(asc _ _ _).trans ?_,g2⟩
     rw [if_neg (by simp)]
     refine (hcopy _ _).trans ?_
     rw [List.nil_append,C1,hlen,A8,cond_false,A8,cond_false]
     exact g1
    ·rw [if_neg hz]
     obtain ⟨r,H,g1,g2⟩:=fin (m+1) (by omega) _ rfl
     refine ⟨r,H,(asc _ _ _).trans ?_,g2⟩
     rw [if_neg (by simp)]
     refine (hcopy _ _).trans ?_
     have e1:A1 ((m:Int)+1)=((m+1:Nat):Int):=by rw [A4];rfl
     rw [List.nil_append,C1,hlen,A8,cond_false,A9,cond_true,e1]
     exact g1
theorem T2 {R:Type} {k0:LL->Option R} {k1:By->Int->Int->Int->Int->LL->Option R} (s:By) (hs:s.length<=1000000000) (n i m v least kk:Nat) (l:LL) (hk:kk<m) (hm:m<=4) (hi:i+kk<s.length) (hv:v<=100000) (hn:0<n) :
  Hu LF n s i m v least kk l k0 k1=if 128<=(s.getD (i+kk) 0).toNat/\(s.getD (i+kk) 0).toNat<=191 then Hu LF (n-1) s i m ((v*64+(s.getD (i+kk) 0).toNat-128:Nat):Int) least ((kk+1:Nat):Int) l k0 k1 else k0 l:=by
 have hb:=(s.getD (i+kk) 0).toNat_lt
 obtain ⟨n,rfl⟩:∃ m,n=m+1:=⟨n-1,by omega⟩
 rw [Hu]
 have e1:A1 ((i:Int)+kk)=((i+kk:Nat):Int):=by rw [A4];rfl
 have e2:A1 ((kk:Int)+1)=((kk+1:Nat):Int):=by rw [A4];rfl
 rw [A9,e1,e2,J3,I2]
 generalize (s.getD (i+kk) 0).toNat=b at *
 simp only [cond_true,vl]
 rw [E3 (n:=(b:Int)) (by omega) (by omega),Nat.add_sub_cancel]
 by_cases h1:b<128
 ·rw [A9,H7]
  rfl
 ·rw [A8,cond_false]
  by_cases h2:191<b
  ·rw [A9,H7]
   rfl
  ·rw [A8,cond_false,Bn]
   have e3:A1 (A1 (A1 ((v:Int)*64)+(b:Int))-128)=((v*64+b-128:Nat):Int):=by
    rw [E3 (n:=(v:Int)*64) (by omega) (by omega),E3 (n:=(v:Int)*64+b) (by omega) (by omega),A4]
    omega
   rw [e3]
theorem Jz {R:Type} {k0:LL->Option R} {k1:By->Int->Int->Int->Int->LL->Option R} (s:By) (n i m v least:Nat) (l:LL) (hn:0<n) :
  Hu LF n s i m v least m l k0 k1=k1 s i m v least l:=by
 obtain ⟨n,rfl⟩:∃ m,n=m+1:=⟨n-1,by omega⟩
 rw [Hu]
 rw [A8]
 rfl
theorem Lh {R:Type} {k0:LL->Option R} {k1:By->Int->LL->Option R} (s:By) (hs:s.length<=1000000000) (i m v least:Nat) (P:List Nat) (hP:P.length<=1000000000) (hi:i+m<=s.length) (hv:v<=10000000) (hm:m<=4) :
  cond (ltI (v:Int) (least:Int)) (k0 (B1 P)) (cond (not (ptI v)) (k0 (B1 P)) (cond (D9 ((B1 P).length+1)) (k1 s (A1 ((i:Int)+m)) (B1 P++[[SV.int .i64 (v:Int)]])) none)) =
   if least<=v/\P4 v=true then k1 s ((i+m:Nat):Int) (B1 (P++[v])) else k0 (B1 P):=by
 have e1:A1 ((i:Int)+m)=((i+m:Nat):Int):=by rw [A4];rfl
 rw [e1,C1,D3 (by omega),Gd,show ptI (v:Int)=P4 v from rfl]
 by_cases h:v<least
 ·rw [A9,H7]
  rfl
 ·rw [A8,cond_false]
  cases hp:P4 v with
  | false=>rw [if_neg (by simp)];rfl
  | true=>rw [if_pos ⟨by omega,rfl⟩];rfl
theorem Ae9 {R:Type} {k0:LL->Option R} {k1:By->Int->LL->Option R} (s:By) (hs:s.length<=1000000000) (i v least:Nat) (P:List Nat) (hP:P.length<=1000000000) (hi:i<s.length) (hv:v<=32) :
  Eo LF s i 2 v least (B1 P) k0 k1=if 2<=s.length-i/\128<=(s.getD (i+1) 0).toNat/\(s.getD (i+1) 0).toNat<=191 then
   (if least<=v*64+(s.getD (i+1) 0).toNat-128/\P4 (v*64+(s.getD (i+1) 0).toNat-128)=true then k1 s ((i+2:Nat):Int) (B1 (P++[v*64+(s.getD (i+1) 0).toNat-128])) else k0 (B1 P)) else k0 (B1 P):=by
 have hb:=(s.getD (i+1) 0).toNat_lt
 have hLF:=D7
 unfold Eo
 have e1:A1 ((s.length:Int)-i)=((s.length-i:Nat):Int):=by rw [A4];omega
 rw [e1]
 simp only [vl]
 by_cases h:s.length-i<2
 ·rw [A9,H7]
  rfl
 ·rw [A8,cond_false]
  refine Eq.trans (T2 s hs LF i 2 v least 1 (B1 P) (by omega) (by omega) (by omega) (by omega) (by omega)) ?_
  generalize (s.getD (i+1) 0).toNat=b at *
  by_cases h1:128<=b/\b<=191
  ·rw [if_pos h1,if_pos ⟨by omega,h1⟩]
   refine Eq.trans (Jz s (LF-1) i 2 _ least (B1 P) (by omega)) ?_
   exact Lh s hs i 2 _ least P hP (by omega) (by omega) (by omega)
  ·rw [if_neg h1,if_neg (λh=>h1 h.2)]
theorem Af0 {R:Type} {k0:LL->Option R} {k1:By->Int->LL->Option R} (s:By) (hs:s.length<=1000000000) (i v least:Nat) (P:List Nat) (hP:P.length<=1000000000) (hi:i<s.length) (hv:v<=32) :
  Eo LF s i 3 v least (B1 P) k0 k1=if 3<=s.length-i/\(128<=(s.getD (i+1) 0).toNat/\(s.getD (i+1) 0).toNat<=191)/\(128<=(s.getD (i+2) 0).toNat/\(s.getD (i+2) 0).toNat<=191) then
   (if least<=(v*64+(s.getD (i+1) 0).toNat-128)*64+(s.getD (i+2) 0).toNat-128/\P4 ((v*64+(s.getD (i+1) 0).toNat-128)*64+(s.getD (i+2) 0).toNat-128)=true then k1 s ((i+3:Nat):Int) (B1 (P++[(v*64+(s.getD (i+1) 0).toNat-128)*64+(s.getD (i+2) 0).toNat-128])) else k0 (B1 P)) else k0 (B1 P):=by
 have hb:=(s.getD (i+1) 0).toNat_lt
 have hb2:=(s.getD (i+2) 0).toNat_lt
 have hLF:=D7
 unfold Eo
 have e1:A1 ((s.length:Int)-i)=((s.length-i:Nat):Int):=by rw [A4];omega
 rw [e1]
 simp only [vl]
 by_cases h:s.length-i<3
 ·rw [A9,H7]
  rfl
 ·rw [A8,cond_false]
  refine Eq.trans (T2 s hs LF i 3 v least 1 (B1 P) (by omega) (by omega) (by omega) (by omega) (by omega)) ?_
  by_cases h1:128<=(s.getD (i+1) 0).toNat/\(s.getD (i+1) 0).toNat<=191
  ·rw [if_pos h1]
   refine Eq.trans (T2 s hs (LF-1) i 3 _ least 2 (B1 P) (by omega) (by omega) (by omega) (by omega) (by omega)) ?_
   by_cases h2:128<=(s.getD (i+2) 0).toNat/\(s.getD (i+2) 0).toNat<=191
   ·rw [if_pos h2,if_pos ⟨by omega,h1,h2⟩]
    refine Eq.trans (Jz s (LF-2) i 3 _ least (B1 P) (by omega)) ?_
    exact Lh s hs i 3 _ least P hP (by omega) (by omega) (by omega)
   ·rw [if_neg h2,if_neg (λh=>h2 h.2.2)]
  ·rw [if_neg h1,if_neg (λh=>h1 h.2.1)]
theorem Af1 {R:Type} {k0:LL->Option R} {k1:By->Int->LL->Option R} (s:By) (hs:s.length<=1000000000) (i v least:Nat) (P:List Nat) (hP:P.length<=1000000000) (hi:i<s.length) (hv:v<=20) :
  Eo LF s i 4 v least (B1 P) k0 k1=if 4<=s.length-i/\(128<=(s.getD (i+1) 0).toNat/\(s.getD (i+1) 0).toNat<=191)/\(128<=(s.getD (i+2) 0).toNat/\(s.getD (i+2) 0).toNat<=191)/\(128<=(s.getD (i+3) 0).toNat/\(s.getD (i+3) 0).toNat<=191) then
   (if least<=((v*64+(s.getD (i+1) 0).toNat-128)*64+(s.getD (i+2) 0).toNat-128)*64+(s.getD (i+3) 0).toNat-128/\P4 (((v*64+(s.getD (i+1) 0).toNat-128)*64+(s.getD (i+2) 0).toNat-128)*64+(s.getD (i+3) 0).toNat-128)=true then k1 s ((i+4:Nat):Int) (B1 (P++[((v*64+(s.getD (i+1) 0).toNat-128)*64+(s.getD (i+2) 0).toNat-128)*64+(s.getD (i+3) 0).toNat-128])) else k0 (B1 P)) else k0 (B1 P):=by
 have hb:=(s.getD (i+1) 0).toNat_lt
 have hb2:=(s.getD (i+2) 0).toNat_lt
 have hb3:=(s.getD (i+3) 0).toNat_lt
 have hLF:=D7
 unfold Eo
 have e1:A1 ((s.length:Int)-i)=((s.length-i:Nat):Int):=by rw [A4];omega
 rw [e1]
 simp only [vl]
 by_cases h:s.length-i<4
 ·rw [A9,H7]
  rfl
 ·rw [A8,cond_false]
  refine Eq.trans (T2 s hs LF i 4 v least 1 (B1 P) (by omega) (by omega) (by omega) (by omega) (by omega)) ?_
  by_cases h1:128<=(s.getD (i+1) 0).toNat/\(s.getD (i+1) 0).toNat<=191
  ·rw [if_pos h1]
   refine Eq.trans (T2 s hs (LF-1) i 4 _ least 2 (B1 P) (by omega) (by omega) (by omega) (by omega) (by omega)) ?_
   by_cases h2:128<=(s.getD (i+2) 0).toNat/\(s.getD (i+2) 0).toNat<=191
   ·rw [if_pos h2]
    refine Eq.trans (T2 s hs (LF-2) i 4 _ least 3 (B1 P) (by omega) (by omega) (by omega) (by omega) (by omega)) ?_
    by_cases h3:128<=(s.getD (i+3) 0).toNat/\(s.getD (i+3) 0).toNat<=191
    ·rw [if_pos h3,if_pos ⟨by omega,h1,h2,h3⟩]
     refine Eq.trans (Jz s (LF-3) i 4 _ least (B1 P) (by omega)) ?_
     exact Lh s hs i 4 _ least P hP (by omega) (by omega) (by omega)
    ·rw [if_neg h3,if_neg (λh=>h3 h.2.2.2)]
   ·rw [if_neg h2,if_neg (λh=>h2 h.2.2.1)]
  ·rw [if_neg h1,if_neg (λh=>h1 h.2.1)]
theorem UK {R:Type} {k0:By->Int->Int->LL->Option R} (n:Nat) (hn:0<n) (s:By) (i v:Int) (l:LL):HO LF n s i v l k0=k0 s i v l:=by
 obtain ⟨n,rfl⟩:∃ m,n=m+1:=⟨n-1,by omega⟩
 rw [HO]
theorem UJ {R:Type} {k0:LL->Option R} {k1:By->Int->LL->Option R} (s:By) (hs:s.length<=1000000000) (i v:Nat) (P:List Nat) (hP:P.length<=1000000000) (hi:i<s.length) (hv:v<128) :
  HN LF s i v (B1 P) k0 k1=k1 s ((i+1:Nat):Int) (B1 (P++[v])):=by
 unfold HN
 have e1:A1 ((s.length:Int)-i)=((s.length-i:Nat):Int):=by rw [A4];omega
 rw [e1]
 simp only [vl]
 rw [A8,cond_false]
 refine Eq.trans (show _=cond (ltI (v:Int) ((0:Nat):Int)) (k0 (B1 P)) (cond (not (ptI v)) (k0 (B1 P)) (cond (D9 ((B1 P).length+1)) (k1 s (A1 ((i:Int)+(1:Nat))) (B1 P++[[SV.int .i64 (v:Int)]])) none)) from UK LF (by have:=D7;omega) _ _ _ _) ?_
 rw [Lh s hs i 1 v 0 P hP (by omega) (by omega) (by omega),if_pos]
 refine ⟨Nat.zero_le _,?_⟩
 simp only [P4,Bool.and_eq_true,Bool.or_eq_true,Nat.ble_eq,Nat.blt_eq]
 omega
theorem Ap0 {v:Nat} (h:v<2048):P4 v=true:=by
 simp only [P4,Bool.and_eq_true,Bool.or_eq_true,Nat.ble_eq,Nat.blt_eq]
 omega
theorem UL {R:Type} {k0 k1:LL->Option R} (s:By) (hs:s.length<=1000000000) (n i:Nat) (P:List Nat) (hP:P.length<=1000000000) (hi:i<s.length) :
  Z0 LF (n+1) s i (B1 P) k0 k1=if (Lib.decodeL (s.drop i)).1=65533/\(Lib.decodeL (s.drop i)).2=1 then k0 (B1 P) else Z0 LF n s ((i+(Lib.decodeL (s.drop i)).2:Nat):Int) (B1 (P++[(Lib.decodeL (s.drop i)).1])) k0 k1:=by
 have g:∀ k,(s.drop i).getD k 0=s.getD (i+k) 0:=λk=>by grind
 have hd:Lib.decodeL (s.drop i)=Lib.decodeN (s.length-i) (s.getD i 0).toNat (s.getD (i+1) 0).toNat (s.getD (i+2) 0).toNat (s.getD (i+3) 0).toNat:=by
  rw [Lib.decodeL_N,g,g,g,g,List.length_drop]
  rfl
 have l0:=(s.getD i 0).toNat_lt
 have l1:=(s.getD (i+1) 0).toNat_lt
 have l2:=(s.getD (i+2) 0).toNat_lt
 have l3:=(s.getD (i+3) 0).toNat_lt
 rw [hd]
 rw [Z0,A9,J3,I2,E3 (n:=((s.getD i 0).toNat:Int)) (by omega) (by omega)]
 simp only [cond_true]
 generalize (s.getD i 0).toNat=b at *
 by_cases h1:b<128
 ·rw [A9,cond_true]
  have e:Lib.decodeN (s.length-i) b (s.getD (i+1) 0).toNat (s.getD (i+2) 0).toNat (s.getD (i+3) 0).toNat=(b,1):=by unfold Lib.decodeN;rw [if_pos h1]
  rw [e]
  simp only
  rw [H7]
  exact UJ s hs i b P hP hi h1
 ·rw [C9 (show (128:Int)<=b by omega),cond_false]
  by_cases h2:b<194
  ·rw [B9 (show (b:Int)<194 by omega)]
   have e:Lib.decodeN (s.length-i) b (s.getD (i+1) 0).toNat (s.getD (i+2) 0).toNat (s.getD (i+3) 0).toNat=(65533,1):=by
    unfold Lib.decodeN
    grind
   rw [e,if_pos ⟨rfl,rfl⟩]
   simp only [Bool.not_true,cond_false]
   unfold Pl
   unfold Pk
   rw [cond_false,B9 (show (b:Int)<224 by omega),B9 (show (b:Int)<240 by omega)]
   rfl
  ·rw [C9 (show (194:Int)<=b by omega)]
   simp only [Bool.not_false,cond_true]
   by_cases h3:b<224
   ·rw [B9 (show (b:Int)<224 by omega)]
    unfold Pl
    have e1:A1 ((b:Int)-192)=((b-192:Nat):Int):=by rw [A4];omega
    rw [cond_true,e1,Bq4 _ _ _ _ _ ⟨by omega,h3⟩ l1]
    simp only [vl]
    refine Eq.trans (Ae9 s hs i (b-192) 128 P hP hi (by omega)) ?_
    by_cases hc:2<=s.length-i/\128<=(s.getD (i+1) 0).toNat/\(s.getD (i+1) 0).toNat<=191
    ·rw [if_pos hc,if_pos hc]
     simp only
     rw [if_pos ⟨by omega,Ap0 (by omega)⟩,H7]
    ·rw [if_neg hc,if_neg hc,if_pos ⟨rfl,rfl⟩]
   ·rw [C9 (show (224:Int)<=b by omega)]
    unfold Pl
    rw [cond_false,C9 (show (224:Int)<=b by omega)]
    simp only [Bool.not_false,cond_true]
    by_cases h4:b<240
    ·rw [B9 (show (b:Int)<240 by omega)]
     unfold Pk
     have e1:A1 ((b:Int)-224)=((b-224:Nat):Int):=by rw [A4];omega
     rw [cond_true,e1,Bq5 _ _ _ _ _ ⟨by omega,h4⟩ l1 l2]
     simp only [vl]
     refine Eq.trans (Af0 s hs i (b-224) 2048 P hP hi (by omega)) ?_
     by_cases hc:3<=s.length-i/\(128<=(s.getD (i+1) 0).toNat/\(s.getD (i+1) 0).toNat<=191)/\(128<=(s.getD (i+2) 0).toNat/\(s.getD (i+2) 0).toNat<=191)
     ·rw [if_pos hc,if_pos hc]
      split
      ·simp only;rw [H7]
      ·rw [if_pos ⟨rfl,rfl⟩]
     ·rw [if_neg hc,if_neg hc,if_pos ⟨rfl,rfl⟩]
    ·rw [C9 (show (240:Int)<=b by omega)]
     unfold Pk
     rw [cond_false,C9 (show (240:Int)<=b by omega)]
     simp only [Bool.not_false,cond_true]
     by_cases h5:b<245
     ·rw [B9 (show (b:Int)<245 by omega),cond_true]
      have e1:A1 ((b:Int)-240)=((b-240:Nat):Int):=by rw [A4];omega
      rw [e1,Bq6 _ _ _ _ _ ⟨by omega,h5⟩ l1 l2 l3]
      simp only [vl]
      refine Eq.trans (Af1 s hs i (b-240) 65536 P hP hi (by omega)) ?_
      by_cases hc:4<=s.length-i/\(128<=(s.getD (i+1) 0).toNat/\(s.getD (i+1) 0).toNat<=191)/\(128<=(s.getD (i+2) 0).toNat/\(s.getD (i+2) 0).toNat<=191)/\(128<=(s.getD (i+3) 0).toNat/\(s.getD (i+3) 0).toNat<=191)
      ·rw [if_pos hc,if_pos hc]
       split
       ·simp only;rw [H7]
       ·rw [if_pos ⟨rfl,rfl⟩]
      ·rw [if_neg hc,if_neg hc,if_pos ⟨rfl,rfl⟩]
     ·rw [C9 (show (245:Int)<=b by omega),cond_false]
      have e:Lib.decodeN (s.length-i) b (s.getD (i+1) 0).toNat (s.getD (i+2) 0).toNat (s.getD (i+3) 0).toNat=(65533,1):=by
       unfold Lib.decodeN
       grind
      rw [e,if_pos ⟨rfl,rfl⟩]
theorem Af2 (s:By) (hs:s.length<=1000000000):∀ (r i n:Nat) (P:List Nat),i+r=s.length->r<n->P.length<=i->
  (Dl (s.drop i)=none->∃ l,∀ (R:Type) (k0 k1:LL->Option R),Z0 LF n s i (B1 P) k0 k1=k0 l)/\
  (∀ q,Dl (s.drop i)=some q->∀ (R:Type) (k0 k1:LL->Option R),Z0 LF n s i (B1 P) k0 k1=k1 (B1 (P++q))):=by
 intro r
 induction r using Nat.strongRecOn with
 | _ r ih=>
  intro i n P hi hn hP
  obtain ⟨n,rfl⟩:∃ m,n=m+1:=⟨n-1,by omega⟩
  by_cases hr:i<s.length
  ·have hne:s.drop i≠[]:=by rw [ne_eq,<-List.length_eq_zero_iff,List.length_drop];omega
   have hst:=λ(R:Type) (k0 k1:LL->Option R)=>UL (k0:=k0) (k1:=k1) s hs n i P (by omega) hr
   have hw:=Lib.decodeL_width (s.drop i)
   have hle:=Lib.decodeL_le (s.drop i) hne
   rw [List.length_drop] at hle
   rw [Ad2 _ hne]
   by_cases hbad:(Lib.decodeL (s.drop i)).1=65533/\(Lib.decodeL (s.drop i)).2=1
   ·rw [if_pos hbad]
    refine ⟨λ_=>⟨B1 P,λR k0 k1=>?_⟩,λq hq=>by cases hq⟩
    refine (hst R k0 k1).trans ?_
    rw [if_pos hbad]
   ·rw [if_neg hbad,List.drop_drop]
    obtain ⟨w1,w2⟩:=ih (r-(Lib.decodeL (s.drop i)).2) (by omega) (i+(Lib.decodeL (s.drop i)).2) n (P++[(Lib.decodeL (s.drop i)).1]) (by omega) (by omega) (by rw [List.length_append,List.length_singleton];omega)
    constructor
    ·intro h
     cases hq:Dl (s.drop (i+(Lib.decodeL (s.drop i)).2)) with
     | some q=>rw [hq] at h;cases h
     | none=>
      obtain ⟨l,e⟩:=w1 hq
      refine ⟨l,λR k0 k1=>?_⟩
      refine (hst R k0 k1).trans ?_
      rw [if_neg hbad]
      exact e R k0 k1
    ·intro q h R k0 k1
     cases hq:Dl (s.drop (i+(Lib.decodeL (s.drop i)).2)) with
     | none=>rw [hq] at h;cases h
     | some q'=>
      rw [hq] at h
      simp only [Option.map_some,Option.some.injEq] at h
      subst h
      refine (hst R k0 k1).trans ?_
      rw [if_neg hbad]
      refine (w2 q' hq R k0 k1).trans ?_
      rw [List.append_assoc]
      rfl
  ·have hnil:s.drop i=[]:=by rw [<-List.length_eq_zero_iff,List.length_drop];omega
   have e:∀ (R:Type) (k0 k1:LL->Option R),Z0 LF (n+1) s i (B1 P) k0 k1=k1 (B1 P):=λR k0 k1=>by
    rw [Z0]
    rw [A8]
    rfl
   rw [hnil,show Dl []=some [] from rfl]
   refine ⟨λh=>(by cases h),λq hq R k0 k1=>?_⟩
   simp only [Option.some.injEq] at hq
   subst hq
   rw [List.append_nil]
   exact e R k0 k1
theorem Bq2 (s:By) (h0:A3 s.length=true):∃ r H,Br3 LF s (λl0=>rv (.tup [.fl 1,.s (.bool false)]) [.arr true 3 1 l0,.arr true 3 1 []]) (λl0=>rv (.tup [.fl 0,.s (.bool true)]) [.arr true 3 1 l0])=rv r H/\
  r.stab [1,0] H = .tup [.s (.sl (A73 s).isEmpty (A73 s).isEmpty 1 (Sc (A73 s))),.s (.bool (Dl s).isSome)]:=by
 have hs:=M7 h0
 obtain ⟨w1,w2⟩:=Af2 s hs s.length 0 LF [] (by omega) (by have:=D7;omega) (Nat.zero_le _)
 rw [List.drop_zero] at w1 w2
 unfold A73
 cases hp:Dl s with
 | none=>
  obtain ⟨l,e⟩:=w1 hp
  exact ⟨_,_,e _ _ _,rfl⟩
 | some q=>
  refine ⟨_,_,w2 q hp _ _ _,?_⟩
  cases q<;>rfl
theorem UH {R:Type} {k0:Unit->Option R} {k1:By->Bool->LL->Bool->Option R} (s:By) (z:Bool) (p:List Nat) (hp:p.length<=1000000000):∀ (r i n:Nat) (b:Bool),i+r=p.length->r<n->
  R3 LF n s z (B1 p) b (i:Int) k0 k1=if (p.drop i).any (λp=>Nat.ble 65 p&&Nat.ble p 90) then k0 () else k1 s z (B1 p) (b || ((p.drop i).any λp=>Nat.ble 128 p)):=by
 intro r
 induction r with
 | zero=>
  intro i n b hi hn
  obtain ⟨n,rfl⟩:∃ m,n=m+1:=⟨n-1,by omega⟩
  rw [R3]
  rw [C1,A8,List.drop_of_length_le (by omega)]
  simp
 | succ r ih=>
  intro i n b hi hn
  obtain ⟨n,rfl⟩:∃ m,n=m+1:=⟨n-1,by omega⟩
  rw [R3]
  have e1:A1 ((i:Int)+1)=((i+1:Nat):Int):=by rw [A4];rfl
  have hd:p.drop i=p.getD i 0::p.drop (i+1):=by
   rw [List.getD_eq_getElem?_getD,List.getElem?_eq_getElem (by omega),Option.getD_some,List.getElem_cons_drop]
  rw [C1,A9,J3,Int.toNat_natCast,Kw (by omega),Rp _ _ (by omega),hd,List.any_cons,List.any_cons,e1]
  simp only [cond_true]
  generalize p.getD i 0=q
  have go:∀ c:Bool,R3 LF n s z (B1 p) c ((i+1:Nat):Int) k0 k1=_:=λc=>ih (i+1) n c (by omega) (by omega)
  simp only [go]
  by_cases h1:q<65
  ·rw [show ltI (q:Int) (65:Int)=true from A9,show Nat.ble 65 q=false by rw [Bool.eq_false_iff,ne_eq,Nat.ble_eq];omega]
   have h2:Nat.ble 128 q=false:=by rw [Bool.eq_false_iff,ne_eq,Nat.ble_eq];omega
   rw [show ltI (q:Int) (128:Int)=true from A9,h2]
   cases b<;>simp
  ·rw [show ltI (q:Int) (65:Int)=false from A8,show Nat.ble 65 q=true by rw [Nat.ble_eq];omega]
   by_cases h2:90<q
   ·rw [show ltI (90:Int) (q:Int)=true from A9,show Nat.ble q 90=false by rw [Bool.eq_false_iff,ne_eq,Nat.ble_eq];omega]
    by_cases h3:q<128
    ·rw [show ltI (q:Int) (128:Int)=true from A9,show Nat.ble 128 q=false by rw [Bool.eq_false_iff,ne_eq,Nat.ble_eq];omega]
     cases b<;>simp
    ·rw [show ltI (q:Int) (128:Int)=false from A8,show Nat.ble 128 q=true by rw [Nat.ble_eq];omega]
     cases b<;>simp
   ·rw [show ltI (90:Int) (q:Int)=false from A8,show Nat.ble q 90=true by rw [Nat.ble_eq];omega]
    cases b<;>simp
theorem UI {R:Type} {k0:Bool->Option R} (s:By) (h0:A3 s.length=true):YE LF s k0=k0 (Ap s):=by
 have hLF:=D7
 unfold YE Ap
 rw [h0,cond_true]
 simp only [vl]
 by_cases h:(J8 s).2=0
 ·have e:(((J8 s).2:Int) != (0:Int))=false:=by rw [h];rfl
  rw [e,cond_false,Ge,h]
  have hl:=JJ s
  refine Eq.trans (UH s _ (J8 s).1 (by omega) (J8 s).1.length 0 LF false (by omega) (by omega)) ?_
  rw [List.drop_zero]
  cases h1:(J8 s).1.any (λp=>Nat.ble 65 p&&Nat.ble p 90) with
  | true=>simp
  | false=>
   rw [if_neg (by simp),Ev,Wt,Wu]
   simp only [cond_true,vl,Bool.false_or,Bool.not_false]
   by_cases h3:(Bw (J8 s).1).2=0
   all_goals grind
 grind
theorem TP {R:Type} {k0:Unit->Option R} {k1:By->Option R} (s:By) (hs:s.length<=1000000000):∀ (r i n:Nat),i+r=s.length->r<n->
  K5 LF n s (i:Int) k0 k1=if (s.drop i).all Q7 then k1 s else k0 ():=by
 intro r
 induction r with
 | zero=>
  intro i n hi hn
  obtain ⟨n,rfl⟩:∃ m,n=m+1:=⟨n-1,by omega⟩
  rw [K5]
  rw [A8,List.drop_of_length_le (by omega)]
  rfl
 | succ r ih=>
  intro i n hi hn
  obtain ⟨n,rfl⟩:∃ m,n=m+1:=⟨n-1,by omega⟩
  rw [K5]
  have e1:A1 ((i:Int)+1)=((i+1:Nat):Int):=by rw [A4];rfl
  rw [A9,J3,I2,J1 s i (by omega),e1,List.all_cons]
  simp only [cond_true]
  rw [ih (i+1) n (by omega) (by omega)]
  generalize s.getD i 0=b
  have hb:=Tg b
  have q1:((b.toNat:Int)==45)=(b==45):=U3 b 45 (by omega)
  have q2:((b.toNat:Int)==95)=(b==95):=U3 b 95 (by omega)
  rw [q1,q2]
  cases hl:Q7 b with
  | true=>
   rw [hb] at hl
   simp only [Bool.true_and]
   by_cases h1:b=45
   ·subst h1
    simp (disch:=decide) [ltI]
   ·by_cases h2:b=95
    ·subst h2
     simp (disch:=decide) [ltI]
    ·rcases hl with hl | hl | hl | hl
     ·rw [show ltI (b.toNat:Int) 97=false from A8,show ltI (122:Int) b.toNat=false from A8];rfl
     ·rw [show ltI (b.toNat:Int) 97=true from A9,show ltI (b.toNat:Int) 48=false from A8,show ltI (57:Int) b.toNat=false from A8];rfl
     ·exact absurd hl h1
     ·exact absurd hl h2
  | false=>
   have hn:¬ ((97<=b.toNat/\b.toNat<=122)\/(48<=b.toNat/\b.toNat<=57)\/b=45\/b=95):=λh=>by rw [hb.2 h] at hl;cases hl
   have n1:(b==45)=false:=by simpa using λh=>hn (.inr (.inr (.inl h)))
   have n2:(b==95)=false:=by simpa using λh=>hn (.inr (.inr (.inr h)))
   rw [n1,n2]
   simp only [Bool.not_false,cond_true,cond_false,Bool.false_and,Bool.false_eq_true,if_false]
   by_cases h1:b.toNat<48
   ·rw [show ltI (b.toNat:Int) 97=true from A9,show ltI (b.toNat:Int) 48=true from A9];rfl
   ·by_cases h2:b.toNat<97
    ·rw [show ltI (b.toNat:Int) 97=true from A9,show ltI (b.toNat:Int) 48=false from A8,show ltI (57:Int) b.toNat=true from A9];rfl
    ·rw [show ltI (b.toNat:Int) 97=false from A8,show ltI (122:Int) b.toNat=true from A9,show ltI (b.toNat:Int) 48=false from A8,show ltI (57:Int) b.toNat=true from A9];rfl
theorem Au8 (s:By) (h:4<=s.length):(s.take 4==([120,110,45,45]:List UInt8))=xnB.isPrefixOf s:=by
 match s,h with
 | a::b::c::d::t,_=>
  simp only [List.take_succ_cons,List.take_zero,xnB,List.isPrefixOf,Bool.and_true]
  rw [show ((a::b::c::d::[])==([120,110,45,45]:List UInt8))=(a==120&&(b==110&&(c==45&&(d==45&&true)))) from rfl,Bool.and_true]
  rw [Bool.eq_iff_iff]
  simp only [Bool.and_eq_true,beq_iff_eq]
  exact ⟨λh=>⟨h.1.symm,h.2.1.symm,h.2.2.1.symm,h.2.2.2.symm⟩,λh=>⟨h.1.symm,h.2.1.symm,h.2.2.1.symm,h.2.2.2.symm⟩⟩
theorem TQ {R:Type} {k0:Bool->Option R} (s:By) (h0:A3 s.length=true):YA LF s k0=k0 (L1 s):=by
 have hs:=M7 h0
 have hLF:=D7
 unfold YA L1
 by_cases h1:s=[]
 ·grind
 ·have hl:0<s.length:=List.length_pos_iff.2 h1
  have he:s.isEmpty=false:=by simpa using h1
  have he2:(s==([]:List UInt8))=false:=by simpa using h1
  rw [he2,cond_false,he]
  by_cases h2:63<s.length
  ·rw [A9,show Nat.ble s.length 63=false by rw [Bool.eq_false_iff,ne_eq,Nat.ble_eq];omega]
   rfl
  ·rw [A8,cond_false,show Nat.ble s.length 63=true by rw [Nat.ble_eq];omega,J3]
   have q1:(bAt s 0==(45:Int))=(s.getD 0 0==45):=by rw [Iw];exact U3 _ 45 (by omega)
   have e1:A1 ((s.length:Int)-1)=((s.length-1:Nat):Int):=by rw [A4];omega
   rw [q1,e1]
   simp only [cond_true,vl]
   rw [J3,I2,show ((((s.getD (s.length-1) 0).toNat:Nat):Int)==45)=(s.getD (s.length-1) 0==45) from U3 _ 45 (by omega)]
   cases h3:(s.getD 0 0==45) with
   | true=>
    grind
   | false=>
    rw [show (s.getD 0 0 != 45)=true by unfold bne;rw [h3];rfl]
    simp only [cond_true,cond_false]
    cases h4:(s.getD (s.length-1) 0==45) with
    | true=>
     grind
    | false=>
     rw [show (s.getD (s.length-1) 0 != 45)=true by unfold bne;rw [h4];rfl]
     simp only [cond_false]
     refine Eq.trans (TP s hs s.length 0 LF (by omega) (by omega)) ?_
     rw [List.drop_zero]
     cases h5:s.all Q7 with
     | false=>simp
     | true=>
      rw [if_pos rfl]
      simp only [Bool.not_false,Bool.true_and,Bool.and_true]
      by_cases h6:s.length<4
      ·rw [A9]
       have:xnB.isPrefixOf s=false:=by
        rw [Bool.eq_false_iff,ne_eq,List.isPrefixOf_iff_prefix]
        intro h
        have:=h.length_le
        simp only [xnB,List.length_cons,List.length_nil] at this
        omega
       grind
      ·rw [A8,cond_false,R5,cond_true,Y0]
       have ht:(List.take (Int.toNat 4) s==([120,110,45,45]:List UInt8))=xnB.isPrefixOf s:=Au8 s (by omega)
       rw [ht]
       cases h7:xnB.isPrefixOf s with
       | false=>rfl
       | true=>
        rw [R5,N3]
        simp only [Bool.not_true,cond_false,cond_true]
        rw [K2 (by rw [List.length_drop];omega)]
        rfl
section
variable {σ R : Type} (lf : Nat) (cl : D5) (yh : Yh σ) (s : σ) (k : Out -> St σ -> Option R)
noncomputable def LH {R:Type} (lf n:Nat) (s0:By) (i1:Int) (l2:LL) (k0:LL->Option R) (k1:LL->Option R):Option R:=match n with | 0=>none | n+1=>cond (ltI i1 (s0.length:Int)) (cond (inR i1 s0.length) (cond ((bAt s0 i1) != 37) (cond (inR i1 s0.length) (cond (D9 (l2.length+1)) (LH lf n s0 (A1 (i1+1)) (l2++[[(SV.int .u8 (bAt s0 i1))]]) k0 k1) none) none) (vl (A1 ((s0.length:Int)-i1)) λn'3=>cond (ltI n'3 3) (k0 l2) (cond (inR (A1 (i1+1)) s0.length) (vl (bAt s0 (A1 (i1+1))) λn'4=>cond (inR n'4 256) (cond (ltI (Jg (u8n n'4)) (0:Int)) (k0 l2) (cond (inR (A1 (i1+2)) s0.length) (vl (bAt s0 (A1 (i1+2))) λn'5=>cond (inR n'5 256) (cond (ltI (Jg (u8n n'5)) (0:Int)) (k0 l2) (cond (inR (A1 (i1+1)) s0.length) (vl (bAt s0 (A1 (i1+1))) λn'6=>cond (inR n'6 256) (vl (A1 ((16:Int)*(Jg (u8n n'6)))) λn'7=>cond (inR (A1 (i1+2)) s0.length) (vl (bAt s0 (A1 (i1+2))) λn'8=>cond (inR n'8 256) (vl (A1 (n'7+(Jg (u8n n'8)))) λn'9=>cond (D9 (l2.length+1)) (vl (A1 ((A1 (i1+2))+1)) λn'10=>LH lf n s0 n'10 (l2++[[(SV.int .u8 (wu8 n'9))]]) k0 k1) none) none) none) none) none)) none) none)) none) none))) none) (k1 l2)
noncomputable abbrev Al0:Code:=E1 Tryz.f32
noncomputable def Mr (lf:Nat):Cfg:=C6 lf [32] (A5 [(5,[2,0,0])]) [(68,Vp),(53,Nk),(69,VY)] (A5 [(9,[2]),(6,[3,0]),(8,[2]),(7,[3,0,24]),(5,[3,0,16]),(4,[3,0]),(3,[3]),(2,[2]),(1,[0,14]),(0,[0])]) [68,69] (A5 [(0,[]),(1,[3,0])]) (some [2]) [] [] []
noncomputable def Hs {R:Type} (lf n:Nat) (p0:LL) (i1:Int) (k0:Unit->Option R) (k1:Unit->Option R):Option R:=match n with | 0=>none | n+1=>cond (ltI i1 (p0.length:Int)) (cond (inR i1 p0.length) (cond (okE Dx p0 (Int.toNat i1) 0) (cond (A3 (List.length (gX p0 (Int.toNat i1) 0))) (cond (not (L1 (gX p0 (Int.toNat i1) 0))) (k0 ()) (Hs lf n p0 (A1 (i1+1)) k0 k1)) none) none) none) (k1 ())
theorem TN (n p0 i1):D6 0 ((Mr lf).keep 5) (bd (Mr lf) cl yh (cd [1,1,1,0,1,0,0] Al0)) n ⟨gp [(3,.s (.sl false false 1 p0)),(0,pI i1)] 25,[],s⟩ k =
 Hs lf n p0 i1 (λ_=>k .ret ⟨gp [(2,pB false)] 27,[],s⟩) (λ_=>k (.exit 0) ⟨gp [] 30,[],s⟩):=by
 induction n generalizing p0 i1 with
 | zero=>rfl
 | succ n ih=>rw [Hs];simp only [<-ih];kernel_rfl
noncomputable def A84 {R:Type} (lf:Nat) (name0:By) (k0:Bool->Option R):Option R:=cond (name0==[]) (k0 false) (cond (ltI 253 (name0.length:Int)) (k0 false) (cond (A3 name0.length) (cond (O0 name0) (k0 false) (cond (A3 name0.length) (vl (H6 (pcs (u8n (46:Int)) name0)) λl'1=>Hs lf lf l'1 0 (λ_=>k0 false) (λ_=>k0 true)) none)) none))
theorem A85 (d:Nat) (name0):evC (Mr lf) (d+1) σ yh 32 [pS name0] [] s=A84 lf name0 (λr0=>some (pB r0,[],s)):=by
 refine (evE (fn:=Tryz.f32) (by kernel_rfl)).trans ?_
 generalize evC (Mr lf) d=cl
 unfold A84;exact (Eq.trans (by kernel_rfl) (A0 rfl (A0 rfl (A0 (A0 rfl (A0 (A7 λl'1=>((TN lf cl yh s (G3 0 (G9 (Mr lf) cl yh (cd [1,1,1,1] Al0) (I8 (Mr lf) Tryz.f32))) lf l'1 0).trans (by kernel_rfl))) rfl)) rfl))))
end
theorem Ae0 {R:Type} {k0 k1:Unit->Option R} (l:List By) (hl:l.length<=1000000001) (h:∀ x∈l,x.length<=1000000000):∀ (r i n:Nat),i+r=l.length->r<n->
  Hs LF n (H6 l) (i:Int) k0 k1=if (l.drop i).all L1 then k1 () else k0 ():=by
 intro r
 induction r with
 | zero=>
  intro i n hi hn
  obtain ⟨n,rfl⟩:∃ m,n=m+1:=⟨n-1,by omega⟩
  rw [Hs]
  rw [L4,A8,List.drop_of_length_le (by omega)]
  rfl
 | succ r ih=>
  intro i n hi hn
  obtain ⟨n,rfl⟩:∃ m,n=m+1:=⟨n-1,by omega⟩
  rw [Hs]
  have e1:A1 ((i:Int)+1)=((i+1:Nat):Int):=by rw [A4];rfl
  have hd:l.drop i=l.getD i []::l.drop (i+1):=by
   rw [List.getD_eq_getElem?_getD,List.getElem?_eq_getElem (by omega),Option.getD_some,List.getElem_cons_drop]
  have hx:(l.getD i []).length<=1000000000:=h _ (by
   rw [List.getD_eq_getElem?_getD,List.getElem?_eq_getElem (by omega),Option.getD_some];exact List.getElem_mem _)
  rw [L4,A9,J3,Int.toNat_natCast,Bd (by omega),Ef,K2 hx,hd,List.all_cons,e1]
  simp only [cond_true]
  rw [ih (i+1) n (by omega) (by omega)]
  cases L1 (l.getD i []) with
  | true=>rw [Bool.true_and];rfl
  | false=>rfl
theorem Ae1 {R:Type} {k0:Bool->Option R} (s:By) (h0:A3 s.length=true):A84 LF s k0=k0 (J0 s):=by
 have hs:=M7 h0
 have hLF:=D7
 unfold A84
 by_cases hnil:s=[]
 ·subst hnil
  rfl
 ·have he:(s==([]:By))=false:=by simpa using hnil
  rw [he,cond_false]
  unfold J0
  by_cases h1:253<s.length
  ·rw [A9,show Nat.ble s.length 253=false by rw [Bool.eq_false_iff,ne_eq,Nat.ble_eq];omega]
   rfl
  ·rw [A8,cond_false,h0,cond_true,show Nat.ble s.length 253=true by rw [Nat.ble_eq];omega]
   cases h2:O0 s with
   | true=>rfl
   | false=>
    rw [cond_false,cond_true]
    have hpl:=Cc 46 s
    have hcl:=Fu 46 s
    refine Eq.trans (Ae0 (pcs 46 s) (by omega) (λx hx=>by have:=(La hx).2;omega) (pcs 46 s).length 0 LF (by omega) (by omega)) ?_
    grind
section
theorem NM:B4 Tryz.prog GX 165 Vt:=xf [] (Wl LF) Qo rfl trivial rfl (by kernel_rfl) follows λargs=>by
 unfold Qo;split
 ·rename_i n;exact ⟨rfl,rfl,rfl,_,_,(Ae8 LF noY () 0 n).trans (MH n ),rfl⟩
 ·trivial
theorem NL:B4 Tryz.prog GX 168 Vk:=xf [] (Q9 LF) Ql rfl trivial rfl (by kernel_rfl) follows λargs=>by
 unfold Ql;split
 ·rename_i d c f;exact λh0=>λh1=>λh2=>⟨rfl,rfl,rfl,_,_,(Ad5 LF noY () 0 d c f).trans (LD d c f h0 h1 h2),rfl⟩
 ·trivial
theorem Ax2:B4 Tryz.prog GX 166 OD:=xf [] (PD LF) EM rfl trivial rfl (by kernel_rfl) follows λargs=>by
 unfold EM;split
 ·rename_i k b;exact λh0=>λh1=>⟨rfl,rfl,rfl,_,_,(A90 LF noY () 0 k b).trans (Af4 k b h0 h1),rfl⟩
 ·trivial
theorem Bb6:B4 Tryz.prog GX 167 VX:=xf [] (FN LF) Vl rfl trivial rfl (by kernel_rfl) follows λargs=>by
 unfold Vl;split
 ·rename_i d;exact λh0=>⟨rfl,rfl,rfl,_,_,(As4 LF noY () 0 d).trans (SW d h0),rfl⟩
 ·trivial
theorem Bm0:B4 Tryz.prog GX 176 Aj4:=xf [] (Ez LF) EN rfl trivial rfl (by kernel_rfl) follows λargs=>by
 unfold EN;split
 ·rename_i b;exact λh0=>⟨rfl,rfl,rfl,_,_,(A92 LF noY () 0 b).trans (Af5 b h0),rfl⟩
 ·trivial
theorem Bl7:B4 Tryz.prog GX 125 Aj1:=xf [0,0] (J5 LF) EI rfl ⟨NM,Ax2,Bb6,NL,trivial⟩ rfl (by kernel_rfl) follows λargs=>by
 unfold EI;split
 ·rename_i p_z p_t p;exact λh0=>(let ⟨rr,hH,ee,qq⟩:=A83 p_z p_t p h0;⟨rfl,rfl,rfl,rr,hH,(A81 LF noY () 0 p_z p_t p).trans ee,qq⟩)
 ·trivial
theorem Bc0:B4 Tryz.prog GX 146 WA:=xf [1,0] (G5 LF) Vr rfl ⟨Bm0,Ax2,NL,NM,trivial⟩ rfl (by kernel_rfl) follows λargs=>by
 unfold Vr;split
 ·rename_i s;exact λh0=>(let ⟨rr,hH,ee,qq⟩:=At7 s h0;⟨rfl,rfl,rfl,rr,hH,(At6 LF noY () 0 s).trans ee,qq⟩)
 ·trivial
theorem Bc1:B4 Tryz.prog GX 103 WB:=xf [] (Gz LF) Vu rfl ⟨Bc0,Bl7,trivial⟩ rfl (by kernel_rfl) follows λargs=>by
 unfold Vu;split
 ·rename_i s;exact λh0=>⟨rfl,rfl,rfl,_,_,(At8 LF noY () 0 s).trans (UI s h0),rfl⟩
 ·trivial
theorem Bb8:B4 Tryz.prog GX 69 VY:=xf [] (Gx LF) Vo rfl ⟨Bc1,trivial⟩ rfl (by kernel_rfl) follows λargs=>by
 unfold Vo;split
 ·rename_i s;exact λh0=>⟨rfl,rfl,rfl,_,_,(At2 LF noY () 0 s).trans (TQ s h0),rfl⟩
 ·trivial
theorem Bl8:B4 Tryz.prog GX 32 Aj2:=xf [] (Mr LF) EJ rfl ⟨VJ,Zh,Bb8,trivial⟩ rfl (by kernel_rfl) follows λargs=>by
 unfold EJ;split
 ·rename_i s;exact λh0=>⟨rfl,rfl,rfl,_,_,(A85 LF noY () 0 s).trans (Ae1 s h0),rfl⟩
 ·trivial
end
section
theorem Bk2:B4 Tryz.prog GX 12 NU:=xf [] (Ml LF) DG rfl trivial rfl (by kernel_rfl) follows λargs=>by
 unfold DG;split
 ·rename_i l_z l_t l n;exact λh0=>λh1=>⟨rfl,rfl,rfl,_,_,(A25 LF noY () 0 l_z l_t l n).trans (ZW l_z l_t l n h0 h1),rfl⟩
 ·trivial
end
section
variable {σ R : Type} (lf : Nat) (cl : D5) (yh : Yh σ) (s : σ) (k : Out -> St σ -> Option R)
noncomputable def NF {R:Type} (s0:By) (from1 i2:Int) (l4:LL) (k0:By->Int->Int->LL->Option R):Option R:=cond (ltI from1 i2) (cond (N7 from1 i2 s0.length) (cond (D9 (l4.length+1)) (k0 s0 (A1 (i2+1)) i2 (l4++[[(SV.str (cut s0 from1 i2))]])) none) none) (k0 s0 (A1 (i2+1)) i2 l4)
noncomputable def Zg {R:Type} (lf n:Nat) (s0:By) (from1 i2:Int) (l3:LL) (k0:LL->Option R):Option R:=match n with | 0=>none | n+1=>cond (not (ltI (s0.length:Int) i2)) (cond (ltI i2 (s0.length:Int)) (cond (inR i2 s0.length) (cond (not (Bn7 (bAt s0 i2))) (Zg lf n s0 from1 (A1 (i2+1)) l3 k0) (NF s0 from1 i2 l3 (λs'0 from'1 i'2 l'3=>Zg lf n s'0 from'1 (A1 (i'2+1)) l'3 k0))) none) (NF s0 from1 i2 l3 (λs'4 from'5 i'6 l'7=>Zg lf n s'4 from'5 (A1 (i'6+1)) l'7 k0))) (k0 l3)
noncomputable abbrev WJ:Code:=E1 Tryz.f25
noncomputable def Gu (lf:Nat):Cfg:=C6 lf [25] (A5 [(4,[0,0,2,0])]) [] (A5 [(8,[4]),(5,[0,0,3]),(7,[4]),(6,[0,0,3,19]),(4,[0,0,3,8]),(3,[0,0,3]),(2,[4]),(1,[0,0,8]),(0,[0,0])]) [] (A5 [(0,[]),(1,[0,0,3])]) (some [4]) [] [] []
noncomputable def Dg {R:Type} (lf n:Nat) (a_z0 a_t1:Bool) (a2:LL) (b_z3 b_t4:Bool) (b5:LL) (i6:Int) (k0:Unit->Option R) (k1:Unit->Option R):Option R:=match n with | 0=>none | n+1=>cond (ltI i6 (a2.length:Int)) (cond (inR i6 a2.length) (cond (okE ⟨true,true,[.str,.bool]⟩ a2 (Int.toNat i6) 0) (cond (inR i6 b5.length) (cond (okE ⟨true,true,[.str,.bool]⟩ b5 (Int.toNat i6) 0) (cond (not (((gX a2 (Int.toNat i6) 0)==(gX b5 (Int.toNat i6) 0))&&(((gY a2 (Int.toNat i6) 1)==(gY b5 (Int.toNat i6) 1))&&true))) (k0 ()) (Dg lf n a_z0 a_t1 a2 b_z3 b_t4 b5 (A1 (i6+1)) k0 k1)) none) none) none) none) (k1 ())
theorem KI (n:Nat) (a_z0 a_t1:Bool) (a2:LL) (b_z3 b_t4:Bool) (b5:LL) (i6:Int):D6 0 ((Gu lf).keep 4) (bd (Gu lf) cl yh (cd [1,1,0,1,0,0] WJ)) n ⟨gp [(0,.s (.sl a_z0 a_t1 2 a2)),(0,.s (.sl b_z3 b_t4 2 b5)),(3,pI i6)] 20,[],s⟩ k =
 Dg lf n a_z0 a_t1 a2 b_z3 b_t4 b5 i6 (λ_=>k .ret ⟨gp [(4,pB false)] 21,[],s⟩) (λ_=>k (.exit 0) ⟨gp [] 26,[],s⟩):=by
 induction n generalizing a_z0 a_t1 a2 b_z3 b_t4 b5 i6 with
 | zero=>rfl
 | succ n ih=>rw [Dg];simp only [<-ih];kernel_rfl
noncomputable def XC {R:Type} (lf:Nat) (a_z0 a_t1:Bool) (a2:LL) (b_z3 b_t4:Bool) (b5:LL) (k0:Bool->Option R):Option R:=cond ((a2.length:Int) != (b5.length:Int)) (k0 false) (Dg lf lf a_z0 a_t1 a2 b_z3 b_t4 b5 0 (λ_=>k0 false) (λ_=>k0 true))
theorem Ap3 (d:Nat) (a_z0 a_t1 a2 b_z3 b_t4 b5):evC (Gu lf) (d+1) σ yh 25 [.s (.sl a_z0 a_t1 2 a2),.s (.sl b_z3 b_t4 2 b5)] [] s=XC lf a_z0 a_t1 a2 b_z3 b_t4 b5 (λr0=>some (pB r0,[],s)):=by
 refine (evE (fn:=Tryz.f25) (by kernel_rfl)).trans ?_
 generalize evC (Gu lf) d=cl
 unfold XC;exact (Eq.trans (by kernel_rfl) (A0 rfl ((KI lf cl yh s (G3 0 (G9 (Gu lf) cl yh (cd [1,1,1] WJ) (I8 (Gu lf) Tryz.f25))) lf a_z0 a_t1 a2 b_z3 b_t4 b5 0).trans (by kernel_rfl))))
end
section
variable {σ R : Type} (lf : Nat) (cl : D5) (yh : Yh σ) (s : σ) (k : Out -> St σ -> Option R)
noncomputable abbrev WN:Code:=E1 Tryz.f64
noncomputable def Gy (lf:Nat):Cfg:=C6 lf [64] (A5 [(3,[4,0,0,0])]) [(53,Nk)] (A5 [(14,[4]),(11,[4]),(13,[4]),(12,[52]),(10,[5,0,39]),(4,[5,0,0]),(9,[4]),(8,[5,0,0,37]),(7,[4]),(6,[5,0,0,0,0,32]),(5,[5,0,0,0,0]),(3,[5,0,0,15]),(2,[5,0,0]),(1,[5,0]),(0,[0,0])]) [] (A5 [(2,[]),(0,[5,0]),(1,[5,0,0])]) (some [4]) [] [] []
noncomputable def Dr {R:Type} (lf n:Nat) (x0 y1:LL) (i2:Int) (k0:Int->Option R) (k1:LL->LL->Option R):Option R:=match n with | 0=>none | n+1=>cond (not (ltI (x0.length:Int) i2)) (cond (not (ltI (y1.length:Int) i2)) (vl (A1 ((x0.length:Int)-i2)) λn'4=>cond (inR n'4 x0.length) (cond (okE Dx x0 (Int.toNat n'4) 0) (vl (gX x0 (Int.toNat n'4) 0) λs'5=>vl (A1 ((y1.length:Int)-i2)) λn'6=>cond (inR n'6 y1.length) (cond (okE Dx y1 (Int.toNat n'6) 0) (vl (gX y1 (Int.toNat n'6) 0) λs'7=>cond (bytesLess s'5 s'7) (k0 (-1)) (cond (not ((bytesLess s'5 s'7) || (s'5==s'7))) (k0 1) (Dr lf n x0 y1 (A1 (i2+1)) k0 k1))) none) none) none) none) (k1 x0 y1)) (k1 x0 y1)
theorem MB (n x0 y1 i2):D6 0 ((Gy lf).keep 3) (bd (Gy lf) cl yh (cd [1,1,0,1,0,0] WN)) n ⟨gp [(5,.s (.sl false false 1 x0)),(0,.s (.sl false false 1 y1)),(0,pI i2)] 50,[],s⟩ k =
 Dr lf n x0 y1 i2 (λn0=>k .ret ⟨gp [(4,pI n0)] 53,[],s⟩) (λx0 y1=>k (.exit 0) ⟨gp [(5,.s (.sl false false 1 x0)),(0,.s (.sl false false 1 y1))] 51,[],s⟩):=by
 induction n generalizing x0 y1 i2 with
 | zero=>rfl
 | succ n ih=>rw [Dr];simp only [<-ih];kernel_rfl
noncomputable def YC {R:Type} (lf:Nat) (a0 b1:By) (k0:Int->Option R):Option R:=cond (A3 a0.length) (vl (H6 (pcs (u8n (46:Int)) a0)) λl'2=>cond (A3 b1.length) (vl (H6 (pcs (u8n (46:Int)) b1)) λl'3=>Dr lf lf l'2 l'3 1 (λn'8=>k0 n'8) (λx'9 y'10=>cond (ltI (x'9.length:Int) (y'10.length:Int)) (k0 (-1)) (cond (ltI (y'10.length:Int) (x'9.length:Int)) (k0 1) (k0 0)))) none) none
theorem At5 (d:Nat) (a0 b1):evC (Gy lf) (d+1) σ yh 64 [pS a0,pS b1] [] s=YC lf a0 b1 (λr0=>some (pI r0,[],s)):=by
 refine (evE (fn:=Tryz.f64) (by kernel_rfl)).trans ?_
 generalize evC (Gy lf) d=cl
 unfold YC;exact (Eq.trans (by kernel_rfl) (A0 (A7 λl'2=>(A0 (A7 λl'3=>((MB lf cl yh s (G3 0 (G9 (Gy lf) cl yh (cd [1,1,1] WN) (I8 (Gy lf) Tryz.f64))) lf l'2 l'3 1).trans (by kernel_rfl))) rfl)) rfl))
noncomputable abbrev L5:Code:=E1 Tryz.f27
noncomputable def E6 (lf:Nat):Cfg:=C6 lf [27] (A5 [(13,[0,1,0,1,0,0]),(10,[0,1,0,1,0]),(4,[0,1,0,0])]) [(32,Aj2),(64,VZ)] (A5 [(18,[2,0]),(11,[0,4,0]),(17,[0,4,0]),(16,[2,0]),(15,[0,4,0,0,58]),(14,[0,4,0,0]),(13,[0,4,0,0,39]),(12,[0,4,0,0]),(10,[0,4,0,20]),(9,[0,4,0]),(8,[0,4]),(5,[0,3]),(7,[2,0]),(6,[0,3,18]),(4,[0,3,9]),(3,[0,3]),(2,[2,0]),(1,[0,9]),(0,[0])]) [32,64] (A5 [(2,[5]),(3,[0,4,0]),(4,[0,4,0,0]),(5,[0,4,0,0]),(0,[0]),(1,[0,3])]) (some [2,0]) [] [] [] (rw:=[(17,9)]) (fr:=[(17,[4,8],[0])])
noncomputable def Dm {R:Type} (lf n:Nat) (l_z0 l_t1:Bool) (l2:LL) (i3:Int) (k0:(List Blk)->Option R) (k1:Bool->Bool->LL->Option R):Option R:=match n with | 0=>none | n+1=>cond (ltI i3 (l2.length:Int)) (cond (inR i3 l2.length) (cond (okE Dx l2 (Int.toNat i3) 0) (cond (A3 (List.length (gX l2 (Int.toNat i3) 0))) (cond (not (J0 (gX l2 (Int.toNat i3) 0))) (k0 []) (Dm lf n l_z0 l_t1 l2 (A1 (i3+1)) k0 k1)) none) none) none) (k1 l_z0 l_t1 l2)
theorem LQ (n l_z0 l_t1 l2 i3):D6 0 ((E6 lf).keep 4) (bd (E6 lf) cl yh (cd [1,1,0,1,0,0] L5)) n ⟨gp [(0,.s (.sl l_z0 l_t1 2 l2)),(3,pI i3)] 78,[],s⟩ k =
 Dm lf n l_z0 l_t1 l2 i3 (λH0=>k .ret ⟨gp [(2,.fl 0),(0,pI (14:Int))] 79,(.arr true 63 2 []::H0),s⟩) (λl_z0 l_t1 l2=>k (.exit 0) ⟨gp [(0,.s (.sl l_z0 l_t1 2 l2))] 82,[],s⟩):=by
 induction n generalizing l_z0 l_t1 l2 i3 with
 | zero=>rfl
 | succ n ih=>rw [Dm];simp only [<-ih];kernel_rfl
noncomputable def Dn {R:Type} (lf n:Nat) (l_z0 l_t1:Bool) (l2 out3:LL) (i4 kk5:Int) (k0:Bool->Bool->LL->LL->Int->Int->Option R):Option R:=match n with | 0=>none | n+1=>cond (ltI kk5 (out3.length:Int)) (cond (inR kk5 out3.length) (cond (okE Dx out3 (Int.toNat kk5) 0) (vl (gX out3 (Int.toNat kk5) 0) λs'4=>cond (inR i4 l2.length) (cond (okE Dx l2 (Int.toNat i4) 0) (cond (A3 s'4.length) (cond (A3 (List.length (gX l2 (Int.toNat i4) 0))) (vl (O6 s'4 (gX l2 (Int.toNat i4) 0)) λn'5=>cond (ltI n'5 0) (Dn lf n l_z0 l_t1 l2 out3 i4 (A1 (kk5+1)) k0) (k0 l_z0 l_t1 l2 out3 i4 kk5)) none) none) none) none) none) none) (k0 l_z0 l_t1 l2 out3 i4 kk5)
theorem LS (n l_z0 l_t1 l2 out3 i4 kk5):D6 1 ((E6 lf).keep 13) (bd (E6 lf) cl yh (cd [1,1,1,1,0,1,0,0,1,0,0,1,0,0,0] L5)) n ⟨gp [(0,.s (.sl l_z0 l_t1 2 l2)),(4,.s (.sl false false 2 out3)),(0,pI i4),(0,pI kk5)] 75,[.arr true 63 2 []],s⟩ k =
 Dn lf n l_z0 l_t1 l2 out3 i4 kk5 (λl_z0 l_t1 l2 out3 i4 kk5=>k (.exit 4) ⟨gp [(0,.s (.sl l_z0 l_t1 2 l2)),(4,.s (.sl false false 2 out3)),(0,pI i4),(0,pI kk5)] 75,[.arr true 63 2 []],s⟩):=by
 induction n generalizing l_z0 l_t1 l2 out3 i4 kk5 with
 | zero=>rfl
 | succ n ih=>rw [Dn];simp only [<-ih];kernel_rfl
noncomputable def Gh {R:Type} (l_z0 l_t1:Bool) (l2 out3:LL) (i4 kk5:Int) (k0:Bool->Bool->LL->Int->LL->Option R):Option R:=cond (N7 0 kk5 out3.length) (cond (inR i4 l2.length) (cond (okE ⟨true,true,[.str,.bool]⟩ l2 (Int.toNat i4) 0) (cond (N7 kk5 (out3.length:Int) out3.length) (vl (cut out3 kk5 (out3.length:Int)) λl'16=>cond (D9 (0+(List.length (cut out3 0 kk5)))) (cond (D9 ((List.length (cut out3 0 kk5))+1)) (vl ((cut out3 0 kk5)++[[(SV.str (gX l2 (Int.toNat i4) 0)),(SV.bool (gY l2 (Int.toNat i4) 1))]]) λl'17=>cond (D9 (l'17.length+l'16.length)) (k0 l_z0 l_t1 l2 i4 (l'17++l'16)) none) none) none) none) none) none) none
abbrev Ht (b:Code):Prop:=∀ (k:Out->St σ->Option R) l_z0 l_t1 l2 out3 i4 kk5 b6,B2 (E6 lf) cl yh b ⟨gp [(0,.s (.sl l_z0 l_t1 2 l2)),(4,.s (.sl false false 2 out3)),(0,pI i4),(0,pI kk5),(58,pB b6)] 16,[.arr true 63 2 []],s⟩ k=Gh l_z0 l_t1 l2 out3 i4 kk5 (λl_z0 l_t1 l2 i3 l4=>k .normal ⟨gp [(0,.s (.sl l_z0 l_t1 2 l2)),(4,.fl 1),(0,pI i3)] 76,[.arr true 63 2 [],.arr false 63 2 l4],s⟩)
theorem LN:Ht (R:=R) lf cl yh s (cd [1,1,1,1,0,1,0,0,1,0,0,1,1,1] L5):=by
 intro k l_z0 l_t1 l2 out3 i4 kk5 b6;unfold Gh;kernel_rfl
noncomputable def Y9 {R:Type} (lf n:Nat) (l_z0 l_t1:Bool) (l2 out3:LL) (i4:Int) (k0:Blk->(List Blk)->Option R) (k1:LL->Option R):Option R:=match n with | 0=>none | n+1=>cond (ltI i4 (l2.length:Int)) (Dn lf lf l_z0 l_t1 l2 out3 i4 0 (λl_z'6 l_t'7 l'8 out'9 i'10 kk'11=>cond (ltI kk'11 (out'9.length:Int)) (cond (inR kk'11 out'9.length) (cond (okE Dx out'9 (Int.toNat kk'11) 0) (vl (gX out'9 (Int.toNat kk'11) 0) λs'14=>cond (inR i'10 l'8.length) (cond (okE Dx l'8 (Int.toNat i'10) 0) (vl (gX l'8 (Int.toNat i'10) 0) λs'15=>cond (s'14==s'15) (k0 (Blk.arr true 63 2 []) []) (Gh l_z'6 l_t'7 l'8 out'9 i'10 kk'11 (λl_z'18 l_t'19 l'20 i'21 l'22=>vl (A1 (i'21+1)) λn'23=>Y9 lf n l_z'18 l_t'19 l'20 l'22 n'23 k0 k1))) none) none) none) none) (Gh l_z'6 l_t'7 l'8 out'9 i'10 kk'11 (λl_z'24 l_t'25 l'26 i'27 l'28=>vl (A1 (i'27+1)) λn'29=>Y9 lf n l_z'24 l_t'25 l'26 l'28 n'29 k0 k1)))) (k1 out3)
theorem LT (b_11110100100111:Code) (h_rlnew_j0:Ht (R:=R) lf cl yh s b_11110100100111) (n:Nat) (l_z0 l_t1:Bool) (l2 out3:LL) (i4:Int):D6 1 ((E6 lf).keep 10) (bd (E6 lf) cl yh (cd [1,1,1,1,0,1,0,0] (P5 [1,1,1,1,0,1,0,0,1,0,0,1,1,1] b_11110100100111 L5))) n ⟨gp [(0,.s (.sl l_z0 l_t1 2 l2)),(4,.s (.sl false false 2 out3)),(0,pI i4)] 76,[.arr true 63 2 []],s⟩ k =
 Y9 lf n l_z0 l_t1 l2 out3 i4 (λB0 H1=>k .ret ⟨gp [(2,.fl 1),(0,pI (17:Int))] 79,(B0::.arr true 63 2 []::H1),s⟩) (λout0=>k (.exit 2) ⟨gp [(5,.s (.sl false false 2 out0))] 77,[.arr true 63 2 []],s⟩):=by
 induction n generalizing l_z0 l_t1 l2 out3 i4 with
 | zero=>rfl
 | succ n ih=>rw [Y9];exact let K0:=(G3 3 (G9 (E6 lf) cl yh (cd [1,1,1,1,0,1,0,0,1,1] L5) (lpK 1 ((E6 lf).keep 10) (bd (E6 lf) cl yh (cd [1,1,1,1,0,1,0,0] (P5 [1,1,1,1,0,1,0,0,1,0,0,1,1,1] b_11110100100111 L5))) n k)));(Eq.trans (by kernel_rfl) (A0 ((LS lf cl yh s (G3 4 (G9 (E6 lf) cl yh (cd [1,1,1,1,0,1,0,0,1,0,0,1,1] (P5 [1,1,1,1,0,1,0,0,1,0,0,1,1,1] b_11110100100111 L5)) K0)) lf l_z0 l_t1 l2 out3 i4 0).trans (congr rfl (fx6 λl_z'6 l_t'7 l'8 out'9 i'10 kk'11=>(Eq.trans (by kernel_rfl) (A0 (A0 (A0 (A7 λs'14=>(A0 (A0 (A7 λs'15=>(A0 rfl ((h_rlnew_j0 K0 l_z'6 l_t'7 l'8 out'9 i'10 kk'11 (s'14==s'15)).trans (congr rfl (fx5 λl_z'18 l_t'19 l'20 i'21 l'22=>(Eq.trans (by kernel_rfl) (A7 λn'23=>(ih l_z'18 l_t'19 l'20 l'22 n'23)))))))) rfl) rfl)) rfl) rfl) ((h_rlnew_j0 K0 l_z'6 l_t'7 l'8 out'9 i'10 kk'11 false).trans (congr rfl (fx5 λl_z'24 l_t'25 l'26 i'27 l'28=>(Eq.trans (by kernel_rfl) (A7 λn'29=>(ih l_z'24 l_t'25 l'26 l'28 n'29))))))))))) rfl))
noncomputable def Jw {R:Type} (lf n:Nat) (l_z0 l_t1:Bool) (l2:LL) (k0:Bool->Bool->LL->Option R):Option R:=match n with | 0=>none | n+1=>k0 l_z0 l_t1 l2
theorem LU (n l_z0 l_t1 l2):D6 1 ((E6 lf).keep 13) (bd (E6 lf) cl yh (cd [1,1,1,1,0,1,0,0,1,0,0,1,0,0,0] L5)) n ⟨gp [(0,.s (.sl l_z0 l_t1 2 l2)),(4,.fl 0),(0,pI (0:Int)),(0,pI (0:Int))] 75,[.arr true 63 2 []],s⟩ k =
 Jw lf n l_z0 l_t1 l2 (λl_z0 l_t1 l2=>k (.exit 4) ⟨gp [(0,.s (.sl l_z0 l_t1 2 l2)),(4,.fl 0),(0,pI (0:Int)),(0,pI (0:Int))] 75,[.arr true 63 2 []],s⟩):=by
 induction n generalizing l_z0 l_t1 l2 with
 | zero=>rfl
 | succ n ih=>rw [Jw];kernel_rfl
noncomputable def Ph {R:Type} (l_z0 l_t1:Bool) (l2:LL) (k0:Bool->Bool->LL->By->Bool->Option R):Option R:=cond (inR 0 l2.length) (cond (okE ⟨true,true,[.str,.bool]⟩ l2 0 0) (k0 l_z0 l_t1 l2 (gX l2 0 0) (gY l2 0 1)) none) none
abbrev Nd (b:Code):Prop:=∀ (k:Out->St σ->Option R) l_z0 l_t1 l2,B2 (E6 lf) cl yh b ⟨gp [(0,.s (.sl l_z0 l_t1 2 l2)),(4,.fl 0),(0,pI (0:Int)),(0,pI (0:Int)),(58,pB false)] 16,[.arr true 63 2 []],s⟩ k=Ph l_z0 l_t1 l2 (λl_z0 l_t1 l2 s3 b4=>k .normal ⟨gp [(0,.s (.sl l_z0 l_t1 2 l2)),(4,.fl 1),(0,pI (0:Int))] 76,[.arr true 63 2 [],.arr false 63 2 [[.str s3,.bool b4]]],s⟩)
theorem LP:Nd (R:=R) lf cl yh s (cd [1,1,1,1,0,1,0,0,1,0,0,1,1,1] L5):=by
 intro k l_z0 l_t1 l2;unfold Ph;kernel_rfl
noncomputable def Gi {R:Type} (lf n:Nat) (l_z0 l_t1:Bool) (l2:LL) (k0:Blk->(List Blk)->Option R) (k1:LL->Option R) (k2:Unit->Option R):Option R:=match n with | 0=>none | n+1=>cond (ltI 0 (l2.length:Int)) (Jw lf lf l_z0 l_t1 l2 (λl_z'30 l_t'31 l'32=>Ph l_z'30 l_t'31 l'32 (λl_z'33 l_t'34 l'35 s'36 b'37=>Y9 lf n l_z'33 l_t'34 l'35 [[(SV.str s'36),(SV.bool b'37)]] 1 (λB'38 H'39=>k0 B'38 H'39) (λout'40=>k1 out'40)))) (k2 ())
theorem LV (b_11110100100111:Code) (h_rlnew_j0:Ht (R:=R) lf cl yh s b_11110100100111) (h_rlnew_j1:Nd (R:=R) lf cl yh s b_11110100100111) (n:Nat) (l_z0 l_t1:Bool) (l2:LL):D6 1 ((E6 lf).keep 10) (bd (E6 lf) cl yh (cd [1,1,1,1,0,1,0,0] (P5 [1,1,1,1,0,1,0,0,1,0,0,1,1,1] b_11110100100111 L5))) n ⟨gp [(0,.s (.sl l_z0 l_t1 2 l2)),(4,.fl 0),(0,pI (0:Int))] 76,[.arr true 63 2 []],s⟩ k =
 Gi lf n l_z0 l_t1 l2 (λB0 H1=>k .ret ⟨gp [(2,.fl 1),(0,pI (17:Int))] 79,(B0::.arr true 63 2 []::H1),s⟩) (λout0=>k (.exit 2) ⟨gp [(5,.s (.sl false false 2 out0))] 77,[.arr true 63 2 []],s⟩) (λ_=>k (.exit 2) ⟨gp [(5,.fl 0)] 77,[.arr true 63 2 []],s⟩):=by
 induction n generalizing l_z0 l_t1 l2 with
 | zero=>rfl
 | succ n ih=>rw [Gi];exact (Eq.trans (by kernel_rfl) (A0 ((LU lf cl yh s (G3 4 (G9 (E6 lf) cl yh (cd [1,1,1,1,0,1,0,0,1,0,0,1,1] (P5 [1,1,1,1,0,1,0,0,1,0,0,1,1,1] b_11110100100111 L5)) (G3 3 (G9 (E6 lf) cl yh (cd [1,1,1,1,0,1,0,0,1,1] L5) (lpK 1 ((E6 lf).keep 10) (bd (E6 lf) cl yh (cd [1,1,1,1,0,1,0,0] (P5 [1,1,1,1,0,1,0,0,1,0,0,1,1,1] b_11110100100111 L5))) n k))))) lf l_z0 l_t1 l2).trans (congr rfl (fx3 λl_z'30 l_t'31 l'32=>(Eq.trans (by kernel_rfl) ((h_rlnew_j1 (G3 3 (G9 (E6 lf) cl yh (cd [1,1,1,1,0,1,0,0,1,1] L5) (lpK 1 ((E6 lf).keep 10) (bd (E6 lf) cl yh (cd [1,1,1,1,0,1,0,0] (P5 [1,1,1,1,0,1,0,0,1,0,0,1,1,1] b_11110100100111 L5))) n k))) l_z'30 l_t'31 l'32).trans (congr rfl (fx5 λl_z'33 l_t'34 l'35 s'36 b'37=>(Eq.trans (by kernel_rfl) ((LT lf cl yh s k b_11110100100111 h_rlnew_j0 n l_z'33 l_t'34 l'35 [[(SV.str s'36),(SV.bool b'37)]] 1).trans (congr (congr rfl (fx2 λB'38 H'39=>rfl)) (fx1 λout'40=>rfl))))))))))) rfl))
noncomputable def LK {R:Type} (lf:Nat) (l_z0 l_t1:Bool) (l2:LL) (k0:Int->(List Blk)->Option R) (k1:Blk->(List Blk)->Option R) (k2:LL->(List Blk)->Option R):Option R:=cond (ltI 1000 (l2.length:Int)) (k0 3 []) (Dm lf lf l_z0 l_t1 l2 0 (λH'0=>k0 14 H'0) (λl_z'1 l_t'2 l'3=>Gi lf lf l_z'1 l_t'2 l'3 (λB'41 H'42=>k1 B'41 H'42) (λout'43=>k2 out'43 [(Blk.arr true 63 2 [])]) (λ_=>k0 0 [])))
theorem At1 (b_11110100100111:Code) (h_rlnew_j0:Ht (R:=PV × List Blk × σ) lf cl yh s b_11110100100111) (h_rlnew_j1:Nd (R:=PV × List Blk × σ) lf cl yh s b_11110100100111) (l_z0 l_t1:Bool) (l2:LL):B2 (E6 lf) cl yh (cd [] (P5 [1,1,1,1,0,1,0,0,1,0,0,1,1,1] b_11110100100111 L5)) ⟨[.s (.sl l_z0 l_t1 2 l2)]++tps 82,[],s⟩ (I8 (E6 lf) Tryz.f27)=LK lf l_z0 l_t1 l2 (λr0 H1=>some (.tup [.fl 0,pI r0],(.arr true 63 2 []::H1),s)) (λB0 H1=>some (.tup [.fl 1,pI (17:Int)],(B0::.arr true 63 2 []::H1),s)) (λr0 H1=>some (.tup [.s (.sl false false 2 r0),pI (0:Int)],H1,s)):=by
 unfold LK;exact (Eq.trans (by kernel_rfl) (A0 rfl ((LQ lf cl yh s (G3 0 (G9 (E6 lf) cl yh (cd [1,1,1] (P5 [1,1,1,1,0,1,0,0,1,0,0,1,1,1] b_11110100100111 L5)) (I8 (E6 lf) Tryz.f27))) lf l_z0 l_t1 l2 0).trans (congr (congr rfl (by kernel_rfl)) (fx3 λl_z'1 l_t'2 l'3=>(Eq.trans (by kernel_rfl) ((LV lf cl yh s (G3 2 (G9 (E6 lf) cl yh (cd [1,1,1,1,1] L5) (I8 (E6 lf) Tryz.f27))) b_11110100100111 h_rlnew_j0 h_rlnew_j1 lf l_z'1 l_t'2 l'3).trans (by kernel_rfl))))))))
theorem LM (d:Nat) (l_z0 l_t1 l2):evC (E6 lf) (d+1) σ yh 27 [.s (.sl l_z0 l_t1 2 l2)] [] s=LK lf l_z0 l_t1 l2 (λr0 H1=>some (.tup [.fl 0,pI r0],(.arr true 63 2 []::H1),s)) (λB0 H1=>some (.tup [.fl 1,pI (17:Int)],(B0::.arr true 63 2 []::H1),s)) (λr0 H1=>some (.tup [.s (.sl false false 2 r0),pI (0:Int)],H1,s)):=
 (evE (fn:=Tryz.f27) (by kernel_rfl)).trans (Eq.trans (by kernel_rfl) (At1 lf (evC (E6 lf) d) yh s (cd [1,1,1,1,0,1,0,0,1,0,0,1,1,1] L5) (LN lf (evC (E6 lf) d) yh s) (LP lf (evC (E6 lf) d) yh s) l_z0 l_t1 l2))
noncomputable abbrev XZ (l_z0 l_t1:Bool) (l2:LL):Option (PV × List Blk × Unit):=LK LF l_z0 l_t1 l2 (λr0 H1=>some (.tup [.fl 0,pI r0],(.arr true 63 2 []::H1),())) (λB0 H1=>some (.tup [.fl 1,pI (17:Int)],(B0::.arr true 63 2 []::H1),())) (λr0 H1=>some (.tup [.s (.sl false false 2 r0),pI (0:Int)],H1,()))
end
end
section
open Go Go.Op
set_option maxRecDepth 100000
theorem Pf {l:List By} {i:Nat} (h1:1<=i) (h2:i<=l.length):l.reverse.drop (i-1)=l.getD (l.length-i) []::l.reverse.drop i:=by
 rw [P0 [] (by rw [List.length_reverse];omega),show i-1+1=i by omega]
 congr 1
 rw [List.getD_eq_getElem?_getD,List.getD_eq_getElem?_getD,List.getElem?_reverse (by omega),show l.length-1-(i-1)=l.length-i by omega]
theorem Ys {R:Type} (k0:Int->Option R) (x y:List By) (hx:x.length<=2000000000) (hy:y.length<=2000000000):∀ (r i m:Nat),i+r=x.length+1->1<=i->i<=y.length+1->r<m->
  Dr LF m (H6 x) (H6 y) (i:Int) (λn=>k0 n) (λx' y'=>cond (ltI (x'.length:Int) (y'.length:Int)) (k0 (-1)) (cond (ltI (y'.length:Int) (x'.length:Int)) (k0 1) (k0 0)))=k0 (Nt (x.reverse.drop (i-1)) (y.reverse.drop (i-1)))
 | 0,i,m,hi,h1,h2,hm=>by
  obtain ⟨m,rfl⟩:∃ q,m=q+1:=⟨m-1,by omega⟩
  rw [Dr,L4,L4,B9 (by omega),List.drop_of_length_le (i:=i-1) (l:=x.reverse) (by rw [List.length_reverse];omega)]
  simp only [Bool.not_true,cond_false,L4]
  rw [C9 (a:=(y.length:Int)) (by omega)]
  by_cases c:x.length<y.length
  ·rw [B9 (by omega),Pf (l:=y) h1 (by omega)]
   rfl
  ·rw [C9 (by omega),List.drop_of_length_le (by rw [List.length_reverse];omega)]
   rfl
 | r+1,i,m,hi,h1,h2,hm=>by
  obtain ⟨m,rfl⟩:∃ q,m=q+1:=⟨m-1,by omega⟩
  have hlt:i<=x.length:=by omega
  rw [Dr,L4,L4,C9 (by omega)]
  by_cases c:y.length<i
  ·rw [B9 (by omega),List.drop_of_length_le (i:=i-1) (l:=y.reverse) (by rw [List.length_reverse];omega),Pf h1 hlt]
   simp only [Bool.not_true,Bool.not_false,cond_true,cond_false,L4]
   rw [C9 (by omega),B9 (by omega)]
   rfl
  ·have e1:A1 ((x.length:Int)-(i:Int))=((x.length-i:Nat):Int):=by rw [A4];omega
   have e2:A1 ((y.length:Int)-(i:Int))=((y.length-i:Nat):Int):=by rw [A4];omega
   have e3:A1 ((i:Int)+1)=((i+1:Nat):Int):=by rw [A4];rfl
   rw [C9 (by omega)]
   simp only [Bool.not_false,cond_true,vl,e1,e2,e3,Int.toNat_natCast]
   rw [I6 (by omega) (by omega),I6 (by omega) (by omega),Bd (by omega),Bd (by omega),Ef,Ef,Pf h1 hlt,Pf (l:=y) h1 (by omega)]
   simp only [cond_true]
   generalize x.getD (x.length-i) []=s
   generalize y.getD (y.length-i) []=t
   by_cases hst:s=t
   ·subst hst
    rw [Qw,beq_self_eq_true,L7]
    have:=Ys k0 x y hx hy r (i+1) m (by omega) (by omega) (by omega) (by omega)
    rw [Nat.add_sub_cancel] at this
    exact this
   ·have hc:S8 s t≠0:=λe=>hst (S9 e)
    rw [L8 hc,show (s==t)=false by simpa using hst]
    unfold S8 at hc ⊢
    cases h3:bytesLess s t with
    | true=>rfl
    | false=>
     rw [h3] at hc
     cases h4:bytesLess t s with
     | true=>rfl
     | false=>rw [h4] at hc;exact absurd rfl hc
theorem UA {R:Type} {k0:Int->Option R} (a b:By) (h0:A3 a.length=true) (h1:A3 b.length=true):YC LF a b k0=k0 (O6 a b):=by
 have hLF:=D7
 have ha:=M7 h0
 have hb:=M7 h1
 have la:(pcs 46 a).length<=2000000000:=by rw [Cc];have:=List.count_le_length (a:=(46:UInt8)) (l:=a);omega
 have lb:(pcs 46 b).length<=2000000000:=by rw [Cc];have:=List.count_le_length (a:=(46:UInt8)) (l:=b);omega
 unfold YC
 rw [h0,h1]
 simp only [cond_true,vl,show u8n (46:Int)=(46:UInt8) from rfl]
 exact Ys k0 (pcs 46 a) (pcs 46 b) la lb (pcs 46 a).length 1 LF (by omega) (by omega) (by omega) (by omega)
theorem Tq {R:Type} (z t:Bool) (E:List Ent) (k0:List Blk->Option R) (k1:Bool->Bool->LL->Option R) (hs:(C4 E).all smE=true) (hl:E.length<=1000000000):∀ (r i m:Nat),i+r=E.length->r<m->
  Dm LF m z t (C4 E) (i:Int) k0 k1=if Zk (E.drop i) then k0 [] else k1 z t (C4 E)
 | 0,i,m,hi,hm=>by
  obtain ⟨m,rfl⟩:∃ q,m=q+1:=⟨m-1,by omega⟩
  rw [Dm,C9 (by rw [B3];omega),List.drop_of_length_le (by omega)]
  rfl
 | r+1,i,m,hi,hm=>by
  obtain ⟨m,rfl⟩:∃ q,m=q+1:=⟨m-1,by omega⟩
  have hlt:i<E.length:=by omega
  have e2:A1 ((i:Int)+1)=((i+1:Nat):Int):=by rw [A4];rfl
  rw [Dm,B9 (by rw [B3];omega),I6 (by omega) (by rw [B3];omega),Int.toNat_natCast,U5 hlt,T9 hlt,Hv hs hlt,e2,Tq z t E k0 k1 hs hl r (i+1) m (by omega) (by omega),P0 noE hlt]
  simp only [cond_true]
  unfold Zk
  rw [List.any_cons]
  cases J0 (E.getD i noE).1<;>rfl
theorem Yp {R:Type} (z t:Bool) (E O:List Ent) (i:Nat) (k0:Bool->Bool->LL->LL->Int->Int->Option R) (hi:i<E.length) (hs:(C4 E).all smE=true) (ho:(C4 O).all smE=true) (hl:O.length<=1000000000) (hE:E.length<=1000000000):∀ (r j m:Nat),j+r=O.length->r<m->
  Dn LF m z t (C4 E) (C4 O) (i:Int) (j:Int) k0=k0 z t (C4 E) (C4 O) (i:Int) ((j+kE (E.getD i noE) (O.drop j):Nat):Int)
 | 0,j,m,hj,hm=>by
  obtain ⟨m,rfl⟩:∃ q,m=q+1:=⟨m-1,by omega⟩
  rw [Dn,C9 (by rw [B3];omega),List.drop_of_length_le (by omega)]
  rfl
 | r+1,j,m,hj,hm=>by
  obtain ⟨m,rfl⟩:∃ q,m=q+1:=⟨m-1,by omega⟩
  have hlt:j<O.length:=by omega
  have e2:A1 ((j:Int)+1)=((j+1:Nat):Int):=by rw [A4];rfl
  rw [Dn,B9 (by rw [B3];omega),I6 (by omega) (by rw [B3];omega),I6 (by omega) (by rw [B3];omega),Int.toNat_natCast,Int.toNat_natCast,U5 hlt,U5 hi,T9 hlt,T9 hi,Hv hs hi,e2,Yp z t E O i k0 hi hs ho hl hE r (j+1) m (by omega) (by omega),P0 noE hlt]
  simp only [cond_true,vl,Hv ho hlt]
  have ec:ltI (O6 (O.getD j noE).1 (E.getD i noE).1) 0=O5 (O.getD j noE).1 (E.getD i noE).1:=by rw [Y5];exact Jf _ _
  rw [ec]
  unfold kE
  rw [List.takeWhile_cons]
  cases O5 (O.getD j noE).1 (E.getD i noE).1 with
  | true=>
   simp only [cond_true,if_true,List.length_cons]
   rw [show j+1+(List.takeWhile (λa=>O5 a.1 (E.getD i noE).1) (O.drop (j+1))).length=j+((List.takeWhile (λa=>O5 a.1 (E.getD i noE).1) (O.drop (j+1))).length+1) by omega]
  | false=>rfl
theorem Ae3 {R:Type} (z t:Bool) (E O:List Ent) (i q:Nat) (k0:Bool->Bool->LL->Int->LL->Option R) (hi:i<E.length) (hq:q<=O.length) (hl:O.length<=1000000000) (hE:E.length<=1000000000) :
  Gh z t (C4 E) (C4 O) (i:Int) (q:Int) k0=k0 z t (C4 E) (i:Int) (C4 (O.take q++E.getD i noE::O.drop q)):=by
 unfold Gh
 have hc0:cut (C4 O) 0 (q:Int)=C4 (O.take q):=by rw [Y0];simp [C4,List.map_take]
 have hc1:cut (C4 O) (q:Int) (((C4 O).length:Nat):Int)=C4 (O.drop q):=by rw [N3];simp [C4,List.map_drop]
 rw [R6 (by omega) (by omega) (by rw [B3];omega),I6 (by omega) (by rw [B3];omega),Int.toNat_natCast,Hn hi,T9 hi,Xc hi,hc0,hc1,R6 (by omega) (by rw [B3];omega) (by omega)]
 simp only [cond_true,vl,B3,List.length_append,List.length_cons,List.length_nil]
 have l1:(O.take q).length<=O.length:=by rw [List.length_take];omega
 have l2:(O.drop q).length<=O.length:=by rw [List.length_drop];omega
 rw [D3 (by omega),D3 (by omega),D3 (by omega)]
 simp only [cond_true]
 congr 1
 simp [C4,Mt]
abbrev WH:Blk:=.arr true 63 2 []
theorem Ao9 (l:List Ent) (e:Ent):isE (l++[e])=Rv e (isE l):=by unfold isE;rw [List.foldl_append];rfl
theorem Yq {R:Type} (z t:Bool) (E:List Ent) (k0:Blk->List Blk->Option R) (k1:LL->Option R) (hs:(C4 E).all smE=true) (hE:E.length<=1000000000):∀ (r i m:Nat),i+r=E.length->r<m->((E.take i).map Prod.fst).Nodup->
  Y9 LF m z t (C4 E) (C4 (isE (E.take i))) (i:Int) k0 k1=if (E.map Prod.fst).Nodup then k1 (C4 (isE E)) else k0 WH []
 | 0,i,m,hi,hm,hn=>by
  obtain ⟨m,rfl⟩:∃ q,m=q+1:=⟨m-1,by omega⟩
  rw [List.take_of_length_le (by omega)] at hn ⊢
  rw [Y9,C9 (by rw [B3];omega),if_pos hn]
  rfl
 | r+1,i,m,hi,hm,hn=>by
  obtain ⟨m,rfl⟩:∃ q,m=q+1:=⟨m-1,by omega⟩
  have hLF:=D7
  have hlt:i<E.length:=by omega
  have e2:A1 ((i:Int)+1)=((i+1:Nat):Int):=by rw [A4];rfl
  have htk:E.take (i+1)=E.take i++[E.getD i noE]:=by
   rw [List.getD_eq_getElem?_getD,List.getElem?_eq_getElem hlt,Option.getD_some,List.take_succ_eq_append_getElem hlt]
  have hol:(isE (E.take i)).length=i:=by rw [(Y2 _).length_eq,List.length_take];omega
  have hos:(C4 (isE (E.take i))).all smE=true:=by
   rw [List.all_eq_true] at hs ⊢
   intro x hx
   obtain ⟨e,he,rfl⟩:=List.mem_map.1 hx
   exact hs _ (List.mem_map.2 ⟨e,List.mem_of_mem_take (XB.1 he),rfl⟩)
  have hd:=Ap2 (e:=E.getD i noE) (Xk (E.take i))
  have hk:=Be1 (E.getD i noE) (isE (E.take i))
  have hmem:((isE (E.take i)).map Prod.fst).contains (E.getD i noE).1=((E.take i).map Prod.fst).contains (E.getD i noE).1:=by
   rw [Bool.eq_iff_iff,List.contains_iff_mem,List.contains_iff_mem]
   exact ((Y2 (E.take i)).map Prod.fst).mem_iff
  rw [Y9,B9 (by rw [B3];omega)]
  simp only [cond_true]
  have hf:=λk=>Yp (R:=R) z t E (isE (E.take i)) i k hlt hs hos (by omega) hE (isE (E.take i)).length 0 LF (by omega) (by omega)
  simp only [Int.ofNat_zero,List.drop_zero,Nat.zero_add] at hf
  rw [hf]
  generalize hO:isE (E.take i)=O at *
  generalize hq:kE (E.getD i noE) O=q at *
  have hput:=λk=>Ae3 (R:=R) z t E O i q k hlt hk (by omega) hE
  have hins:C4 (O.take q++E.getD i noE::O.drop q)=C4 (isE (E.take (i+1))):=by
   rw [htk,Ao9,hO,Xh,hq]
  have nodup_app:¬ ((E.take i).map Prod.fst).contains (E.getD i noE).1=true->((E.take (i+1)).map Prod.fst).Nodup:=λh=>by
   rw [htk,List.map_append,List.map_cons,List.map_nil,List.nodup_append]
   refine ⟨hn,by simp,λa ha b hb e=>?_⟩
   simp at hb
   subst e
   rw [hb] at ha
   exact h (List.contains_iff_mem.2 ha)
  have cont:¬ ((E.take i).map Prod.fst).contains (E.getD i noE).1=true->Y9 LF m z t (C4 E) (C4 (isE (E.take (i+1)))) ((i+1:Nat):Int) k0 k1=if (E.map Prod.fst).Nodup then k1 (C4 (isE E)) else k0 WH []:=λh=>
   Yq z t E k0 k1 hs hE r (i+1) m (by omega) (by omega) (nodup_app h)
  by_cases c1:q<O.length
  ·rw [B9 (by rw [B3];omega),I6 (by omega) (by rw [B3];omega),Int.toNat_natCast,U5 c1,T9 c1,I6 (by omega) (by rw [B3];omega),Int.toNat_natCast,U5 hlt,T9 hlt]
   simp only [cond_true,vl]
   rw [show decide (q<O.length)=true by simpa using c1,Bool.true_and,hmem] at hd
   cases c2:((O.getD q noE).1==(E.getD i noE).1) with
   | true=>
    rw [c2] at hd
    have hnn:¬ (E.map Prod.fst).Nodup:=λh=>by
     have h2:((E.take (i+1)).map Prod.fst).Nodup:=by
      rw [List.map_take]
      exact h.sublist (List.take_sublist _ _)
     rw [htk,List.map_append,List.map_cons,List.map_nil,List.nodup_append] at h2
     exact h2.2.2 _ (List.contains_iff_mem.1 hd.symm) _ (by simp) rfl
    rw [if_neg hnn]
    rfl
   | false=>
    rw [c2] at hd
    simp only [cond_false,hput,e2,hins]
    exact cont (by rw [<-hd];simp)
  ·rw [C9 (by rw [B3];omega)]
   simp only [cond_false,hput,e2,hins,vl]
   rw [show decide (q<O.length)=false by simpa using c1,Bool.false_and,hmem] at hd
   exact cont (by rw [<-hd];simp)
end
section
open Go Go.Op Go.Proofs
set_option maxRecDepth 100000
theorem TO {R:Type} (z t:Bool) (E:List Ent) (k0:Blk->List Blk->Option R) (k1:LL->Option R) (k2:Unit->Option R) (hs:(C4 E).all smE=true) (hE:E.length<=1000000000) :
  Gi LF LF z t (C4 E) k0 k1 k2=if E.isEmpty then k2 () else if (E.map Prod.fst).Nodup then k1 (C4 (isE E)) else k0 WH []:=by
 have hLF:=D7
 have three:∀ m,m=LF->∀ k:Bool->Bool->LL->Option R,Jw LF m z t (C4 E) k=k z t (C4 E):=λm hm k=>by
  obtain ⟨q,rfl⟩:∃ q,m=q+1:=⟨m-1,by omega⟩
  rw [Jw]
 have four:∀ m,m=LF->Gi LF m z t (C4 E) k0 k1 k2=if E.isEmpty then k2 () else if (E.map Prod.fst).Nodup then k1 (C4 (isE E)) else k0 WH []:=λm hm=>by
  obtain ⟨q,rfl⟩:∃ q,m=q+1:=⟨m-1,by omega⟩
  rw [Gi]
  cases E with
  | nil=>rfl
  | cons e r=>
   rw [B9 (by rw [B3,List.length_cons];omega),cond_true,three LF rfl]
   unfold Ph
   rw [I6 (by omega) (by rw [B3,List.length_cons];omega)]
   have:=Yq (R:=R) z t (e::r) k0 k1 hs hE r.length 1 q (by rw [List.length_cons];omega) (by rw [List.length_cons] at hE;omega) (by simp)
   refine Eq.trans ?_ this
   rfl
 exact four LF rfl
theorem LW (z t:Bool) (l:LL) (h0:l.all B7=true) (h1:l.all smE=true) (h2:A3 l.length=true) {b:Bool} (hb:(H8 (l.map A6)==0)=b) :
  ∃ r H,XZ z t l=rv r H/\r.stab [2,0] H=cond b (.tup [.s (.sl (List.isEmpty (l.map A6)) (List.isEmpty (l.map A6)) 2 (C4 (isE (l.map A6)))),pI 0]) (.tup [.s (.sl true true 2 []),pI (H8 (l.map A6):Nat)]):=by
 have hLF:=D7
 have hl:=M7 h2
 have hr:=Bx h0
 generalize hE:l.map A6=E at hr hb ⊢
 subst hr
 rw [B3] at hl
 subst hb
 unfold XZ LK H8
 by_cases c1:1000<E.length
 ·rw [B9 (by rw [B3];omega),if_pos c1]
  exact ⟨_,_,rfl,rfl⟩
 rw [C9 (by rw [B3];omega),if_neg c1,cond_false]
 have hv:=λk0 k1=>Tq (R:=PV × List Blk × Unit) z t E k0 k1 h1 hl E.length 0 LF (by omega) (by omega)
 simp only [Int.ofNat_zero,List.drop_zero] at hv
 rw [hv]
 cases c2:Zk E with
 | true=>exact ⟨_,_,rfl,rfl⟩
 | false=>
  simp only [Bool.false_eq_true,if_false]
  rw [TO z t E _ _ _ h1 hl]
  cases c3:Ri (E.map Prod.fst) with
  | true=>
   have hn:¬ (E.map Prod.fst).Nodup:=λh=>by rw [Db.2 h] at c3;cases c3
   have hne:E.isEmpty=false:=by
    cases E with
    | nil=>cases c3
    | cons a r=>rfl
   rw [hne,if_neg hn]
   exact ⟨_,_,rfl,rfl⟩
  | false=>
   rw [if_pos (Db.1 c3)]
   cases E with
   | nil=>exact ⟨_,_,rfl,rfl⟩
   | cons a r=>exact ⟨_,_,rfl,rfl⟩
end
section
open Go Go.Proofs
set_option maxRecDepth 100000
section
theorem Bb9:B4 Tryz.prog GX 64 VZ:=xf [] (Gy LF) Vq rfl ⟨Zh,trivial⟩ rfl (by kernel_rfl) follows λargs=>by
 unfold Vq;split
 ·rename_i s p;exact λh0=>λh1=>⟨rfl,rfl,rfl,_,_,(At5 LF noY () 0 s p).trans (UA s p h0 h1),rfl⟩
 ·trivial
theorem YK:B4 Tryz.prog GX 27 Ui:=xf [2,0] (E6 LF) Vn rfl ⟨Bl8,Bb9,trivial⟩ rfl (by kernel_rfl) follows λargs=>by
 unfold Vn;split
 ·rename_i l_z l_t l;exact λh0=>λh1=>λh2=>⟨λh3=>(let ⟨rr,hH,ee,qq⟩:=LW l_z l_t l h0 h1 h2 h3;⟨rfl,rfl,rfl,rr,hH,(LM LF noY () 0 l_z l_t l).trans ee,qq⟩),λh3=>(let ⟨rr,hH,ee,qq⟩:=LW l_z l_t l h0 h1 h2 h3;⟨rfl,rfl,rfl,rr,hH,(LM LF noY () 0 l_z l_t l).trans ee,qq⟩)⟩
 ·trivial
end
end
section
open Go Go.Proofs Go.RowKit Go.Shelf
set_option maxRecDepth 100000
def As8:Ren:=⟨λn=>match n with | 167=>71 | n=>Tryz.lays156_ren.f n,Tryz.lays156_ren.t,Tryz.lays156_ren.g⟩
theorem A29:Lays.n167 Tryz.prog As8:={
 mixed:=Tryz.lays156.mixed,f167:=by kernel_rfl,f240:=Tryz.lays156.f240,f276:=Tryz.lays156.f276
 t0:=Tryz.lays156.t0,a0:=Tryz.lays156.a0,z0:=Tryz.lays156.z0,v0:=Tryz.lays156.v0
 t4:=Tryz.lays156.t4,a4:=Tryz.lays156.a4,z4:=Tryz.lays156.z4,v4:=Tryz.lays156.v4
 t5:=Tryz.Builder_Extra_156.t5,a5:=Tryz.Builder_Extra_156.a5,z5:=Tryz.Builder_Extra_156.z5,v5:=Tryz.Builder_Extra_156.v5
 t9:=Tryz.lays156.t9,a9:=Tryz.lays156.a9,z9:=Tryz.lays156.z9,v9:=Tryz.lays156.v9
 t20:=Tryz.lays156.t20,a20:=Tryz.lays156.a20,z20:=Tryz.lays156.z20,v20:=Tryz.lays156.v20
 t37:=Tryz.lays156.t37,a37:=Tryz.lays156.a37,z37:=Tryz.lays156.z37,v37:=Tryz.lays156.v37
 t70:=Tryz.lays156.t70,a70:=Tryz.lays156.a70,z70:=Tryz.lays156.z70,v70:=Tryz.lays156.v70
 t72:=Tryz.lays156.t72,a72:=Tryz.lays156.a72,z72:=Tryz.lays156.z72,v72:=Tryz.lays156.v72
 t75:=Tryz.lays156.t75,a75:=Tryz.lays156.a75,z75:=Tryz.lays156.z75,v75:=Tryz.lays156.v75
 t164:=Tryz.lays156.t164,a164:=Tryz.lays156.a164,z164:=Tryz.lays156.z164,v164:=Tryz.lays156.v164 }
theorem An7:Builder.Extra Tryz.prog As8:={
 sizeBuilder:=by kernel_rfl
 liesBuilder:=by kernel_rfl
 t5:=Tryz.Builder_Extra_156.t5
 a5:=Tryz.Builder_Extra_156.a5
 z5:=Tryz.Builder_Extra_156.z5
 v5:=Tryz.Builder_Extra_156.v5
 infoByte:=by kernel_rfl
 cellsByte:=by kernel_rfl
 sizeByte:=by kernel_rfl
 neB5:=by decide }
abbrev isB (B b:Nat) (l:List UInt8) (w:World):Prop:=Lib.IsBuilderF 112 5 B b (Lib.byteCells l) w
abbrev Bo0 (b:Nat) (w w':World):Prop:=Lib.OthersKept 5 (some b) w w'
theorem Bd6 (B b:Nat) (l:List UInt8) (s:ByteArray) (w:World) (h:isB B b l w) (hlen:l.length+s.size<=140737488355328) (hBw:B<=w.heap.size) :
  Calls Tryz.prog 70 #[.pointer (some ⟨b,0,none⟩),.string s] w λe w'=>e = .returned (.tuple #[.int .i64 s.size,.nilIface])/\isB B b (l++s.data.toList) w'/\Below B w w'/\Bo0 b w w':=by
 refine (Any.Builder_WriteString_k { Tryz.lays156 with } Tryz.Builder_Extra_156 B b (Lib.byteCells l) s w h (by rw [Lib.byteCells_length];exact hlen) hBw).mono ?_
 rintro e w' ⟨rfl,h1,h2,h3⟩
 rw [Lib.strCells_eq,<-Lib.byteCells_append] at h1
 exact ⟨rfl,Or.inr h1,h2,h3⟩
theorem Ak0 (B b:Nat) (l:List UInt8) (w:World) (h:isB B b l w) (hlen:l.length+1<=140737488355328) (hBw:B<=w.heap.size) :
  Calls Tryz.prog 71 #[.pointer (some ⟨b,0,none⟩),.int .u8 10] w λe w'=>e = .returned .nilIface/\isB B b (l++[10]) w'/\Below B w w'/\Bo0 b w w':=by
 refine (Any.Builder_WriteByte_k A29 An7 B b (Lib.byteCells l) 10 w h (by rw [Lib.byteCells_length];exact hlen) hBw).mono ?_
 rintro e w' ⟨rfl,h1,h2,h3⟩
 refine ⟨rfl,Or.inr ?_,h2,h3⟩
 rw [Lib.byteCells_append]
 exact h1
theorem Bn1 (B b:Nat) (l:List UInt8) (w:World) (h:isB B b l w) (hBw:B<=w.heap.size) :
  Calls Tryz.prog 72 #[.pointer (some ⟨b,0,none⟩)] w λe w'=>e = .returned (.string ⟨l.toArray⟩)/\Below B w w':=by
 refine (Any.Builder_String_any_k { Tryz.lays156 with } Tryz.Builder_Extra_156 B b l w h hBw).mono ?_
 rintro e w' ⟨rfl,_,h2,_⟩
 exact ⟨rfl,h2⟩
theorem Bh1 {B b:Nat} {l:List UInt8} {w:World} (h:isB B b l w):b<w.heap.size:=by
 rcases h with h | h
 ·exact Lib.BuilderAtF.lt h
 ·exact Lib.BuilderAtF.lt h
theorem Jk {p:Prop} (h:p):Hid p:=h
def Bc8 (xs:List (ByteArray × Bool)) (a:Addr) (A:Option Addr) (c:Nat) (w:World):Prop:=
 a.block<w.heap.size/\w.cell? a=some (.slice A xs.length c)/\∀ i x,xs[i]? = some x->∃ bk o,A=some ⟨bk,o,none⟩/\bk<w.heap.size/\w.cell? ⟨bk,o+i*2,none⟩=some (.string x.1)/\w.cell? ⟨bk,o+i*2+1,none⟩=some (.bool x.2)
set_option maxHeartbeats 4000000 in theorem Ag7 (V:Value) (c:Int) (hc:c≠0) (w:World)
  (hN:Calls Tryz.prog 26 #[V] w λe w1=>e = .returned (.tuple #[.pointer none,.int .i64 c])/\Below w.heap.size w w1) :
  Calls Tryz.prog 34 #[V] w λe w'=>e = .returned (.tuple #[.string ⟨#[]⟩,.int .i64 c])/\Below w.heap.size w w':=by
 have eN:∀ args w,(callFunc 26 args).run Tryz.prog w = .ok (.enter 26 args) w:=enters_of Tryz.func26 (by kernel_rfl) rfl
 have hc':(c==0)=false:=by simpa using hc
 go_enter Tryz.func34,Tryz.ntmps34
 go_wp2_with fail
 refine hN.mono ?_
 rintro e w1 ⟨rfl,hb⟩
 have Hb:=Jk hb
 clear hb
 go_wp2
 go_ret2
 exact ⟨rfl,Hb.out⟩
set_option maxHeartbeats 4000000 in theorem Av5 (V:Value) (xs:List (ByteArray × Bool)) (w:World) (hn:xs.length<=1000000) (hlen:(Q2 (xs.map λx=>(x.1.data.toList,x.2))).length<=1000000000)
  (hN:Calls Tryz.prog 26 #[V] w λe w1=>∃ a A c,e = .returned (.tuple #[.pointer (some a),.int .i64 0])/\Bc8 xs a A c w1/\Below w.heap.size w w1) :
  Calls Tryz.prog 34 #[V] w λe w'=>e = .returned (.tuple #[.string ⟨(Q2 (xs.map λx=>(x.1.data.toList,x.2))).toArray⟩,.int .i64 0])/\Below w.heap.size w w':=by
 have eN:∀ args w,(callFunc 26 args).run Tryz.prog w = .ok (.enter 26 args) w:=enters_of Tryz.func26 (by kernel_rfl) rfl
 have eS:∀ args w,(callFunc 70 args).run Tryz.prog w = .ok (.enter 70 args) w:=enters_of Tryz.func70 (by kernel_rfl) rfl
 have eB:∀ args w,(callFunc 71 args).run Tryz.prog w = .ok (.enter 71 args) w:=enters_of Tryz.func71 (by kernel_rfl) rfl
 have eG:∀ args w,(callFunc 72 args).run Tryz.prog w = .ok (.enter 72 args) w:=enters_of Tryz.func72 (by kernel_rfl) rfl
 have Hlen:=Jk hlen
 clear hlen
 go_enter Tryz.func34,Tryz.ntmps34
 go_wp2_with fail
 refine hN.mono ?_
 rintro e w1 ⟨a,A,c,rfl,⟨ha,hsl,hx⟩,hb⟩
 have Hb:=Jk hb
 have Hx:=Jk hx
 have hal:(w1.alloc (.cells #[.pointer none,.slice none 0 0] 112)).cell? a=some (.slice A xs.length c):=by
  rw [(((Below.refl w1.heap.size w1).alloc (Nat.le_refl _) _)).cell ha];exact hsl
 clear hb hx hN
 go_wp2_with fail
 go_loopw [22] (λi wr=>∃ k:Nat,k<=xs.length/\i = .int .i64 k/\Hid (isB w1.heap.size w1.heap.size (Q2 ((xs.map λx=>(x.1.data.toList,x.2)).take k)) wr)/\Hid (Below w1.heap.size w1 wr)) (λi _=>xs.length-(intOf i).toNat)
 case atStart=>exact ⟨0,Nat.zero_le _,rfl,Lib.IsBuilderF.of (Lib.fresh_isBuilder _ _ w1),(Below.refl w1.heap.size w1).alloc (Nat.le_refl _) _⟩
 case round=>
  obtain ⟨k,hk,rfl,HB,HW⟩:=hrel
  by_cases hkn:k<xs.length
  ·obtain ⟨x,hxk⟩:∃ x,xs[k]? = some x:=⟨xs[k],List.getElem?_eq_getElem hkn⟩
   obtain ⟨bk,o,rfl,hbk,c1,c2⟩:=Hx.out k x hxk
   have c1':wr.cell? ⟨bk,o+k*2,none⟩=some (.string x.1):=by rw [HW.out.cell (p:=⟨bk,o+k*2,none⟩) hbk];exact c1
   have c2':wr.cell? ⟨bk,o+k*2+1,none⟩=some (.bool x.2):=by rw [HW.out.cell (p:=⟨bk,o+k*2+1,none⟩) hbk];exact c2
   have hB1:w1.heap.size<=wr.heap.size:=HW.out.size
   have hbl:w1.heap.size<wr.heap.size:=Bh1 HB.out
   have hL:((xs.map λx=>(x.1.data.toList,x.2)))[k]? = some (x.1.data.toList,x.2):=by rw [List.getElem?_map,hxk];rfl
   have hstep:Q2 ((xs.map λx=>(x.1.data.toList,x.2)).take (k+1))=Q2 ((xs.map λx=>(x.1.data.toList,x.2)).take k)++x.1.data.toList++(if x.2 then Fz else [])++[10]:=ZI hL
   have hlek:(Q2 ((xs.map λx=>(x.1.data.toList,x.2)).take (k+1))).length<=1000000000:=Nat.le_trans (A11 _ _) Hlen.out
   have hsz:x.1.size=x.1.data.toList.length:=Lib.size_eq _
   rw [hstep] at hlek
   simp only [List.length_append] at hlek
   have Hstep:=Jk hstep
   generalize Q2 ((xs.map λx=>(x.1.data.toList,x.2)).take k)=L0 at *
   have hy:((wr.alloc (.cells #[.string x.1,.bool x.2] 63)).heap)[wr.heap.size]? = some (.cells #[.string x.1,.bool x.2] 63 (0,0)):=heap_alloc_new wr _
   have HBa:=Jk (Lib.IsBuilderF.alloc HB.out (.cells #[.string x.1,.bool x.2] 63))
   have Hbw:=Jk ((HW.out).alloc hB1 (.cells #[.string x.1,.bool x.2] 63))
   have HY:=Jk hy
   clear hstep hL HB HW hy
   go_wp2_with fail
   refine (Bd6 w1.heap.size w1.heap.size L0 x.1 _ HBa.out (by omega) (Nat.le_trans hB1 (by simp))).mono ?_
   rintro e w3 ⟨rfl,h3,hb3,hk3⟩
   have hy3:w3.heap[wr.heap.size]? = some (.cells #[.string x.1,.bool x.2] 63 (0,0)):=hk3 _ _ HY.out (by simp;omega) (λc fz h=>by cases h)
   have cy3:w3.cell? ⟨wr.heap.size,1,none⟩=some (.bool x.2):=by rw [Lib.cell_of_heap hy3];rfl
   have H3:=Jk h3
   have Hb3:=Jk (Hbw.out.trans hb3)
   have hs3:w1.heap.size<=w3.heap.size:=Hb3.out.size
   clear h3 hb3 hk3 hy3
   obtain ⟨xn,xb⟩:=x
   cases xb with
   | false=>
    go_wp2_with fail
    refine (Ak0 w1.heap.size w1.heap.size _ _ H3.out (by rw [List.length_append];omega) hs3).mono ?_
    rintro e w4 ⟨rfl,h4,hb4,hk4⟩
    have H4:=Jk h4
    have Hb4:=Jk (Hb3.out.trans hb4)
    clear h4 hb4 hk4
    go_wp2
    refine ⟨⟨k+1,by omega,by go_num,?_,Hb4⟩,by simp [intOf];omega⟩
    rw [Hstep.out]
    simpa using H4
   | true=>
    go_wp2_with fail
    refine (Bd6 w1.heap.size w1.heap.size _ ⟨#[32,105,110,99,108,117,100,101,45,115,117,98,100,111,109,97,105,110,115]⟩ _ H3.out (by rw [List.length_append];have:(⟨#[32,105,110,99,108,117,100,101,45,115,117,98,100,111,109,97,105,110,115]⟩:ByteArray).size=19:=rfl;omega) hs3).mono ?_
    rintro e w5 ⟨rfl,h5,hb5,hk5⟩
    have H5:=Jk h5
    have Hb5:=Jk (Hb3.out.trans hb5)
    have hs5:w1.heap.size<=w5.heap.size:=Hb5.out.size
    clear h5 hb5 hk5
    go_wp2_with fail
    refine (Ak0 w1.heap.size w1.heap.size _ _ H5.out (by simp only [List.length_append,List.length_cons,List.length_nil];omega) hs5).mono ?_
    rintro e w4 ⟨rfl,h4,hb4,hk4⟩
    have H4:=Jk h4
    have Hb4:=Jk (Hb5.out.trans hb4)
    clear h4 hb4 hk4
    go_wp2
    refine ⟨⟨k+1,by omega,by go_num,?_,Hb4⟩,by simp [intOf];omega⟩
    rw [Hstep.out]
    exact H4
  ·have hke:k=xs.length:=by omega
   subst hke
   have hB1:w1.heap.size<=wr.heap.size:=HW.out.size
   have hall:(xs.map λx=>(x.1.data.toList,x.2)).take xs.length=xs.map λx=>(x.1.data.toList,x.2):=List.take_of_length_le (by simp)
   rw [hall] at HB
   go_wp2_with fail
   refine (Bn1 w1.heap.size w1.heap.size _ wr HB.out hB1).mono ?_
   rintro e w6 ⟨rfl,hb6⟩
   have Hb6:=Jk ((Hb.out.trans (HW.out.mono Hb.out.size)).trans (hb6.mono Hb.out.size))
   clear hb6
   go_wp2
   go_ret2
   exact ⟨rfl,Hb6.out⟩
end
section
open Go
def SM (ns:List Nat) (ret:PV) (H:List Blk):Bool:=decide ns.Nodup&&(ns.all (λb=>Nat.blt b H.length)&&(Aw H ns&&ret.nms.all λb=>ns.contains b))
theorem X7.pick {C:Cfg} {Γ:Ctx} {w w':World} {ret:PV} {Hc:List Blk} {V:Value} {ns:List Nat} (h:X7 C I0 Γ [] w noΦ ret Hc () V w') (hok:SM ns ret Hc=true) :
  X7 C I0 Γ [] w noΦ (ret.rn (F0 ns)) (L2 Hc ns) () V w':=by
 obtain ⟨Γ1,Φ1,hs,hH1,hv,hvn,hi1,hd1⟩:=h
 simp only [SM,Bool.and_eq_true,decide_eq_true_eq,List.all_eq_true,Nat.blt_eq,List.contains_iff_mem] at hok
 obtain ⟨hnd,hlt,hcl,hr⟩:=hok
 have hnm:∀ i g,(Γ1.lent ns).nm i=some g->∃ b,Γ1.nm b=some g:=λi g h=>by
  simp only [Ctx.lent] at h
  cases hi:ns[i]? with
  | none=>rw [hi] at h;simp at h
  | some b=>rw [hi] at h;exact ⟨b,h⟩
 have hlen:(L2 Hc ns).length=ns.length:=by simp [L2]
 refine ⟨Γ1.lent ns,Φ1,⟨hs.os,hs.tape,hs.output,hs.size,hs.sub,hs.stnew,λc g h=>?_,hs.foot,hs.frame,hs.yv,Nat.zero_le _,λc hc=>by simp at hc⟩,
  GF hH1 hnd hlt hcl,?_,λc hc=>?_,hi1,λc g h=>?_⟩
 ·obtain ⟨b,hb⟩:=hnm c g h
  rcases hs.own b g hb with ⟨q,_⟩ | q
  ·simp at q
  ·exact .inr q
 ·refine VP.rn (Γ:=Γ1) (Γ':=Γ1.lent ns) rfl hv (.inr λ_ h=>h) λc hc=>?_
  obtain ⟨q1,q2⟩:=V5 (hr c hc)
  exact ⟨Kr (hr c hc),by rw [Gb hlt q1,q2]⟩
 ·rw [PV.rn_nms] at hc
  obtain ⟨d,hd,rfl⟩:=List.mem_map.1 hc
  rw [hlen]
  exact (V5 (hr d hd)).1
 ·obtain ⟨b,hb⟩:=hnm c g h
  exact hd1 b g hb
theorem Zz {C₀:Cfg} {g:Nat} {pf:List PV->Tr} (hX:XOK C₀) (hO:Bl C₀) (hm:C₀.P.follows .mixedOrders=true)
  (h:∀ args ret Hc,G1 (pf args)=some (ret,Hc)->B8 args=[]/\∃ d r H0 ns,evC C₀ d Unit noY g args [] ()=some (r,H0,())/\SM ns r H0=true/\r.rn (F0 ns)=ret/\L2 H0 ns=Hc):B4 C₀.P C₀.G g pf:=by
 intro args ret Hc hpf C hP hGe Γ w Vs hnm hH hG hc
 obtain ⟨hna,d,r,H0,ns,hev,hok,rfl,rfl⟩:=h args ret Hc hpf
 have h0:=Bg (C₀:=C₀) (g:=g) (pf:=λa=>match evC C₀ d Unit noY g a [] () with | some (r,H,_)=>cond (B8 a).isEmpty (.ret r H) .fail | none=>.fail) hX hO hm (λa r H hr=>by
  split at hr
  ·rename_i r' H' _ he
   cases hn:(B8 a).isEmpty with
   | true=>
    rw [hn] at hr
    simp only [cond_true,G1,Z9,Option.some.injEq,Prod.mk.injEq] at hr
    grind
   | false=>rw [hn] at hr;cases hr
  ·cases hr)
 exact (h0 args r H0 (by dsimp only;rw [hev];dsimp only;rw [hna];rfl) C hP hGe Γ w Vs hnm hH hG hc).mono λV w' hR=>hR.pick hok
theorem Zm {P:Program} {f:Nat} {fn:Func} {Vs:Array Value} {w:World} {R:Value->World->Prop} (hf:P.funcs[f]? = some fn) (hb:fn.body.isSome=true) (hn:(fn.name == "runtime.NumGoroutine")=false)
  (h:K8 P ((callFunc f Vs).run P w) R):Calls P f Vs w λe w'=>∃ V,e = .returned V/\R V w':=by
 obtain ⟨c,hb⟩:=Option.isSome_iff_exists.1 hb
 have hrun:(callFunc f Vs).run P w = .ok (.enter f Vs) w:=by
  have hn':¬ fn.name = "runtime.NumGoroutine":=by simpa using hn
  simp [callFunc,hf,hb,hn',Result.andThen]
 rw [hrun] at h
 have h1:=h none 1 { (default:Oper) with dst:=some 0 } ({ tmps:=#[undef],defers:=[] }:Act) (λa' w'=>∃ V,a'=({ tmps:=#[undef],defers:=[] }:Act).put (some 0) V/\R V w') (λ_ _ _=>False) (λV w' hR=>⟨V,rfl,hR⟩)
 simp only [Oper.uponIn_enter] at h1
 have key:CallsIn Fence.wide (1-1) P f Vs w _:=h1.2
 refine (callsIn_wide.1 key).mono ?_
 intro e w' he
 cases e with
 | returned v=>
  obtain ⟨V,e1,hR⟩:=he
  have e2:(#[v]:Array Value) = #[V]:=congrArg Act.tmps e1
  have:v=V:=by simpa using e2
  subst this
  exact ⟨_,rfl,hR⟩
 | panicked c=>exact he.elim
 | outgrown=>exact absurd he (by simp [LetsOut])
end
section
open Go Go.Proofs Go.RowKit
set_option maxRecDepth 100000
theorem Bi9 {St:Nat->Prop} {w:World} {l:By} {V:Value} (h:VS St w (.str l) V):V = .string ⟨l.toArray⟩:=by
 cases h with
 | str s=>rfl
theorem Az2 {St:Nat->Prop} {w:World} {b:Bool} {V:Value} (h:VS St w (.bool b) V):V = .bool b:=by
 cases h with
 | bool b=>rfl
def Zy (S:List Ent):List (ByteArray × Bool):=S.map λe=>(⟨e.1.toArray⟩,e.2)
theorem NE (S:List Ent):((Zy S).map λx=>(x.1.data.toList,x.2))=S:=by
 unfold Zy
 rw [List.map_map]
 exact List.map_id'' (λ_=>rfl) S
theorem A36 {Γ:Ctx} {w:World} {z:Bool} {S:List Ent} {V:Value} (hlt:∀ g,Γ.St g->g<w.heap.size) (h:VS Γ.St w (.sp [[.sl z z 2 (C4 S)]] 0 0) V):∃ a A c,V = .pointer (some a)/\Bc8 (Zy S) a A c w:=by
 cases h with
 | sp _ _ _ g off sz Vs hg hl hc hv=>
  have c0:=hc 0 (by simp) 0 (by simp)
  have v0:=hv 0 (by simp) 0 (by simp)
  simp only [List.getElem_cons_zero] at v0
  generalize hV0:Vs 0 0=V0 at c0 v0
  have hlen:(Zy S).length=S.length:=List.length_map ..
  have hget:∀ i x,(Zy S)[i]? = some x->∃ h:i<(C4 S).length,(C4 S)[i]=[.str x.1.data.toList,.bool x.2]:=λi x hx=>by
   have h1:i<S.length:=by have:=(List.getElem?_eq_some_iff.1 hx).1;rw [hlen] at this;exact this
   refine ⟨by rw [B3];exact h1,?_⟩
   simp only [Zy,List.getElem?_map,List.getElem?_eq_getElem h1,Option.map_some,Option.some.injEq] at hx
   subst hx
   simp [C4,Mt]
  generalize hE:C4 S=E at v0 hget
  have hEl:E.length=S.length:=by rw [<-hE];exact B3 S
  cases v0 with
  | nil=>
   refine ⟨_,none,0,rfl,hlt g hg,?_,λi x hx=>?_⟩
   ·rw [show (Zy S).length=0 by rw [hlen,<-hEl];rfl];exact c0
   ·obtain ⟨h,_⟩:=hget i x hx
    simp at h
  | emp _ _ a cap ht hm=>
   refine ⟨_,some a,cap,rfl,hlt g hg,?_,λi x hx=>?_⟩
   ·rw [show (Zy S).length=0 by rw [hlen,<-hEl];rfl];exact c0
   ·obtain ⟨h,_⟩:=hget i x hx
    simp at h
  | sl _ _ g2 off2 n cap sz2 Vs2 hn hcap hm ht hg2 hl2 hc2 hv2=>
   refine ⟨_,some ⟨g2,off2,none⟩,cap,rfl,hlt g hg,?_,λi x hx=>?_⟩
   ·rw [hlen,<-hEl,<-hn];exact c0
   ·obtain ⟨h,he⟩:=hget i x hx
    have e0:0<(E[i]).length:=by rw [he];simp
    have e1:1<(E[i]).length:=by rw [he];simp
    have q0:=hc2 i h 0 e0
    have q1:=hc2 i h 1 e1
    have r0:=hv2 i h 0 e0
    have r1:=hv2 i h 1 e1
    simp only [he,List.getElem_cons_zero,List.getElem_cons_succ] at r0 r1
    rw [Bi9 r0] at q0
    rw [Az2 r1] at q1
    exact ⟨g2,off2,rfl,hlt g2 hg2,q0,q1⟩
theorem Bk5:B4 Tryz.prog GX 34 NV:=by
 refine B4.fix (pf:=DL) _ (M8 (fn:=Tryz.f34) (by kernel_rfl) (by kernel_rfl) (by kernel_rfl) ?_)
 intro args ret Hc h
 unfold DL at h
 split at h
 ·rename_i l_z l_t l
  obtain ⟨h0,h⟩:=C0 h
  obtain ⟨h1,h⟩:=C0 h
  obtain ⟨h2,h⟩:=C0 h
  obtain ⟨h3,h⟩:=C0 h
  obtain ⟨h4,h⟩:=C0 h
  have hup:∀ (C:Cfg),C.P=Tryz.prog->C.G=GX->∀ (Γ:Ctx) (w:World) (U:Value),GOK C Γ.St w->(∀ g,Γ.St g->g<w.heap.size)->VP Γ (A2 []) w (.s (.sl l_z l_t 2 l)) U->∀ ret,G1 (DN [.s (.sl l_z l_t 2 l)])=some (ret,[])->
    Calls Tryz.prog 26 #[U] w λe w1=>∃ V,e = .returned V/\Below w.heap.size w w1/\∃ Γ':Ctx,(∀ g,Γ'.St g->g<w1.heap.size)/\VP Γ' (A2 []) w1 ret V:=λC hP hCG Γ w U hG hlt hu ret hr=>by
   have hu':VP { Γ with nm:=λ_=>none } (A2 []) w (.s (.sl l_z l_t 2 l)) U:=VP.s _ _ hu.inv_s
   have:=Bk7 [.s (.sl l_z l_t 2 l)] ret [] hr C hP hCG { Γ with nm:=λ_=>none } w #[U] (λ_=>rfl) (Ea (λ_=>rfl) hlt) hG ⟨rfl,λj hj=>by
    have:j=0:=by simpa using hj
    subst this
    exact ⟨U,rfl,hu'⟩⟩
   refine (Zm (fn:=Tryz.f26) (by kernel_rfl) (by kernel_rfl) (by kernel_rfl) this).mono ?_
   rintro e w1 ⟨V,rfl,Γ',Φ',hs,hH',hv,_,_,_⟩
   exact ⟨V,rfl,⟨hs.os,hs.tape,hs.output,hs.size,λg hg=>hs.frame g hg (λb h=>by cases h) (λx=>x)⟩,Γ',hH'.stlt,hv⟩
  rcases Px h with ⟨h5,h⟩ | ⟨h5,h⟩
  ·obtain ⟨rfl,rfl⟩:=G7 h
   refine ⟨rfl,rfl,λC hP hCG Γ w Vs hG hlt hc=>?_⟩
   obtain ⟨U,rfl,hu⟩:=hc.arr1
   have hr:G1 (DN [.s (.sl l_z l_t 2 l)])=some (.tup [.s (.sp [[.sl l_z l_z 2 (C4 (isE (l.map A6)))]] 0 0),pI 0],[]):=by
    show G1 (Gq [.s (.sl l_z l_t 2 l)])=_
    simp only [Gq,G1,Z9,h0,h1,h2,h3,h5,cond_true]
   have hb:(l.map A6).length<=1000:=by
    have h6:=eq_of_beq h5
    unfold H8 at h6
    split at h6
    ·cases h6
    ·omega
   have hS:=(Y2 (l.map A6)).length_eq
   refine (Av5 U (Zy (isE (l.map A6))) w ?_ ?_ ?_).mono ?_
   ·unfold Zy;rw [List.length_map];omega
   ·rw [NE];exact Nat.le_of_ble_eq_true h4
   ·refine (hup C hP hCG Γ w U hG hlt hu _ hr).mono ?_
    rintro e w1 ⟨V,rfl,hb1,Γ',hlt',hv⟩
    obtain ⟨A,rfl,hA,hcs⟩:=hv.inv_tup
    obtain ⟨U0,e0,k0⟩:=hcs 0 (by simp)
    obtain ⟨U1,e1,k1⟩:=hcs 1 (by simp)
    obtain ⟨a,AA,c,rfl,hl⟩:=A36 hlt' k0.inv_s
    obtain rfl:=k1.inv_int
    refine ⟨a,AA,c,?_,hl,hb1⟩
    congr 1
    congr 1
    apply Array.ext_getElem?
    intro i
    match i with
    | 0=>exact e0
    | 1=>exact e1
    | n+2=>rw [Array.getElem?_eq_none (by rw [hA];simp),Array.getElem?_eq_none (by simp)]
   ·rintro e w' ⟨rfl,hb1⟩
    refine ⟨_,rfl,hb1,?_⟩
    rw [NE]
    exact VP.mk_tup2 (VP.mk_str _) (VP.mk_int _ _)
  ·obtain ⟨rfl,rfl⟩:=G7 h
   refine ⟨rfl,rfl,λC hP hCG Γ w Vs hG hlt hc=>?_⟩
   obtain ⟨U,rfl,hu⟩:=hc.arr1
   have hr:G1 (DN [.s (.sl l_z l_t 2 l)])=some (.tup [.s .nilp,pI (H8 (l.map A6):Nat)],[]):=by
    show G1 (Gq [.s (.sl l_z l_t 2 l)])=_
    simp only [Gq,G1,Z9,h0,h1,h2,h3,h5,cond_true,cond_false]
   refine (Ag7 U (H8 (l.map A6):Nat) ?_ w ?_).mono ?_
   ·have:H8 (l.map A6)≠0:=by simpa using h5
    omega
   ·refine (hup C hP hCG Γ w U hG hlt hu _ hr).mono ?_
    rintro e w1 ⟨V,rfl,hb1,Γ',hlt',hv⟩
    obtain ⟨A,rfl,hA,hcs⟩:=hv.inv_tup
    obtain ⟨U0,e0,k0⟩:=hcs 0 (by simp)
    obtain ⟨U1,e1,k1⟩:=hcs 1 (by simp)
    obtain rfl:=k0.inv_nilp
    obtain rfl:=k1.inv_int
    refine ⟨?_,hb1⟩
    congr 1
    congr 1
    apply Array.ext_getElem?
    intro i
    match i with
    | 0=>exact e0
    | 1=>exact e1
    | n+2=>rw [Array.getElem?_eq_none (by rw [hA];simp),Array.getElem?_eq_none (by simp)]
   ·rintro e w' ⟨rfl,hb1⟩
    exact ⟨_,rfl,hb1,VP.mk_tup2 (VP.mk_str []) (VP.mk_int _ _)⟩
 ·cases h
end
section
open Go Go.Proofs
set_option maxRecDepth 100000
section
theorem Ay1:Lj Tryz.prog GX 36 Nj:=by
 refine T5 (C₀:=Wi LF) (K3.ok (l:=[(60,Lv)]) rfl ⟨IC,trivial⟩) (F5 rfl (by kernel_rfl)) follows ?_
 intro args H ret Hc h
 unfold Nj at h
 split at h
 ·rename_i z l
  obtain ⟨h0,h⟩:=C0 h
  obtain ⟨h1,h⟩:=C0 h
  obtain ⟨h2,h⟩:=C0 h
  obtain ⟨rfl,rfl⟩:=G7 h
  refine ⟨rfl,rfl,λσ yh s=>?_⟩
  have e:=(Aa3 LF yh s 0 z l).trans (KM z l h0 h1 h2)
  exact ⟨1,_,e,rfl⟩
 ·cases h
theorem Bc5:Lj Tryz.prog GX 37 Uh:=by
 refine T5 (C₀:=FI LF) (K3.ok (l:=[]) rfl trivial) (F5 rfl (by kernel_rfl)) follows ?_
 intro args H ret Hc h
 unfold Uh at h
 split at h
 ·rename_i z l
  obtain ⟨h0,h⟩:=C0 h
  obtain ⟨rfl,rfl⟩:=G7 h
  refine ⟨rfl,rfl,λσ yh s=>?_⟩
  have e:=(Ap9 LF yh s 0 z l).trans (QU z l h0)
  exact ⟨1,_,e,rfl⟩
 ·cases h
theorem Bk1:B4 Tryz.prog GX 33 NT:=by
 refine B4.fix (pf:=DF) _ (N5 (C₀:=OS LF) (K3.ok (l:=[]) rfl trivial) (F5 rfl (by kernel_rfl)) follows ?_)
 intro args ret Hc h
 unfold DF at h
 split at h
 ·rename_i l_z l_t l
  obtain ⟨h0,h⟩:=C0 h
  obtain ⟨rfl,rfl⟩:=G7 h
  have e:=(A23 LF noY () 0 l_z l_t l).trans (ZV l_z l_t l h0)
  exact ⟨rfl,1,_,[],e,rfl,rfl⟩
 ·cases h
theorem Bb7:B4 Tryz.prog GX 35 EK:=xf [0,0] (Gw LF) Vm rfl ⟨YK,trivial⟩ rfl (by kernel_rfl) follows λargs=>by
 unfold Vm;split
 ·rename_i l_z l_t l;exact λh0=>λh1=>λh2=>λh3=>⟨λh4=>(let ⟨rr,hH,ee,qq⟩:=LJ l_z l_t l h0 h1 h2 h3 h4;⟨rfl,rfl,rfl,rr,hH,(LI LF noY () 0 l_z l_t l).trans ee,qq⟩),λh4=>(let ⟨rr,hH,ee,qq⟩:=LJ l_z l_t l h0 h1 h2 h3 h4;⟨rfl,rfl,rfl,rr,hH,(LI LF noY () 0 l_z l_t l).trans ee,qq⟩)⟩
 ·trivial
end
theorem Bb1:B4 Tryz.prog GX 26 DO:=by
 refine B4.fix (pf:=Ve) _ (Zz (C₀:=Jb LF) (Ay0 (lx:=[(57,Vb),(60,Lv)]) (ly:=[]) (ls:=[]) (lz:=[(61,Lw)]) rfl rfl rfl rfl ⟨VI,IC,trivial⟩ trivial trivial ⟨IF,trivial⟩) (F5 rfl (by kernel_rfl)) follows ?_)
 intro args ret Hc h
 unfold Ve at h
 split at h
 ·rename_i l_z l_t l
  obtain ⟨h0,h⟩:=C0 h
  obtain ⟨h1,h⟩:=C0 h
  obtain ⟨h2,h⟩:=C0 h
  obtain ⟨h3,h⟩:=C0 h
  rcases Px h with ⟨h4,h⟩ | ⟨h4,h⟩
  ·obtain ⟨rfl,rfl⟩:=G7 h
   exact ⟨rfl,1,_,_,[1,0],(Ul LF noY () 0 l_z l_t l).trans ((Ks l_z l_t l h0 h1 h2 h3).1 (eq_of_beq h4)),rfl,rfl,rfl⟩
  ·obtain ⟨rfl,rfl⟩:=G7 h
   obtain ⟨H,e⟩:=(Ks (R:=PV × List Blk × Unit) l_z l_t l h0 h1 h2 h3).2 (by simpa using h4)
   exact ⟨rfl,1,_,H,[],(Ul LF noY () 0 l_z l_t l).trans e,rfl,rfl,rfl⟩
 ·cases h
end
section
open Go Go.Op
set_option maxRecDepth 100000
theorem Xl {R:Type} (z t z2 t2:Bool) (a b:List Ent) (k0 k1:Unit->Option R) (hab:a.length=b.length) (hl:a.length<=1000000000):∀ (r i m:Nat),i+r=a.length->r<m->Dg LF m z t (C4 a) z2 t2 (C4 b) (i:Int) k0 k1=cond (a.drop i==b.drop i) (k1 ()) (k0 ())
 | 0,i,m,hi,hm=>by
  obtain ⟨m,rfl⟩:∃ q,m=q+1:=⟨m-1,by omega⟩
  rw [Dg,C9 (by rw [B3];omega),List.drop_of_length_le (by omega),List.drop_of_length_le (by omega)]
  rfl
 | r+1,i,m,hi,hm=>by
  obtain ⟨m,rfl⟩:∃ q,m=q+1:=⟨m-1,by omega⟩
  have ha:i<a.length:=by omega
  have hb:i<b.length:=by omega
  have e2:A1 ((i:Int)+1)=((i+1:Nat):Int):=by rw [A4];rfl
  rw [Dg,B9 (by rw [B3];omega),I6 (by omega) (by rw [B3];omega),I6 (by omega) (by rw [B3];omega),Int.toNat_natCast,Hn ha,Hn hb,T9 ha,T9 hb,Xc ha,Xc hb,e2,Xl z t z2 t2 a b k0 k1 hab hl r (i+1) m (by omega) (by omega),P0 noE ha,P0 noE hb]
  simp only [cond_true]
  have heq:((a.getD i noE::a.drop (i+1))==(b.getD i noE::b.drop (i+1)))=((((a.getD i noE).1==(b.getD i noE).1)&&(((a.getD i noE).2==(b.getD i noE).2)&&true))&&(a.drop (i+1)==b.drop (i+1))):=by
   rw [Bool.and_true];rfl
  rw [heq]
  cases (((a.getD i noE).1==(b.getD i noE).1)&&(((a.getD i noE).2==(b.getD i noE).2)&&true))<;>rfl
theorem QJ {R:Type} {k0:Bool->Option R} (z t:Bool) (l:LL) (z2 t2:Bool) (m:LL) (h0:l.all B7=true) (h1:A3 l.length=true) (h2:m.all B7=true) (h3:A3 m.length=true):XC LF z t l z2 t2 m k0=k0 (l.map A6==m.map A6):=by
 have hLF:=D7
 have ha:=M7 h1
 have hb:=M7 h3
 have r1:=Bx h0
 have r2:=Bx h2
 generalize l.map A6=A at r1 ⊢
 generalize m.map A6=B at r2 ⊢
 subst r1 r2
 rw [B3] at ha hb
 unfold XC
 rw [B3,B3]
 by_cases h:A.length=B.length
 ·rw [show ((A.length:Int) != (B.length:Int))=false by rw [h];simp,cond_false]
  refine Eq.trans (Xl z t z2 t2 A B _ _ h ha A.length 0 LF (by omega) (by omega)) ?_
  rw [List.drop_zero,List.drop_zero]
  cases (A==B)<;>rfl
 ·rw [show ((A.length:Int) != (B.length:Int))=true by rw [bne_iff_ne];omega,cond_true,show (A==B)=false by rw [beq_eq_false_iff_ne];rintro rfl;exact h rfl]
end
section
open Go Go.Proofs
set_option maxRecDepth 100000
section
theorem Ba9:B4 Tryz.prog GX 25 DE:=xf [] (Gu LF) Uz rfl trivial rfl (by kernel_rfl) follows λargs=>by
 unfold Uz;split
 ·rename_i l_z l_t l m_z m_t m;exact λh0=>λh1=>λh2=>λh3=>⟨rfl,rfl,rfl,_,_,(Ap3 LF noY () 0 l_z l_t l m_z m_t m).trans (QJ l_z l_t l m_z m_t m h0 h1 h2 h3),rfl⟩
 ·trivial
end
def evX (C:Cfg) (d g:Nat) (args:List PV):Tr:=match evC C d Unit noY g args [] () with
 | some (r,H,_)=>cond (B8 args).isEmpty (.ret r H) .fail
 | none=>.fail
theorem Br5 {C:Cfg} (d g:Nat) (hX:XOK C) (hO:Bl C) (hm:C.P.follows .mixedOrders=true):B4 C.P C.G g (evX C d g):=
 Bg hX hO hm λargs ret Hc h=>by
  unfold evX at h
  split at h
  ·rename_i r H s e
   cases hn:(B8 args).isEmpty with
   | false=>rw [hn] at h;cases h
   | true=>
    rw [hn] at h
    obtain ⟨rfl,rfl⟩:=G7 h
    exact ⟨List.isEmpty_iff.1 hn,d,e⟩
  ·cases h
def evS (C:Cfg) (d g:Nat) (args:List PV):Tr:=match evC C d Unit noY g args [] () with
 | some (r,H,_)=>cond ((B8 args).isEmpty&&(r.stab [] H).nms.isEmpty) (.ret (r.stab [] H) []) .fail
 | none=>.fail
theorem Bp5 {C:Cfg} (d g:Nat) (hX:XOK C) (hO:Bl C) (hm:C.P.follows .mixedOrders=true):B4 C.P C.G g (evS C d g):=
 U7 [] hX hO hm λargs ret Hc h=>by
  unfold evS at h
  split at h
  ·rename_i r H s e
   cases hn:((B8 args).isEmpty&&(r.stab [] H).nms.isEmpty) with
   | false=>rw [hn] at h;cases h
   | true=>
    rw [hn] at h
    obtain ⟨rfl,rfl⟩:=G7 h
    rw [Bool.and_eq_true] at hn
    exact ⟨List.isEmpty_iff.1 hn.1,rfl,List.isEmpty_iff.1 hn.2,d,r,H,e,rfl⟩
  ·cases h
noncomputable def Bd7:Cfg:=C6 100000 [85] (λ_=>none) [(112,NR),(114,Ah8),(115,WD),(93,Kh),(117,AE),(118,Ai1),(119,WC)]
noncomputable def Bd2:List PV->Tr:=evS Bd7 3 85
theorem Bp6:B4 Tryz.prog GX 85 Bd2:=Bp5 (C:=Bd7) 3 _ (K3.ok rfl ⟨Aw4,Bj8,Bc3,CS,Ah3,Bk3,Bc2,trivial⟩) (F5 rfl (by kernel_rfl)) follows
noncomputable def Bd8:Cfg:=C6 100000 [23,52,51,83,110,84] (λ_=>none)
 [(85,Bd2),(50,EP),(49,ET),(111,NX)] (S:=[(106,Nl)]) (nt:=[(23,0,63,2)]) (fr:=[(12,[0,1],[1]),(15,[0,2],[1])])
noncomputable def Bd5:List PV->Tr:=evX Bd8 6 23
theorem Bp9:B4 Tryz.prog GX 23 Bd5:=Br5 (C:=Bd8) 6 _ (Ib (ly:=[]) rfl rfl rfl ⟨Bp6,Ax4,Ax5,Aw6,trivial⟩ trivial ⟨YM,trivial⟩) (F5 rfl (by kernel_rfl)) follows
noncomputable def ON:Cfg:=C6 100000 [22,26,30,28,37] (λ_=>none)
 [(23,Bd5),(57,Vb),(60,Lv),(65,Ai2),(41,Ai0)]
 (S:=[(76,DD)]) (lend:=[26]) (nt:=[(105,0,63,2)]) (Z:=[(61,Lw)])
theorem Ax9:XOK ON:=Ay0 (ly:=[]) rfl rfl rfl rfl ⟨Bp9,VI,IC,Bk4,Bk0,trivial⟩ trivial ⟨Bc6,trivial⟩ ⟨IF,trivial⟩
theorem Aj9:Ut (evC ON 8 Unit noY 22 [] [] ())=true:=by kernel_rfl
theorem Ah0:B4 Tryz.prog GX 22 Qf:=
 B4.fix (pf:=Lt) _ (by
  have h:=VM (C₀:=ON) Ax9 (F5 rfl (by kernel_rfl)) follows Aj9
  have e:(λargs:List PV=>match args with | []=>Tr.ret (.s (.bool true)) [] | _=>.fail)=Lt:=by
   funext args
   cases args<;>rfl
  rw [<-e]
  exact h)
end
section
open Go Go.ChangeAt Go.ChangeShapes Go.Proofs Go.RowKit Go.WideShapes
set_option maxRecDepth 100000
section
theorem RA (os:Os) (started:os.Started) (H:Type) (enc:TypeId × Value->H) :
  ReturnsInHanded {} Tryz.checked os 9 .any (λw args=>(Rows.preloadNewMatchesSpecSpec.pre enc Tryz.prog Tryz.f9 Rows.preloadNewMatchesSpecRow.domain false w args/\laidMetH Tryz.prog Bo w)/\sizedMet enc Tryz.prog Tryz.f9 (OpenSpec.ofChange Rows.preloadNewMatchesSpecSpec) false w args) (Rows.preloadNewMatchesSpecSpec.post enc Tryz.prog Tryz.f9 false true false false):=
 QO started (C:=Jc LF) (tb:=4) rfl rfl (Ib (lx:=[(12,NU),(22,Qf),(33,NT),(26,DO),(27,Ui),(34,NV),(35,EK),(25,DE)]) (ly:=[(36,Nj),(37,Uh)]) (ls:=[]) rfl rfl rfl ⟨Bk2,Ah0,Bk1,Bb1,YK,Bk5,Bb7,Ba9,trivial⟩ ⟨Ay1,Bc5,trivial⟩ trivial) (F5 rfl (by kernel_rfl)) (by kernel_rfl) Tryz.func9 (c:=E1 Tryz.f9) rfl (by kernel_rfl)
  (by
   intro t ht
   obtain rfl:t=23:=by simpa using (show t∈[23] from ht)
   exact ⟨⟨by kernel_rfl,of_decide_eq_true (by kernel_rfl)⟩,by kernel_rfl⟩) rfl (by kernel_rfl) rfl
  (λds hds=>by
   match ds,hds with
   | [d0],_=>rfl)
  #[(.slice none 0 0)] 8 (by kernel_rfl) (by kernel_rfl) (by kernel_rfl)
  (λargs h=>A45 args h)
theorem Ab1:Rows.PreloadNewMatchesSpecSaid:=
 OpenClaim.holds_of_wide 9 Tryz.f9 rfl rfl rfl rfl rfl rfl rfl ⟨rfl,rfl,rfl,rfl,rfl⟩ rfl rfl rfl rfl rfl (by kernel_rfl) Tryz.func9 (by kernel_rfl)
  (of_decide_eq_true (by kernel_rfl)) (by unfold Func.isWrapper;first | (rw [if_pos (by decide +kernel)];kernel_rfl) | (rw [if_neg (by decide +kernel)];exact ⟨rfl,rfl⟩))
  (λos started H enc _=>RA os started H enc)
theorem lpn_card:Rows.PreloadNewMatchesSpecCardSaid:=
 Claim7.holds_tied_plain_at .later [] [.data,.data,.data,.data,.pinned] true (true, "7afd958ced9ec1c0e92f7929c3d546df191af6d231ea740845f3a84d94481a7c") false Ab1 (λ_ h=>by cases h) (by kernel_rfl) (λ_ h=>by cases h) preloadNewMatchesSpec_row_tie rfl ⟨rfl,rfl⟩ (by kernel_rfl) rfl
  (λf fn hf hfn=>by
   obtain rfl:f=9:=Option.some.inj ((show Tryz.prog.funcNamed "hstsstore/hstsstorelaw24.PreloadNewMatchesSpec" = some 9 by kernel_rfl).symm.trans hf) |>.symm
   obtain rfl:fn=Tryz.f9:=(Option.some.inj (Tryz.func9.symm.trans hfn)).symm
   exact ⟨by kernel_rfl,λj t ht=>by
    have hm:t∈[23]:=Array.mem_toList_iff.2 (Array.mem_of_getElem? ht)
    have hall:([23].all λu=>!Tryz.prog.wantsStandIn u)=true:=by kernel_rfl
    exact (show Tryz.prog.wantsStandIn t=false by simpa using List.all_eq_true.1 hall t hm)⟩)
  (by kernel_rfl)
end
end
#print axioms lpn_card
end Go.Proofs.YtelhbgonncceeaaGreatDoor.E
