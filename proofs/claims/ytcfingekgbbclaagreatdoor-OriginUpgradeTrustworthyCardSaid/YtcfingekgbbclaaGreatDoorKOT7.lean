/-
  OriginUpgradeTrustworthy, as its tied card says. Conditions: what the card itself names (the package-level variables that are listed, tied to the program's text).
-/
import Derived.Test.YtcfingekgbbclaaGreatDoorKOT6
import Derived.Test.YtcfingekgbbclaaGreatDoorCards
import Derived.Test.YtcfingekgbbclaaGreatDoorTie
open Go.Proofs.Tryz renaming prog->a8,f11->b8,func11->j0,f35->j4
open List renaming length->b9
open Eq renaming trans->c9
open Bool renaming or_eq_true->j1,not_true->j5
open Option.some renaming inj->j2
open Nat renaming le_trans->j6
namespace Go.Proofs.YtcfingekgbbclaaGreatDoor.E
set_option linter.all false
section
open Go Go.Proofs
set_option maxRecDepth 100000
section
variable {Z R : Type} (L : Nat) (Q : G0) (Y : Yh Z) (s : Z) (k : Out -> St Z -> Option R)
noncomputable def B60(L:Nat):Cfg:=B6 L [31] (A3 []) [(22,Ps),(16,Yo),(26,An9)] (A3 [(3,[2,0]),(2,[2,0]),(1,[1,0,9]),(0,[1,0])]) [22,16,26] (A3 []) (some [2,0]) [] [] []
noncomputable def oof{R:Type}(L:Nat)(f o:By)(n:Int)(g:By)(h i j l u8 m a b c d:Int)(e:By)(p:By->Int->By->Int->Int->Int->Int->Int->Int->Int->Int->Int->Int->Bool->(List Blk)->Option R):Option R:=cond (not (E7 f)) (p e0 0 e0 0 0 0 0 0 0 0 0 0 0 false [(bU f o n g h i j l u8 m a b c d e),bO0]) (cond (smU f o g e) (cond (ltN h 4294967296) (cond (ok8 i j l u8 m a b c) (cond (Er d) (cond (not (Dn (mkU f o n g h (n8 i j l u8 m a b c) d e))) (p e0 0 e0 0 0 0 0 0 0 0 0 0 0 false [(bU f o n g h i j l u8 m a b c d e),bO0]) (p f n g h i j l u8 m a b c (prt f d) true [(bU f o n g h i j l u8 m a b c d e),(bO f n g h i j l u8 m a b c (prt f d))])) none) none) none) none)
theorem Db4(d:Nat)(u0 u1 u2 u3 u4 u5 u6 u7 u8 u9 u10 u11 u12 u13 u14):evC (B60 L) (d+1) Z Y 31 [(gU u0 u1 u2 u3 u4 u5 u6 u7 u8 u9 u10 u11 u12 u13 u14)] [] s=oof L u0 u1 u2 u3 u4 u5 u6 u7 u8 u9 u10 u11 u12 u13 u14 (λg h i j l m n o r8 p b c e f a=>some (.tup [(gO g h i j l m n o r8 p b c e),pB f],a,s)):=by refine(evE (fn:=Tryz.f31) (by kernel_rfl)).trans ?_;generalize evC (B60 L) d=Q;unfold oof;kernel_rfl
noncomputable def Aq7(L:Nat):Cfg:=B6 L [38] (A3 []) [(22,Ps),(46,PY),(50,Am0),(26,An9),(51,QD)] (A3 [(6,[2]),(5,[3]),(4,[1,1,33]),(3,[1,1]),(2,[2]),(1,[1,21]),(0,[1])]) [22,46,50,26,51] (A3 []) (some [2]) [] [] []
noncomputable def Cv7{R:Type}(L:Nat)(d:By)(p:Int)(e:By)(f g h i j l m b c a:Int)(q:By->(List Blk)->Option R):Option R:=cond (not (E7 d)) (q e0 [(bO d p e f g h i j l m b c a)]) (cond (A2 e.length) (cond (ltN f 4294967296) (cond (ok8 g h i j l m b c) (cond (not (L7 (mkH p e f (n8 g h i j l m b c)))) (q e0 [(bO d p e f g h i j l m b c a)]) (cond (ltI a 0) (q e0 [(bO d p e f g h i j l m b c a)]) (cond (ltI 65535 a) (q e0 [(bO d p e f g h i j l m b c a)]) (cond (J6 d.length 3) (vl (d++[58,47,47]) λn=>cond (A2 e.length) (cond (ltN f 4294967296) (cond (ok8 g h i j l m b c) (vl (T5 (mkH p e f (n8 g h i j l m b c))) λo=>cond (J6 n.length o.length) (cond (a !=(prt d ((-1):Int))) (cond (Er a) (cond (J6 1 (b9 (R1 a))) (vl (([58]:List UInt8)++(R1 a)) λr=>cond (J6 (b9 (n++o)) r.length) (q ((n++o)++r) [(bO d p e f g h i j l m b c a)]) none) none) none) (q (n++o) [(bO d p e f g h i j l m b c a)])) none) none) none) none) none)))) none) none) none)
theorem Cv8(d:Nat)(o0 o1 o2 o3 o4 o5 o6 o7 o8 o9 o10 o11 o12):evC (Aq7 L) (d+1) Z Y 38 [(gO o0 o1 o2 o3 o4 o5 o6 o7 o8 o9 o10 o11 o12)] [] s=Cv7 L o0 o1 o2 o3 o4 o5 o6 o7 o8 o9 o10 o11 o12 (λb a=>some (pS b,a,s)):=by refine(evE (fn:=Tryz.f38) (by kernel_rfl)).trans ?_;generalize evC (Aq7 L) d=Q;unfold Cv7;kernel_rfl
noncomputable def SY(L:Nat):Cfg:=B6 L [33] (A3 []) [(46,PY),(47,B22)] (A3 [(8,[2]),(5,[2]),(7,[2]),(6,[1,12]),(4,[1,5,0]),(3,[1,5]),(2,[2]),(1,[1,3]),(0,[1])]) [46,47] (A3 [(0,[1])]) (some [2]) [] [] []
noncomputable def Bj0{R:Type}(L:Nat)(c:Int)(b:By)(d e f g h i j l a:Int)(m:Bool->(List Blk)->Option R):Option R:=cond (A2 b.length) (cond (ltN d 4294967296) (cond (ok8 e f g h i j l a) (cond (not (L7 (mkH c b d (n8 e f g h i j l a)))) (m false [(bH c b d e f g h i j l a)]) (cond (c==2) (vl (KB .u32 d (24:Int)) λn=>m (n==127) [(bH c b d e f g h i j l a)]) (cond (c==3) (m ((e==0)&&((f==0)&&((g==0)&&((h==0)&&((i==0)&&((j==0)&&((l==0)&&((a==1)&&true)))))))) [(bH c b d e f g h i j l a)]) (cond (A2 b.length) (m (Lg ([108,111,99,97,108,104,111,115,116]:List UInt8) b) [(bH c b d e f g h i j l a)]) none)))) none) none) none
theorem Cc1(d:Nat)(h0 h1 h2 h3 h4 h5 h6 h7 h8 h9 h10):evC (SY L) (d+1) Z Y 33 [(gH h0 h1 h2 h3 h4 h5 h6 h7 h8 h9 h10)] [] s=Bj0 L h0 h1 h2 h3 h4 h5 h6 h7 h8 h9 h10 (λb a=>some (pB b,a,s)):=by refine(evE (fn:=Tryz.f33) (by kernel_rfl)).trans ?_;generalize evC (SY L) d=Q;unfold Bj0;kernel_rfl
noncomputable abbrev Nw:Code:=C8 j4
noncomputable def W9(L:Nat):Cfg:=B6 L [35] (A3 []) [(16,Yo),(22,Ps),(33,Po)] (A3 [(10,[2]),(7,[2]),(9,[2]),(8,[1,10]),(6,[1,5,0]),(5,[1,5,0]),(4,[1,5,0]),(3,[1,5]),(2,[2]),(1,[1,3]),(0,[1])]) [16,22,33] (A3 [(0,[1])]) (some [2]) [] [] []
noncomputable def Fx{R:Type}(g:By)(q:Bool)(n:By)(h:Int)(o:By)(i j l n8 m b c d e f:Int)(a:By)(p:Bool->(List Blk)->Option R)(r:Bool->By->By->Int->By->Int->Int->Int->Int->Int->Int->Int->Int->Int->Int->By->Option R):Option R:=cond q (p true [(bU g n h o i j l n8 m b c d e f a)]) (cond (g==[97,98,111,117,116]) (cond (a==[98,108,97,110,107]) (p true [(bU g n h o i j l n8 m b c d e f a)]) (p (a==[115,114,99,100,111,99]) [(bU g n h o i j l n8 m b c d e f a)])) (r (g==[97,98,111,117,116]) g n h o i j l n8 m b c d e f a))
abbrev CA(b:Code):Prop:=∀(k:Out->St Z->Option R) s0 b1 n h o i j l n8 m a c d e f g,A9 (W9 L) Q Y b ⟨gp [(1,.ptr 0 0 0),(5,pS s0),(0,pB b1)] 21,[(bU s0 n h o i j l n8 m a c d e f g)],s⟩ k=Fx s0 b1 n h o i j l n8 m a c d e f g (λp q=>k .ret ⟨gp [(2,pB p)] 27,q,s⟩) (λp r n h o i j l n8 m a c d e f g=>k .normal ⟨gp [(1,.ptr 0 0 0),(10,pB p)] 17,[(bU r n h o i j l n8 m a c d e f g)],s⟩)
theorem US:CA (R:=R) L Q Y s (cd [1,1,0,1,0,1] Nw):=by intro k n g o h p i j l n8 m a b c d e f;unfold Fx;kernel_rfl
noncomputable def Fy{R:Type}(n p:By)(m:Int)(l:By)(g h i n8 j a b c d e:Int)(f:By)(o:Bool->(List Blk)->Option R):Option R:=cond (E7 n) (cond (A2 l.length) (cond (ltN g 4294967296) (cond (ok8 h i n8 j a b c d) (o (IO m l g h i n8 j a b c d) [(bU n p m l g h i n8 j a b c d e f)]) none) none) none) (o false [(bU n p m l g h i n8 j a b c d e f)])
abbrev CB(b:Code):Prop:=∀(k:Out->St Z->Option R) a s1 s2 n3 s4 n5 n6 n7 n8 n9 n10 n11 n12 n13 n14 s15,A9 (W9 L) Q Y b ⟨gp [(1,.ptr 0 0 0),(10,pB a)] 17,[(bU s1 s2 n3 s4 n5 n6 n7 n8 n9 n10 n11 n12 n13 n14 s15)],s⟩ k=Fy s1 s2 n3 s4 n5 n6 n7 n8 n9 n10 n11 n12 n13 n14 s15 (λa c=>k .ret ⟨gp [(2,pB a)] 27,c,s⟩)
theorem UT:CB (R:=R) L Q Y s (cd [1,1,1] Nw):=by intro k g n o h p i j l n8 m a b c d e f;unfold Fy;kernel_rfl
noncomputable def JB{R:Type}(L:Nat)(f h:By)(u2:Int)(i:By)(j l m n u8 o a b c d:Int)(e:By)(g:Bool->(List Blk)->Option R):Option R:=cond (smU f h i e) (cond (ltN j 4294967296) (cond (ok8 l m n u8 o a b c) (cond (Er d) (cond (not (Dn (mkU f h u2 i j (n8 l m n u8 o a b c) d e))) (g false [(bU f h u2 i j l m n u8 o a b c d e)]) (cond (f==[104,116,116,112,115]) (Fx f (f==[104,116,116,112,115]) h u2 i j l m n u8 o a b c d e g (λc0 b3 b4 a9 b5 b0 b1 b2 p q r t u v w X=>Fy b3 b4 a9 b5 b0 b1 b2 p q r t u v w X g)) (cond (f==[119,115,115]) (Fx f (f==[119,115,115]) h u2 i j l m n u8 o a b c d e g (λb6 a0 a1 x a2 y z A B C D F G H I a3=>Fy a0 a1 x a2 y z A B C D F G H I a3 g)) (Fx f (f==[102,105,108,101]) h u2 i j l m n u8 o a b c d e g (λb7 a4 a5 J a6 K M N O P S T U V W a7=>Fy a4 a5 J a6 K M N O P S T U V W a7 g))))) none) none) none) none
theorem Br5(c:Code)(a:CA (R:=PV × List Blk × Z) L Q Y s c)(d:Code)(b:CB (R:=PV × List Blk × Z) L Q Y s d)(j u1:By)(u2:Int)(u3:By)(u4 u5 u6 u7 u8 u9 e f g h:Int)(i:By):A9 (W9 L) Q Y (cd [] (G3 [1,1,1] d (G3 [1,1,0,1,0,1] c Nw))) ⟨[(gU j u1 u2 u3 u4 u5 u6 u7 u8 u9 e f g h i)]++tps 29,[],s⟩ (F7 (W9 L) j4)=JB L j u1 u2 u3 u4 u5 u6 u7 u8 u9 e f g h i (λr0 H1=>some (pB r0,H1,s)):=by unfold JB;exact let K0:=(F7 (W9 L) j4);let K1:=(E6 0 (E5 (W9 L) Q Y d K0));(c9 (by kernel_rfl) (A0 (A0 (A0 (A0 (A0 rfl (A0 ((a K1 j (j==[104,116,116,112,115]) u1 u2 u3 u4 u5 u6 u7 u8 u9 e f g h i).trans (congr (congr rfl (by kernel_rfl)) (fx1 λa6=>(fx1 λb2=>(fx1 λb3=>(fx1 λa7=>(fx1 λb4=>(fx1 λa9=>(fx1 λb0=>(fx1 λb1=>(fx1 λn=>(fx1 λo=>(fx1 λp=>(fx1 λq=>(fx1 λr=>(fx1 λt=>(fx1 λu=>(fx1 λV=>(c9 (by kernel_rfl) ((b K0 a6 b2 b3 a7 b4 a9 b0 b1 n o p q r t u V).trans (by kernel_rfl))))))))))))))))))))) (A0 ((a K1 j (j==[119,115,115]) u1 u2 u3 u4 u5 u6 u7 u8 u9 e f g h i).trans (congr (congr rfl (by kernel_rfl)) (fx1 λl=>(fx1 λW=>(fx1 λX=>(fx1 λv=>(fx1 λa0=>(fx1 λw=>(fx1 λx=>(fx1 λy=>(fx1 λz=>(fx1 λA=>(fx1 λB=>(fx1 λC=>(fx1 λD=>(fx1 λF=>(fx1 λG=>(fx1 λa1=>(c9 (by kernel_rfl) ((b K0 l W X v a0 w x y z A B C D F G a1).trans (by kernel_rfl))))))))))))))))))))) ((a K1 j (j==[102,105,108,101]) u1 u2 u3 u4 u5 u6 u7 u8 u9 e f g h i).trans (congr (congr rfl (by kernel_rfl)) (fx1 λm=>(fx1 λa2=>(fx1 λa3=>(fx1 λH=>(fx1 λa4=>(fx1 λI=>(fx1 λJ=>(fx1 λK=>(fx1 λM=>(fx1 λN=>(fx1 λO=>(fx1 λP=>(fx1 λS=>(fx1 λT=>(fx1 λU=>(fx1 λa5=>(c9 (by kernel_rfl) ((b K0 m a2 a3 H a4 I J K M N O P S T U a5).trans (by kernel_rfl)))))))))))))))))))))))) rfl) rfl) rfl) rfl))
theorem Br6(d:Nat)(u0 u1 u2 u3 u4 u5 u6 u7 u8 u9 u10 u11 u12 u13 u14):evC (W9 L) (d+1) Z Y 35 [(gU u0 u1 u2 u3 u4 u5 u6 u7 u8 u9 u10 u11 u12 u13 u14)] [] s=JB L u0 u1 u2 u3 u4 u5 u6 u7 u8 u9 u10 u11 u12 u13 u14 (λb a=>some (pB b,a,s)):=
 (evE (fn:=j4) (by kernel_rfl)).trans (c9 (by kernel_rfl) (Br5 L (evC (W9 L) d) Y s (cd [1,1,0,1,0,1] Nw) (US L (evC (W9 L) d) Y s) (cd [1,1,1] Nw) (UT L (evC (W9 L) d) Y s) u0 u1 u2 u3 u4 u5 u6 u7 u8 u9 u10 u11 u12 u13 u14))
end
abbrev Dj4(f:Int->By->Int->Int->Int->Int->Int->Int->Int->Int->Int->(Bool->List Blk->Option (PV × List Blk × Unit))->Option (PV × List Blk × Unit))(k:Int)(j:By)(v4 a b c d e g h i:Int):Prop:=
 A2 j.length=true->ltN v4 4294967296=true->ok8 a b c d e g h i=true->∃r H,f k j v4 a b c d e g h i (λm l=>rv (.s (.bool m)) l)=rv r H/\r.stab [] H = .s (.bool (IO k j v4 a b c d e g h i))
theorem Cc2(a:Int)(j:By)(v4 b c d e f g h i:Int):Dj4 (Bj0 LF) a j v4 b c d e f g h i:=λk l m=>by
 unfold Bj0 IO;rw[k,l,m];cases L7 (mkH a j v4 (n8 b c d e f g h i))<;>cases a==2<;>cases a==3<;>exact⟨_,_,rfl,rfl⟩
abbrev rvO(m:By)(f:Int)(n:By)(g h i j k n8 l c d e:Int)(b:Bool)(a:List Blk):=rv (.tup [gO m f n g h i j k n8 l c d e,.s (.bool b)]) a
abbrev pvO(q:OC):PV:=.tup [gO (oS q) (oK q) (oN q) (oV q) (oA q 0) (oA q 1) (oA q 2) (oA q 3) (oA q 4) (oA q 5) (oA q 6) (oA q 7) (oP q),.s (.bool (oB q))]
theorem Db5(a m:By)(n:Int)(j:By)(v4 b c d e f g h i k:Int)(l:By)(o:smU a m j l=true)(p:ltN v4 4294967296=true)(q:ok8 b c d e f g h i=true)(t:Er k=true) :
  ∃r H,oof LF a m n j v4 b c d e f g h i k l rvO=rv r H/\r.stab [0,0] H=pvO (ofC a m n j v4 b c d e f g h i k l):=by
 unfold oof ofC ofB;rw[o,p,q,t,show(mkU a m n j v4 (n8 b c d e f g h i) k l).sch=a from rfl];cases E7 a<;>cases Dn (mkU a m n j v4 (n8 b c d e f g h i) k l)<;>exact⟨_,_,rfl,rfl⟩
theorem Ai6{s:By}(h:E7 s=true):s.length<=5:=by simp only[E7,j1,beq_iff_eq] at h;rcases h with(rfl|rfl)|rfl|rfl<;>decide
theorem Cc4{b F:By}{a:Int}(e:¬a=L3 b):(b++[58,47,47]++F)++([58]++R1 a)=b++58::47::47::(F++(if a=L3 b then [] else 58::R1 a)):=by rw[if_neg e];simp
theorem Cv9(b:By)(n:Int)(c:By)(v4 d f g i j k l m a:Int)(h0:A2 c.length=true)(h1:ltN v4 4294967296=true)(o:ok8 d f g i j k l m=true) :
  ∃r H,Cv7 LF b n c v4 d f g i j k l m a (λv t=>rv (.s (.str v)) t)=rv r H/\r.stab [] H = .s (.str (Db8 b (mkH n c v4 (n8 d f g i j k l m)) a)):=by
 have x:=HV (TU (h0:=n) (h1:=c) h1 o);unfold Cv7 Db8;rw[h0,h1,o];cases u:E7 b with
 | false=>exact⟨_,_,rfl,rfl⟩
 | true=>
  have y:=Ai6 u;cases z:L7 (mkH n c v4 (n8 d f g i j k l m)) with
  | false=>exact⟨_,_,rfl,rfl⟩
  | true=>
   by_cases p:0<=a
   ·by_cases q:a<=65535
    ·have w:=AA (Ol.2 ⟨by omega,by omega⟩:Er a=true);rw[A6,A6,if_pos ⟨rfl,rfl,p,q⟩,Ol.2 ⟨by omega,by omega⟩,show prt b (-1)=L3 b from rfl];simp only[vl,cond_true,cond_false,j5];rw[J7 (by omega),cond_true,J7 (by simp;omega),cond_true];by_cases e:a=L3 b
     ·rw[show(a !=L3 b)=false by simpa using e,if_pos e];refine⟨_,_,rfl,?_⟩;simp;rfl
     ·rw[show(a !=L3 b)=true by simpa using e,cond_true,J7 (by omega),cond_true,J7 (by simp;omega),<-Cc4 e];exact⟨_,_,rfl,rfl⟩
    ·rw[A6,A8,if_neg (λh=>q h.2.2.2)];exact⟨_,_,rfl,rfl⟩
   ·rw[A8,if_neg (λh=>p h.2.2.1)];exact⟨_,_,rfl,rfl⟩
theorem Br7(a m:By)(n:Int)(b:By)(v4 d e f g h i j k l:Int)(c:By)(o:smU a m b c=true)(q:ltN v4 4294967296=true)(t:ok8 d e f g h i j k=true)(u:Er l=true) :
  ∃r H,JB LF a m n b v4 d e f g h i j k l c (λv p=>rv (.s (.bool v)) p)=rv r H/\r.stab [] H = .s (.bool (Mo a m n b v4 d e f g h i j k l c)):=by
 obtain⟨x,y,z,A⟩:=EI o;have w:A2 b.length=true:=M5;unfold JB Fx Fy Mo;simp only[o,q,t,u,w,show(a==([104,116,116,112,115]:List UInt8))=(a==Z7) from rfl,show(a==([119,115,115]:List UInt8))=(a==Qs) from rfl,show(a==([102,105,108,101]:List UInt8))=(a==Bf3) from rfl,show(a==([97,98,111,117,116]:List UInt8))=(a==Ao9) from rfl];cases Dn (mkU a m n b v4 (n8 d e f g h i j k) l c)<;>cases a==Z7<;>cases a==Qs<;>cases a==Bf3<;>cases a==Ao9<;>cases E7 a<;>cases c==([98,108,97,110,107]:List UInt8)<;>exact⟨_,_,rfl,rfl⟩
section
variable {Z R : Type} (L : Nat) (Y : G0) (Q : Yh Z) (s : Z) (k : Out -> St Z -> Option R)
noncomputable def MP(L:Nat):Cfg:=B6 L [30] (A3 []) [(14,Jn),(31,B29),(38,Am6),(35,Nn),(33,Po)] (A3 [(4,[0]),(3,[1,1,0,0]),(2,[1,1,0]),(1,[1]),(0,[])]) [38,35,33] (A3 []) (some [0]) [] [] []
noncomputable def YG(L:Nat):Cfg:=B6 L [11] (A3 []) [(30,Xu),(14,Jn),(23,Ub),(29,RG),(35,Nn),(25,DL),(33,Po)] (A3 [(8,[2]),(7,[2]),(6,[3,22]),(5,[2]),(4,[3,17]),(3,[3,0]),(2,[2]),(1,[0,6]),(0,[0])]) [30,23,35,25,33] (A3 []) (some [2]) [] [] []
noncomputable def lot{R:Type}(L:Nat)(c:By)(b:Bool->(List Blk)->Option R):Option R:=cond (ltI 1500 (c.length:Int)) (b true []) (cond (A2 c.length) (vl (B5 c) λa=>cond ((uE a)!=0) (b true [(bQ a)]) (cond (not (E7 (uS a))) (b true [(bQ a)]) (cond (smU (upS (uS a)) (uU a) (uN a) (uR a)) (cond (ltN (uV a) 4294967296) (cond (okQ a) (cond (Er (upP (uS a) (uP a))) (cond (not (Mo (upS (uS a)) (uU a) (uK a) (uN a) (uV a) (uA a 0) (uA a 1) (uA a 2) (uA a 3) (uA a 4) (uA a 5) (uA a 6) (uA a 7) (upP (uS a) (uP a)) (uR a))) (b false [(bQ a)]) (cond (not (Ak (uS a))) (b true [(bQ a)]) (cond (smU (uS a) (uU a) (uN a) (uR a)) (cond (ltN (uV a) 4294967296) (cond (okQ a) (cond (Er (uP a)) (cond (A2 (b9 (uN a))) (cond (ltN (uV a) 4294967296) (cond (okQ a) (cond ((Mo (uS a) (uU a) (uK a) (uN a) (uV a) (uA a 0) (uA a 1) (uA a 2) (uA a 3) (uA a 4) (uA a 5) (uA a 6) (uA a 7) (uP a) (uR a))==(IO (uK a) (uN a) (uV a) (uA a 0) (uA a 1) (uA a 2) (uA a 3) (uA a 4) (uA a 5) (uA a 6) (uA a 7))) (b true [(bQ a)]) (b false [(bQ a)])) none) none) none) none) none) none) none))) none) none) none) none))) none)
theorem Da8(d:Nat)(s0):evC (YG L) (d+1) Z Q 11 [pS s0] [] s=lot L s0 (λb a=>some (pB b,a,s)):=by refine(evE (fn:=b8) (by kernel_rfl)).trans ?_;generalize evC (YG L) d=Y;unfold lot;kernel_rfl
end
theorem Bz2{s:By}(h:E7 s=true):(upS s==Z7||(upS s==Qs||upS s==Bf3))=true:=by simp only[E7,j1,beq_iff_eq] at h;rcases h with(rfl|rfl)|rfl|rfl<;>decide
theorem Ca0(s:By):Tru (evC (YG LF) 1 Unit noY 11 [.s (.str s)] [] ()):=by
 refine Eq.subst (motive:=Tru) (Da8 (Z:=Unit) LF noY () 0 s).symm ?_;unfold lot;by_cases m:(1500:Int)<s.length
 ·rw[B7 m];exact⟨_,rfl⟩
 rw[A6,cond_false,M5,cond_true];have d:=Bs3 s;have o:=(JD s).1;have f:=Ab3 (s:=s) (by omega) (upS (uS (B5 s))) (j6 (C15 (B5 s).1.sch) (by omega));have a:=Ab3 (s:=s) (by omega) (uS (B5 s)) (j6 o (by omega));have p:A2 (b9 (uN (B5 s)))=true:=by
  obtain⟨_,_,l,_⟩:=EI a;exact M5
 have b:=@NY s;obtain⟨t,u,j,k⟩:=Cc0 d;have v:=Dd3 (s:=uS (B5 s)) j;simp only[vl];by_cases c:(B5 s).2=0
 ·have r:=Cj4 (b c);have h:=XH (b c);rw[show(uE (B5 s)!=(0:Int))=false by show(((B5 s).2:Int)!=0)=false;rw[c];rfl,cond_false];cases i:E7 (uS (B5 s)) with
  | false=>exact⟨_,rfl⟩
  | true=>
   have q:Mo (upS (uS (B5 s))) (uU (B5 s)) (uK (B5 s)) (uN (B5 s)) (uV (B5 s)) (uA (B5 s) 0) (uA (B5 s) 1) (uA (B5 s) 2) (uA (B5 s) 3) (uA (B5 s) 4) (uA (B5 s) 5) (uA (B5 s) 6) (uA (B5 s) 7) (upP (uS (B5 s)) (uP (B5 s))) (uR (B5 s))=true:=by
    unfold Mo;rw[show mkU (upS (uS (B5 s))) _ _ _ _ _ (upP (uS (B5 s)) (uP (B5 s))) _=_ from k _ _,r,Bz2 i];rfl
   simp only[f,a,p,t,u,j,v,q,cond_true,cond_false,j5];cases n:Ak (uS (B5 s)) with
   | false=>exact⟨_,rfl⟩
   | true=>
    have g:Mo (uS (B5 s)) (uU (B5 s)) (uK (B5 s)) (uN (B5 s)) (uV (B5 s)) (uA (B5 s) 0) (uA (B5 s) 1) (uA (B5 s) 2) (uA (B5 s) 3) (uA (B5 s) 4) (uA (B5 s) 5) (uA (B5 s) 6) (uA (B5 s) 7) (uP (B5 s)) (uR (B5 s))=IO (uK (B5 s)) (uN (B5 s)) (uV (B5 s)) (uA (B5 s) 0) (uA (B5 s) 1) (uA (B5 s) 2) (uA (B5 s) 3) (uA (B5 s) 4) (uA (B5 s) 5) (uA (B5 s) 6) (uA (B5 s) 7):=by
     unfold Mo;rw[show mkU (uS (B5 s)) _ _ _ _ _ (uP (B5 s)) _=_ from k _ _,show Dn ⟨uS (B5 s),(B5 s).1.user,(B5 s).1.host,uP (B5 s),(B5 s).1.rest⟩=true from h,i];rcases Om n with e|e<;>rw[e]<;>rfl
    rw[g,beq_self_eq_true];exact⟨_,rfl⟩
 ·rw[show(uE (B5 s)!=(0:Int))=true by show(((B5 s).2:Int)!=0)=true;simpa using c,cond_true];exact⟨_,rfl⟩
theorem Cu3(args:List PV)(h:Kt a8 [9] args):∃d a,evC (YG LF) d Unit noY 11 args [] ()=some (.s (.bool true),a,()):=by obtain⟨v1,c,rfl,b,rfl⟩:=h;obtain⟨s,rfl,_⟩:=Co9 b (by kernel_rfl) (by kernel_rfl);obtain⟨H,e⟩:=Ca0 s;exact⟨1,H,e⟩
section
theorem XB:B0 a8 GX 33 Po:=xf [] (SY LF) FE rfl ⟨Bb8,Df0,trivial⟩ rfl (by kernel_rfl) follows λargs=>by
 unfold FE;split
 ·rename_i j k v4 a b c d f g h i;exact λl=>λm=>λn=>(let⟨r,H,e,q⟩:=Cc2 j k v4 a b c d f g h i l m n;⟨rfl,rfl,rfl,r,H,(Cc1 LF noY () 0 j k v4 a b c d f g h i).trans e,q⟩)
 ·trivial
theorem Dk9:B0 a8 GX 31 B29:=xf [0,0] (B60 LF) Am7 rfl ⟨Xr,PG,Cn6,trivial⟩ rfl (by kernel_rfl) follows λargs=>by
 unfold Am7;split
 ·rename_i n o j k v4 a b c d f g h i l m;exact λp=>λt=>λu=>λv=>(let⟨r,H,e,q⟩:=Db5 n o j k v4 a b c d f g h i l m p t u v;⟨rfl,rfl,rfl,r,H,(Db4 LF noY () 0 n o j k v4 a b c d f g h i l m).trans e,q⟩)
 ·trivial
theorem Df5:B0 a8 GX 38 Am6:=xf [] (Aq7 LF) QN rfl ⟨Xr,Bb8,Cl5,Cn6,Bl6,trivial⟩ rfl (by kernel_rfl) follows λargs=>by
 unfold QN;split
 ·rename_i m j k v4 a b c d f g h i l;exact λn=>λo=>λp=>(let⟨r,H,e,q⟩:=Cv9 m j k v4 a b c d f g h i l n o p;⟨rfl,rfl,rfl,r,H,(Cv8 LF noY () 0 m j k v4 a b c d f g h i l).trans e,q⟩)
 ·trivial
theorem Ak8:B0 a8 GX 35 Nn:=xf [] (W9 LF) Xz rfl ⟨PG,Xr,XB,trivial⟩ rfl (by kernel_rfl) follows λargs=>by
 unfold Xz;split
 ·rename_i n o j k v4 a b c d f g h i l m;exact λp=>λt=>λu=>λv=>(let⟨r,H,e,q⟩:=Br7 n o j k v4 a b c d f g h i l m p t u v;⟨rfl,rfl,rfl,r,H,(Br6 LF noY () 0 n o j k v4 a b c d f g h i l m).trans e,q⟩)
 ·trivial
end
section
theorem XW:EE (evC (MP LF) 1 Unit noY 30 [] [] ())=true:=by kernel_rfl
theorem B08:B0 a8 GX 30 Xu:=
 B0.fix (pf:=Rk) _ (by
  have h:=Bc2 (C₀:=MP LF) (M0.ok (l:=[(14,Jn),(31,B29),(38,Am6),(35,Nn),(33,Po)]) rfl ⟨PE,Dk9,Df5,Ak8,XB,trivial⟩) (I1 rfl (by kernel_rfl)) follows XW;have e:(λargs:List PV=>match args with|[]=>Tr.ret (.s (.bool true)) []|_=>.fail)=Rk:=by
   funext args
   cases args<;>rfl
  rw[<-e];exact h)
end
end
section
open Go Go.ChangeAt Go.ChangeShapes Go.Proofs Go.RowKit Go.WideShapes
set_option maxRecDepth 100000
section
theorem Aw2(os:Os)(a:os.Started)(H:Type)(enc:TypeId × Value->H) :
  ReturnsInHanded {} Tryz.checked os 11 .any (λw args=>(Rows.originUpgradeTrustworthySpec.pre enc a8 b8 Rows.originUpgradeTrustworthyRow.domain false w args/\laidMetH a8 Et w)/\sizedMet enc a8 b8 (OpenSpec.ofChange Rows.originUpgradeTrustworthySpec) false w args) (Rows.originUpgradeTrustworthySpec.post enc a8 b8 false true false false):=
 Av6 a (C:=YG LF) (tb:=4) rfl rfl (M0.ok (l:=[(30,Xu),(14,Jn),(23,Ub),(29,RG),(35,Nn),(25,DL),(33,Po)]) rfl ⟨B08,PE,Al3,Dg4,Ak8,Bl9,XB,trivial⟩) (I1 rfl (by kernel_rfl)) (by kernel_rfl) j0 (c:=C8 b8) rfl (by kernel_rfl)
  (by
   intro t d;obtain rfl:t=9:=by simpa using(show t∈[9] from d)
   exact⟨⟨by kernel_rfl,of_decide_eq_true (by kernel_rfl)⟩,by kernel_rfl⟩) rfl (by kernel_rfl) rfl
  (λds b=>by
   match ds,b with
   | [e],_=>rfl)
  #[(.string ⟨#[]⟩)] 8 (by kernel_rfl) (by kernel_rfl) (by kernel_rfl)
  (λargs h=>Cu3 args h)
theorem Bq3:Rows.OriginUpgradeTrustworthySaid:=
 OpenClaim.holds_of_wide 11 b8 rfl rfl rfl rfl rfl rfl rfl ⟨rfl,rfl,rfl,rfl,rfl⟩ rfl rfl rfl rfl rfl (by kernel_rfl) j0 (by kernel_rfl)
  (of_decide_eq_true (by kernel_rfl)) (by unfold Func.isWrapper;first|(rw[if_pos (by decide +kernel)];kernel_rfl)|(rw[if_neg (by decide +kernel)];exact⟨rfl,rfl⟩))
  (λos a H enc _=>Aw2 os a H enc)
theorem lot_card:Rows.OriginUpgradeTrustworthyCardSaid:=
 Claim7.holds_tied_plain_at .later [] [.data,.data,.data,.data,.pinned] true (true, "0163afbbd4bdcc0cb024432ec76efa84c49da410dbc3a82ef375aee9434dc149") false Bq3 (λ_ h=>by cases h) (by kernel_rfl) (λ_ h=>by cases h) originUpgradeTrustworthy_row_tie rfl ⟨rfl,rfl⟩ (by kernel_rfl) rfl
  (λf fn c b=>by
   obtain rfl:f=11:=j2 ((show a8.funcNamed "hstsstore/hstsstorelaw16.OriginUpgradeTrustworthy" = some 11 by kernel_rfl).symm.trans c) |>.symm
   obtain rfl:fn=b8:=(j2 (j0.symm.trans b)).symm;exact⟨by kernel_rfl,λj t e=>by
    have d:t∈[9]:=Array.mem_toList_iff.2 (Array.mem_of_getElem? e);have a:([9].all λu=>!a8.wantsStandIn u)=true:=by kernel_rfl
    exact(show a8.wantsStandIn t=false by simpa using List.all_eq_true.1 a t d)⟩)
  (by kernel_rfl)
end
end
#print axioms lot_card
end Go.Proofs.YtcfingekgbbclaaGreatDoor.E
