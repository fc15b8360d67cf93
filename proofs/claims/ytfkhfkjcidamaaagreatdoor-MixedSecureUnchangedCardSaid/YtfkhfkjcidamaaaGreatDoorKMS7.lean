/-
  MixedSecureUnchanged, as its tied card says. Conditions: what the card itself names (the package-level variables that are listed, tied to the program's text).
-/
import Derived.Test.YtfkhfkjcidamaaaGreatDoorKMS6
import Derived.Test.YtfkhfkjcidamaaaGreatDoorCards
import Derived.Test.YtfkhfkjcidamaaaGreatDoorTie
open Go.Proofs.Tryz renaming prog->a8,f8->j8,f53->p9,f87->v7,func8->v8,f171->w9,f19->x5
open List renaming map->b8,length->b9,all->j0,length_cons->j6,getD_eq_getElem?_getD->j9,length_append->k9,drop_eq_getElem_cons->o0,getElem?_eq_getElem->o5,length_nil->o7,drop_eq_nil_iff->o9,all_eq_true->p6,map_id''->w8,map_map->x3
open Bool renaming not_true->j1,not_false->j4,and_eq_true->j5,and_false->p7
open Eq renaming trans->j2
open Option.some renaming inj->j7
open Nat renaming ble->o6,le_of_ble_eq_true->o8,le_trans->x4
open Int renaming toNat_natCast->p4,toNat->p5
open List.cons renaming inj->w6
namespace Go.Proofs.YtfkhfkjcidamaaaGreatDoor.E
set_option linter.all false
section
open Go Go.Proofs
set_option maxRecDepth 100000
theorem SM{u:T2}(h:-1<=u.port):Fm u=W9 u:=by unfold Fm;rw[G0]
theorem Cd4{m n:By}{kd:Int}{a:By}{v4 b c d e f g h i k:Int}{l:By}(h0:smU m n a l=true)(h1:ltN v4 4294967296=true)(j:ok8 b c d e f g h i=true)(o:S9 k=true) :
  (Fm (mkU m n kd a v4 (n8 b c d e f g h i) k l)).length<=400000000:=by
 obtain⟨r,t,u,v⟩:=Jo h0;have p:=Wx (GE (h0:=kd) (h1:=a) h1 j);rw[EC] at p;have q:=SN (kd:=kd) h0 h1 j o;unfold Fm;split
 ·unfold mkU;simp only;split
  ·split<;>simp only[k9,j6,o7]<;>omega
  ·simp only[k9,j6];omega
 ·exact q
theorem Cb2(d b:By)(o:Int)(c:By)(v4 f g i j k l m n a:Int)(e:By)(h0:smU d b c e=true)(h1:ltN v4 4294967296=true)(y:ok8 f g i j k l m n=true)(B:S9 a=true) :
  ∃r H,Vq LF d b o c v4 f g i j k l m n a e (λu p=>rv (.s (.str u)) p)=rv r H/\r.stab [] H = .s (.str (Fm (mkU d b o c v4 (n8 f g i j k l m n) a e))):=by
 obtain⟨G,I,J,K⟩:=Jo h0;have F:=Wx (GE (h0:=o) (h1:=c) h1 y);obtain⟨L,M⟩:=Xk.1 B;have D:=Gm 19 a.toNat (by omega) (by omega);have key:∀T:By,Vq LF d b o c v4 f g i j k l m n a e (λu p=>rv (.s (.str u)) p)=rv (.s (.str T)) [bU d b o c v4 f g i j k l m n a e]->T=Fm (mkU d b o c v4 (n8 f g i j k l m n) a e)->∃r H,Vq LF d b o c v4 f g i j k l m n a e (λu p=>rv (.s (.str u)) p)=rv r H/\r.stab [] H = .s (.str (Fm (mkU d b o c v4 (n8 f g i j k l m n) a e))):=λT v w=>⟨_,_,v,by rw[<-w];rfl⟩
 have C:A3 c.length=true:=J8;cases t:H9 d with
 | false=>
  refine key (d++[58]++e) ?_ ?_
  ·unfold Vq;rw[t,G5 (by omega)];simp only[vl,cond_true,j4];rw[G5 (by simp;omega)];rfl
  ·unfold Fm W9 mkU;simp[t]
 | true=>
  have v:(b==([]:List UInt8))=decide (b=[]):=by rw[Bool.eq_iff_iff];simp
  have w:ltI a 0=decide (a<0):=Mv ..;have z:ltI a (-1)=decide (a < -1):=Mv ..;have A:0<=a->ltN a 9223372036854775808=true:=λh=>E0.2 ⟨h,by omega⟩
  by_cases x:b=[]<;>rcases(show a < -1\/a=-1\/0<=a by omega) with q|q|q
  all_goals
   apply key
   ·unfold Vq;rw[t,C,h1,y,v,w,z];simp only[x,decide_true,decide_false,vl,cond_true,cond_false,j1,j4]
    first|rw[decide_eq_true (show a<0 by omega),decide_eq_true q]|rw[decide_eq_true (show a<0 by omega),decide_eq_false (show ¬a < -1 by omega)]|rw[decide_eq_false (show ¬a<0 by omega),A q]
    simp only[vl,cond_true,cond_false,j1,j4]
    repeat rw[G5 (by first|omega|(simp only[k9,j6,o7];omega))]
    simp only[vl,cond_true];rfl
   ·unfold Fm W9 mkU Oe U9
    first
     | (simp[t,EC,x,q];done)
     | simp[t,EC,x,show ¬a < -1 by omega,show ¬a<0 by omega,show ¬a=-1 by omega]
theorem Dy4(u:T2):((C1 (Fm u)).2==0&&eqU (C1 (Fm u)).1 u)=R5 u:=by
 by_cases h:-1<=u.port
 ·rw[SM h];rfl
 ·have a:∀s,eqU (C1 s).1 u=false:=λs=>by
   have b:=(Qh s).port.1;unfold eqU;rw[show((C1 s).1.port==u.port)=false by rw[beq_eq_false_iff_ne];omega];simp
  unfold R5;rw[a,a,p7,p7]
theorem Ar6(sc us:By)(kd:Int)(nm:By)(v4 a b c d f g h i po:Int)(re:By)(m:smU sc us nm re=true)(k:ltN v4 4294967296=true)(l:ok8 a b c d f g h i=true)(n:S9 po=true) :
  ∃r H,Yv LF sc us kd nm v4 a b c d f g h i po re (λu o=>rv (.s (.bool u)) o)=rv r H/\r.stab [] H = .s (.bool (R5 (mkU sc us kd nm v4 (n8 a b c d f g h i) po re))):=by
 have v:=Cd4 (kd:=kd) m k l n;unfold Yv;rw[<-Dy4,m,k,l,n];simp only[vl,cond_true];rw[J8,cond_true];have q:=Qh (Fm (mkU sc us kd nm v4 (n8 a b c d f g h i) po re));have j:=PT (sc:=sc) (us:=us) (kd:=kd) (nm:=nm) (po:=po) (re:=re) k l q;simp only[Pn sc,Pn us,Pn nm,Pn re,Bf kd,Bf v4,Bf a,Bf b,Bf c,Bf d,Bf f,Bf g,Bf h,Bf i,Bf po] at j;rw[j];generalize C1 (Fm (mkU sc us kd nm v4 (n8 a b c d f g h i) po re))=p;obtain⟨t,e⟩:=p;by_cases j:e=0
 ·subst j;exact⟨_,_,rfl,rfl⟩
 ·rw[show(uE (t,e)==(0:Int))=false by simpa using j,show(e==0)=false by simpa using j];exact⟨_,_,rfl,rfl⟩
theorem Bn7{u:T2}(h:R5 u=true):-1<=u.port:=by have a:=(Qh (W9 u)).port.1;simp only[R5,eqU,j5,beq_iff_eq] at h;omega
theorem Cx1(l m:By)(n:Int)(i:By)(v4 a b c d e f g h j:Int)(k:By)(p:smU l m i k=true)(q:ltN v4 4294967296=true)(t:ok8 a b c d e f g h=true)(u:S9 j=true) :
  ∃r H,Bx4 LF l m n i v4 a b c d e f g h j k (λw o=>rv (.s (.str w)) o)=rv r H/\r.stab [] H = .s (.str (Sl (mkU l m n i v4 (n8 a b c d e f g h) j k))):=by
 unfold Bx4 Sl;rw[p,q,t,u];cases v:R5 (mkU l m n i v4 (n8 a b c d e f g h) j k) with
 | false=>exact⟨_,_,rfl,rfl⟩
 | true=>
  rw[SM (Bn7 v)];exact⟨_,_,rfl,rfl⟩
section
theorem Aw0:B3 a8 GX 58 IV:=xf [] (JY LF) AI rfl ⟨Av9,Do2,Bo1,trivial⟩ rfl (by kernel_rfl) follows λargs=>by
 unfold AI;split
 ·rename_i n o j k v4 a b c d f g h i l m;exact λp=>λt=>λu=>λv=>(let⟨r,H,e,q⟩:=Cb2 n o j k v4 a b c d f g h i l m p t u v;⟨rfl,rfl,rfl,r,H,(Cb1 LF noY () 0 n o j k v4 a b c d f g h i l m).trans e,q⟩)
 ·trivial
theorem Bo4:B3 a8 GX 54 IW:=xf [] (Uj LF) Pc rfl ⟨Aw0,Bz3,trivial⟩ rfl (by kernel_rfl) follows λargs=>by
 unfold Pc;split
 ·rename_i n o j k v4 a b c d f g h i l m;exact λp=>λt=>λu=>λv=>(let⟨r,H,e,q⟩:=Ar6 n o j k v4 a b c d f g h i l m p t u v;⟨rfl,rfl,rfl,r,H,(Ar5 LF noY () 0 n o j k v4 a b c d f g h i l m).trans e,q⟩)
 ·trivial
theorem Do8:B3 a8 GX 32 UV:=xf [] (WY LF) IP rfl ⟨Bo4,Aw0,trivial⟩ rfl (by kernel_rfl) follows λargs=>by
 unfold IP;split
 ·rename_i n o j k v4 a b c d f g h i l m;exact λp=>λt=>λu=>λv=>(let⟨r,H,e,q⟩:=Cx1 n o j k v4 a b c d f g h i l m p t u v;⟨rfl,rfl,rfl,r,H,(Cx0 LF noY () 0 n o j k v4 a b c d f g h i l m).trans e,q⟩)
 ·trivial
end
section
variable {Z R : Type} (L : Nat) (Q : G2) (Y : Yh Z) (s : Z) (k : Out -> St Z -> Option R)
noncomputable abbrev Ae5:Code:=C7 x5
noncomputable def He(L:Nat):Cfg:=B7 L [19] (A2 [(2,[0,0,2,0])]) [] (A2 [(6,[4]),(3,[0,0,3]),(5,[4]),(4,[0,0,3,12]),(2,[0,0,3,3]),(1,[0,0,3]),(0,[0,0])]) [] (A2 [(0,[]),(1,[0,0,3])]) (some [4]) [] [] []
noncomputable def Dt{R:Type}(L n:Nat)(n0:Int)(d c:Bool)(b:LL)(a:Int)(e:Unit->Option R)(f:Unit->Option R):Option R:=match n with|0=>none|n+1=>cond (ltI a (b.length:Int)) (cond (inR a b.length) (cond (okE Ov b (p5 a) 0) (cond (ltI n0 (↑(b9 (gX b (p5 a) 0)):Int)) (e ()) (Dt L n n0 d c b (A1 (a+1)) e f)) none) none) (f ())
theorem XZ(n n0 l_z1 l_t2 l3 i4):D0 0 ((He L).keep 2) (bd (He L) Q Y (cd [1,0,1,0,0] Ae5)) n ⟨gp [(0,pI n0),(0,.s (.sl l_z1 l_t2 1 l3)),(3,pI i4)] 13,[],s⟩ k =
 Dt L n n0 l_z1 l_t2 l3 i4 (λ_=>k .ret ⟨gp [(4,pB false)] 14,[],s⟩) (λ_=>k (.exit 0) ⟨gp [] 19,[],s⟩):=by
 induction n generalizing n0 l_z1 l_t2 l3 i4 with
 | zero=>rfl
 | succ n a=>rw[Dt];simp only[<-a];kernel_rfl
noncomputable def XY{R:Type}(L:Nat)(n0:Int)(b a:Bool)(d:LL)(c:Bool->Option R):Option R:=Dt L L n0 b a d 0 (λ_=>c false) (λ_=>c true)
theorem B41(d:Nat)(n0 l_z1 l_t2 l3):evC (He L) (d+1) Z Y 19 [pI n0,.s (.sl l_z1 l_t2 1 l3)] [] s=XY L n0 l_z1 l_t2 l3 (λa=>some (pB a,[],s)):=by refine(evE (fn:=x5) (by kernel_rfl)).trans ?_;generalize evC (He L) d=Q;unfold XY;exact(j2 (by kernel_rfl) ((XZ L Q Y s (E4 0 (E1 (He L) Q Y (cd [1,1] Ae5) (F3 (He L) x5))) L n0 l_z1 l_t2 l3 0).trans (by kernel_rfl)))
end
end
section
open Go Go.Proofs Go.Sort
set_option maxRecDepth 100000
theorem EG{R:Type}(n:Int)(z t:Bool)(l:List By)(c d:Unit->Option R)(j:l.length<=1000000000):∀(r:List By) (i m:Nat),l.drop i=r->r.length<m->Dt LF m n z t (D5 l) (i:Int) c d=if Cx n r then d () else c ()
 | [],i,m,h,b=>by
  obtain⟨m,rfl⟩:∃q,m=q+1:=⟨m-1,by simp at b;omega⟩
  rw[Dt];have:l.length<=i:=o9.1 h;rw[E6 (by rw[F2];omega)];rfl
 | x::r,i,m,h,b=>by
  obtain⟨m,rfl⟩:∃q,m=q+1:=⟨m-1,by simp at b;omega⟩
  rw[Dt];have a:i<l.length:=Decidable.byContradiction λg=>by
   rw[o9.2 (by omega)] at h;cases h
  have o:l.getD i []=x:=by
   have:=o0 a;rw[h] at this;rw[j9,o5 a];exact(w6 this).1.symm
  have k:l.drop (i+1)=r:=by
   have:=o0 a;rw[h] at this;exact(w6 this).2.symm
  rw[B9 (by rw[F2];omega),cond_true,K7 (by omega) (by rw[F2];omega),cond_true,p4,R1 a,cond_true,V3,o];have e:Cx n (x::r)=(!(ltI n (x.length:Int))&&Cx n r):=rfl;rw[e];by_cases f:n<(x.length:Int)
  ·rw[B9 f];rfl
  ·rw[A6,cond_false,A7,j4,Bool.true_and];exact EG n z t l c d j r (i+1) m k (by simp at b;omega)
theorem Aj4{R:Type}{b:Bool->Option R}(n:Int)(z t:Bool)(l:LL)(c:l.all isS=true)(d:A3 l.length=true):XY LF n z t l b=b (Cx n (l.map elS)):=by
 have e:=C5;have a:=M5 d;rw[Aa2 c] at a ⊢;generalize l.map elS=q at a ⊢;rw[F2] at a;unfold XY;rw[show(0:Int)=((0:Nat):Int) from rfl,EG n z t q _ _ a q 0 LF rfl (by omega)];have:b8 elS (D5 q)=q:=by
  unfold D5;rw[x3];exact w8 (λ_=>rfl) q
 rw[this];cases Cx n q<;>rfl
end
section
open Go Go.Proofs
set_option maxRecDepth 100000
section
theorem C34:B3 a8 GX 19 Ad1:=xf [] (He LF) Zy rfl trivial rfl (by kernel_rfl) follows λargs=>by
 unfold Zy;split
 ·rename_i n b a l;exact λc=>λd=>⟨rfl,rfl,rfl,_,_,(B41 LF noY () 0 n b a l).trans (Aj4 n b a l c d),rfl⟩
 ·trivial
end
end
section
open Go
def ofB(u:T2):Bool:=H9 u.sch&&R5 u
structure OC where
 s:By
 k:Int
 n:By
 v:Int
 a:List Int
 p:Int
 b:Bool
def ofC(i n:By)(j:Int)(k:By)(v4 a b c d e f g h l:Int)(m:By):OC:=
 cond (ofB (mkU i n j k v4 (n8 a b c d e f g h) l m)) ⟨i,j,k,v4,[a,b,c,d,e,f,g,h],prt i l,true⟩ ⟨[],0,[],0,[0,0,0,0,0,0,0,0],0,false⟩
abbrev oS(c:OC):By:=c.s
abbrev oK(c:OC):Int:=c.k
abbrev oN(c:OC):By:=c.n
abbrev oV(c:OC):Int:=c.v
abbrev oA(c:OC)(i:Nat):Int:=c.a.getD i 0
abbrev oP(c:OC):Int:=c.p
abbrev oB(c:OC):Bool:=c.b
def D60:By:=[108,111,99,97,108,104,111,115,116]
def Xr(i:Int)(j:By)(v4 a b c d e f g h:Int):Bool:=
 cond (K8 (mkH i j v4 (n8 a b c d e f g h))) (cond (i==2) (Qp .u32 v4 24==127) (cond (i==3) ((a==0)&&((b==0)&&((c==0)&&((d==0)&&((e==0)&&((f==0)&&((g==0)&&((h==1)&&true)))))))) (Mj D60 j))) false
def Br9:By:=[102,105,108,101]
def Az4:By:=[97,98,111,117,116]
def Kj(i n:By)(k:Int)(l:By)(v4 a b c d e f g h m:Int)(j:By):Bool:=
 cond (R5 (mkU i n k l v4 (n8 a b c d e f g h) m j)) (cond (i==Ci||(i==Wf||i==Br9)) true (cond (i==Az4) (j==[98,108,97,110,107]||j==[115,114,99,100,111,99]) (cond (H9 i) (Xr k l v4 a b c d e f g h) false))) false
def Br(n:Int):Bool:=!ltI n 1&&!ltI 22 n
def A25(n:Int)(a:Bool):Int:=cond (n==4) 1 (cond (n==2||(n==20||(n==9&&!a))) 2 (cond (Br n) 3 0))
def B34(l:List By)(s:By):Int:=match l.findIdx? (· == s) with|some i=>(i:Int)|none=>-1
def B22(l:List By)(s:By):Bool:=l.any (· == s)
def Ak6(l:List By)(h:B4):Bool:=K8 h&&B22 l (R9 h)
structure DV where
 a:Int
 r:Int
 u:By
 e:Int
abbrev dA(d:DV):Int:=d.a
abbrev dR(d:DV):Int:=d.r
abbrev dU(d:DV):By:=d.u
abbrev dE(d:DV):Int:=d.e
def Br8:By:=[100,97,116,97]
def On(i o:By)(j:Int)(k:By)(v4 a b c d e f g h m:Int)(n:By)(p:Int)(r t up q:Bool)(l:List By)(u:Int):DV:=
 cond (S6 i&&u !=0) ⟨2,2,Sl (mkU (upS i) o j k v4 (n8 a b c d e f g h) (upP i m) n),0⟩
 (cond (Kj i o j k v4 a b c d e f g h m n||i==Br8) ⟨1,1,Sl (mkU i o j k v4 (n8 a b c d e f g h) m n),0⟩
 (cond (S6 i&&(up&&(p !=4||Ak6 l (mkH j k v4 (n8 a b c d e f g h))))) ⟨2,3,Sl (mkU (upS i) o j k v4 (n8 a b c d e f g h) (upP i m) n),0⟩
 (cond (p==4||!t) ⟨1,6,Sl (mkU i o j k v4 (n8 a b c d e f g h) m n),0⟩
 (cond (S6 i&&(A25 p r==2&&(j==1&&!q))) ⟨2,4,Sl (mkU (upS i) o j k v4 (n8 a b c d e f g h) (upP i m) n),0⟩
 ⟨3,5,[],0⟩))))
def okD(d:DV):DV:=⟨d.a,d.r,d.u,0⟩
def BH(o p:By)(j:Int)(k:By)(v4 a b c d e f g h m:Int)(n:By)(i:Int)(r t up q:Bool)(l:List By)(u:Int):DV:=
 cond (R5 (mkU o p j k v4 (n8 a b c d e f g h) m n)) (cond (Br i) (okD (On o p j k v4 a b c d e f g h m n i r t up q l u)) ⟨0,0,[],2⟩) ⟨0,0,[],1⟩
end
section
open Go Go.Proofs
set_option maxRecDepth 100000
theorem Cz4{a:LL}(h:∀b∈a,Ty.ofL [.str] b):a.all isS=true:=by rw[p6];intro b c;have:=h b c;simp only[Ty.ofL,Ty.of] at this;obtain⟨_,_,rfl,⟨l,rfl,_⟩,rfl⟩:=this;rfl
theorem C68{P:Program}{t:Nat}{v:PV}(h:Sp P t v)(e:Fd P 20 t=some [.bool,.bool,.bool,.bool,.slice [.str]])(m:Od P t=true) :
  ∃g f up c z l,v = .agg [.s (.bool g),.s (.bool f),.s (.bool up),.s (.bool c),.s (.sl z false 1 l)]/\l.all isS=true:=by
 obtain⟨n,l,i,j,b⟩:=h;rw[e] at i;obtain rfl:=j7 i;simp only[Ty.ofL] at j;obtain⟨_,_,rfl,⟨g,rfl⟩,_,_,rfl,⟨f,rfl⟩,_,_,rfl,⟨up,rfl⟩,_,_,rfl,⟨c,rfl⟩,x,_,rfl,k,rfl⟩:=j;simp only[Ty.of,j6,o7] at k;have⟨z,l,ex,hl⟩:∃z l,x = .sl z false 1 l/\l.all isS=true:=by
  rcases k with rfl|⟨d,rfl,_,a⟩
  ·exact⟨true,[],rfl,rfl⟩
  ·exact⟨false,d,rfl,Cz4 a⟩
 subst ex;rcases b with⟨_,rfl⟩|⟨b,_⟩
 ·exact⟨g,f,up,c,z,l,rfl,hl⟩
 ·rw[m] at b;cases b
theorem C67{P:Program}{t:Nat}{v:PV}(h:Sp P t v)(e:Fd P 20 t=some [.int .i64,.str,.bool])(i:Od P t=true) :
  ∃d b c,v = .agg [.s (.int .i64 d),.s (.str b),.s (.bool c)]:=by
 obtain⟨j,l,f,g,a⟩:=h;rw[e] at f;obtain rfl:=j7 f;simp only[Ty.ofL] at g;obtain⟨_,_,rfl,⟨d,rfl,_,_⟩,_,_,rfl,⟨b,rfl,_⟩,_,_,rfl,⟨c,rfl⟩,rfl⟩:=g;rcases a with⟨_,rfl⟩|⟨a,_⟩
 ·exact⟨d,b,c,rfl⟩
 ·rw[i] at a;cases a
section
def D59:List PV->Tr
 | [.agg [.s (.str l),.s (.str m),.s (.int .i64 n),.s (.str i),.s (.int .u32 v4),.s (.int .u16 a),.s (.int .u16 b),.s (.int .u16 c),.s (.int .u16 d),.s (.int .u16 e),.s (.int .u16 f),.s (.int .u16 g),.s (.int .u16 h),.s (.int .i64 j),.s (.str k)]]=>.need (smU l m i k) (.need (ltN v4 4294967296) (.need (ok8 a b c d e f g h) (.need (S9 j) (.ret (.tup [.agg [.s (.str (oS (ofC l m n i v4 a b c d e f g h j k))),.s (.int .i64 (oK (ofC l m n i v4 a b c d e f g h j k))),.s (.str (oN (ofC l m n i v4 a b c d e f g h j k))),.s (.int .u32 (oV (ofC l m n i v4 a b c d e f g h j k))),.s (.int .u16 (oA (ofC l m n i v4 a b c d e f g h j k) 0)),.s (.int .u16 (oA (ofC l m n i v4 a b c d e f g h j k) 1)),.s (.int .u16 (oA (ofC l m n i v4 a b c d e f g h j k) 2)),.s (.int .u16 (oA (ofC l m n i v4 a b c d e f g h j k) 3)),.s (.int .u16 (oA (ofC l m n i v4 a b c d e f g h j k) 4)),.s (.int .u16 (oA (ofC l m n i v4 a b c d e f g h j k) 5)),.s (.int .u16 (oA (ofC l m n i v4 a b c d e f g h j k) 6)),.s (.int .u16 (oA (ofC l m n i v4 a b c d e f g h j k) 7)),.s (.int .i64 (oP (ofC l m n i v4 a b c d e f g h j k)))],.s (.bool (oB (ofC l m n i v4 a b c d e f g h j k)))]) []))))
 | _=>.fail
def HZ:List PV->Tr
 | [.agg [.s (.int .i64 j),.s (.str i),.s (.int .u32 v4),.s (.int .u16 a),.s (.int .u16 b),.s (.int .u16 c),.s (.int .u16 d),.s (.int .u16 e),.s (.int .u16 f),.s (.int .u16 g),.s (.int .u16 h)]]=>.need (A3 (b9 i)) (.need (ltN v4 4294967296) (.need (ok8 a b c d e f g h) (.ret (.s (.bool (Xr j i v4 a b c d e f g h))) [])))
 | _=>.fail
def Bp9(args:List PV):Tr:=HZ (C2 [[0,0,0,0,0,0,0,0,0,0,0]] args)
def AA:List PV->Tr
 | [.agg [.s (.str l),.s (.str m),.s (.int .i64 n),.s (.str i),.s (.int .u32 v4),.s (.int .u16 a),.s (.int .u16 b),.s (.int .u16 c),.s (.int .u16 d),.s (.int .u16 e),.s (.int .u16 f),.s (.int .u16 g),.s (.int .u16 h),.s (.int .i64 j),.s (.str k)]]=>.need (smU l m i k) (.need (ltN v4 4294967296) (.need (ok8 a b c d e f g h) (.need (S9 j) (.ret (.s (.bool (Kj l m n i v4 a b c d e f g h j k))) []))))
 | _=>.fail
def Ad2(args:List PV):Tr:=AA (C2 [[0,0,0,0,0,0,0,0,0,0,0,0,0,0,0]] args)
def Bz9:List PV->Tr
 | [.agg [.s (.int .i64 j),.s (.str i),.s (.int .u32 v4),.s (.int .u16 a),.s (.int .u16 b),.s (.int .u16 c),.s (.int .u16 d),.s (.int .u16 e),.s (.int .u16 f),.s (.int .u16 g),.s (.int .u16 h)]]=>.need (A3 (b9 i)) (.need (ltN v4 4294967296) (.need (ok8 a b c d e f g h) (.ret (.s (.bool (Xr j i v4 a b c d e f g h))) [])))
 | _=>.fail
def Ci5(args:List PV):Tr:=Bz9 (C2 [[0,0,0,0,0,0,0,0,0,0,0]] args)
end
section
def Zs:List PV->Tr
 | [.s (.int .i64 n)]=>.ret (.s (.bool (Br n))) []
 | _=>.fail
def HF(args:List PV):Tr:=Zs (C2 [[0]] args)
def TA:List PV->Tr
 | [.s (.int .i64 n),.s (.bool a)]=>.ret (.s (.int .i64 (A25 n a))) []
 | _=>.fail
def Cg9(args:List PV):Tr:=TA (C2 [[0],[0]] args)
def Tj:List PV->Tr
 | [.s (.int .i64 n)]=>.ret (.s (.bool (Br n))) []
 | _=>.fail
def Rd(args:List PV):Tr:=Tj (C2 [[0]] args)
def JC:List PV->Tr
 | [.s (.sl b a 1 l),.s (.str s)]=>.need (j0 l isS) (.need (A3 (b9 l)) (.ret (.s (.int .i64 (B34 (b8 elS l) s))) []))
 | _=>.fail
def Br4(args:List PV):Tr:=JC (C2 [[1],[0]] args)
def JB:List PV->Tr
 | [.s (.sl b a 1 l),.s (.str s)]=>.need (j0 l isS) (.need (A3 (b9 l)) (.ret (.s (.bool (B22 (b8 elS l) s))) []))
 | _=>.fail
def Br3(args:List PV):Tr:=JB (C2 [[1],[0]] args)
def SY:List PV->Tr
 | [.agg [.s (.bool p),.s (.bool o),.s (.bool up),.s (.bool n),.s (.sl m k 1 l)],.agg [.s (.int .i64 j),.s (.str i),.s (.int .u32 v4),.s (.int .u16 a),.s (.int .u16 b),.s (.int .u16 c),.s (.int .u16 d),.s (.int .u16 e),.s (.int .u16 f),.s (.int .u16 g),.s (.int .u16 h)]]=>.need (j0 l isS) (.need (A3 (b9 l)) (.need (A3 (b9 i)) (.need (ltN v4 4294967296) (.need (ok8 a b c d e f g h) (.ret (.s (.bool (Ak6 (b8 elS l) (mkH j i v4 (n8 a b c d e f g h))))) [])))))
 | _=>.fail
def Cg8(args:List PV):Tr:=SY (C2 [[0,0,0,0,1],[0,0,0,0,0,0,0,0,0,0,0]] args)
def HY:List PV->Tr
 | [.agg [.s (.str m),.s (.str n),.s (.int .i64 r),.s (.str i),.s (.int .u32 v4),.s (.int .u16 a),.s (.int .u16 b),.s (.int .u16 c),.s (.int .u16 d),.s (.int .u16 e),.s (.int .u16 f),.s (.int .u16 g),.s (.int .u16 h),.s (.int .i64 j),.s (.str k)],.s (.int .i64 p),.s (.bool q),.agg [.s (.bool z),.s (.bool t),.s (.bool up),.s (.bool o),.s (.sl w v 1 l)],.agg [.s (.int .i64 u),.s (.str x),.s (.bool y)]]=>.need (smU m n i k) (.need (ltN v4 4294967296) (.need (ok8 a b c d e f g h) (.need (S9 j) (.need (j0 l isS) (.need (A3 (b9 l)) (.ret (.agg [.s (.int .i64 (dA (On m n r i v4 a b c d e f g h j k p q t up o (b8 elS l) u))),.s (.int .i64 (dR (On m n r i v4 a b c d e f g h j k p q t up o (b8 elS l) u))),.s (.str (dU (On m n r i v4 a b c d e f g h j k p q t up o (b8 elS l) u)))]) []))))))
 | _=>.fail
def Bp8(args:List PV):Tr:=HY (C2 [[0,0,0,0,0,0,0,0,0,0,0,0,0,0,0],[0],[0],[0,0,0,0,1],[0,0,0]] args)
def UC:List PV->Tr
 | [.agg [.s (.str m),.s (.str n),.s (.int .i64 r),.s (.str i),.s (.int .u32 v4),.s (.int .u16 a),.s (.int .u16 b),.s (.int .u16 c),.s (.int .u16 d),.s (.int .u16 e),.s (.int .u16 f),.s (.int .u16 g),.s (.int .u16 h),.s (.int .i64 j),.s (.str k)],.s (.int .i64 p),.s (.bool q),.agg [.s (.bool z),.s (.bool t),.s (.bool up),.s (.bool o),.s (.sl w v 1 l)],.agg [.s (.int .i64 u),.s (.str x),.s (.bool y)]]=>.need (smU m n i k) (.need (ltN v4 4294967296) (.need (ok8 a b c d e f g h) (.need (S9 j) (.need (j0 l isS) (.need (A3 (b9 l)) (.ret (.tup [.agg [.s (.int .i64 (dA (BH m n r i v4 a b c d e f g h j k p q t up o (b8 elS l) u))),.s (.int .i64 (dR (BH m n r i v4 a b c d e f g h j k p q t up o (b8 elS l) u))),.s (.str (dU (BH m n r i v4 a b c d e f g h j k p q t up o (b8 elS l) u)))],.s (.int .i64 (dE (BH m n r i v4 a b c d e f g h j k p q t up o (b8 elS l) u)))]) []))))))
 | _=>.fail
def Zz(args:List PV):Tr:=UC (C2 [[0,0,0,0,0,0,0,0,0,0,0,0,0,0,0],[0],[0],[0,0,0,0,1],[0,0,0]] args)
def HU:List PV->Tr
 | [.agg [.s (.bool e),.s (.bool d),.s (.bool up),.s (.bool c),.s (.sl b a 1 l)]]=>.need (j0 l isS) (.ret (.s (.bool ((o6 (b9 l) 20)&&(Cx (400:Int) (b8 elS l))))) [])
 | _=>.fail
def FT(args:List PV):Tr:=HU (C2 [[0,0,0,0,1]] args)
def Te:List PV->Tr
 | []=>.ret (.s (.bool true)) []
 | _=>.fail
def Ra(args:List PV):Tr:=Te (C2 [] args)
end
section
variable {Z R : Type} (L : Nat) (Q : G2) (Y : Yh Z) (s : Z) (k : Out -> St Z -> Option R)
noncomputable def JT(L:Nat):Cfg:=B7 L [52] (A2 []) [] (A2 [(1,[2]),(0,[0])]) [] (A2 []) (some [2]) [] [] []
noncomputable def XJ{R:Type}(L:Nat)(a:Int)(b:Bool->Option R):Option R:=cond (not (ltI a 1)) (b (not (ltI 22 a))) (b false)
theorem B14(d:Nat)(dest0):evC (JT L) (d+1) Z Y 52 [pI dest0] [] s=XJ L dest0 (λa=>some (pB a,[],s)):=by refine(evE (fn:=Tryz.f52) (by kernel_rfl)).trans ?_;generalize evC (JT L) d=Q;unfold XJ;kernel_rfl
noncomputable def A04(L:Nat):Cfg:=B7 L [89] (A2 []) [(52,HF)] (A2 [(12,[4]),(11,[4]),(10,[17]),(3,[4]),(6,[4]),(9,[4]),(8,[0,13]),(7,[0,0,9]),(5,[0,0,3,2]),(4,[0,0,3,2]),(2,[0,0,3,0]),(1,[0,0,3]),(0,[0,0])]) [52] (A2 [(0,[0])]) (some [4]) [] [] []
noncomputable def C81{R:Type}(L:Nat)(a:Int)(b:Bool)(c:Int->Option R):Option R:=cond (a==4) (c 1) (cond (a==2) (cond (a==2) (c 2) (cond (a==9) (cond (not b) (c 2) (cond (not (Br a)) (c 0) (c 3))) (cond (not (Br a)) (c 0) (c 3)))) (cond (a==20) (c 2) (cond (a==9) (cond (not b) (c 2) (cond (not (Br a)) (c 0) (c 3))) (cond (not (Br a)) (c 0) (c 3)))))
theorem C82(d:Nat)(dest0 imageSet1):evC (A04 L) (d+1) Z Y 89 [pI dest0,pB imageSet1] [] s=C81 L dest0 imageSet1 (λa=>some (pI a,[],s)):=by refine(evE (fn:=Tryz.f89) (by kernel_rfl)).trans ?_;generalize evC (A04 L) d=Q;unfold C81;kernel_rfl
noncomputable def BB(L:Nat):Cfg:=B7 L [30] (A2 []) [] (A2 [(1,[2]),(0,[0])]) [] (A2 []) (some [2]) [] [] []
noncomputable def GP{R:Type}(L:Nat)(a:Int)(b:Bool->Option R):Option R:=cond (not (ltI a 1)) (b (not (ltI 22 a))) (b false)
theorem Bc4(d:Nat)(dest0):evC (BB L) (d+1) Z Y 30 [pI dest0] [] s=GP L dest0 (λa=>some (pB a,[],s)):=by refine(evE (fn:=Tryz.f30) (by kernel_rfl)).trans ?_;generalize evC (BB L) d=Q;unfold GP;kernel_rfl
noncomputable abbrev Bs7:Code:=C7 w9
noncomputable def Mi(L:Nat):Cfg:=B7 L [171] (A2 [(2,[0,0,2,2,0])]) [] (A2 [(7,[4]),(6,[0,0,5,0]),(5,[4]),(4,[0,0,3,1,0,7]),(3,[0,0,3,1,0]),(2,[0,0,5,0,0]),(1,[0,0,5,0]),(0,[0,0])]) [] (A2 [(0,[]),(1,[0,0,5,0])]) (some [4]) [] [] []
noncomputable def Im{R:Type}(L n:Nat)(c b:Bool)(d:LL)(h:By)(g a:Int)(e:Int->Option R)(f:Unit->Option R):Option R:=match n with|0=>none|n+1=>cond (ltI a g) (cond (inR a d.length) (cond (okE Ov d (p5 a) 0) (cond (h==(gX d (p5 a) 0)) (e a) (Im L n c b d h g (A1 (a+1)) e f)) none) none) (f ())
theorem At6(n s_z0 s_t1 s2 v3 n4 n5):D0 0 ((Mi L).keep 2) (bd (Mi L) Q Y (cd [1,0,1,0,0] Bs7)) n ⟨gp [(0,.s (.sl s_z0 s_t1 1 s2)),(0,pS v3),(5,pI n4),(0,pI n5)] 10,[],s⟩ k =
 Im L n s_z0 s_t1 s2 v3 n4 n5 (λn0=>k .ret ⟨gp [(4,pI n0)] 14,[],s⟩) (λ_=>k (.exit 0) ⟨gp [] 19,[],s⟩):=by
 induction n generalizing s_z0 s_t1 s2 v3 n4 n5 with
 | zero=>rfl
 | succ n a=>rw[Im];simp only[<-a];kernel_rfl
noncomputable def Bx9{R:Type}(L:Nat)(b a:Bool)(d:LL)(e:By)(c:Int->Option R):Option R:=Im L L b a d e (d.length:Int) 0 c (λ_=>c (-1))
theorem Cz0(d:Nat)(s_z0 s_t1 s2 v3):evC (Mi L) (d+1) Z Y 171 [.s (.sl s_z0 s_t1 1 s2),pS v3] [] s=Bx9 L s_z0 s_t1 s2 v3 (λa=>some (pI a,[],s)):=by refine(evE (fn:=w9) (by kernel_rfl)).trans ?_;generalize evC (Mi L) d=Q;unfold Bx9;exact(j2 (by kernel_rfl) ((At6 L Q Y s (E4 0 (E1 (Mi L) Q Y (cd [1,1] Bs7) (F3 (Mi L) w9))) L s_z0 s_t1 s2 v3 (s2.length:Int) 0).trans (by kernel_rfl)))
noncomputable def XA(L:Nat):Cfg:=B7 L [126] (A2 []) [(171,Br4)] (A2 [(1,[4]),(0,[0,0])]) [171] (A2 []) (some [4]) [] [] []
noncomputable def Bx8{R:Type}(L:Nat)(d c:Bool)(b:LL)(f:By)(e:Bool->Option R):Option R:=cond (j0 b isS) (cond (A3 b.length) (vl (B34 (b8 elS b) f) λa=>e (not (ltI a 0))) none) none
theorem Cy8(d:Nat)(s_z0 s_t1 s2 v3):evC (XA L) (d+1) Z Y 126 [.s (.sl s_z0 s_t1 1 s2),pS v3] [] s=Bx8 L s_z0 s_t1 s2 v3 (λa=>some (pB a,[],s)):=by refine(evE (fn:=Tryz.f126) (by kernel_rfl)).trans ?_;generalize evC (XA L) d=Q;unfold Bx8;kernel_rfl
noncomputable def A02(L:Nat):Cfg:=B7 L [88] (A2 []) [(39,TP),(122,Aw7),(126,Br3)] (A2 [(1,[4]),(0,[2,0])]) [39,122,126] (A2 []) (some [4]) [] [] [] (nt:=[(58,4,9,1)])
noncomputable def C74{R:Type}(L:Nat)(q r t u j i:Bool)(n:LL)(o:Int)(l:By)(m a b c d e f g h:Int)(v:Bool->(List Blk)->Option R):Option R:=cond (A3 l.length) (cond (ltN m 4294967296) (cond (ok8 a b c d e f g h) (cond (K8 (mkH o l m (n8 a b c d e f g h))) (cond (A3 l.length) (cond (ltN m 4294967296) (cond (ok8 a b c d e f g h) (vl (R9 (mkH o l m (n8 a b c d e f g h))) λp=>cond (j0 n isS) (cond (A3 n.length) (v (B22 (b8 elS n) p) [(bCx q r t u j i n),(bH o l m a b c d e f g h)]) none) none) none) none) none) (v false [(bCx q r t u j i n),(bH o l m a b c d e f g h)])) none) none) none
theorem C75(d:Nat)(c0 c1 c2 c3 c_z4 c_t5 c6 h7 h8 h9 h10 h11 h12 h13 h14 h15 h16 h17):evC (A02 L) (d+1) Z Y 88 [(gCx c0 c1 c2 c3 c_z4 c_t5 c6),(gH h7 h8 h9 h10 h11 h12 h13 h14 h15 h16 h17)] [] s=C74 L c0 c1 c2 c3 c_z4 c_t5 c6 h7 h8 h9 h10 h11 h12 h13 h14 h15 h16 h17 (λb a=>some (pB b,a,s)):=by refine(evE (fn:=Tryz.f88) (by kernel_rfl)).trans ?_;generalize evC (A02 L) d=Q;unfold C74;kernel_rfl
noncomputable abbrev Iv:Code:=C7 p9
noncomputable def Cl(L:Nat):Cfg:=B7 L [53] (A2 []) [(84,Ay4),(85,Cj5),(86,Cj9),(87,Ad2),(88,Cg8),(89,Cg9)] (A2 [(13,[10]),(4,[10]),(6,[10]),(8,[10]),(10,[10]),(12,[10]),(11,[10,3,55]),(9,[1,0,2,2,1,0,1,0,46]),(7,[1,0,2,2,1,0,0,0,0,28]),(5,[1,0,2,2,1,0,0,0,0,18]),(3,[1,0,2,2,1,0,0,0,0,9]),(2,[1,0,2,2,0,0,0,0,0,0]),(1,[1,0,2,2,0,0,0,0]),(0,[1,0,2,2,0,0])]) [84,85,87,88,89] (A2 [(0,[10])]) (some [10]) [] [] [] (nt:=[(58,4,9,1)])
noncomputable def Xv{R:Type}(a A B:By)(u:Int)(C:By)(h i j l m n o p q r:Int)(v:By)(b c d e y x:Bool)(g:LL)(t:Int)(w:By)(f:Bool)(z:Blk->Blk->Blk->By->(List Blk)->Option R):Option R:=z (bU A B u C h i j l m n o p q r v) (bCx b c d e y x g) (bCv t w f) a []
abbrev LV(b:Code):Prop:=∀(k:Out->St Z->Option R) dest0 imageSet1 insecure2 document3 allow4 upgrade5 s6 s7 n8v s9 n10 n11 n12 n13 n14 n15 n16 n17 n18 n19 s20 b21 b22 b23 b24 z25 t26 l27 n28 s29 b30,A9 (Cl L) Q Y b ⟨gp [(1,pI dest0),(0,pB imageSet1),(2,.ptr 0 0 0),(2,.ptr 1 0 0),(1,.ptr 3 0 0),(0,pB insecure2),(0,pB document3),(0,pS allow4),(0,pS upgrade5),(28,pB true)] 48,[(bU s6 s7 n8v s9 n10 n11 n12 n13 n14 n15 n16 n17 n18 n19 s20),(bCx b21 b22 b23 b24 z25 t26 l27),(bCv n28 s29 b30),.box [pI (0:Int),pI (0:Int),pS e0]],s⟩ k=Xv upgrade5 s6 s7 n8v s9 n10 n11 n12 n13 n14 n15 n16 n17 n18 n19 s20 b21 b22 b23 b24 z25 t26 l27 n28 s29 b30 (λa c d f e=>k .ret ⟨gp [(10,.ptr 3 0 0)] 81,(a::c::d::.box [pI (2:Int),pI (3:Int),pS f]::e),s⟩)
theorem Ak2:LV (R:=R) L Q Y s (cd [1,1,1,0,0,1,1,1,1,1] Iv):=by intro k f b c a e d F G z H n o p q r t u v w x A g h i j D C m y B l;unfold Xv;kernel_rfl
noncomputable def La{R:Type}(H:Int)(A B z:Bool)(C a:By)(K:Bool)(F G:By)(D:Int)(u:By)(h i j l m n o p q r:Int)(v:By)(d c e b y x:Bool)(g:LL)(t:Int)(w:By)(f:Bool)(I:Blk->Blk->Blk->Int->Int->By->(List Blk)->Option R)(J:By->Bool->By->By->Int->By->Int->Int->Int->Int->Int->Int->Int->Int->Int->Int->By->Bool->Bool->Bool->Bool->Bool->Bool->LL->Int->By->Bool->Option R):Option R:=cond K (I (bU F G D u h i j l m n o p q r v) (bCx d c e b y x g) (bCv t w f) 2 3 a []) (cond z (I (bU F G D u h i j l m n o p q r v) (bCx d c e b y x g) (bCv t w f) 1 6 C []) (cond (not c) (I (bU F G D u h i j l m n o p q r v) (bCx d c e b y x g) (bCv t w f) 1 6 C []) (cond B (cond ((A25 H A)==2) (cond (D==1) (cond (not b) (I (bU F G D u h i j l m n o p q r v) (bCx d c e b y x g) (bCv t w f) 2 4 a []) (J a (not b) F G D u h i j l m n o p q r v d c e b y x g t w f)) (J a false F G D u h i j l m n o p q r v d c e b y x g t w f)) (J a false F G D u h i j l m n o p q r v d c e b y x g t w f)) (J a false F G D u h i j l m n o p q r v d c e b y x g t w f))))
abbrev LW(b:Code):Prop:=∀(k:Out->St Z->Option R) dest0 imageSet1 insecure2 document3 allow4 upgrade5 b6 s7 s8 h s10 c d e f g n16 n17 n18 n19 n20 s21 b22 b23 b24 b25 z26 t27 l28 n29 s30 b31,A9 (Cl L) Q Y b ⟨gp [(1,pI dest0),(0,pB imageSet1),(2,.ptr 0 0 0),(2,.ptr 1 0 0),(1,.ptr 3 0 0),(0,pB insecure2),(0,pB document3),(0,pS allow4),(0,pS upgrade5),(28,pB b6)] 48,[(bU s7 s8 h s10 c d e f g n16 n17 n18 n19 n20 s21),(bCx b22 b23 b24 b25 z26 t27 l28),(bCv n29 s30 b31),.box [pI (0:Int),pI (0:Int),pS e0]],s⟩ k=La dest0 imageSet1 insecure2 document3 allow4 upgrade5 b6 s7 s8 h s10 c d e f g n16 n17 n18 n19 n20 s21 b22 b23 b24 b25 z26 t27 l28 n29 s30 b31 (λz A B F r w C=>k .ret ⟨gp [(10,.ptr 3 0 0)] 81,(z::A::B::.box [pI F,pI r,pS w]::C),s⟩) (λa D I J r w G H t h p c d e f g u i j l m y x o q v n=>k .normal ⟨gp [(10,.ptr 3 0 0),(3,pS a),(55,pB D)] 21,[(bU I J r w G H t h p c d e f g u),(bCx i j l m y x o),(bCv q v n),.box [pI (0:Int),pI (0:Int),pS e0]],s⟩)
theorem Ak3:LW (R:=R) L Q Y s (cd [1,1,1,0,0,1,1,1,1,1] Iv):=by intro k f b c a e d F H I G z n o p q r t u v w x A g h i j D C m y B l;unfold La;kernel_rfl
noncomputable def Qe{R:Type}(z:Int)(d c b:Bool)(e a:By)(S:Bool)(F H:By)(G:Int)(p:By)(f g h i j l m n o r:Int)(t:By)(v w u x D C:Bool)(q:LL)(A:Int)(B:By)(y:Bool)(I:Blk->Blk->Blk->Int->Int->By->(List Blk)->Option R)(O:By->Bool->By->By->Int->By->Int->Int->Int->Int->Int->Int->Int->Int->Int->Int->By->Bool->Bool->Bool->Bool->Bool->Bool->LL->Int->By->Bool->Option R):Option R:=cond S (I (bU F H G p f g h i j l m n o r t) (bCx v w u x D C q) (bCv A B y) 2 2 a []) (cond (smU F H p t) (cond (ltN f 4294967296) (cond (ok8 g h i j l m n o) (cond (S9 r) (cond (Kj F H G p f g h i j l m n o r t) (I (bU F H G p f g h i j l m n o r t) (bCx v w u x D C q) (bCv A B y) 1 1 e []) (cond (F==[100,97,116,97]) (I (bU F H G p f g h i j l m n o r t) (bCx v w u x D C q) (bCv A B y) 1 1 e []) (cond c (cond u (cond (not b) (Xv a F H G p f g h i j l m n o r t v w u x D C q A B y (λJ K M P N=>I J K M 2 3 P N)) (cond (j0 q isS) (cond (A3 q.length) (cond (A3 p.length) (cond (ltN f 4294967296) (cond (ok8 g h i j l m n o) (La z d c b e a (Ak6 (b8 elS q) (mkH G p f (n8 g h i j l m n o))) F H G p f g h i j l m n o r t v w u x D C q A B y I O) none) none) none) none) none)) (La z d c b e a false F H G p f g h i j l m n o r t v w u x D C q A B y I O)) (La z d c b e a false F H G p f g h i j l m n o r t v w u x D C q A B y I O)))) none) none) none) none)
abbrev Uu(b:Code):Prop:=∀(k:Out->St Z->Option R) dest0 imageSet1 insecure2 document3 allow4 upgrade5 b6 s7 s8 h s10 c d e f g n16 n17 n18 n19 n20 s21 b22 b23 b24 b25 z26 t27 l28 n29 s30 b31,A9 (Cl L) Q Y b ⟨gp [(1,pI dest0),(0,pB imageSet1),(2,.ptr 0 0 0),(2,.ptr 1 0 0),(1,.ptr 3 0 0),(0,pB insecure2),(0,pB document3),(0,pS allow4),(0,pS upgrade5),(9,pB b6)] 67,[(bU s7 s8 h s10 c d e f g n16 n17 n18 n19 n20 s21),(bCx b22 b23 b24 b25 z26 t27 l28),(bCv n29 s30 b31),.box [pI (0:Int),pI (0:Int),pS e0]],s⟩ k=Qe dest0 imageSet1 insecure2 document3 allow4 upgrade5 b6 s7 s8 h s10 c d e f g n16 n17 n18 n19 n20 s21 b22 b23 b24 b25 z26 t27 l28 n29 s30 b31 (λz A B F r w C=>k .ret ⟨gp [(10,.ptr 3 0 0)] 81,(z::A::B::.box [pI F,pI r,pS w]::C),s⟩) (λa D I J r w G H t h p c d e f g u i j l m y x o q v n=>k .normal ⟨gp [(10,.ptr 3 0 0),(3,pS a),(55,pB D)] 21,[(bU I J r w G H t h p c d e f g u),(bCx i j l m y x o),(bCv q v n),.box [pI (0:Int),pI (0:Int),pS e0]],s⟩)
theorem Ak4(a:Code)(i:LV (R:=R) L Q Y s a)(e:LW (R:=R) L Q Y s a):Uu (R:=R) L Q Y s (cd [1,1,1,0,0,1] (G7 [1,1,1,0,0,1,1,1,1,1] a Iv)):=by intro k h c d b g f M J K I v l m n o p q r t u B D w x y z H G j C F A;unfold Qe;exact(j2 (by kernel_rfl) (A0 rfl (A0 (A0 (A0 (A0 (A0 rfl (A0 rfl (A0 (A0 (A0 ((i k h c d b g f J K I v l m n o p q r t u B D w x y z H G j C F A).trans (by kernel_rfl)) (A0 (A0 (A0 (A0 (A0 ((e k h c d b g f (Ak6 (b8 elS j) (mkH I v l (n8 m n o p q r t u))) J K I v l m n o p q r t u B D w x y z H G j C F A).trans (by kernel_rfl)) rfl) rfl) rfl) rfl) rfl)) ((e k h c d b g f false J K I v l m n o p q r t u B D w x y z H G j C F A).trans (by kernel_rfl))) ((e k h c d b g f false J K I v l m n o p q r t u B D w x y z H G j C F A).trans (by kernel_rfl))))) rfl) rfl) rfl) rfl)))
theorem Ak5:Uu (R:=R) L Q Y s (cd [1,1,1,0,0,1] Iv):=by intro k f b c a e d F H I G z n o p q r t u v w x A g h i j D C m y B l;exact j2 (by kernel_rfl) (Ak4 L Q Y s (cd [1,1,1,0,0,1,1,1,1,1] Iv) (Ak2 L Q Y s) (Ak3 L Q Y s) k f b c a e d F H I G z n o p q r t u v w x A g h i j D C m y B l)
noncomputable def Ak1{R:Type}(L:Nat)(u u1:By)(u2:Int)(u3:By)(u4 u5 u6 u7 u8 u9 d e f g:Int)(h:By)(b:Int)(a d8 d9 e1 e2 j i:Bool)(e3:LL)(c:Int)(l:By)(m:Bool)(k0:Int->Int->By->(List Blk)->Option R):Option R:=cond (smU u u1 u3 h) (cond (ltN u4 4294967296) (cond (ok8 u5 u6 u7 u8 u9 d e f) (cond (S9 g) (vl (Sl (mkU u u1 u2 u3 u4 (n8 u5 u6 u7 u8 u9 d e f) g h)) λe4=>cond (smU (upS u) u1 u3 h) (cond (ltN u4 4294967296) (cond (ok8 u5 u6 u7 u8 u9 d e f) (cond (S9 (upP u g)) (vl (Sl (mkU (upS u) u1 u2 u3 u4 (n8 u5 u6 u7 u8 u9 d e f) (upP u g) h)) λe5=>cond (S6 u) (Qe b a (S6 u) (b==4) e4 e5 (c !=0) u u1 u2 u3 u4 u5 u6 u7 u8 u9 d e f g h d8 d9 e1 e2 j i e3 c l m (λx y z n o r D=>k0 n o r (x::(y::(z::((Blk.box [(PV.s (SV.int .i64 n)),(PV.s (SV.int .i64 o)),(PV.s (SV.str r))])::D))))) (λv e6 c4 c5 V c6 W X a0 a1 a2 a3 a4 a5 a6 a7 c7 G H I J d6 d4 T a9 c8 K=>k0 3 5 e0 [(bU c4 c5 V c6 W X a0 a1 a2 a3 a4 a5 a6 a7 c7),(bCx G H I J d6 d4 T),(bCv a9 c8 K),(Blk.box [(PV.s (SV.int .i64 (3:Int))),(PV.s (SV.int .i64 (5:Int))),(PV.s (SV.str e0))])])) (Qe b a (S6 u) (b==4) e4 e5 false u u1 u2 u3 u4 u5 u6 u7 u8 u9 d e f g h d8 d9 e1 e2 j i e3 c l m (λA B C p q t F=>k0 p q t (A::(B::(C::((Blk.box [(PV.s (SV.int .i64 p)),(PV.s (SV.int .i64 q)),(PV.s (SV.str t))])::F))))) (λw e7 c9 d0 b0 d1 b1 b2 b3 b4 b5 b6 b7 c0 c1 c2 d2 M N O P d7 d5 U c3 d3 S=>k0 3 5 e0 [(bU c9 d0 b0 d1 b1 b2 b3 b4 b5 b6 b7 c0 c1 c2 d2),(bCx M N O P d7 d5 U),(bCv c3 d3 S),(Blk.box [(PV.s (SV.int .i64 (3:Int))),(PV.s (SV.int .i64 (5:Int))),(PV.s (SV.str e0))])]))) none) none) none) none) none) none) none) none
theorem Cr7(e:Code)(c:Uu (R:=PV × List Blk × Z) L Q Y s e)(v y:By)(z:Int)(A:By)(B C D F u8 G p q r t:Int)(u:By)(b:Int)(a j l m n g f:Bool)(o:LL)(d:Int)(h:By)(i:Bool):A9 (Cl L) Q Y (cd [] (G7 [1,1,1,0,0,1] e Iv)) ⟨[(gU v y z A B C D F u8 G p q r t u),pI b,pB a,(gCx j l m n g f o),(gCv d h i)]++tps 87,[],s⟩ (F3 (Cl L) p9)=Ak1 L v y z A B C D F u8 G p q r t u b a j l m n g f o d h i (λJ K M I=>some (.agg [pI J,pI K,pS M],I,s)):=by unfold Ak1;exact let H:=(E4 0 (E1 (Cl L) Q Y (cd [1,1,1,1] Iv) (F3 (Cl L) p9)));(j2 (by kernel_rfl) (A0 (A0 (A0 (A0 (A4 λw=>(A0 (A0 (A0 (A0 (A4 λx=>(A0 ((c H b a (S6 v) (b==4) w x (d !=0) v y z A B C D F u8 G p q r t u j l m n g f o d h i).trans (by kernel_rfl)) ((c H b a (S6 v) (b==4) w x false v y z A B C D F u8 G p q r t u j l m n g f o d h i).trans (by kernel_rfl)))) rfl) rfl) rfl) rfl)) rfl) rfl) rfl) rfl))
theorem Cr8(d:Nat)(u0 u1 u2 u3 u4 u5 u6 u7 u8 u9 u10 u11 u12 u13 u14 dest15 imageSet16 c17 c18 c19 c20 c_z21 c_t22 c23 cov24 cov25 cov26):evC (Cl L) (d+1) Z Y 53 [(gU u0 u1 u2 u3 u4 u5 u6 u7 u8 u9 u10 u11 u12 u13 u14),pI dest15,pB imageSet16,(gCx c17 c18 c19 c20 c_z21 c_t22 c23),(gCv cov24 cov25 cov26)] [] s=Ak1 L u0 u1 u2 u3 u4 u5 u6 u7 u8 u9 u10 u11 u12 u13 u14 dest15 imageSet16 c17 c18 c19 c20 c_z21 c_t22 c23 cov24 cov25 cov26 (λb c e a=>some (.agg [pI b,pI c,pS e],a,s)):=
 (evE (fn:=p9) (by kernel_rfl)).trans (j2 (by kernel_rfl) (Cr7 L (evC (Cl L) d) Y s (cd [1,1,1,0,0,1] Iv) (Ak5 L (evC (Cl L) d) Y s) u0 u1 u2 u3 u4 u5 u6 u7 u8 u9 u10 u11 u12 u13 u14 dest15 imageSet16 c17 c18 c19 c20 c_z21 c_t22 c23 cov24 cov25 cov26))
noncomputable def A14(L:Nat):Cfg:=B7 L [26] (A2 []) [(51,Rg),(52,HF),(53,Bp8)] (A2 [(5,[10,0]),(2,[10,0]),(4,[10,0]),(3,[1,0,2,2,0,0,6]),(1,[1,0,2,2,0,0,1]),(0,[1,0,2,2,0,0])]) [51,52] (A2 [(0,[1,0,2,2,0,0])]) (some [10,0]) [] [] [] (nt:=[(58,4,9,1)])
noncomputable def Dd7{R:Type}(L:Nat)(u v:By)(C:Int)(w:By)(x y z A u8 B g h i j:Int)(l:By)(m:Int)(b t p q r d c:Bool)(n:LL)(a:Int)(e:By)(f:Bool)(D:Int->Int->By->Int->(List Blk)->Option R):Option R:=cond (smU u v w l) (cond (ltN x 4294967296) (cond (ok8 y z A u8 B g h i) (cond (S9 j) (cond (not (R5 (mkU u v C w x (n8 y z A u8 B g h i) j l))) (D 0 0 e0 1 [(bU u v C w x y z A u8 B g h i j l),(bCx t p q r d c n),(bCv a e f),(Blk.box [(PV.s (SV.int .i64 (0:Int))),(PV.s (SV.int .i64 (0:Int))),(PV.s (SV.str e0))])]) (cond (not (Br m)) (D 0 0 e0 2 [(bU u v C w x y z A u8 B g h i j l),(bCx t p q r d c n),(bCv a e f),(Blk.box [(PV.s (SV.int .i64 (0:Int))),(PV.s (SV.int .i64 (0:Int))),(PV.s (SV.str e0))])]) (cond (smU u v w l) (cond (ltN x 4294967296) (cond (ok8 y z A u8 B g h i) (cond (S9 j) (cond (j0 n isS) (cond (A3 n.length) (vl (On u v C w x y z A u8 B g h i j l m b p q r (b8 elS n) a) λo=>D (dA o) (dR o) (dU o) 0 [(bU u v C w x y z A u8 B g h i j l),(bCx t p q r d c n),(bCv a e f),(Blk.box [(PV.s (SV.int .i64 (dA o))),(PV.s (SV.int .i64 (dR o))),(PV.s (SV.str (dU o)))])]) none) none) none) none) none) none))) none) none) none) none
theorem Dd8(d:Nat)(u0 u1 u2 u3 u4 u5 u6 u7 u8 u9 u10 u11 u12 u13 u14 dest15 imageSet16 c17 c18 c19 c20 c_z21 c_t22 c23 cov24 cov25 cov26):evC (A14 L) (d+1) Z Y 26 [(gU u0 u1 u2 u3 u4 u5 u6 u7 u8 u9 u10 u11 u12 u13 u14),pI dest15,pB imageSet16,(gCx c17 c18 c19 c20 c_z21 c_t22 c23),(gCv cov24 cov25 cov26)] [] s=Dd7 L u0 u1 u2 u3 u4 u5 u6 u7 u8 u9 u10 u11 u12 u13 u14 dest15 imageSet16 c17 c18 c19 c20 c_z21 c_t22 c23 cov24 cov25 cov26 (λb c e f a=>some (.tup [.agg [pI b,pI c,pS e],pI f],a,s)):=by refine(evE (fn:=Tryz.f26) (by kernel_rfl)).trans ?_;generalize evC (A14 L) d=Q;unfold Dd7;kernel_rfl
noncomputable def WL(L:Nat):Cfg:=B7 L [24] (A2 []) [(19,Ad1)] (A2 [(1,[2]),(0,[1])]) [19] (A2 []) (some [2]) [] [] [] (nt:=[(58,4,9,1)])
noncomputable def Bv0{R:Type}(L:Nat)(d e f g b a:Bool)(c:LL)(h:Bool->(List Blk)->Option R):Option R:=cond (not (ltI 20 (c.length:Int))) (cond (j0 c isS) (cond (A3 c.length) (h (Cx (400:Int) (b8 elS c)) [(bCx d e f g b a c)]) none) none) (h false [(bCx d e f g b a c)])
theorem Cq6(d:Nat)(c0 c1 c2 c3 c_z4 c_t5 c6):evC (WL L) (d+1) Z Y 24 [(gCx c0 c1 c2 c3 c_z4 c_t5 c6)] [] s=Bv0 L c0 c1 c2 c3 c_z4 c_t5 c6 (λb a=>some (pB b,a,s)):=by refine(evE (fn:=Tryz.f24) (by kernel_rfl)).trans ?_;generalize evC (WL L) d=Q;unfold Bv0;kernel_rfl
end
theorem Ag6{R:Type}{a:Bool->Option R}(n:Int):XJ LF n a=a (Br n):=by unfold XJ Br;cases ltI n 1<;>rfl
theorem ZE{R:Type}{a:Bool->Option R}(n:Int):GP LF n a=a (Br n):=by unfold GP Br;cases ltI n 1<;>rfl
theorem B06{R:Type}{b:Int->Option R}(n:Int)(a:Bool):C81 LF n a b=b (A25 n a):=by unfold C81 A25;cases n==4<;>cases n==2<;>cases n==20<;>cases n==9<;>cases a<;>cases Br n<;>rfl
theorem Bl3{R:Type}(z t:Bool)(l:List By)(v:By)(a:Int->Option R)(b:Unit->Option R)(k:l.length<=1000000000):∀(r i m:Nat),i+r=l.length->r<m->
  Im LF m z t (D5 l) v (l.length:Int) (i:Int) a b=match (l.drop i).findIdx? (· == v) with|some j=>a ((i+j:Nat):Int)|none=>b ():=by
 intro r
 induction r with
 | zero=>
  intro i m e f;obtain⟨m,rfl⟩:∃q,m=q+1:=⟨m-1,by omega⟩
  rw[Im,A6,List.drop_of_length_le (by omega)];rfl
 | succ r g=>
  intro i m e f;obtain⟨m,rfl⟩:∃q,m=q+1:=⟨m-1,by omega⟩
  have c:A1 ((i:Int)+1)=((i+1:Nat):Int):=by rw[A7];rfl
  have d:l.drop i=l.getD i []::l.drop (i+1):=by
   rw[j9,o5 (by omega),Option.getD_some,List.getElem_cons_drop]
  rw[Im,A8,K7 (by omega) (by rw[F2];omega),p4,R1 (by omega),V3,c,d,List.findIdx?_cons];simp only[cond_true];by_cases h:l.getD i []=v
  ·rw[h,beq_self_eq_true];simp
  ·rw[show(v==l.getD i [])=false by simpa using λq=>h q.symm,show(l.getD i []==v)=false by simpa using h,cond_false,g (i+1) m (by omega) (by omega)];cases (l.drop (i+1)).findIdx? (· == v) with
   | none=>rfl
   | some j=>simp[Nat.add_assoc,Nat.add_comm 1 j]
theorem Bl4{R:Type}{b:Int->Option R}(z t:Bool)(l:LL)(v:By)(c:l.all isS=true)(d:A3 l.length=true):Bx9 LF z t l v b=b (B34 (l.map elS) v):=by
 have f:=C5;have a:=M5 d;rw[Aa2 c] at a ⊢;generalize l.map elS=q at a ⊢;rw[F2] at a;have e:b8 elS (D5 q)=q:=by
  unfold D5;rw[x3];exact w8 (λ_=>rfl) q
 unfold Bx9 B34;rw[F2,e];refine(Bl3 z t q v _ _ a q.length 0 LF (by omega) (by omega)).trans ?_;rw[List.drop_zero];cases q.findIdx? (· == v) with
 | none=>rfl
 | some j=>
  show b ((0+j:Nat):Int)=b (j:Int);rw[Nat.zero_add]
theorem Db8(l:List By)(v:By):(!ltI (B34 l v) 0)=B22 l v:=by
 unfold B34 B22;cases h:l.findIdx? (· == v) with
 | none=>
  rw[List.findIdx?_eq_none_iff] at h;show(!ltI (-1) 0)=_;rw[A8];exact(List.any_eq_false.2 λx c=>by rw[h x c];simp).symm
 | some j=>
  show(!ltI (j:Int) 0)=_;rw[A6];exact(List.any_eq_true.2 (by
   obtain⟨a,b,_⟩:=List.findIdx?_eq_some_iff_getElem.1 h;exact⟨_,List.getElem_mem a,b⟩)).symm
theorem Bk9{R:Type}{a:Bool->Option R}(z t:Bool)(l:LL)(v:By)(b:l.all isS=true)(c:A3 l.length=true):Bx8 LF z t l v a=a (B22 (l.map elS) v):=by unfold Bx8;rw[b,c,<-Db8];rfl
theorem C76(x v up m z t:Bool)(l:LL)(j:Int)(i:By)(v4 a b c d e f g h:Int)(n:l.all isS=true)(o:A3 l.length=true)(p:A3 i.length=true)(q:ltN v4 4294967296=true)(u:ok8 a b c d e f g h=true) :
  ∃r H,C74 LF x v up m z t l j i v4 a b c d e f g h (λw k=>rv (.s (.bool w)) k)=rv r H/\r.stab [] H = .s (.bool (Ak6 (l.map elS) (mkH j i v4 (n8 a b c d e f g h)))):=by
 unfold C74 Ak6;rw[n,o,p,q,u];cases K8 (mkH j i v4 (n8 a b c d e f g h))<;>exact⟨_,_,rfl,rfl⟩
theorem Cq7(f d up b z t:Bool)(l:LL)(c:l.all isS=true) :
  ∃r H,Bv0 LF f d up b z t l (λe a=>rv (.s (.bool e)) a)=rv r H/\r.stab [] H = .s (.bool (o6 l.length 20&&Cx 400 (l.map elS))):=by
 unfold Bv0;by_cases h:l.length<=20
 ·rw[A6,c,J8,Nat.ble_eq_true_of_le h];exact⟨_,_,rfl,rfl⟩
 ·rw[A8,show o6 l.length 20=false by rw[Bool.eq_false_iff];intro q;exact h (o8 q)];exact⟨_,_,rfl,rfl⟩
theorem Dw6{a e c d:By}(h:smU a e c d=true):smU (upS a) e c d=true:=by
 obtain⟨f,g,i,j⟩:=Jo h;have:(upS a).length<=100000000:=by
  cases b:S6 a with
  | false=>rw[(By2 b 0).1];exact f
  | true=>rcases Jc b with rfl|rfl<;>decide
 simp only[smU,j5,Nat.ble_eq];exact⟨⟨⟨this,g⟩,i⟩,j⟩
theorem Cr9(a u:By)(o:Int)(b:By)(v4 e f g h j k m n p:Int)(q:By)(v:Int)(y Y A up w z t:Bool)(l:LL)(B:Int)(L:By)(M:Bool)(C:smU a u b q=true)(P:ltN v4 4294967296=true)(Q:ok8 e f g h j k m n=true)(I:S9 p=true)(R:l.all isS=true)(S:A3 l.length=true) :
  ∃r H,Ak1 LF a u o b v4 e f g h j k m n p q v y Y A up w z t l B L M (λV W X J=>rv (.agg [.s (.int .i64 V),.s (.int .i64 W),.s (.str X)]) J)=rv r H/\r.stab [] H = .agg [.s (.int .i64 (dA (On a u o b v4 e f g h j k m n p q v y A up w (l.map elS) B))),.s (.int .i64 (dR (On a u o b v4 e f g h j k m n p q v y A up w (l.map elS) B))),.s (.str (dU (On a u o b v4 e f g h j k m n p q v y A up w (l.map elS) B)))]:=by
 obtain⟨l1,l2,l3,l4⟩:=Jo C;have Z:A3 b.length=true:=J8;have N:=Dw6 C;have O:=Dx2 (s:=a) I;unfold Ak1 Qe La Xv On;simp only[vl,C,P,Q,I,R,S,Z,N,O,cond_true,show(a==([100,97,116,97]:List UInt8))=(a==Br8) from rfl,bne];generalize Sl (mkU a u o b v4 (n8 e f g h j k m n) p q)=F;generalize Sl (mkU (upS a) u o b v4 (n8 e f g h j k m n) (upP a p) q)=G;generalize Kj a u o b v4 e f g h j k m n p q=T;generalize Ak6 (l.map elS) (mkH o b v4 (n8 e f g h j k m n))=U;generalize S6 a=i;generalize (a==Br8)=d;generalize (B==0)=x;generalize (v==4)=D;generalize (A25 v y==2)=c;generalize (o==1)=K;cases i<;>cases x<;>cases T<;>cases d<;>first|exact⟨_,_,rfl,rfl⟩|(cases up<;>cases D<;>cases A<;>first|exact⟨_,_,rfl,rfl⟩|(cases U<;>cases c<;>cases K<;>cases w<;>exact⟨_,_,rfl,rfl⟩))
theorem Dd9(m n:By)(p:Int)(i:By)(v4 a b c d e f g h j:Int)(k:By)(o:Int)(u N v up q z t:Bool)(l:LL)(w:Int)(y:By)(A:Bool)(B:smU m n i k=true)(C:ltN v4 4294967296=true)(D:ok8 a b c d e f g h=true)(F:S9 j=true)(G:l.all isS=true)(I:A3 l.length=true) :
  ∃r H,Dd7 LF m n p i v4 a b c d e f g h j k o u N v up q z t l w y A (λJ K L M x=>rv (.tup [.agg [.s (.int .i64 J),.s (.int .i64 K),.s (.str L)],.s (.int .i64 M)]) x)=rv r H/\r.stab [0,0] H = .tup [.agg [.s (.int .i64 (dA (BH m n p i v4 a b c d e f g h j k o u v up q (l.map elS) w))),.s (.int .i64 (dR (BH m n p i v4 a b c d e f g h j k o u v up q (l.map elS) w))),.s (.str (dU (BH m n p i v4 a b c d e f g h j k o u v up q (l.map elS) w)))],.s (.int .i64 (dE (BH m n p i v4 a b c d e f g h j k o u v up q (l.map elS) w)))]:=by
 unfold Dd7 BH;simp only[vl,B,C,D,F,G,I,cond_true];cases R5 (mkU m n p i v4 (n8 a b c d e f g h) j k)<;>cases Br o<;>exact⟨_,_,rfl,rfl⟩
section
variable {Z R : Type} (L : Nat) (Q : G2) (Y : Yh Z) (s : Z) (k : Out -> St Z -> Option R)
noncomputable def PQ(L:Nat):Cfg:=B7 L [25] (A2 []) [(28,Gj),(26,Zz)] (A2 [(7,[0]),(6,[6,0,0,0,0,0]),(5,[1,2,1,0,0,0]),(4,[1,0,1,1,0]),(3,[1,0,1]),(2,[1,0]),(1,[1]),(0,[])]) [] (A2 []) (some [0]) [] [] [] (nt:=[(58,4,9,1)])
noncomputable def Cm1(L:Nat):Cfg:=B7 L [7] (A2 []) [(24,FT),(25,Ra),(28,Gj),(29,C63),(26,Zz),(30,Rd),(31,Ci5)] (A2 [(11,[10]),(10,[10]),(9,[1,6,2,1,46]),(8,[10]),(7,[1,6,0,1,1,0,32]),(6,[1,6,0,1,1,0]),(5,[10]),(4,[1,0,5,0,1,23]),(3,[1,0,5,0,1,0]),(2,[10]),(1,[0,0,0,5,0,12]),(0,[0,0,0,5,0])]) [24,25,29,30,31] (A2 []) (some [10]) [] [] [] (nt:=[(58,4,9,1)])
noncomputable def lmn{R:Type}(L:Nat)(q:By)(n:Int)(o m i j l g f:Bool)(h:LL)(c:Int)(d:By)(e:Bool)(p:Bool->(List Blk)->Option R):Option R:=cond (ltI 1500 (q.length:Int)) (p true [(bCx m i j l g f h),(bCv c d e)]) (cond (j0 h isS) (cond (not ((o6 h.length 20)&&(Cx (400:Int) (b8 elS h)))) (p true [(bCx m i j l g f h),(bCv c d e)]) (cond (A3 q.length) (vl (B8 q) λa=>cond ((uE a)!=0) (p true [(bCx m i j l g f h),(bCv c d e),(bQ a)]) (cond (not (S6 (uS a))) (p true [(bCx m i j l g f h),(bCv c d e),(bQ a)]) (cond (smU (uS a) (uU a) (uN a) (uR a)) (cond (ltN (uV a) 4294967296) (cond (okQ a) (cond (S9 (uP a)) (cond (j0 h isS) (cond (A3 h.length) (vl (BH (uS a) (uU a) (uK a) (uN a) (uV a) (uA a 0) (uA a 1) (uA a 2) (uA a 3) (uA a 4) (uA a 5) (uA a 6) (uA a 7) (uP a) (uR a) n o i j l (b8 elS h) c) λb=>cond ((dE b)!=0) (cond ((dE b)==2) (cond (not (Br n)) (p true [(bCx m i j l g f h),(bCv c d e),(bQ a),(Blk.box [(PV.s (SV.int .i64 (dA b))),(PV.s (SV.int .i64 (dR b))),(PV.s (SV.str (dU b)))])]) (p false [(bCx m i j l g f h),(bCv c d e),(bQ a),(Blk.box [(PV.s (SV.int .i64 (dA b))),(PV.s (SV.int .i64 (dR b))),(PV.s (SV.str (dU b)))])])) (p false [(bCx m i j l g f h),(bCv c d e),(bQ a),(Blk.box [(PV.s (SV.int .i64 (dA b))),(PV.s (SV.int .i64 (dR b))),(PV.s (SV.str (dU b)))])])) (cond (c !=0) (cond ((dA b)==2) (cond ((dR b)==2) (p true [(bCx m i j l g f h),(bCv c d e),(bQ a),(Blk.box [(PV.s (SV.int .i64 (dA b))),(PV.s (SV.int .i64 (dR b))),(PV.s (SV.str (dU b)))])]) (p false [(bCx m i j l g f h),(bCv c d e),(bQ a),(Blk.box [(PV.s (SV.int .i64 (dA b))),(PV.s (SV.int .i64 (dR b))),(PV.s (SV.str (dU b)))])])) (p false [(bCx m i j l g f h),(bCv c d e),(bQ a),(Blk.box [(PV.s (SV.int .i64 (dA b))),(PV.s (SV.int .i64 (dR b))),(PV.s (SV.str (dU b)))])])) (cond ((dA b)!=1) (p true [(bCx m i j l g f h),(bCv c d e),(bQ a),(Blk.box [(PV.s (SV.int .i64 (dA b))),(PV.s (SV.int .i64 (dR b))),(PV.s (SV.str (dU b)))])]) (cond (A3 (b9 (uN a))) (cond (ltN (uV a) 4294967296) (cond (okQ a) (cond (Xr (uK a) (uN a) (uV a) (uA a 0) (uA a 1) (uA a 2) (uA a 3) (uA a 4) (uA a 5) (uA a 6) (uA a 7)) (p true [(bCx m i j l g f h),(bCv c d e),(bQ a),(Blk.box [(PV.s (SV.int .i64 (dA b))),(PV.s (SV.int .i64 (dR b))),(PV.s (SV.str (dU b)))])]) (cond (n==4) (p true [(bCx m i j l g f h),(bCv c d e),(bQ a),(Blk.box [(PV.s (SV.int .i64 (dA b))),(PV.s (SV.int .i64 (dR b))),(PV.s (SV.str (dU b)))])]) (cond (not i) (p true [(bCx m i j l g f h),(bCv c d e),(bQ a),(Blk.box [(PV.s (SV.int .i64 (dA b))),(PV.s (SV.int .i64 (dR b))),(PV.s (SV.str (dU b)))])]) (p false [(bCx m i j l g f h),(bCv c d e),(bQ a),(Blk.box [(PV.s (SV.int .i64 (dA b))),(PV.s (SV.int .i64 (dR b))),(PV.s (SV.str (dU b)))])])))) none) none) none)))) none) none) none) none) none) none))) none)) none)
theorem Du6(d:Nat)(s0 dest1 imageSet2 c3 c4 c5 c6 c_z7 c_t8 c9 cov10 cov11 cov12):evC (Cm1 L) (d+1) Z Y 7 [pS s0,pI dest1,pB imageSet2,(gCx c3 c4 c5 c6 c_z7 c_t8 c9),(gCv cov10 cov11 cov12)] [] s=lmn L s0 dest1 imageSet2 c3 c4 c5 c6 c_z7 c_t8 c9 cov10 cov11 cov12 (λb a=>some (pB b,a,s)):=by refine(evE (fn:=Tryz.f7) (by kernel_rfl)).trans ?_;generalize evC (Cm1 L) d=Q;unfold lmn;kernel_rfl
noncomputable abbrev Ck7:Code:=C7 j8
noncomputable def Sq(L:Nat):Cfg:=B7 L [8] (A2 []) [(24,FT),(30,Rd),(25,Ra),(28,Gj),(26,Zz),(32,UV)] (A2 [(7,[10]),(6,[11,1,0]),(5,[10]),(4,[1,0,5,0,1,33]),(3,[1,0,5,0,1,0]),(2,[10]),(1,[0,0,0,5,0,17]),(0,[0,0,0,5,0])]) [24,30,25,32] (A2 []) (some [10]) [] [] [] (nt:=[(58,4,9,1)])
noncomputable def CJ{R:Type}(v:Int)(b B y z A G F:Bool)(x:LL)(t:Int)(w:By)(u:Bool)(n o:By)(r:Int)(p:By)(c d e f g h i j l m:Int)(q:By)(C:Bool->(List Blk)->Option R):Option R:=cond (smU n o p q) (cond (ltN c 4294967296) (cond (ok8 d e f g h i j l) (cond (S9 m) (cond (j0 x isS) (cond (A3 x.length) (vl (BH n o r p c d e f g h i j l m q v b y z A (b8 elS x) t) λa=>cond ((dE a)==0) (cond (smU n o p q) (cond (ltN c 4294967296) (cond (ok8 d e f g h i j l) (cond (S9 m) (vl (Sl (mkU n o r p c (n8 d e f g h i j l) m q)) λD=>cond (((dA a)==1)&&(((dR a)==1)&&(((dU a)==D)&&true))) (C true [(bCx B y z A G F x),(bCv t w u),(bU n o r p c d e f g h i j l m q),(Blk.box [(PV.s (SV.int .i64 (dA a))),(PV.s (SV.int .i64 (dR a))),(PV.s (SV.str (dU a)))])]) (C false [(bCx B y z A G F x),(bCv t w u),(bU n o r p c d e f g h i j l m q),(Blk.box [(PV.s (SV.int .i64 (dA a))),(PV.s (SV.int .i64 (dR a))),(PV.s (SV.str (dU a)))])])) none) none) none) none) (C false [(bCx B y z A G F x),(bCv t w u),(bU n o r p c d e f g h i j l m q),(Blk.box [(PV.s (SV.int .i64 (dA a))),(PV.s (SV.int .i64 (dR a))),(PV.s (SV.str (dU a)))])])) none) none) none) none) none) none
abbrev Aj6(b:Code):Prop:=∀(k:Out->St Z->Option R) dest0 imageSet1 b2 b3 b4 b5 b6 z7 t8 l9 n10 s11 b12 s13 s14 n15 s16 n17 n18 n19 n20 n21 n22 n23 n24 n25 n26 s27,A9 (Sq L) Q Y b ⟨gp [(1,pI dest0),(0,pB imageSet1),(5,.ptr 0 0 0),(0,.ptr 1 0 0),(1,.ptr 2 0 0),(33,pB b2)] 22,[(bCx b3 b4 b5 b6 z7 t8 l9),(bCv n10 s11 b12),(bU s13 s14 n15 s16 n17 n18 n19 n20 n21 n22 n23 n24 n25 n26 s27)],s⟩ k=CJ dest0 imageSet1 b3 b4 b5 b6 z7 t8 l9 n10 s11 b12 s13 s14 n15 s16 n17 n18 n19 n20 n21 n22 n23 n24 n25 n26 s27 (λc a=>k .ret ⟨gp [(10,pB c)] 57,a,s⟩)
theorem B47:Aj6 (R:=R) L Q Y s (cd [1,1,1,1] Ck7):=by intro k b a w x y z A D C B d q c r t e u f g h i j l m n o p v;unfold CJ;kernel_rfl
noncomputable def lms{R:Type}(L:Nat)(p:By)(h:Int)(g j l m n f e:Bool)(i:LL)(b:Int)(c:By)(d:Bool)(o:Bool->(List Blk)->Option R):Option R:=cond (ltI 1500 (p.length:Int)) (o true [(bCx j l m n f e i),(bCv b c d)]) (cond (j0 i isS) (cond (not ((o6 i.length 20)&&(Cx (400:Int) (b8 elS i)))) (o true [(bCx j l m n f e i),(bCv b c d)]) (cond (not (Br h)) (o true [(bCx j l m n f e i),(bCv b c d)]) (cond (A3 p.length) (vl (B8 p) λa=>cond ((uE a)!=0) (o true [(bCx j l m n f e i),(bCv b c d),(bQ a)]) (cond (not ((uS a)==[104,116,116,112,115])) (cond (not ((uS a)==[119,115,115])) (o true [(bCx j l m n f e i),(bCv b c d),(bQ a)]) (CJ h g j l m n f e i b c d (uS a) (uU a) (uK a) (uN a) (uV a) (uA a 0) (uA a 1) (uA a 2) (uA a 3) (uA a 4) (uA a 5) (uA a 6) (uA a 7) (uP a) (uR a) o)) (CJ h g j l m n f e i b c d (uS a) (uU a) (uK a) (uN a) (uV a) (uA a 0) (uA a 1) (uA a 2) (uA a 3) (uA a 4) (uA a 5) (uA a 6) (uA a 7) (uP a) (uR a) o))) none))) none)
theorem Du7(h:Code)(c:Aj6 (R:=PV × List Blk × Z) L Q Y s h)(r:By)(g:Int)(b l m n o j i:Bool)(p:LL)(d:Int)(e:By)(f:Bool):A9 (Sq L) Q Y (cd [] (G7 [1,1,1,1] h Ck7)) ⟨[pS r,pI g,pB b,(gCx l m n o j i p),(gCv d e f)]++tps 63,[],s⟩ (F3 (Sq L) j8)=lms L r g b l m n o j i p d e f (λu t=>some (pB u,t,s)):=by unfold lms;exact let q:=(F3 (Sq L) j8);(j2 (by kernel_rfl) (A0 rfl (A0 (A0 rfl (A0 rfl (A0 (A4 λa=>(A0 rfl (A0 (A0 rfl ((c q g b (not ((uS a)==[119,115,115])) l m n o j i p d e f (uS a) (uU a) (uK a) (uN a) (uV a) (uA a 0) (uA a 1) (uA a 2) (uA a 3) (uA a 4) (uA a 5) (uA a 6) (uA a 7) (uP a) (uR a)).trans (by kernel_rfl))) ((c q g b false l m n o j i p d e f (uS a) (uU a) (uK a) (uN a) (uV a) (uA a 0) (uA a 1) (uA a 2) (uA a 3) (uA a 4) (uA a 5) (uA a 6) (uA a 7) (uP a) (uR a)).trans (by kernel_rfl))))) rfl))) rfl)))
theorem Du8(d:Nat)(s0 dest1 imageSet2 c3 c4 c5 c6 c_z7 c_t8 c9 cov10 cov11 cov12):evC (Sq L) (d+1) Z Y 8 [pS s0,pI dest1,pB imageSet2,(gCx c3 c4 c5 c6 c_z7 c_t8 c9),(gCv cov10 cov11 cov12)] [] s=lms L s0 dest1 imageSet2 c3 c4 c5 c6 c_z7 c_t8 c9 cov10 cov11 cov12 (λb a=>some (pB b,a,s)):=
 (evE (fn:=j8) (by kernel_rfl)).trans (j2 (by kernel_rfl) (Du7 L (evC (Sq L) d) Y s (cd [1,1,1,1] Ck7) (B47 L (evC (Sq L) d) Y s) s0 dest1 imageSet2 c3 c4 c5 c6 c_z7 c_t8 c9 cov10 cov11 cov12))
end
theorem Bx7{l:LL}(h:(o6 l.length 20&&Cx 400 (l.map elS))=true):A3 l.length=true:=by rw[j5] at h;have:=o8 h.1;exact J8
theorem B37{p:T2 × Nat}(a:CU p.1)(b:S6 (uS p)=true):Kj (uS p) (uU p) (uK p) (uN p) (uV p) (uA p 0) (uA p 1) (uA p 2) (uA p 3) (uA p 4) (uA p 5) (uA p 6) (uA p 7) (uP p) (uR p)=Xr (uK p) (uN p) (uV p) (uA p 0) (uA p 1) (uA p 2) (uA p 3) (uA p 4) (uA p 5) (uA p 6) (uA p 7):=by obtain⟨_,_,_,c⟩:=Ya a.ok;unfold Kj;rw[show mkU (uS p) _ _ _ _ _ (uP p) _=p.1 from c _ _,HE a];rcases Jc b with e|e<;>rw[e]<;>rfl
theorem PU{p:T2 × Nat}(c:CU p.1)(a:Int)(d e up b:Bool)(l:List By)(f:Int):BH (uS p) (uU p) (uK p) (uN p) (uV p) (uA p 0) (uA p 1) (uA p 2) (uA p 3) (uA p 4) (uA p 5) (uA p 6) (uA p 7) (uP p) (uR p) a d e up b l f=cond (Br a) (okD (On (uS p) (uU p) (uK p) (uN p) (uV p) (uA p 0) (uA p 1) (uA p 2) (uA p 3) (uA p 4) (uA p 5) (uA p 6) (uA p 7) (uP p) (uR p) a d e up b l f)) ⟨0,0,[],2⟩:=by obtain⟨_,_,_,g⟩:=Ya c.ok;unfold BH;rw[show mkU (uS p) _ _ _ _ _ (uP p) _=p.1 from g _ _,HE c];rfl
theorem D38(s:By)(a:Int)(j q k up d z:Bool)(l:LL)(m:Int)(n:By)(o:Bool)(u:l.all isS=true) :
  Tru (evC (Cm1 LF) 1 Unit noY 7 [.s (.str s),.s (.int .i64 a),.s (.bool j),gCx q k up d z false l,gCv m n o] [] ()):=by
 refine Eq.subst (motive:=Tru) (Du6 (Z:=Unit) LF noY () 0 s a j q k up d z false l m n o).symm ?_;unfold lmn;by_cases r:(1500:Int)<s.length
 ·rw[B9 r];exact⟨_,rfl⟩
 rw[A6,cond_false,u,cond_true];cases f:(o6 l.length 20&&Cx 400 (l.map elS)) with
 | false=>exact⟨_,rfl⟩
 | true=>
 have b:=Al7 (s:=s) (by omega) (uS (B8 s)) (x4 (Ux s).1 (by omega));have v:A3 (b9 (uN (B8 s)))=true:=by
  obtain⟨_,_,l,_⟩:=Jo b;exact J8
 have g:=@CO s;obtain⟨A,B,C,F⟩:=Ya (RG s);rw[j1,cond_false,J8,cond_true];simp only[vl];by_cases h:(B8 s).2=0
 ·have p:=g h;rw[show(uE (B8 s)!=(0:Int))=false by show(((B8 s).2:Int)!=0)=false;rw[h];rfl,cond_false];cases i:S6 (uS (B8 s)) with
  | false=>exact⟨_,rfl⟩
  | true=>
   have w:=B37 p i;have t:(uS (B8 s)==Br8)=false:=by rcases Jc i with e|e<;>rw[e]<;>rfl
   simp only[b,A,B,C,Bx7 f,v,cond_true,cond_false,j1,PU p];cases Br a with
   | false=>exact⟨_,rfl⟩
   | true=>
    unfold On;rw[i,w,t];generalize Xr _ _ _ _ _ _ _ _ _ _ _=T;generalize Ak6 _ _=y;simp only[bne];generalize (m==0)=x;generalize (a==4)=D;generalize (A25 a j==2)=c;generalize (uK (B8 s)==1)=K;cases x<;>cases T<;>first|exact⟨_,rfl⟩|(cases up<;>cases D<;>cases k<;>first|exact⟨_,rfl⟩|(cases y<;>cases c<;>cases K<;>cases d<;>exact⟨_,rfl⟩))
 ·rw[show(uE (B8 s)!=(0:Int))=true by show(((B8 s).2:Int)!=0)=true;simpa using h,cond_true];exact⟨_,rfl⟩
theorem Cq4(s:By)(a:Int)(m p o up c z:Bool)(l:LL)(q:Int)(d:By)(f:Bool)(t:l.all isS=true) :
  Tru (evC (Sq LF) 1 Unit noY 8 [.s (.str s),.s (.int .i64 a),.s (.bool m),gCx p o up c z false l,gCv q d f] [] ()):=by
 refine Eq.subst (motive:=Tru) (Du8 (Z:=Unit) LF noY () 0 s a m p o up c z false l q d f).symm ?_;unfold lms;by_cases u:(1500:Int)<s.length
 ·rw[B9 u];exact⟨_,rfl⟩
 rw[A6,cond_false,t,cond_true];cases g:(o6 l.length 20&&Cx 400 (l.map elS)) with
 | false=>exact⟨_,rfl⟩
 | true=>
 have k:=Al7 (s:=s) (by omega) (uS (B8 s)) (x4 (Ux s).1 (by omega));have h:=@CO s;obtain⟨y,A,B,C⟩:=Ya (RG s);rw[j1,cond_false];cases i:Br a with
 | false=>exact⟨_,rfl⟩
 | true=>
 rw[j1,cond_false,J8,cond_true];simp only[vl];by_cases j:(B8 s).2=0
 ·have r:=h j;rw[show(uE (B8 s)!=(0:Int))=false by show(((B8 s).2:Int)!=0)=false;rw[j];rfl,cond_false];have key:(uS (B8 s)==Ci||(uS (B8 s)==Wf||uS (B8 s)==Br9))=true->S6 (uS (B8 s))=false->∃H,∀n:Bool->List Blk->Option (PV × List Blk × Unit),CJ a m p o up c z false l q d f (uS (B8 s)) (uU (B8 s)) (uK (B8 s)) (uN (B8 s)) (uV (B8 s)) (uA (B8 s) 0) (uA (B8 s) 1) (uA (B8 s) 2) (uA (B8 s) 3) (uA (B8 s) 4) (uA (B8 s) 5) (uA (B8 s) 6) (uA (B8 s) 7) (uP (B8 s)) (uR (B8 s)) n=n true H:=λv w=>by
   have x:Kj (uS (B8 s)) (uU (B8 s)) (uK (B8 s)) (uN (B8 s)) (uV (B8 s)) (uA (B8 s) 0) (uA (B8 s) 1) (uA (B8 s) 2) (uA (B8 s) 3) (uA (B8 s) 4) (uA (B8 s) 5) (uA (B8 s) 6) (uA (B8 s) 7) (uP (B8 s)) (uR (B8 s))=true:=by
    unfold Kj;rw[show mkU (uS (B8 s)) _ _ _ _ _ (uP (B8 s)) _=(B8 s).1 from C _ _,HE r,v];rfl
   apply Exists.intro;intro n;unfold CJ;simp only[vl,k,y,A,B,t,Bx7 g,cond_true,PU r,i];unfold On;rw[w,x];simp only[okD,Bool.false_and,Bool.true_or,cond_true,cond_false,beq_self_eq_true,Bool.and_true];rfl
  by_cases hA:uS (B8 s)=Ci
  ·obtain⟨H,e⟩:=key (by rw[hA];rfl) (by rw[hA];rfl);rw[show(uS (B8 s)==([104,116,116,112,115]:List UInt8))=true by rw[hA];rfl,j1,cond_false,e];exact⟨_,rfl⟩
  ·rw[show(uS (B8 s)==([104,116,116,112,115]:List UInt8))=false from beq_eq_false_iff_ne.2 hA,j4,cond_true];by_cases b:uS (B8 s)=Wf
   ·obtain⟨H,e⟩:=key (by rw[b];rfl) (by rw[b];rfl);rw[show(uS (B8 s)==([119,115,115]:List UInt8))=true by rw[b];rfl,j1,cond_false,e];exact⟨_,rfl⟩
   ·rw[show(uS (B8 s)==([119,115,115]:List UInt8))=false from beq_eq_false_iff_ne.2 b];exact⟨_,rfl⟩
 ·rw[show(uE (B8 s)!=(0:Int))=true by show(((B8 s).2:Int)!=0)=true;simpa using j,cond_true];exact⟨_,rfl⟩
theorem Dc6(args:List PV)(h:Lt a8 [9,3,4,58,37] args):∃d a,evC (Sq LF) d Unit noY 8 args [] ()=some (.s (.bool true),a,()):=by obtain⟨v1,w,rfl,i,C,x,rfl,j,D,y,rfl,m,v,A,rfl,n,F,B,rfl,o,rfl⟩:=h;obtain⟨s,rfl,_⟩:=C70 i (by kernel_rfl) (by kernel_rfl);obtain⟨f,rfl,_⟩:=C69 (k:=.i64) j (by kernel_rfl) (by kernel_rfl);obtain⟨q,rfl⟩:=Ck4 m (by kernel_rfl) (by kernel_rfl);obtain⟨t,r,up,b,z,l,rfl,p⟩:=C68 n (by kernel_rfl) (by kernel_rfl);obtain⟨u,c,g,rfl⟩:=C67 o (by kernel_rfl) (by kernel_rfl);obtain⟨H,e⟩:=Cq4 s f q t r up b z l u c g p;exact⟨1,H,e⟩
section
variable {Z R : Type} (L : Nat) (Q : G2) (Y : Yh Z) (s : Z) (k : Out -> St Z -> Option R)
noncomputable def WQ(L:Nat):Cfg:=B7 L [125] (A2 []) [(39,TP),(170,Ch2)] (A2 [(8,[2]),(5,[2]),(7,[2]),(6,[1,12]),(4,[1,5,0]),(3,[1,5]),(2,[2]),(1,[1,3]),(0,[1])]) [39,170] (A2 [(0,[1])]) (some [2]) [] [] []
noncomputable def Bw0{R:Type}(L:Nat)(c:Int)(b:By)(d e f g h i j l a:Int)(m:Bool->(List Blk)->Option R):Option R:=cond (A3 b.length) (cond (ltN d 4294967296) (cond (ok8 e f g h i j l a) (cond (not (K8 (mkH c b d (n8 e f g h i j l a)))) (m false [(bH c b d e f g h i j l a)]) (cond (c==2) (vl (Qp .u32 d (24:Int)) λn=>m (n==127) [(bH c b d e f g h i j l a)]) (cond (c==3) (m ((e==0)&&((f==0)&&((g==0)&&((h==0)&&((i==0)&&((j==0)&&((l==0)&&((a==1)&&true)))))))) [(bH c b d e f g h i j l a)]) (cond (A3 b.length) (m (Mj ([108,111,99,97,108,104,111,115,116]:List UInt8) b) [(bH c b d e f g h i j l a)]) none)))) none) none) none
theorem Cs9(d:Nat)(h0 h1 h2 h3 h4 h5 h6 h7 h8 h9 h10):evC (WQ L) (d+1) Z Y 125 [(gH h0 h1 h2 h3 h4 h5 h6 h7 h8 h9 h10)] [] s=Bw0 L h0 h1 h2 h3 h4 h5 h6 h7 h8 h9 h10 (λb a=>some (pB b,a,s)):=by refine(evE (fn:=Tryz.f125) (by kernel_rfl)).trans ?_;generalize evC (WQ L) d=Q;unfold Bw0;kernel_rfl
noncomputable abbrev Ph:Code:=C7 v7
noncomputable def Y3(L:Nat):Cfg:=B7 L [87] (A2 []) [(51,Rg),(117,FW),(125,Bp9)] (A2 [(10,[2]),(7,[2]),(9,[2]),(8,[1,10]),(6,[1,5,0]),(5,[1,5,0]),(4,[1,5,0]),(3,[1,5]),(2,[2]),(1,[1,3]),(0,[1])]) [51,117,125] (A2 [(0,[1])]) (some [2]) [] [] []
noncomputable def Gs{R:Type}(h:By)(r:Bool)(o:By)(i:Int)(p:By)(j l m g n b c d e f:Int)(a:By)(q:Bool->(List Blk)->Option R)(t:Bool->By->By->Int->By->Int->Int->Int->Int->Int->Int->Int->Int->Int->Int->By->Option R):Option R:=cond r (q true [(bU h o i p j l m g n b c d e f a)]) (cond (h==[97,98,111,117,116]) (cond (a==[98,108,97,110,107]) (q true [(bU h o i p j l m g n b c d e f a)]) (q (a==[115,114,99,100,111,99]) [(bU h o i p j l m g n b c d e f a)])) (t (h==[97,98,111,117,116]) h o i p j l m g n b c d e f a))
abbrev EK(b:Code):Prop:=∀(k:Out->St Z->Option R) s0 b1 o i p j l m g n a c d e f h,A9 (Y3 L) Q Y b ⟨gp [(1,.ptr 0 0 0),(5,pS s0),(0,pB b1)] 21,[(bU s0 o i p j l m g n a c d e f h)],s⟩ k=Gs s0 b1 o i p j l m g n a c d e f h (λq r=>k .ret ⟨gp [(2,pB q)] 27,r,s⟩) (λq t o i p j l m g n a c d e f h=>k .normal ⟨gp [(1,.ptr 0 0 0),(10,pB q)] 17,[(bU t o i p j l m g n a c d e f h)],s⟩)
theorem YO:EK (R:=R) L Q Y s (cd [1,1,0,1,0,1] Ph):=by intro k o h p i q j l m f n a b c d e g;unfold Gs;kernel_rfl
noncomputable def Gt{R:Type}(o q:By)(n:Int)(m:By)(h i j e l a b c d f:Int)(g:By)(p:Bool->(List Blk)->Option R):Option R:=cond (H9 o) (cond (A3 m.length) (cond (ltN h 4294967296) (cond (ok8 i j e l a b c d) (p (Xr n m h i j e l a b c d) [(bU o q n m h i j e l a b c d f g)]) none) none) none) (p false [(bU o q n m h i j e l a b c d f g)])
abbrev EL(b:Code):Prop:=∀(k:Out->St Z->Option R) a s1 s2 n3 s4 n5 n6 n7 n8v n9 n10 n11 n12 n13 n14 s15,A9 (Y3 L) Q Y b ⟨gp [(1,.ptr 0 0 0),(10,pB a)] 17,[(bU s1 s2 n3 s4 n5 n6 n7 n8v n9 n10 n11 n12 n13 n14 s15)],s⟩ k=Gt s1 s2 n3 s4 n5 n6 n7 n8v n9 n10 n11 n12 n13 n14 s15 (λa c=>k .ret ⟨gp [(2,pB a)] 27,c,s⟩)
theorem YP:EL (R:=R) L Q Y s (cd [1,1,1] Ph):=by intro k h o p i q j l m f n a b c d e g;unfold Gt;kernel_rfl
noncomputable def MF{R:Type}(L:Nat)(f h:By)(u2:Int)(i:By)(j l m n u8 o a b c d:Int)(e:By)(g:Bool->(List Blk)->Option R):Option R:=cond (smU f h i e) (cond (ltN j 4294967296) (cond (ok8 l m n u8 o a b c) (cond (S9 d) (cond (not (R5 (mkU f h u2 i j (n8 l m n u8 o a b c) d e))) (g false [(bU f h u2 i j l m n u8 o a b c d e)]) (cond (f==[104,116,116,112,115]) (Gs f (f==[104,116,116,112,115]) h u2 i j l m n u8 o a b c d e g (λc0 b3 b4 a9 b5 b0 b1 b2 p q r t u v w X=>Gt b3 b4 a9 b5 b0 b1 b2 p q r t u v w X g)) (cond (f==[119,115,115]) (Gs f (f==[119,115,115]) h u2 i j l m n u8 o a b c d e g (λb6 a0 a1 x a2 y z A B C D F G H I a3=>Gt a0 a1 x a2 y z A B C D F G H I a3 g)) (Gs f (f==[102,105,108,101]) h u2 i j l m n u8 o a b c d e g (λb7 a4 a5 J a6 K M N O P S T U V W a7=>Gt a4 a5 J a6 K M N O P S T U V W a7 g))))) none) none) none) none
theorem B59(c:Code)(a:EK (R:=PV × List Blk × Z) L Q Y s c)(d:Code)(b:EL (R:=PV × List Blk × Z) L Q Y s d)(j u1:By)(u2:Int)(u3:By)(u4 u5 u6 u7 u8 u9 e f g h:Int)(i:By):A9 (Y3 L) Q Y (cd [] (G7 [1,1,1] d (G7 [1,1,0,1,0,1] c Ph))) ⟨[(gU j u1 u2 u3 u4 u5 u6 u7 u8 u9 e f g h i)]++tps 29,[],s⟩ (F3 (Y3 L) v7)=MF L j u1 u2 u3 u4 u5 u6 u7 u8 u9 e f g h i (λr0 H1=>some (pB r0,H1,s)):=by unfold MF;exact let K0:=(F3 (Y3 L) v7);let K1:=(E4 0 (E1 (Y3 L) Q Y d K0));(j2 (by kernel_rfl) (A0 (A0 (A0 (A0 (A0 rfl (A0 ((a K1 j (j==[104,116,116,112,115]) u1 u2 u3 u4 u5 u6 u7 u8 u9 e f g h i).trans (congr (congr rfl (by kernel_rfl)) (fx1 λa6=>(fx1 λb2=>(fx1 λb3=>(fx1 λa7=>(fx1 λb4=>(fx1 λa9=>(fx1 λb0=>(fx1 λb1=>(fx1 λn=>(fx1 λo=>(fx1 λp=>(fx1 λq=>(fx1 λr=>(fx1 λt=>(fx1 λu=>(fx1 λV=>(j2 (by kernel_rfl) ((b K0 a6 b2 b3 a7 b4 a9 b0 b1 n o p q r t u V).trans (by kernel_rfl))))))))))))))))))))) (A0 ((a K1 j (j==[119,115,115]) u1 u2 u3 u4 u5 u6 u7 u8 u9 e f g h i).trans (congr (congr rfl (by kernel_rfl)) (fx1 λl=>(fx1 λW=>(fx1 λX=>(fx1 λv=>(fx1 λa0=>(fx1 λw=>(fx1 λx=>(fx1 λy=>(fx1 λz=>(fx1 λA=>(fx1 λB=>(fx1 λC=>(fx1 λD=>(fx1 λF=>(fx1 λG=>(fx1 λa1=>(j2 (by kernel_rfl) ((b K0 l W X v a0 w x y z A B C D F G a1).trans (by kernel_rfl))))))))))))))))))))) ((a K1 j (j==[102,105,108,101]) u1 u2 u3 u4 u5 u6 u7 u8 u9 e f g h i).trans (congr (congr rfl (by kernel_rfl)) (fx1 λm=>(fx1 λa2=>(fx1 λa3=>(fx1 λH=>(fx1 λa4=>(fx1 λI=>(fx1 λJ=>(fx1 λK=>(fx1 λM=>(fx1 λN=>(fx1 λO=>(fx1 λP=>(fx1 λS=>(fx1 λT=>(fx1 λU=>(fx1 λa5=>(j2 (by kernel_rfl) ((b K0 m a2 a3 H a4 I J K M N O P S T U a5).trans (by kernel_rfl)))))))))))))))))))))))) rfl) rfl) rfl) rfl))
theorem B60(d:Nat)(u0 u1 u2 u3 u4 u5 u6 u7 u8 u9 u10 u11 u12 u13 u14):evC (Y3 L) (d+1) Z Y 87 [(gU u0 u1 u2 u3 u4 u5 u6 u7 u8 u9 u10 u11 u12 u13 u14)] [] s=MF L u0 u1 u2 u3 u4 u5 u6 u7 u8 u9 u10 u11 u12 u13 u14 (λb a=>some (pB b,a,s)):=
 (evE (fn:=v7) (by kernel_rfl)).trans (j2 (by kernel_rfl) (B59 L (evC (Y3 L) d) Y s (cd [1,1,0,1,0,1] Ph) (YO L (evC (Y3 L) d) Y s) (cd [1,1,1] Ph) (YP L (evC (Y3 L) d) Y s) u0 u1 u2 u3 u4 u5 u6 u7 u8 u9 u10 u11 u12 u13 u14))
end
abbrev D39(f:Int->By->Int->Int->Int->Int->Int->Int->Int->Int->Int->(Bool->List Blk->Option (PV × List Blk × Unit))->Option (PV × List Blk × Unit))(k:Int)(j:By)(v4 a b c d e g h i:Int):Prop:=
 A3 j.length=true->ltN v4 4294967296=true->ok8 a b c d e g h i=true->∃r H,f k j v4 a b c d e g h i (λm l=>rv (.s (.bool m)) l)=rv r H/\r.stab [] H = .s (.bool (Xr k j v4 a b c d e g h i))
theorem Ct0(a:Int)(j:By)(v4 b c d e f g h i:Int):D39 (Bw0 LF) a j v4 b c d e f g h i:=λk l m=>by
 unfold Bw0 Xr;rw[k,l,m];cases K8 (mkH a j v4 (n8 b c d e f g h i))<;>cases a==2<;>cases a==3<;>exact⟨_,_,rfl,rfl⟩
theorem B61(a m:By)(n:Int)(b:By)(v4 d e f g h i j k l:Int)(c:By)(o:smU a m b c=true)(q:ltN v4 4294967296=true)(t:ok8 d e f g h i j k=true)(u:S9 l=true) :
  ∃r H,MF LF a m n b v4 d e f g h i j k l c (λv p=>rv (.s (.bool v)) p)=rv r H/\r.stab [] H = .s (.bool (Kj a m n b v4 d e f g h i j k l c)):=by
 obtain⟨x,y,z,A⟩:=Jo o;have w:A3 b.length=true:=J8;unfold MF Gs Gt Kj;simp only[o,q,t,u,w,show(a==([104,116,116,112,115]:List UInt8))=(a==Ci) from rfl,show(a==([119,115,115]:List UInt8))=(a==Wf) from rfl,show(a==([102,105,108,101]:List UInt8))=(a==Br9) from rfl,show(a==([97,98,111,117,116]:List UInt8))=(a==Az4) from rfl];cases R5 (mkU a m n b v4 (n8 d e f g h i j k) l c)<;>cases a==Ci<;>cases a==Wf<;>cases a==Br9<;>cases a==Az4<;>cases H9 a<;>cases c==([98,108,97,110,107]:List UInt8)<;>exact⟨_,_,rfl,rfl⟩
section
theorem Dn7:B3 a8 GX 125 Bp9:=xf [] (WQ LF) HZ rfl ⟨Bo2,Dz1,trivial⟩ rfl (by kernel_rfl) follows λargs=>by
 unfold HZ;split
 ·rename_i j k v4 a b c d f g h i;exact λl=>λm=>λn=>(let⟨r,H,e,q⟩:=Ct0 j k v4 a b c d f g h i l m n;⟨rfl,rfl,rfl,r,H,(Cs9 LF noY () 0 j k v4 a b c d f g h i).trans e,q⟩)
 ·trivial
theorem C39:B3 a8 GX 87 Ad2:=xf [] (Y3 LF) AA rfl ⟨DM,Ab9,Dn7,trivial⟩ rfl (by kernel_rfl) follows λargs=>by
 unfold AA;split
 ·rename_i n o j k v4 a b c d f g h i l m;exact λp=>λt=>λu=>λv=>(let⟨r,H,e,q⟩:=B61 n o j k v4 a b c d f g h i l m p t u v;⟨rfl,rfl,rfl,r,H,(B60 LF noY () 0 n o j k v4 a b c d f g h i l m).trans e,q⟩)
 ·trivial
end
section
theorem Av4:B3 a8 GX 52 HF:=xf [] (JT LF) Zs rfl trivial rfl (by kernel_rfl) follows λargs=>by
 unfold Zs;split
 ·rename_i n;exact⟨rfl,rfl,rfl,_,_,(B14 LF noY () 0 n).trans (Ag6 n ),rfl⟩
 ·trivial
theorem Dy8:B3 a8 GX 89 Cg9:=xf [] (A04 LF) TA rfl ⟨Av4,trivial⟩ rfl (by kernel_rfl) follows λargs=>by
 unfold TA;split
 ·rename_i n a;exact⟨rfl,rfl,rfl,_,_,(C82 LF noY () 0 n a).trans (B06 n a ),rfl⟩
 ·trivial
theorem Cg0:B3 a8 GX 30 Rd:=xf [] (BB LF) Tj rfl trivial rfl (by kernel_rfl) follows λargs=>by
 unfold Tj;split
 ·rename_i n;exact⟨rfl,rfl,rfl,_,_,(Bc4 LF noY () 0 n).trans (ZE n ),rfl⟩
 ·trivial
theorem Dp4:B3 a8 GX 171 Br4:=xf [] (Mi LF) JC rfl trivial rfl (by kernel_rfl) follows λargs=>by
 unfold JC;split
 ·rename_i b a l s;exact λc=>λd=>⟨rfl,rfl,rfl,_,_,(Cz0 LF noY () 0 b a l s).trans (Bl4 b a l s c d),rfl⟩
 ·trivial
theorem Dp3:B3 a8 GX 126 Br3:=xf [] (XA LF) JB rfl ⟨Dp4,trivial⟩ rfl (by kernel_rfl) follows λargs=>by
 unfold JB;split
 ·rename_i b a l s;exact λc=>λd=>⟨rfl,rfl,rfl,_,_,(Cy8 LF noY () 0 b a l s).trans (Bk9 b a l s c d),rfl⟩
 ·trivial
theorem Dy7:B3 a8 GX 88 Cg8:=xf [] (A02 LF) SY rfl ⟨Bo2,C30,Dp3,trivial⟩ rfl (by kernel_rfl) follows λargs=>by
 unfold SY;split
 ·rename_i t p up m b a l n o v4 c d f g h i j k;exact λu=>λv=>λw=>λx=>λy=>(let⟨r,H,e,q⟩:=C76 t p up m b a l n o v4 c d f g h i j k u v w x y;⟨rfl,rfl,rfl,r,H,(C75 LF noY () 0 t p up m b a l n o v4 c d f g h i j k).trans e,q⟩)
 ·trivial
theorem Dn6:B3 a8 GX 53 Bp8:=xf [] (Cl LF) HY rfl ⟨C53,D12,D53,C39,Dy7,Dy8,trivial⟩ rfl (by kernel_rfl) follows λargs=>by
 unfold HY;split
 ·rename_i z C u v v4 c d f g h i j k w y o t A x up m b a l B n p;exact λD=>λF=>λG=>λI=>λJ=>λK=>(let⟨r,H,e,q⟩:=Cr9 z C u v v4 c d f g h i j k w y o t A x up m b a l B n p D F G I J K;⟨rfl,rfl,rfl,r,H,(Cr8 LF noY () 0 z C u v v4 c d f g h i j k w y o t A x up m b a l B n p).trans e,q⟩)
 ·trivial
theorem C38:B3 a8 GX 26 Zz:=xf [0,0] (A14 LF) UC rfl ⟨DM,Av4,Dn6,trivial⟩ rfl (by kernel_rfl) follows λargs=>by
 unfold UC;split
 ·rename_i z C u v v4 c d f g h i j k w y o t A x up m b a l B n p;exact λD=>λF=>λG=>λI=>λJ=>λK=>(let⟨r,H,e,q⟩:=Dd9 z C u v v4 c d f g h i j k w y o t A x up m b a l B n p D F G I J K;⟨rfl,rfl,rfl,r,H,(Dd8 LF noY () 0 z C u v v4 c d f g h i j k w y o t A x up m b a l B n p).trans e,q⟩)
 ·trivial
theorem Dn2:B3 a8 GX 24 FT:=xf [] (WL LF) HU rfl ⟨C34,trivial⟩ rfl (by kernel_rfl) follows λargs=>by
 unfold HU;split
 ·rename_i f d up c b a l;exact λg=>(let⟨r,H,e,q⟩:=Cq7 f d up c b a l g;⟨rfl,rfl,rfl,r,H,(Cq6 LF noY () 0 f d up c b a l).trans e,q⟩)
 ·trivial
end
section
theorem Ae1:GR (evC (PQ LF) 1 Unit noY 25 [] [] ())=true:=by kernel_rfl
theorem Cf6:B3 a8 GX 25 Ra:=
 B3.fix (pf:=Te) _ (by
  have h:=Bo6 (C₀:=PQ LF) (N2.ok (l:=[(28,Gj),(26,Zz)]) rfl ⟨SW,C38,trivial⟩) (J1 rfl (by kernel_rfl)) follows Ae1;have e:(λargs:List PV=>match args with|[]=>Tr.ret (.s (.bool true)) []|_=>.fail)=Te:=by
   funext args
   cases args<;>rfl
  rw[<-e];exact h)
end
end
section
open Go Go.ChangeAt Go.ChangeShapes Go.Proofs Go.RowKit Go.WideShapes
set_option maxRecDepth 100000
section
theorem A73(os:Os)(a:os.Started)(H:Type)(enc:TypeId × Value->H) :
  ReturnsInHanded {} Tryz.checked os 8 .any (λw args=>(Rows.mixedSecureUnchangedSpec.pre enc a8 j8 Rows.mixedSecureUnchangedRow.domain false w args/\laidMetH a8 Fj w)/\sizedMet enc a8 j8 (OpenSpec.ofChange Rows.mixedSecureUnchangedSpec) false w args) (Rows.mixedSecureUnchangedSpec.post enc a8 j8 false true false false):=
 A67 a (C:=Sq LF) (tb:=4) rfl rfl (N2.ok (l:=[(24,FT),(30,Rd),(25,Ra),(28,Gj),(26,Zz),(32,UV)]) rfl ⟨Dn2,Cg0,Cf6,SW,C38,Do8,trivial⟩) (J1 rfl (by kernel_rfl)) (by kernel_rfl) v8 (c:=C7 j8) rfl (by kernel_rfl)
  (by
   intro t d;have:t=9\/t=3\/t=4\/t=58\/t=37:=by simpa only[List.mem_cons,List.mem_nil_iff,or_false] using(show t∈[9,3,4,58,37] from d)
   rcases this with rfl|rfl|rfl|rfl|rfl
   all_goals exact⟨⟨by kernel_rfl,of_decide_eq_true (by kernel_rfl)⟩,by kernel_rfl⟩) rfl (by kernel_rfl) rfl
  (λds b=>by
   match ds,b with
   | [e,f,g,i,j],_=>rfl)
  #[(.string ⟨#[]⟩),(.int .i64 0),(.bool false),(.agg #[(.bool false),(.bool false),(.bool false),(.bool false),(.slice none 0 0)]),(.agg #[(.int .i64 0),(.string ⟨#[]⟩),(.bool false)])] 8 (by kernel_rfl) (by kernel_rfl) (by kernel_rfl)
  (λargs h=>Dc6 args h)
set_option maxHeartbeats 4000000 in theorem B46:Rows.MixedSecureUnchangedSaid:=
 OpenClaim.holds_of_wide 8 j8 rfl rfl rfl rfl rfl rfl rfl ⟨rfl,rfl,rfl,rfl,rfl⟩ rfl rfl rfl rfl rfl (by kernel_rfl) v8 (by unfold joinedFacts;simp only[j5];(repeat' apply And.intro)<;>as_aux_lemma=>kernel_rfl)
  (of_decide_eq_true (by as_aux_lemma=>kernel_rfl)) (by unfold Func.isWrapper;first|(rw[if_pos (by decide +kernel)];kernel_rfl)|(rw[if_neg (by decide +kernel)];exact⟨rfl,rfl⟩))
  (λos a H enc _=>A73 os a H enc)
theorem lms_card:Rows.MixedSecureUnchangedCardSaid:=
 Claim7.holds_tied_plain_at .later [] [.data,.data,.data,.data,.pinned] true (true, "3edcf2d0d4ba03f015f6faca6dbfc35b207af51aad1c65e00543b4f3d9771d1d") false B46 (λ_ h=>by cases h) (by as_aux_lemma=>kernel_rfl) (λ_ h=>by cases h) mixedSecureUnchanged_row_tie rfl ⟨rfl,rfl⟩ (by as_aux_lemma=>kernel_rfl) rfl
  (λf fn c b=>by
   obtain rfl:f=8:=j7 ((show a8.funcNamed "hstsstore/hstsstorelaw29.MixedSecureUnchanged" = some 8 by as_aux_lemma=>kernel_rfl).symm.trans c) |>.symm
   obtain rfl:fn=j8:=(j7 (v8.symm.trans b)).symm;exact⟨by as_aux_lemma=>kernel_rfl,λj t e=>by
    have d:t∈[9,3,4,58,37]:=Array.mem_toList_iff.2 (Array.mem_of_getElem? e);have a:([9,3,4,58,37].all λu=>!a8.wantsStandIn u)=true:=by as_aux_lemma=>kernel_rfl
    exact(show a8.wantsStandIn t=false by simpa using p6.1 a t d)⟩)
  (by as_aux_lemma=>kernel_rfl)
end
end
#print axioms lms_card
end Go.Proofs.YtfkhfkjcidamaaaGreatDoor.E
