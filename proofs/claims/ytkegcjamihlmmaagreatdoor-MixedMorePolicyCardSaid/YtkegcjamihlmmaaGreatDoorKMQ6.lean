/-
  MixedMorePolicy, as its tied card says. Conditions: what the card itself names (the package-level variables that are listed, tied to the program's text).
-/
import Derived.Test.YtkegcjamihlmmaaGreatDoorKMQ5
import Derived.Test.YtkegcjamihlmmaaGreatDoorCards
import Derived.Test.YtkegcjamihlmmaaGreatDoorTie
open Go.Proofs.Tryz renaming prog->a8,f3->o0,f10->x6,f16->x7,f31->x8,func3->x9,f11->y8,f12->y9,f88->z7
open List renaming map->b8,length->b9,all->j4,getD_eq_getElem?_getD->j5,getElem?_eq_getElem->j7,length_cons->j8,length_append->o6,drop_eq_getElem_cons->o7,drop_of_length_le->p5,getElem_cons_drop->p6,length_nil->p7,drop_eq_nil_iff->v7,map_id''->v8,map_map->w6,all_eq_true->w9,drop_zero->x5
open Eq renaming trans->j2
open Bool renaming noConfusion->j6,not_true->j9,not_false->o5,and_eq_true->o9,and_false->x4,true_and->y5
open Option.some renaming inj->k9
open Int renaming toNat_natCast->o8,toNat->p4
open Nat renaming le_of_ble_eq_true->p9,ble->w8
open Option renaming getD_some->x3
open List.cons renaming inj->y7
namespace Go.Proofs.YtkegcjamihlmmaaGreatDoor.E
set_option linter.all false
section
open Go Go.Proofs
set_option maxRecDepth 100000
section
theorem PA:B4 a8 GX 93 Wr:=xf [] (KY LF) BE rfl trivial rfl (by kernel_rfl) follows λargs=>by
 unfold BE;split
 ·rename_i n;exact⟨rfl,rfl,rfl,_,_,(Cg1 LF noY () 0 n).trans (At5 n ),rfl⟩
 ·trivial
theorem A05:B4 a8 GX 96 IZ:=xf [] (Y7 LF) AZ rfl trivial rfl (by kernel_rfl) follows λargs=>by
 unfold AZ;split
 ·rename_i d c f;exact λa=>λb=>λe=>⟨rfl,rfl,rfl,_,_,(Cd9 LF noY () 0 d c f).trans (Ar3 d c f a b e),rfl⟩
 ·trivial
theorem Da6:B4 a8 GX 94 A27:=xf [] (A61 LF) WL rfl trivial rfl (by kernel_rfl) follows λargs=>by
 unfold WL;split
 ·rename_i k b;exact λa=>λc=>⟨rfl,rfl,rfl,_,_,(Do3 LF noY () 0 k b).trans (Cg7 k b a c),rfl⟩
 ·trivial
theorem Dt9:B4 a8 GX 95 Bv3:=xf [] (YH LF) JB rfl trivial rfl (by kernel_rfl) follows λargs=>by
 unfold JB;split
 ·rename_i d;exact λa=>⟨rfl,rfl,rfl,_,_,(C01 LF noY () 0 d).trans (Bg6 d a),rfl⟩
 ·trivial
theorem D72:B4 a8 GX 144 Cp1:=xf [] (Kk LF) WT rfl trivial rfl (by kernel_rfl) follows λargs=>by
 unfold WT;split
 ·rename_i b;exact λa=>⟨rfl,rfl,rfl,_,_,(Dp4 LF noY () 0 b).trans (Ci0 b a),rfl⟩
 ·trivial
theorem Da1:B4 a8 GX 70 A22:=xf [0,0] (O2 LF) WD rfl ⟨PA,Da6,Dt9,A05,trivial⟩ rfl (by kernel_rfl) follows λargs=>by
 unfold WD;split
 ·rename_i b a p;exact λd=>(let⟨g,e,c,f⟩:=Dm8 b a p d;⟨rfl,rfl,rfl,g,e,(Dm6 LF noY () 0 b a p).trans c,f⟩)
 ·trivial
theorem Du5:B4 a8 GX 118 Bv9:=xf [1,0] (K4 LF) JL rfl ⟨D72,Da6,A05,PA,trivial⟩ rfl (by kernel_rfl) follows λargs=>by
 unfold JL;split
 ·rename_i s;exact λb=>(let⟨e,c,a,d⟩:=C27 s b;⟨rfl,rfl,rfl,e,c,(C26 LF noY () 0 s).trans a,d⟩)
 ·trivial
theorem D67:B4 a8 GX 69 Co6:=xf [1,0] (P8 LF) WK rfl ⟨PA,trivial⟩ rfl (by kernel_rfl) follows λargs=>by
 unfold WK;split
 ·rename_i s;exact λb=>(let⟨e,c,a,d⟩:=Do1 s b;⟨rfl,rfl,rfl,e,c,(Do0 LF noY () 0 s).trans a,d⟩)
 ·trivial
theorem Du7:B4 a8 GX 89 Bw1:=xf [] (Mz LF) JN rfl ⟨Du5,Da1,trivial⟩ rfl (by kernel_rfl) follows λargs=>by
 unfold JN;split
 ·rename_i s;exact λa=>⟨rfl,rfl,rfl,_,_,(C29 LF noY () 0 s).trans (Bm5 s a),rfl⟩
 ·trivial
theorem B46:B4 a8 GX 61 WI:=xf [] (Mx LF) JJ rfl ⟨Du7,trivial⟩ rfl (by kernel_rfl) follows λargs=>by
 unfold JJ;split
 ·rename_i s;exact λa=>⟨rfl,rfl,rfl,_,_,(C23 LF noY () 0 s).trans (Bk3 s a),rfl⟩
 ·trivial
theorem Du4:B4 a8 GX 45 Bv8:=xf [0,0] (YL LF) JI rfl ⟨D67,Da3,Da1,B46,trivial⟩ rfl (by kernel_rfl) follows λargs=>by
 unfold JI;split
 ·rename_i s;exact λa=>⟨rfl,rfl,rfl,_,_,(C22 LF noY () 0 s).trans (Bk0 s a),rfl⟩
 ·trivial
theorem Eb2:B4 a8 GX 65 Dw0:=xf [] (Tg LF) A24 rfl trivial rfl (by kernel_rfl) follows λargs=>by
 unfold A24;split
 ·rename_i b;exact λa=>⟨rfl,rfl,rfl,_,_,(D25 LF noY () 0 b).trans (C21 b a),rfl⟩
 ·trivial
theorem Du2:B4 a8 GX 41 Bv6:=xf [0,0] (Mv LF) JE rfl ⟨Eb2,trivial⟩ rfl (by kernel_rfl) follows λargs=>by
 unfold JE;split
 ·rename_i s;exact λb=>(let⟨e,c,a,d⟩:=C13 s b;⟨rfl,rfl,rfl,e,c,(C12 LF noY () 0 s).trans a,d⟩)
 ·trivial
theorem Cm1:B4 a8 GX 24 QO:=xf [0,0] (L1 LF) Ua rfl ⟨D71,Du2,OZ,Du6,Rm,Du4,trivial⟩ rfl (by kernel_rfl) follows λargs=>by
 unfold Ua;split
 ·rename_i s;exact λb=>(let⟨e,c,a,d⟩:=Bj8 s b;⟨rfl,rfl,rfl,e,c,(Bj7 LF noY () 0 s).trans a,d⟩)
 ·trivial
theorem Da2:B4 a8 GX 36 A23:=xf [] (Uy LF) WG rfl ⟨OZ,Rm,B46,trivial⟩ rfl (by kernel_rfl) follows λargs=>by
 unfold WG;split
 ·rename_i s;exact λa=>⟨rfl,rfl,rfl,_,_,(Dn2 LF noY () 0 s).trans (Ce9 s a),rfl⟩
 ·trivial
theorem Af8:B4 a8 GX 19 GP:=xf [] (YK LF) JH rfl ⟨Da2,trivial⟩ rfl (by kernel_rfl) follows λargs=>by
 unfold JH;split
 ·rename_i i j v4 a b c d e f g h;exact λl=>λm=>λn=>(let⟨q,o,k,p⟩:=C20 i j v4 a b c d e f g h l m n;⟨rfl,rfl,rfl,q,o,(C19 LF noY () 0 i j v4 a b c d e f g h).trans k,p⟩)
 ·trivial
theorem B45:B4 a8 GX 20 WF:=xf [] (YJ LF) JG rfl ⟨Af8,D68,D70,trivial⟩ rfl (by kernel_rfl) follows λargs=>by
 unfold JG;split
 ·rename_i i j v4 a b c d e f g h;exact λl=>λm=>λn=>(let⟨q,o,k,p⟩:=C17 i j v4 a b c d e f g h l m n;⟨rfl,rfl,rfl,q,o,(C16 LF noY () 0 i j v4 a b c d e f g h).trans k,p⟩)
 ·trivial
theorem Du1:B4 a8 GX 35 Bv5:=xf [] (YI LF) JD rfl ⟨Da2,trivial⟩ rfl (by kernel_rfl) follows λargs=>by
 unfold JD;split
 ·rename_i p s;exact λa=>λb=>⟨rfl,rfl,rfl,_,_,(C11 LF noY () 0 p s).trans (Bj2 p s a b),rfl⟩
 ·trivial
end
section
theorem A07:B4 a8 GX 22 JS:=xf [] (KZ LF) BG rfl trivial rfl (by kernel_rfl) follows λargs=>by
 unfold BG;split
 ·rename_i s;exact⟨rfl,rfl,rfl,_,_,(Ch1 LF noY () 0 s).trans (Aw1 s ),rfl⟩
 ·trivial
theorem Dv1:B4 a8 GX 25 Bw4:=xf [] (YN LF) JT rfl trivial rfl (by kernel_rfl) follows λargs=>by
 unfold JT;split
 ·rename_i s;exact⟨rfl,rfl,rfl,_,_,(C40 LF noY () 0 s).trans (Bo5 s ),rfl⟩
 ·trivial
theorem Du8:B4 a8 GX 23 Bw2:=xf [] (Bd LF) JO rfl trivial rfl (by kernel_rfl) follows λargs=>by
 unfold JO;split
 ·rename_i s t;exact λa=>λb=>⟨rfl,rfl,rfl,_,_,(C31 LF noY () 0 s t).trans (Bn8 s t a b),rfl⟩
 ·trivial
theorem Dv0:B4 a8 GX 21 Bw3:=xf [0,0,0] (M6 LF) JR rfl ⟨Da3,trivial⟩ rfl (by kernel_rfl) follows λargs=>by
 unfold JR;split
 ·rename_i s;exact λa=>⟨rfl,rfl,rfl,_,_,(C39 LF noY () 0 s).trans (Bo4 s a),rfl⟩
 ·trivial
theorem B47:B4 a8 GX 13 WN:=xf [0,0] (J8 LF) JQ rfl ⟨Dv0,A07,Du8,Cm1,Dv1,trivial⟩ rfl (by kernel_rfl) follows λargs=>by
 unfold JQ;split
 ·rename_i s;exact λb=>(let⟨e,c,a,d⟩:=C37 s b;⟨rfl,rfl,rfl,e,c,(C36 LF noY () 0 s).trans a,d⟩)
 ·trivial
theorem UH:B4 a8 GX 7 La:=xf [0,0] (CE LF) Ud rfl ⟨B47,trivial⟩ rfl (by kernel_rfl) follows λargs=>by
 unfold Ud;split
 ·rename_i s;exact λb=>(let⟨e,c,a,d⟩:=Bo1 s b;⟨rfl,rfl,rfl,e,c,(Bo0 LF noY () 0 s).trans a,d⟩)
 ·trivial
end
theorem Cj4{u:U0}(h:-1<=u.port):Jg u=Y3 u:=by unfold Jg;rw[G1]
theorem Cj5{m n:By}{kd:Int}{a:By}{v4 b c d e f g h i k:Int}{l:By}(h0:smU m n a l=true)(h1:ltN v4 4294967296=true)(j:ok8 b c d e f g h i=true)(o:R7 k=true) :
  (Jg (mkU m n kd a v4 (n8 b c d e f g h i) k l)).length<=400000000:=by
 obtain⟨r,t,u,v⟩:=Gs h0;have p:=Xo (HB (h0:=kd) (h1:=a) h1 j);rw[EX] at p;have q:=UA (kd:=kd) h0 h1 j o;unfold Jg;split
 ·unfold mkU;simp only;split
  ·split<;>simp only[o6,j8,p7]<;>omega
  ·simp only[o6,j8];omega
 ·exact q
theorem Ch3(d b:By)(o:Int)(c:By)(v4 f g i j k l m n a:Int)(e:By)(h0:smU d b c e=true)(h1:ltN v4 4294967296=true)(y:ok8 f g i j k l m n=true)(B:R7 a=true) :
  ∃r H,Wh LF d b o c v4 f g i j k l m n a e (λu p=>rv (.s (.str u)) p)=rv r H/\r.stab [] H = .s (.str (Jg (mkU d b o c v4 (n8 f g i j k l m n) a e))):=by
 obtain⟨G,I,J,K⟩:=Gs h0;have F:=Xo (HB (h0:=o) (h1:=c) h1 y);obtain⟨L,M⟩:=Yc.1 B;have D:=Gy 19 a.toNat (by omega) (by omega);have key:∀T:By,Wh LF d b o c v4 f g i j k l m n a e (λu p=>rv (.s (.str u)) p)=rv (.s (.str T)) [bU d b o c v4 f g i j k l m n a e]->T=Jg (mkU d b o c v4 (n8 f g i j k l m n) a e)->∃r H,Wh LF d b o c v4 f g i j k l m n a e (λu p=>rv (.s (.str u)) p)=rv r H/\r.stab [] H = .s (.str (Jg (mkU d b o c v4 (n8 f g i j k l m n) a e))):=λT v w=>⟨_,_,v,by rw[<-w];rfl⟩
 have C:A3 c.length=true:=J9;cases t:H8 d with
 | false=>
  refine key (d++[58]++e) ?_ ?_
  ·unfold Wh;rw[t,G3 (by omega)];simp only[vl,cond_true,o5];rw[G3 (by simp;omega)];rfl
  ·unfold Jg Y3 mkU;simp[t]
 | true=>
  have v:(b==([]:List UInt8))=decide (b=[]):=by rw[Bool.eq_iff_iff];simp
  have w:ltI a 0=decide (a<0):=Nl ..;have z:ltI a (-1)=decide (a < -1):=Nl ..;have A:0<=a->ltN a 9223372036854775808=true:=λh=>E2.2 ⟨h,by omega⟩
  by_cases x:b=[]<;>rcases(show a < -1\/a=-1\/0<=a by omega) with q|q|q
  all_goals
   apply key
   ·unfold Wh;rw[t,C,h1,y,v,w,z];simp only[x,decide_true,decide_false,vl,cond_true,cond_false,j9,o5]
    first|rw[decide_eq_true (show a<0 by omega),decide_eq_true q]|rw[decide_eq_true (show a<0 by omega),decide_eq_false (show ¬a < -1 by omega)]|rw[decide_eq_false (show ¬a<0 by omega),A q]
    simp only[vl,cond_true,cond_false,j9,o5]
    repeat rw[G3 (by first|omega|(simp only[o6,j8,p7];omega))]
    simp only[vl,cond_true];rfl
   ·unfold Jg Y3 mkU Oy V2
    first
     | (simp[t,EX,x,q];done)
     | simp[t,EX,x,show ¬a < -1 by omega,show ¬a<0 by omega,show ¬a=-1 by omega]
theorem D48(u:U0):((C2 (Jg u)).2==0&&eqU (C2 (Jg u)).1 u)=T9 u:=by
 by_cases h:-1<=u.port
 ·rw[Cj4 h];rfl
 ·have a:∀s,eqU (C2 s).1 u=false:=λs=>by
   have b:=(Yv s).port.1;unfold eqU;rw[show((C2 s).1.port==u.port)=false by rw[beq_eq_false_iff_ne];omega];simp
  unfold T9;rw[a,a,x4,x4]
theorem Aw3(sc us:By)(kd:Int)(nm:By)(v4 a b c d f g h i po:Int)(re:By)(m:smU sc us nm re=true)(k:ltN v4 4294967296=true)(l:ok8 a b c d f g h i=true)(n:R7 po=true) :
  ∃r H,Zr LF sc us kd nm v4 a b c d f g h i po re (λu o=>rv (.s (.bool u)) o)=rv r H/\r.stab [] H = .s (.bool (T9 (mkU sc us kd nm v4 (n8 a b c d f g h i) po re))):=by
 have v:=Cj5 (kd:=kd) m k l n;unfold Zr;rw[<-D48,m,k,l,n];simp only[vl,cond_true];rw[J9,cond_true];have q:=Yv (Jg (mkU sc us kd nm v4 (n8 a b c d f g h i) po re));have j:=RJ (sc:=sc) (us:=us) (kd:=kd) (nm:=nm) (po:=po) (re:=re) k l q;simp only[Qb sc,Qb us,Qb nm,Qb re,Bg kd,Bg v4,Bg a,Bg b,Bg c,Bg d,Bg f,Bg g,Bg h,Bg i,Bg po] at j;rw[j];generalize C2 (Jg (mkU sc us kd nm v4 (n8 a b c d f g h i) po re))=p;obtain⟨t,e⟩:=p;by_cases j:e=0
 ·subst j;exact⟨_,_,rfl,rfl⟩
 ·rw[show(uE (t,e)==(0:Int))=false by simpa using j,show(e==0)=false by simpa using j];exact⟨_,_,rfl,rfl⟩
theorem C34(a p:By)(k:Int)(l:By)(v4 c d e f g h i j m:Int)(o:By) :
  ∃r H,B28 LF a p k l v4 c d e f g h i j m o (λn b=>rv (.s (.bool n)) b)=rv r H/\r.stab [] H = .s (.bool (M8 a)):=by
 unfold B28 M8;rw[show(a==([104,116,116,112]:By))=(a==Dd) from rfl,show(a==([119,115]:By))=(a==bWs) from rfl];cases a==Dd<;>exact⟨_,_,rfl,rfl⟩
section
theorem Da7:B4 a8 GX 34 Ah6:=xf [] (LA LF) BH rfl ⟨A07,B45,Bt2,trivial⟩ rfl (by kernel_rfl) follows λargs=>by
 unfold BH;split
 ·rename_i m n i j v4 a b c d e f g h k l;exact λp=>λq=>λr=>λt=>(let⟨w,u,o,v⟩:=Ch3 m n i j v4 a b c d e f g h k l p q r t;⟨rfl,rfl,rfl,w,u,(Ch2 LF noY () 0 m n i j v4 a b c d e f g h k l).trans o,v⟩)
 ·trivial
theorem Bt5:B4 a8 GX 17 JU:=xf [] (Vb LF) Pr rfl ⟨Da7,B47,trivial⟩ rfl (by kernel_rfl) follows λargs=>by
 unfold Pr;split
 ·rename_i m n i j v4 a b c d e f g h k l;exact λp=>λq=>λr=>λt=>(let⟨w,u,o,v⟩:=Aw3 m n i j v4 a b c d e f g h k l p q r t;⟨rfl,rfl,rfl,w,u,(Aw2 LF noY () 0 m n i j v4 a b c d e f g h k l).trans o,v⟩)
 ·trivial
theorem Du9:B4 a8 GX 9 WM:=xf [] (YM LF) JP rfl trivial rfl (by kernel_rfl) follows λargs=>by
 unfold JP;split
 ·rename_i m n i j v4 a b c d e f g h k l;exact(let⟨r,p,o,q⟩:=C34 m n i j v4 a b c d e f g h k l ; ⟨rfl,rfl,rfl,r,p,(C33 LF noY () 0 m n i j v4 a b c d e f g h k l).trans o,q⟩)
 ·trivial
end
section
variable {Y R : Type} (L : Nat) (Q : F6) (W : Yh Y) (s : Y) (k : Out -> St Y -> Option R)
noncomputable abbrev Aj0:Code:=C6 y9
noncomputable def Hq(L:Nat):Cfg:=B8 L [12] (A2 [(2,[0,0,2,0])]) [] (A2 [(6,[4]),(3,[0,0,3]),(5,[4]),(4,[0,0,3,12]),(2,[0,0,3,3]),(1,[0,0,3]),(0,[0,0])]) [] (A2 [(0,[]),(1,[0,0,3])]) (some [4]) [] [] []
noncomputable def Dx{R:Type}(L n:Nat)(n0:Int)(d c:Bool)(b:LL)(a:Int)(e:Unit->Option R)(f:Unit->Option R):Option R:=match n with|0=>none|n+1=>cond (ltI a (b.length:Int)) (cond (inR a b.length) (cond (okE Ol b (p4 a) 0) (cond (ltI n0 (↑(b9 (gX b (p4 a) 0)):Int)) (e ()) (Dx L n n0 d c b (A1 (a+1)) e f)) none) none) (f ())
theorem ZO(n n0 l_z1 l_t2 l3 i4):D0 0 ((Hq L).keep 2) (bd (Hq L) Q W (cd [1,0,1,0,0] Aj0)) n ⟨gp [(0,pI n0),(0,.s (.sl l_z1 l_t2 1 l3)),(3,pI i4)] 13,[],s⟩ k =
 Dx L n n0 l_z1 l_t2 l3 i4 (λ_=>k .ret ⟨gp [(4,pB false)] 14,[],s⟩) (λ_=>k (.exit 0) ⟨gp [] 19,[],s⟩):=by
 induction n generalizing n0 l_z1 l_t2 l3 i4 with
 | zero=>rfl
 | succ n a=>rw[Dx];simp only[<-a];kernel_rfl
noncomputable def ZN{R:Type}(L:Nat)(n0:Int)(b a:Bool)(d:LL)(c:Bool->Option R):Option R:=Dx L L n0 b a d 0 (λ_=>c false) (λ_=>c true)
theorem B96(d:Nat)(n0 l_z1 l_t2 l3):evC (Hq L) (d+1) Y W 12 [pI n0,.s (.sl l_z1 l_t2 1 l3)] [] s=ZN L n0 l_z1 l_t2 l3 (λa=>some (pB a,[],s)):=by refine(evE (fn:=y9) (by kernel_rfl)).trans ?_;generalize evC (Hq L) d=Q;unfold ZN;exact(j2 (by kernel_rfl) ((ZO L Q W s (E1 0 (E0 (Hq L) Q W (cd [1,1] Aj0) (F3 (Hq L) y9))) L n0 l_z1 l_t2 l3 0).trans (by kernel_rfl)))
end
end
section
open Go Go.Proofs Go.Sort
set_option maxRecDepth 100000
theorem FD{R:Type}(n:Int)(z t:Bool)(l:List By)(c d:Unit->Option R)(j:l.length<=1000000000):∀(r:List By) (i m:Nat),l.drop i=r->r.length<m->Dx LF m n z t (D2 l) (i:Int) c d=if Fu n r then d () else c ()
 | [],i,m,h,b=>by
  obtain⟨m,rfl⟩:∃q,m=q+1:=⟨m-1,by simp at b;omega⟩
  rw[Dx];have:l.length<=i:=v7.1 h;rw[E6 (by rw[E3];omega)];rfl
 | x::r,i,m,h,b=>by
  obtain⟨m,rfl⟩:∃q,m=q+1:=⟨m-1,by simp at b;omega⟩
  rw[Dx];have a:i<l.length:=Decidable.byContradiction λg=>by
   rw[v7.2 (by omega)] at h;cases h
  have o:l.getD i []=x:=by
   have:=o7 a;rw[h] at this;rw[j5,j7 a];exact(y7 this).1.symm
  have k:l.drop (i+1)=r:=by
   have:=o7 a;rw[h] at this;exact(y7 this).2.symm
  rw[B9 (by rw[E3];omega),cond_true,K7 (by omega) (by rw[E3];omega),cond_true,o8,Q2 a,cond_true,U1,o];have e:Fu n (x::r)=(!(ltI n (x.length:Int))&&Fu n r):=rfl;rw[e];by_cases f:n<(x.length:Int)
  ·rw[B9 f];rfl
  ·rw[A6,cond_false,A7,o5,y5];exact FD n z t l c d j r (i+1) m k (by simp at b;omega)
theorem Ao1{R:Type}{b:Bool->Option R}(n:Int)(z t:Bool)(l:LL)(c:l.all isS=true)(d:A3 l.length=true):ZN LF n z t l b=b (Fu n (l.map elS)):=by
 have e:=C5;have a:=L4 d;rw[HX c] at a ⊢;generalize l.map elS=q at a ⊢;rw[E3] at a;unfold ZN;rw[show(0:Int)=((0:Nat):Int) from rfl,FD n z t q _ _ a q 0 LF rfl (by omega)];have:b8 elS (D2 q)=q:=by
  unfold D2;rw[w6];exact v8 (λ_=>rfl) q
 rw[this];cases Fu n q<;>rfl
end
section
open Go Go.Proofs
set_option maxRecDepth 100000
section
theorem C93:B4 a8 GX 12 Ah3:=xf [] (Hq LF) AV rfl trivial rfl (by kernel_rfl) follows λargs=>by
 unfold AV;split
 ·rename_i n b a l;exact λc=>λd=>⟨rfl,rfl,rfl,_,_,(B96 LF noY () 0 n b a l).trans (Ao1 n b a l c d),rfl⟩
 ·trivial
end
end
section
open Go
def ofB(u:U0):Bool:=H8 u.sch&&T9 u
structure OC where
 s:By
 k:Int
 n:By
 v:Int
 a:List Int
 p:Int
 b:Bool
def ofC(i n:By)(j:Int)(k:By)(v4 a b c d e f g h l:Int)(m:By):OC:=
 cond (ofB (mkU i n j k v4 (n8 a b c d e f g h) l m)) ⟨i,j,k,v4,[a,b,c,d,e,f,g,h],prt i l,true⟩ ⟨[],0,[],0,[0,0,0,0,0,0,0,0],0,false⟩
abbrev oS(c:OC):By:=c.s
abbrev oK(c:OC):Int:=c.k
abbrev oN(c:OC):By:=c.n
abbrev oV(c:OC):Int:=c.v
abbrev oA(c:OC)(i:Nat):Int:=c.a.getD i 0
abbrev oP(c:OC):Int:=c.p
abbrev oB(c:OC):Bool:=c.b
def Ec0:By:=[108,111,99,97,108,104,111,115,116]
def FF(i:Int)(j:By)(v4 a b c d e f g h:Int):Bool:=
 cond (J7 (mkH i j v4 (n8 a b c d e f g h))) (cond (i==2) (Pl .u32 v4 24==127) (cond (i==3) ((a==0)&&((b==0)&&((c==0)&&((d==0)&&((e==0)&&((f==0)&&((g==0)&&((h==1)&&true)))))))) (Cm Ec0 j))) false
def Ai6:By:=[102,105,108,101]
def Uj:By:=[97,98,111,117,116]
def Y0(i n:By)(k:Int)(l:By)(v4 a b c d e f g h m:Int)(j:By):Bool:=
 cond (T9 (mkU i n k l v4 (n8 a b c d e f g h) m j)) (cond (i==Bj||(i==Uk||i==Ai6)) true (cond (i==Uj) (j==[98,108,97,110,107]||j==[115,114,99,100,111,99]) (cond (H8 i) (FF k l v4 a b c d e f g h) false))) false
def De(n:Int):Bool:=!ltI n 1&&!ltI 22 n
def A69(n:Int)(a:Bool):Int:=cond (n==4) 1 (cond (n==2||(n==20||(n==9&&!a))) 2 (cond (De n) 3 0))
def B90(l:List By)(s:By):Int:=match l.findIdx? (· == s) with|some i=>(i:Int)|none=>-1
def PH(l:List By)(s:By):Bool:=l.any (· == s)
def Ta(l:List By)(h:B5):Bool:=J7 h&&PH l (P0 h)
structure DV where
 a:Int
 r:Int
 u:By
 e:Int
abbrev dA(d:DV):Int:=d.a
abbrev dR(d:DV):Int:=d.r
abbrev dU(d:DV):By:=d.u
abbrev dE(d:DV):Int:=d.e
abbrev bDQ(d:DV):Blk:=bDx (dA d) (dR d) (dU d)
def QX:By:=[100,97,116,97]
def Fg(i o:By)(j:Int)(k:By)(v4 a b c d e f g h m:Int)(n:By)(p:Int)(r t up q:Bool)(l:List By)(u:Int):DV:=
 cond (M8 i&&u !=0) ⟨2,2,Xp (mkU (upS i) o j k v4 (n8 a b c d e f g h) (upP i m) n),0⟩
 (cond (Y0 i o j k v4 a b c d e f g h m n||i==QX) ⟨1,1,Xp (mkU i o j k v4 (n8 a b c d e f g h) m n),0⟩
 (cond (M8 i&&(up&&(p !=4||Ta l (mkH j k v4 (n8 a b c d e f g h))))) ⟨2,3,Xp (mkU (upS i) o j k v4 (n8 a b c d e f g h) (upP i m) n),0⟩
 (cond (p==4||!t) ⟨1,6,Xp (mkU i o j k v4 (n8 a b c d e f g h) m n),0⟩
 (cond (M8 i&&(A69 p r==2&&(j==1&&!q))) ⟨2,4,Xp (mkU (upS i) o j k v4 (n8 a b c d e f g h) (upP i m) n),0⟩
 ⟨3,5,[],0⟩))))
def okD(d:DV):DV:=⟨d.a,d.r,d.u,0⟩
def Xa(o p:By)(j:Int)(k:By)(v4 a b c d e f g h m:Int)(n:By)(i:Int)(r t up q:Bool)(l:List By)(u:Int):DV:=
 cond (T9 (mkU o p j k v4 (n8 a b c d e f g h) m n)) (cond (De i) (okD (Fg o p j k v4 a b c d e f g h m n i r t up q l u)) ⟨0,0,[],2⟩) ⟨0,0,[],1⟩
end
section
open Go Go.Proofs
set_option maxRecDepth 100000
theorem C54{a:LL}(h:∀b∈a,Ty.ofL [.str] b):a.all isS=true:=by rw[w9];intro b c;have:=h b c;simp only[Ty.ofL,Ty.of] at this;obtain⟨_,_,rfl,⟨l,rfl,_⟩,rfl⟩:=this;rfl
theorem Dc9{P:Program}{t:Nat}{v:PV}(h:Te P t v)(e:Fm P 20 t=some [.bool,.bool,.bool,.bool,.slice [.str]])(m:Ox P t=true) :
  ∃g f up c z l,v = .agg [.s (.bool g),.s (.bool f),.s (.bool up),.s (.bool c),.s (.sl z false 1 l)]/\l.all isS=true:=by
 obtain⟨n,l,i,j,b⟩:=h;rw[e] at i;obtain rfl:=k9 i;simp only[Ty.ofL] at j;obtain⟨_,_,rfl,⟨g,rfl⟩,_,_,rfl,⟨f,rfl⟩,_,_,rfl,⟨up,rfl⟩,_,_,rfl,⟨c,rfl⟩,x,_,rfl,k,rfl⟩:=j;simp only[Ty.of,j8,p7] at k;have⟨z,l,ex,hl⟩:∃z l,x = .sl z false 1 l/\l.all isS=true:=by
  rcases k with rfl|⟨d,rfl,_,a⟩
  ·exact⟨true,[],rfl,rfl⟩
  ·exact⟨false,d,rfl,C54 a⟩
 subst ex;rcases b with⟨_,rfl⟩|⟨b,_⟩
 ·exact⟨g,f,up,c,z,l,rfl,hl⟩
 ·rw[m] at b;cases b
theorem Dc8{P:Program}{t:Nat}{v:PV}(h:Te P t v)(e:Fm P 20 t=some [.int .i64,.str,.bool])(i:Ox P t=true) :
  ∃d b c,v = .agg [.s (.int .i64 d),.s (.str b),.s (.bool c)]:=by
 obtain⟨j,l,f,g,a⟩:=h;rw[e] at f;obtain rfl:=k9 f;simp only[Ty.ofL] at g;obtain⟨_,_,rfl,⟨d,rfl,_,_⟩,_,_,rfl,⟨b,rfl,_⟩,_,_,rfl,⟨c,rfl⟩,rfl⟩:=g;rcases a with⟨_,rfl⟩|⟨a,_⟩
 ·exact⟨d,b,c,rfl⟩
 ·rw[i] at a;cases a
section
def Eb9:List PV->Tr
 | [.agg [.s (.str l),.s (.str m),.s (.int .i64 n),.s (.str i),.s (.int .u32 v4),.s (.int .u16 a),.s (.int .u16 b),.s (.int .u16 c),.s (.int .u16 d),.s (.int .u16 e),.s (.int .u16 f),.s (.int .u16 g),.s (.int .u16 h),.s (.int .i64 j),.s (.str k)]]=>.need (smU l m i k) (.need (ltN v4 4294967296) (.need (ok8 a b c d e f g h) (.need (R7 j) (.ret (.tup [.agg [.s (.str (oS (ofC l m n i v4 a b c d e f g h j k))),.s (.int .i64 (oK (ofC l m n i v4 a b c d e f g h j k))),.s (.str (oN (ofC l m n i v4 a b c d e f g h j k))),.s (.int .u32 (oV (ofC l m n i v4 a b c d e f g h j k))),.s (.int .u16 (oA (ofC l m n i v4 a b c d e f g h j k) 0)),.s (.int .u16 (oA (ofC l m n i v4 a b c d e f g h j k) 1)),.s (.int .u16 (oA (ofC l m n i v4 a b c d e f g h j k) 2)),.s (.int .u16 (oA (ofC l m n i v4 a b c d e f g h j k) 3)),.s (.int .u16 (oA (ofC l m n i v4 a b c d e f g h j k) 4)),.s (.int .u16 (oA (ofC l m n i v4 a b c d e f g h j k) 5)),.s (.int .u16 (oA (ofC l m n i v4 a b c d e f g h j k) 6)),.s (.int .u16 (oA (ofC l m n i v4 a b c d e f g h j k) 7)),.s (.int .i64 (oP (ofC l m n i v4 a b c d e f g h j k)))],.s (.bool (oB (ofC l m n i v4 a b c d e f g h j k)))]) []))))
 | _=>.fail
def IW:List PV->Tr
 | [.agg [.s (.int .i64 j),.s (.str i),.s (.int .u32 v4),.s (.int .u16 a),.s (.int .u16 b),.s (.int .u16 c),.s (.int .u16 d),.s (.int .u16 e),.s (.int .u16 f),.s (.int .u16 g),.s (.int .u16 h)]]=>.need (A3 (b9 i)) (.need (ltN v4 4294967296) (.need (ok8 a b c d e f g h) (.ret (.s (.bool (FF j i v4 a b c d e f g h))) [])))
 | _=>.fail
def Bv2(args:List PV):Tr:=IW (C1 [[0,0,0,0,0,0,0,0,0,0,0]] args)
def AW:List PV->Tr
 | [.agg [.s (.str l),.s (.str m),.s (.int .i64 n),.s (.str i),.s (.int .u32 v4),.s (.int .u16 a),.s (.int .u16 b),.s (.int .u16 c),.s (.int .u16 d),.s (.int .u16 e),.s (.int .u16 f),.s (.int .u16 g),.s (.int .u16 h),.s (.int .i64 j),.s (.str k)]]=>.need (smU l m i k) (.need (ltN v4 4294967296) (.need (ok8 a b c d e f g h) (.need (R7 j) (.ret (.s (.bool (Y0 l m n i v4 a b c d e f g h j k))) []))))
 | _=>.fail
def Ah4(args:List PV):Tr:=AW (C1 [[0,0,0,0,0,0,0,0,0,0,0,0,0,0,0]] args)
def BB:List PV->Tr
 | [.agg [.s (.int .i64 j),.s (.str i),.s (.int .u32 v4),.s (.int .u16 a),.s (.int .u16 b),.s (.int .u16 c),.s (.int .u16 d),.s (.int .u16 e),.s (.int .u16 f),.s (.int .u16 g),.s (.int .u16 h)]]=>.need (A3 (b9 i)) (.need (ltN v4 4294967296) (.need (ok8 a b c d e f g h) (.ret (.s (.bool (FF j i v4 a b c d e f g h))) [])))
 | _=>.fail
def Ah5(args:List PV):Tr:=BB (C1 [[0,0,0,0,0,0,0,0,0,0,0]] args)
def Uc:List PV->Tr
 | [.agg [.s (.str l),.s (.str m),.s (.int .i64 n),.s (.str i),.s (.int .u32 v4),.s (.int .u16 a),.s (.int .u16 b),.s (.int .u16 c),.s (.int .u16 d),.s (.int .u16 e),.s (.int .u16 f),.s (.int .u16 g),.s (.int .u16 h),.s (.int .i64 j),.s (.str k)]]=>.need (smU l m i k) (.need (ltN v4 4294967296) (.need (ok8 a b c d e f g h) (.need (R7 j) (.ret (.s (.bool (Y0 l m n i v4 a b c d e f g h j k))) []))))
 | _=>.fail
def BC(args:List PV):Tr:=Uc (C1 [[0,0,0,0,0,0,0,0,0,0,0,0,0,0,0]] args)
end
section
def AP:List PV->Tr
 | [.s (.int .i64 n)]=>.ret (.s (.bool (De n))) []
 | _=>.fail
def ID(args:List PV):Tr:=AP (C1 [[0]] args)
def UL:List PV->Tr
 | [.s (.int .i64 n),.s (.bool a)]=>.ret (.s (.int .i64 (A69 n a))) []
 | _=>.fail
def Cn1(args:List PV):Tr:=UL (C1 [[0],[0]] args)
def Tz:List PV->Tr
 | [.s (.int .i64 n)]=>.ret (.s (.bool (De n))) []
 | _=>.fail
def BA(args:List PV):Tr:=Tz (C1 [[0]] args)
def KA:List PV->Tr
 | [.s (.sl b a 1 l),.s (.str s)]=>.need (j4 l isS) (.need (A3 (b9 l)) (.ret (.s (.int .i64 (B90 (b8 elS l) s))) []))
 | _=>.fail
def Bw6(args:List PV):Tr:=KA (C1 [[1],[0]] args)
def JZ:List PV->Tr
 | [.s (.sl b a 1 l),.s (.str s)]=>.need (j4 l isS) (.need (A3 (b9 l)) (.ret (.s (.bool (PH (b8 elS l) s))) []))
 | _=>.fail
def Bw5(args:List PV):Tr:=JZ (C1 [[1],[0]] args)
def UJ:List PV->Tr
 | [.agg [.s (.bool p),.s (.bool o),.s (.bool up),.s (.bool n),.s (.sl m k 1 l)],.agg [.s (.int .i64 j),.s (.str i),.s (.int .u32 v4),.s (.int .u16 a),.s (.int .u16 b),.s (.int .u16 c),.s (.int .u16 d),.s (.int .u16 e),.s (.int .u16 f),.s (.int .u16 g),.s (.int .u16 h)]]=>.need (j4 l isS) (.need (A3 (b9 l)) (.need (A3 (b9 i)) (.need (ltN v4 4294967296) (.need (ok8 a b c d e f g h) (.ret (.s (.bool (Ta (b8 elS l) (mkH j i v4 (n8 a b c d e f g h))))) [])))))
 | _=>.fail
def Cn0(args:List PV):Tr:=UJ (C1 [[0,0,0,0,1],[0,0,0,0,0,0,0,0,0,0,0]] args)
def JA:List PV->Tr
 | [.agg [.s (.bool p),.s (.bool o),.s (.bool up),.s (.bool n),.s (.sl m k 1 l)],.agg [.s (.int .i64 j),.s (.str i),.s (.int .u32 v4),.s (.int .u16 a),.s (.int .u16 b),.s (.int .u16 c),.s (.int .u16 d),.s (.int .u16 e),.s (.int .u16 f),.s (.int .u16 g),.s (.int .u16 h)]]=>.need (j4 l isS) (.need (A3 (b9 l)) (.need (A3 (b9 i)) (.need (ltN v4 4294967296) (.need (ok8 a b c d e f g h) (.ret (.s (.bool (Ta (b8 elS l) (mkH j i v4 (n8 a b c d e f g h))))) [])))))
 | _=>.fail
def WA(args:List PV):Tr:=JA (C1 [[0,0,0,0,1],[0,0,0,0,0,0,0,0,0,0,0]] args)
def IV:List PV->Tr
 | [.agg [.s (.str m),.s (.str n),.s (.int .i64 r),.s (.str i),.s (.int .u32 v4),.s (.int .u16 a),.s (.int .u16 b),.s (.int .u16 c),.s (.int .u16 d),.s (.int .u16 e),.s (.int .u16 f),.s (.int .u16 g),.s (.int .u16 h),.s (.int .i64 j),.s (.str k)],.s (.int .i64 p),.s (.bool q),.agg [.s (.bool z),.s (.bool t),.s (.bool up),.s (.bool o),.s (.sl w v 1 l)],.agg [.s (.int .i64 u),.s (.str x),.s (.bool y)]]=>.need (smU m n i k) (.need (ltN v4 4294967296) (.need (ok8 a b c d e f g h) (.need (R7 j) (.need (j4 l isS) (.need (A3 (b9 l)) (.ret (.agg [.s (.int .i64 (dA (Fg m n r i v4 a b c d e f g h j k p q t up o (b8 elS l) u))),.s (.int .i64 (dR (Fg m n r i v4 a b c d e f g h j k p q t up o (b8 elS l) u))),.s (.str (dU (Fg m n r i v4 a b c d e f g h j k p q t up o (b8 elS l) u)))]) []))))))
 | _=>.fail
def Bv1(args:List PV):Tr:=IV (C1 [[0,0,0,0,0,0,0,0,0,0,0,0,0,0,0],[0],[0],[0,0,0,0,1],[0,0,0]] args)
def VQ:List PV->Tr
 | [.agg [.s (.str m),.s (.str n),.s (.int .i64 r),.s (.str i),.s (.int .u32 v4),.s (.int .u16 a),.s (.int .u16 b),.s (.int .u16 c),.s (.int .u16 d),.s (.int .u16 e),.s (.int .u16 f),.s (.int .u16 g),.s (.int .u16 h),.s (.int .i64 j),.s (.str k)],.s (.int .i64 p),.s (.bool q),.agg [.s (.bool z),.s (.bool t),.s (.bool up),.s (.bool o),.s (.sl w v 1 l)],.agg [.s (.int .i64 u),.s (.str x),.s (.bool y)]]=>.need (smU m n i k) (.need (ltN v4 4294967296) (.need (ok8 a b c d e f g h) (.need (R7 j) (.need (j4 l isS) (.need (A3 (b9 l)) (.ret (.tup [.agg [.s (.int .i64 (dA (Xa m n r i v4 a b c d e f g h j k p q t up o (b8 elS l) u))),.s (.int .i64 (dR (Xa m n r i v4 a b c d e f g h j k p q t up o (b8 elS l) u))),.s (.str (dU (Xa m n r i v4 a b c d e f g h j k p q t up o (b8 elS l) u)))],.s (.int .i64 (dE (Xa m n r i v4 a b c d e f g h j k p q t up o (b8 elS l) u)))]) []))))))
 | _=>.fail
def IU(args:List PV):Tr:=VQ (C1 [[0,0,0,0,0,0,0,0,0,0,0,0,0,0,0],[0],[0],[0,0,0,0,1],[0,0,0]] args)
def IQ:List PV->Tr
 | [.agg [.s (.bool e),.s (.bool d),.s (.bool up),.s (.bool c),.s (.sl b a 1 l)]]=>.need (j4 l isS) (.ret (.s (.bool ((w8 (b9 l) 20)&&(Fu (400:Int) (b8 elS l))))) [])
 | _=>.fail
def VI(args:List PV):Tr:=IQ (C1 [[0,0,0,0,1]] args)
def Tt:List PV->Tr
 | []=>.ret (.s (.bool true)) []
 | _=>.fail
def AO(args:List PV):Tr:=Tt (C1 [] args)
end
section
variable {W R : Type} (L : Nat) (Q : F6) (Y : Yh W) (s : W) (k : Out -> St W -> Option R)
noncomputable def KT(L:Nat):Cfg:=B8 L [15] (A2 []) [] (A2 [(1,[2]),(0,[0])]) [] (A2 []) (some [2]) [] [] []
noncomputable def YY{R:Type}(L:Nat)(a:Int)(b:Bool->Option R):Option R:=cond (not (ltI a 1)) (b (not (ltI 22 a))) (b false)
theorem B69(d:Nat)(dest0):evC (KT L) (d+1) W Y 15 [pI dest0] [] s=YY L dest0 (λa=>some (pB a,[],s)):=by refine(evE (fn:=Tryz.f15) (by kernel_rfl)).trans ?_;generalize evC (KT L) d=Q;unfold YY;kernel_rfl
noncomputable def A48(L:Nat):Cfg:=B8 L [33] (A2 []) [(15,ID)] (A2 [(12,[4]),(11,[4]),(10,[17]),(3,[4]),(6,[4]),(9,[4]),(8,[0,13]),(7,[0,0,9]),(5,[0,0,3,2]),(4,[0,0,3,2]),(2,[0,0,3,0]),(1,[0,0,3]),(0,[0,0])]) [15] (A2 [(0,[0])]) (some [4]) [] [] []
noncomputable def De0{R:Type}(L:Nat)(a:Int)(b:Bool)(c:Int->Option R):Option R:=cond (a==4) (c 1) (cond (a==2) (cond (a==2) (c 2) (cond (a==9) (cond (not b) (c 2) (cond (not (De a)) (c 0) (c 3))) (cond (not (De a)) (c 0) (c 3)))) (cond (a==20) (c 2) (cond (a==9) (cond (not b) (c 2) (cond (not (De a)) (c 0) (c 3))) (cond (not (De a)) (c 0) (c 3)))))
theorem De1(d:Nat)(dest0 imageSet1):evC (A48 L) (d+1) W Y 33 [pI dest0,pB imageSet1] [] s=De0 L dest0 imageSet1 (λa=>some (pI a,[],s)):=by refine(evE (fn:=Tryz.f33) (by kernel_rfl)).trans ?_;generalize evC (A48 L) d=Q;unfold De0;kernel_rfl
noncomputable def CD(L:Nat):Cfg:=B8 L [5] (A2 []) [] (A2 [(1,[2]),(0,[0])]) [] (A2 []) (some [2]) [] [] []
noncomputable def HO{R:Type}(L:Nat)(a:Int)(b:Bool->Option R):Option R:=cond (not (ltI a 1)) (b (not (ltI 22 a))) (b false)
theorem Bh2(d:Nat)(dest0):evC (CD L) (d+1) W Y 5 [pI dest0] [] s=HO L dest0 (λa=>some (pB a,[],s)):=by refine(evE (fn:=Tryz.f5) (by kernel_rfl)).trans ?_;generalize evC (CD L) d=Q;unfold HO;kernel_rfl
noncomputable abbrev Bx9:Code:=C6 z7
noncomputable def Na(L:Nat):Cfg:=B8 L [88] (A2 [(2,[0,0,2,2,0])]) [] (A2 [(7,[4]),(6,[0,0,5,0]),(5,[4]),(4,[0,0,3,1,0,7]),(3,[0,0,3,1,0]),(2,[0,0,5,0,0]),(1,[0,0,5,0]),(0,[0,0])]) [] (A2 [(0,[]),(1,[0,0,5,0])]) (some [4]) [] [] []
noncomputable def Je{R:Type}(L n:Nat)(c b:Bool)(d:LL)(h:By)(g a:Int)(e:Int->Option R)(f:Unit->Option R):Option R:=match n with|0=>none|n+1=>cond (ltI a g) (cond (inR a d.length) (cond (okE Ol d (p4 a) 0) (cond (h==(gX d (p4 a) 0)) (e a) (Je L n c b d h g (A1 (a+1)) e f)) none) none) (f ())
theorem Ay3(n s_z0 s_t1 s2 v3 n4 n5):D0 0 ((Na L).keep 2) (bd (Na L) Q Y (cd [1,0,1,0,0] Bx9)) n ⟨gp [(0,.s (.sl s_z0 s_t1 1 s2)),(0,pS v3),(5,pI n4),(0,pI n5)] 10,[],s⟩ k =
 Je L n s_z0 s_t1 s2 v3 n4 n5 (λn0=>k .ret ⟨gp [(4,pI n0)] 14,[],s⟩) (λ_=>k (.exit 0) ⟨gp [] 19,[],s⟩):=by
 induction n generalizing s_z0 s_t1 s2 v3 n4 n5 with
 | zero=>rfl
 | succ n a=>rw[Je];simp only[<-a];kernel_rfl
noncomputable def B32{R:Type}(L:Nat)(b a:Bool)(d:LL)(e:By)(c:Int->Option R):Option R:=Je L L b a d e (d.length:Int) 0 c (λ_=>c (-1))
theorem C50(d:Nat)(s_z0 s_t1 s2 v3):evC (Na L) (d+1) W Y 88 [.s (.sl s_z0 s_t1 1 s2),pS v3] [] s=B32 L s_z0 s_t1 s2 v3 (λa=>some (pI a,[],s)):=by refine(evE (fn:=z7) (by kernel_rfl)).trans ?_;generalize evC (Na L) d=Q;unfold B32;exact(j2 (by kernel_rfl) ((Ay3 L Q Y s (E1 0 (E0 (Na L) Q Y (cd [1,1] Bx9) (F3 (Na L) z7))) L s_z0 s_t1 s2 v3 (s2.length:Int) 0).trans (by kernel_rfl)))
noncomputable def YO(L:Nat):Cfg:=B8 L [59] (A2 []) [(88,Bw6)] (A2 [(1,[4]),(0,[0,0])]) [88] (A2 []) (some [4]) [] [] []
noncomputable def B31{R:Type}(L:Nat)(d c:Bool)(b:LL)(f:By)(e:Bool->Option R):Option R:=cond (j4 b isS) (cond (A3 b.length) (vl (B90 (b8 elS b) f) λa=>e (not (ltI a 0))) none) none
theorem C48(d:Nat)(s_z0 s_t1 s2 v3):evC (YO L) (d+1) W Y 59 [.s (.sl s_z0 s_t1 1 s2),pS v3] [] s=B31 L s_z0 s_t1 s2 v3 (λa=>some (pB a,[],s)):=by refine(evE (fn:=Tryz.f59) (by kernel_rfl)).trans ?_;generalize evC (YO L) d=Q;unfold B31;kernel_rfl
noncomputable def A46(L:Nat):Cfg:=B8 L [32] (A2 []) [(58,UZ),(54,A13),(59,Bw5)] (A2 [(1,[4]),(0,[2,0])]) [58,54,59] (A2 []) (some [4]) [] [] [] (nt:=[(24,4,9,1)])
noncomputable def Dd3{R:Type}(L:Nat)(q r t u j i:Bool)(n:LL)(o:Int)(l:By)(m a b c d e f g h:Int)(v:Bool->(List Blk)->Option R):Option R:=cond (A3 l.length) (cond (ltN m 4294967296) (cond (ok8 a b c d e f g h) (cond (J7 (mkH o l m (n8 a b c d e f g h))) (cond (A3 l.length) (cond (ltN m 4294967296) (cond (ok8 a b c d e f g h) (vl (P0 (mkH o l m (n8 a b c d e f g h))) λp=>cond (j4 n isS) (cond (A3 n.length) (v (PH (b8 elS n) p) [(bCx q r t u j i n),(bH o l m a b c d e f g h)]) none) none) none) none) none) (v false [(bCx q r t u j i n),(bH o l m a b c d e f g h)])) none) none) none
theorem Dd4(d:Nat)(c0 c1 c2 c3 c_z4 c_t5 c6 h7 h8 h9 h10 h11 h12 h13 h14 h15 h16 h17):evC (A46 L) (d+1) W Y 32 [(gCx c0 c1 c2 c3 c_z4 c_t5 c6),(gH h7 h8 h9 h10 h11 h12 h13 h14 h15 h16 h17)] [] s=Dd3 L c0 c1 c2 c3 c_z4 c_t5 c6 h7 h8 h9 h10 h11 h12 h13 h14 h15 h16 h17 (λb a=>some (pB b,a,s)):=by refine(evE (fn:=Tryz.f32) (by kernel_rfl)).trans ?_;generalize evC (A46 L) d=Q;unfold Dd3;kernel_rfl
noncomputable abbrev Bx3:Code:=C6 y8
noncomputable def Mu(L:Nat):Cfg:=B8 L [11] (A2 [(4,[2,0,0,0])]) [(19,GP),(20,WF)] (A2 [(8,[4]),(5,[2,0,1]),(7,[4]),(6,[2,0,1,17]),(4,[2,0,1,7]),(3,[2,0,1]),(2,[4]),(1,[2,0,4]),(0,[2,0])]) [19,20] (A2 [(0,[]),(1,[2,0,1])]) (some [4]) [] [] [] (nt:=[(24,4,9,1)])
noncomputable def Il{R:Type}(L n:Nat)(m:Int)(p q r t w v:Bool)(l:LL)(j:Int)(o:By)(a b c d e f g h i:Int)(x:(List Blk)->Option R)(y:Bool->Bool->Bool->Bool->Bool->Bool->LL->Int->By->Int->Int->Int->Int->Int->Int->Int->Int->Int->Option R):Option R:=match n with|0=>none|n+1=>cond (ltI m (l.length:Int)) (cond (inR m l.length) (cond (okE Ol l (p4 m) 0) (cond (A3 o.length) (cond (ltN a 4294967296) (cond (ok8 b c d e f g h i) (vl (P0 (mkH j o a (n8 b c d e f g h i))) λu=>cond ((gX l (p4 m) 0)==u) (x [(bCx p q r t w v l),(bH j o a b c d e f g h i)]) (Il L n (A1 (m+1)) p q r t w v l j o a b c d e f g h i x y)) none) none) none) none) none) (y p q r t w v l j o a b c d e f g h i)
theorem Ar5(n i0 i j l b4 z5 t6 l7 n8v s9 a b c d e f g h n18):D0 2 ((Mu L).keep 4) (bd (Mu L) Q Y (cd [1,1,0,1,0,0] Bx3)) n ⟨gp [(2,.ptr 0 0 0),(0,.ptr 1 0 0),(1,pI i0)] 18,[(bCx i j l b4 z5 t6 l7),(bH n8v s9 a b c d e f g h n18)],s⟩ k =
 Il L n i0 i j l b4 z5 t6 l7 n8v s9 a b c d e f g h n18 (λm=>k .ret ⟨gp [(4,pB true)] 19,m,s⟩) (λo i j l w v q r u t a b c d e f g h=>k (.exit 0) ⟨gp [] 24,[(bCx o i j l w v q),(bH r u t a b c d e f g h)],s⟩):=by
 induction n generalizing i0 i j l b4 z5 t6 l7 n8v s9 a b c d e f g h n18 with
 | zero=>rfl
 | succ n p=>rw[Il];simp only[<-p];kernel_rfl
noncomputable def B17{R:Type}(L:Nat)(K M N O j i:Bool)(P:LL)(D:Int)(w:By)(x a b c d e f g h:Int)(F:Bool->(List Blk)->Option R):Option R:=cond (A3 w.length) (cond (ltN x 4294967296) (cond (ok8 a b c d e f g h) (cond (not (J7 (mkH D w x (n8 a b c d e f g h)))) (F false [(bCx K M N O j i P),(bH D w x a b c d e f g h)]) (Il L L 0 K M N O j i P D w x a b c d e f g h (λy=>F true y) (λz A B C J I G H v l m n o p q r t u=>F false [(bCx z A B C J I G),(bH H v l m n o p q r t u)]))) none) none) none
theorem Cz9(d:Nat)(c0 c1 c2 c3 c_z4 c_t5 c6 h7 h8 h9 h10 h11 h12 h13 h14 h15 h16 h17):evC (Mu L) (d+1) W Y 11 [(gCx c0 c1 c2 c3 c_z4 c_t5 c6),(gH h7 h8 h9 h10 h11 h12 h13 h14 h15 h16 h17)] [] s=B17 L c0 c1 c2 c3 c_z4 c_t5 c6 h7 h8 h9 h10 h11 h12 h13 h14 h15 h16 h17 (λb a=>some (pB b,a,s)):=by refine(evE (fn:=y8) (by kernel_rfl)).trans ?_;generalize evC (Mu L) d=Q;unfold B17;exact(j2 (by kernel_rfl) (A0 (A0 (A0 (A0 rfl ((Ar5 L Q Y s (E1 0 (E0 (Mu L) Q Y (cd [1,1,1] Bx3) (F3 (Mu L) y8))) L 0 c0 c1 c2 c3 c_z4 c_t5 c6 h7 h8 h9 h10 h11 h12 h13 h14 h15 h16 h17).trans (by kernel_rfl))) rfl) rfl) rfl))
noncomputable abbrev Jm:Code:=C6 x7
noncomputable def Ck(L:Nat):Cfg:=B8 L [16] (A2 []) [(28,A31),(29,Cp4),(30,Cp8),(31,Ah4),(32,Cn0),(33,Cn1)] (A2 [(13,[10]),(4,[10]),(6,[10]),(8,[10]),(10,[10]),(12,[10]),(11,[10,3,55]),(9,[1,0,2,2,1,0,1,0,46]),(7,[1,0,2,2,1,0,0,0,0,28]),(5,[1,0,2,2,1,0,0,0,0,18]),(3,[1,0,2,2,1,0,0,0,0,9]),(2,[1,0,2,2,0,0,0,0,0,0]),(1,[1,0,2,2,0,0,0,0]),(0,[1,0,2,2,0,0])]) [28,29,31,32,33] (A2 [(0,[10])]) (some [10]) [] [] [] (nt:=[(24,4,9,1)])
noncomputable def Yo{R:Type}(a A B:By)(u:Int)(C:By)(h i j l m n o p q r:Int)(v:By)(b c d e y x:Bool)(g:LL)(t:Int)(w:By)(f:Bool)(z:Blk->Blk->Blk->By->(List Blk)->Option R):Option R:=z (bU A B u C h i j l m n o p q r v) (bCx b c d e y x g) (bCv t w f) a []
abbrev MV(b:Code):Prop:=∀(k:Out->St W->Option R) dest0 imageSet1 insecure2 document3 allow4 upgrade5 s6 s7 n8v s9 n10 n11 n12 n13 n14 n15 n16 n17 n18 n19 s20 b21 b22 b23 b24 z25 t26 l27 n28 s29 b30,B3 (Ck L) Q Y b ⟨gp [(1,pI dest0),(0,pB imageSet1),(2,.ptr 0 0 0),(2,.ptr 1 0 0),(1,.ptr 3 0 0),(0,pB insecure2),(0,pB document3),(0,pS allow4),(0,pS upgrade5),(28,pB true)] 48,[(bU s6 s7 n8v s9 n10 n11 n12 n13 n14 n15 n16 n17 n18 n19 s20),(bCx b21 b22 b23 b24 z25 t26 l27),(bCv n28 s29 b30),(bDx (0:Int) (0:Int) e0)],s⟩ k=Yo upgrade5 s6 s7 n8v s9 n10 n11 n12 n13 n14 n15 n16 n17 n18 n19 s20 b21 b22 b23 b24 z25 t26 l27 n28 s29 b30 (λa c d f e=>k .ret ⟨gp [(10,.ptr 3 0 0)] 81,(a::c::d::(bDx (2:Int) (3:Int) f)::e),s⟩)
theorem Ao9:MV (R:=R) L Q Y s (cd [1,1,1,0,0,1,1,1,1,1] Jm):=by intro k f b c a e d F G z H n o p q r t u v w x A g h i j D C m y B l;unfold Yo;kernel_rfl
noncomputable def Lq{R:Type}(H:Int)(A B z:Bool)(C a:By)(K:Bool)(F G:By)(D:Int)(u:By)(h i j l m n o p q r:Int)(v:By)(d c e b y x:Bool)(g:LL)(t:Int)(w:By)(f:Bool)(I:Blk->Blk->Blk->Int->Int->By->(List Blk)->Option R)(J:By->Bool->By->By->Int->By->Int->Int->Int->Int->Int->Int->Int->Int->Int->Int->By->Bool->Bool->Bool->Bool->Bool->Bool->LL->Int->By->Bool->Option R):Option R:=cond K (I (bU F G D u h i j l m n o p q r v) (bCx d c e b y x g) (bCv t w f) 2 3 a []) (cond z (I (bU F G D u h i j l m n o p q r v) (bCx d c e b y x g) (bCv t w f) 1 6 C []) (cond (not c) (I (bU F G D u h i j l m n o p q r v) (bCx d c e b y x g) (bCv t w f) 1 6 C []) (cond B (cond ((A69 H A)==2) (cond (D==1) (cond (not b) (I (bU F G D u h i j l m n o p q r v) (bCx d c e b y x g) (bCv t w f) 2 4 a []) (J a (not b) F G D u h i j l m n o p q r v d c e b y x g t w f)) (J a false F G D u h i j l m n o p q r v d c e b y x g t w f)) (J a false F G D u h i j l m n o p q r v d c e b y x g t w f)) (J a false F G D u h i j l m n o p q r v d c e b y x g t w f))))
abbrev MW(b:Code):Prop:=∀(k:Out->St W->Option R) dest0 imageSet1 insecure2 document3 allow4 upgrade5 b6 s7 s8 h s10 c d e f g n16 n17 n18 n19 n20 s21 b22 b23 b24 b25 z26 t27 l28 n29 s30 b31,B3 (Ck L) Q Y b ⟨gp [(1,pI dest0),(0,pB imageSet1),(2,.ptr 0 0 0),(2,.ptr 1 0 0),(1,.ptr 3 0 0),(0,pB insecure2),(0,pB document3),(0,pS allow4),(0,pS upgrade5),(28,pB b6)] 48,[(bU s7 s8 h s10 c d e f g n16 n17 n18 n19 n20 s21),(bCx b22 b23 b24 b25 z26 t27 l28),(bCv n29 s30 b31),(bDx (0:Int) (0:Int) e0)],s⟩ k=Lq dest0 imageSet1 insecure2 document3 allow4 upgrade5 b6 s7 s8 h s10 c d e f g n16 n17 n18 n19 n20 s21 b22 b23 b24 b25 z26 t27 l28 n29 s30 b31 (λz A B F r w C=>k .ret ⟨gp [(10,.ptr 3 0 0)] 81,(z::A::B::(bDx F r w)::C),s⟩) (λa D I J r w G H t h p c d e f g u i j l m y x o q v n=>k .normal ⟨gp [(10,.ptr 3 0 0),(3,pS a),(55,pB D)] 21,[(bU I J r w G H t h p c d e f g u),(bCx i j l m y x o),(bCv q v n),(bDx (0:Int) (0:Int) e0)],s⟩)
theorem Ap0:MW (R:=R) L Q Y s (cd [1,1,1,0,0,1,1,1,1,1] Jm):=by intro k f b c a e d F H I G z n o p q r t u v w x A g h i j D C m y B l;unfold Lq;kernel_rfl
noncomputable def Qv{R:Type}(z:Int)(d c b:Bool)(e a:By)(S:Bool)(F H:By)(G:Int)(p:By)(f g h i j l m n o r:Int)(t:By)(v w u x D C:Bool)(q:LL)(A:Int)(B:By)(y:Bool)(I:Blk->Blk->Blk->Int->Int->By->(List Blk)->Option R)(O:By->Bool->By->By->Int->By->Int->Int->Int->Int->Int->Int->Int->Int->Int->Int->By->Bool->Bool->Bool->Bool->Bool->Bool->LL->Int->By->Bool->Option R):Option R:=cond S (I (bU F H G p f g h i j l m n o r t) (bCx v w u x D C q) (bCv A B y) 2 2 a []) (cond (smU F H p t) (cond (ltN f 4294967296) (cond (ok8 g h i j l m n o) (cond (R7 r) (cond (Y0 F H G p f g h i j l m n o r t) (I (bU F H G p f g h i j l m n o r t) (bCx v w u x D C q) (bCv A B y) 1 1 e []) (cond (F==[100,97,116,97]) (I (bU F H G p f g h i j l m n o r t) (bCx v w u x D C q) (bCv A B y) 1 1 e []) (cond c (cond u (cond (not b) (Yo a F H G p f g h i j l m n o r t v w u x D C q A B y (λJ K M P N=>I J K M 2 3 P N)) (cond (j4 q isS) (cond (A3 q.length) (cond (A3 p.length) (cond (ltN f 4294967296) (cond (ok8 g h i j l m n o) (Lq z d c b e a (Ta (b8 elS q) (mkH G p f (n8 g h i j l m n o))) F H G p f g h i j l m n o r t v w u x D C q A B y I O) none) none) none) none) none)) (Lq z d c b e a false F H G p f g h i j l m n o r t v w u x D C q A B y I O)) (Lq z d c b e a false F H G p f g h i j l m n o r t v w u x D C q A B y I O)))) none) none) none) none)
abbrev Vm(b:Code):Prop:=∀(k:Out->St W->Option R) dest0 imageSet1 insecure2 document3 allow4 upgrade5 b6 s7 s8 h s10 c d e f g n16 n17 n18 n19 n20 s21 b22 b23 b24 b25 z26 t27 l28 n29 s30 b31,B3 (Ck L) Q Y b ⟨gp [(1,pI dest0),(0,pB imageSet1),(2,.ptr 0 0 0),(2,.ptr 1 0 0),(1,.ptr 3 0 0),(0,pB insecure2),(0,pB document3),(0,pS allow4),(0,pS upgrade5),(9,pB b6)] 67,[(bU s7 s8 h s10 c d e f g n16 n17 n18 n19 n20 s21),(bCx b22 b23 b24 b25 z26 t27 l28),(bCv n29 s30 b31),(bDx (0:Int) (0:Int) e0)],s⟩ k=Qv dest0 imageSet1 insecure2 document3 allow4 upgrade5 b6 s7 s8 h s10 c d e f g n16 n17 n18 n19 n20 s21 b22 b23 b24 b25 z26 t27 l28 n29 s30 b31 (λz A B F r w C=>k .ret ⟨gp [(10,.ptr 3 0 0)] 81,(z::A::B::(bDx F r w)::C),s⟩) (λa D I J r w G H t h p c d e f g u i j l m y x o q v n=>k .normal ⟨gp [(10,.ptr 3 0 0),(3,pS a),(55,pB D)] 21,[(bU I J r w G H t h p c d e f g u),(bCx i j l m y x o),(bCv q v n),(bDx (0:Int) (0:Int) e0)],s⟩)
theorem Ap1(a:Code)(i:MV (R:=R) L Q Y s a)(e:MW (R:=R) L Q Y s a):Vm (R:=R) L Q Y s (cd [1,1,1,0,0,1] (G6 [1,1,1,0,0,1,1,1,1,1] a Jm)):=by intro k h c d b g f M J K I v l m n o p q r t u B D w x y z H G j C F A;unfold Qv;exact(j2 (by kernel_rfl) (A0 rfl (A0 (A0 (A0 (A0 (A0 rfl (A0 rfl (A0 (A0 (A0 ((i k h c d b g f J K I v l m n o p q r t u B D w x y z H G j C F A).trans (by kernel_rfl)) (A0 (A0 (A0 (A0 (A0 ((e k h c d b g f (Ta (b8 elS j) (mkH I v l (n8 m n o p q r t u))) J K I v l m n o p q r t u B D w x y z H G j C F A).trans (by kernel_rfl)) rfl) rfl) rfl) rfl) rfl)) ((e k h c d b g f false J K I v l m n o p q r t u B D w x y z H G j C F A).trans (by kernel_rfl))) ((e k h c d b g f false J K I v l m n o p q r t u B D w x y z H G j C F A).trans (by kernel_rfl))))) rfl) rfl) rfl) rfl)))
theorem Ap2:Vm (R:=R) L Q Y s (cd [1,1,1,0,0,1] Jm):=by intro k f b c a e d F H I G z n o p q r t u v w x A g h i j D C m y B l;exact j2 (by kernel_rfl) (Ap1 L Q Y s (cd [1,1,1,0,0,1,1,1,1,1] Jm) (Ao9 L Q Y s) (Ap0 L Q Y s) k f b c a e d F H I G z n o p q r t u v w x A g h i j D C m y B l)
noncomputable def Ao8{R:Type}(L:Nat)(u u1:By)(u2:Int)(u3:By)(u4 u5 u6 u7 u8 u9 d e f g:Int)(h:By)(b:Int)(a d8 d9 e1 e2 j i:Bool)(e3:LL)(c:Int)(l:By)(m:Bool)(k0:Int->Int->By->(List Blk)->Option R):Option R:=cond (smU u u1 u3 h) (cond (ltN u4 4294967296) (cond (ok8 u5 u6 u7 u8 u9 d e f) (cond (R7 g) (vl (Xp (mkU u u1 u2 u3 u4 (n8 u5 u6 u7 u8 u9 d e f) g h)) λe4=>cond (smU (upS u) u1 u3 h) (cond (ltN u4 4294967296) (cond (ok8 u5 u6 u7 u8 u9 d e f) (cond (R7 (upP u g)) (vl (Xp (mkU (upS u) u1 u2 u3 u4 (n8 u5 u6 u7 u8 u9 d e f) (upP u g) h)) λe5=>cond (M8 u) (Qv b a (M8 u) (b==4) e4 e5 (c !=0) u u1 u2 u3 u4 u5 u6 u7 u8 u9 d e f g h d8 d9 e1 e2 j i e3 c l m (λx y z n o r D=>k0 n o r (x::(y::(z::((bDx n o r)::D))))) (λv e6 c4 c5 V c6 X Z a0 a1 a2 a3 a4 a5 a6 a7 c7 G H I J d6 d4 T a9 c8 K=>k0 3 5 e0 [(bU c4 c5 V c6 X Z a0 a1 a2 a3 a4 a5 a6 a7 c7),(bCx G H I J d6 d4 T),(bCv a9 c8 K),(bDx (3:Int) (5:Int) e0)])) (Qv b a (M8 u) (b==4) e4 e5 false u u1 u2 u3 u4 u5 u6 u7 u8 u9 d e f g h d8 d9 e1 e2 j i e3 c l m (λA B C p q t F=>k0 p q t (A::(B::(C::((bDx p q t)::F))))) (λw e7 c9 d0 b0 d1 b1 b2 b3 b4 b5 b6 b7 c0 c1 c2 d2 M N O P d7 d5 U c3 d3 S=>k0 3 5 e0 [(bU c9 d0 b0 d1 b1 b2 b3 b4 b5 b6 b7 c0 c1 c2 d2),(bCx M N O P d7 d5 U),(bCv c3 d3 S),(bDx (3:Int) (5:Int) e0)]))) none) none) none) none) none) none) none) none
theorem Cx5(e:Code)(c:Vm (R:=PV × List Blk × W) L Q Y s e)(v y:By)(z:Int)(A:By)(B C D F u8 G p q r t:Int)(u:By)(b:Int)(a j l m n g f:Bool)(o:LL)(d:Int)(h:By)(i:Bool):B3 (Ck L) Q Y (cd [] (G6 [1,1,1,0,0,1] e Jm)) ⟨[(gU v y z A B C D F u8 G p q r t u),pI b,pB a,(gCx j l m n g f o),(gCv d h i)]++tps 87,[],s⟩ (F3 (Ck L) x7)=Ao8 L v y z A B C D F u8 G p q r t u b a j l m n g f o d h i (λJ K M I=>some (.agg [pI J,pI K,pS M],I,s)):=by unfold Ao8;exact let H:=(E1 0 (E0 (Ck L) Q Y (cd [1,1,1,1] Jm) (F3 (Ck L) x7)));(j2 (by kernel_rfl) (A0 (A0 (A0 (A0 (A4 λw=>(A0 (A0 (A0 (A0 (A4 λx=>(A0 ((c H b a (M8 v) (b==4) w x (d !=0) v y z A B C D F u8 G p q r t u j l m n g f o d h i).trans (by kernel_rfl)) ((c H b a (M8 v) (b==4) w x false v y z A B C D F u8 G p q r t u j l m n g f o d h i).trans (by kernel_rfl)))) rfl) rfl) rfl) rfl)) rfl) rfl) rfl) rfl))
theorem Cx6(d:Nat)(u0 u1 u2 u3 u4 u5 u6 u7 u8 u9 u10 u11 u12 u13 u14 dest15 imageSet16 c17 c18 c19 c20 c_z21 c_t22 c23 cov24 cov25 cov26):evC (Ck L) (d+1) W Y 16 [(gU u0 u1 u2 u3 u4 u5 u6 u7 u8 u9 u10 u11 u12 u13 u14),pI dest15,pB imageSet16,(gCx c17 c18 c19 c20 c_z21 c_t22 c23),(gCv cov24 cov25 cov26)] [] s=Ao8 L u0 u1 u2 u3 u4 u5 u6 u7 u8 u9 u10 u11 u12 u13 u14 dest15 imageSet16 c17 c18 c19 c20 c_z21 c_t22 c23 cov24 cov25 cov26 (λb c e a=>some (.agg [pI b,pI c,pS e],a,s)):=
 (evE (fn:=x7) (by kernel_rfl)).trans (j2 (by kernel_rfl) (Cx5 L (evC (Ck L) d) Y s (cd [1,1,1,0,0,1] Jm) (Ap2 L (evC (Ck L) d) Y s) u0 u1 u2 u3 u4 u5 u6 u7 u8 u9 u10 u11 u12 u13 u14 dest15 imageSet16 c17 c18 c19 c20 c_z21 c_t22 c23 cov24 cov25 cov26))
noncomputable def A58(L:Nat):Cfg:=B8 L [8] (A2 []) [(14,Ru),(15,ID),(16,Bv1)] (A2 [(5,[10,0]),(2,[10,0]),(4,[10,0]),(3,[1,0,2,2,0,0,6]),(1,[1,0,2,2,0,0,1]),(0,[1,0,2,2,0,0])]) [14,15] (A2 [(0,[1,0,2,2,0,0])]) (some [10,0]) [] [] [] (nt:=[(24,4,9,1)])
noncomputable def Dj6{R:Type}(L:Nat)(u v:By)(C:Int)(w:By)(x y z A u8 B g h i j:Int)(l:By)(m:Int)(b t o p q d c:Bool)(n:LL)(a:Int)(e:By)(f:Bool)(D:Int->Int->By->Int->(List Blk)->Option R):Option R:=cond (smU u v w l) (cond (ltN x 4294967296) (cond (ok8 y z A u8 B g h i) (cond (R7 j) (cond (not (T9 (mkU u v C w x (n8 y z A u8 B g h i) j l))) (D 0 0 e0 1 [(bU u v C w x y z A u8 B g h i j l),(bCx t o p q d c n),(bCv a e f),(bDx (0:Int) (0:Int) e0)]) (cond (not (De m)) (D 0 0 e0 2 [(bU u v C w x y z A u8 B g h i j l),(bCx t o p q d c n),(bCv a e f),(bDx (0:Int) (0:Int) e0)]) (cond (smU u v w l) (cond (ltN x 4294967296) (cond (ok8 y z A u8 B g h i) (cond (R7 j) (cond (j4 n isS) (cond (A3 n.length) (vl (Fg u v C w x y z A u8 B g h i j l m b o p q (b8 elS n) a) λr=>D (dA r) (dR r) (dU r) 0 [(bU u v C w x y z A u8 B g h i j l),(bCx t o p q d c n),(bCv a e f),(bDQ r)]) none) none) none) none) none) none))) none) none) none) none
theorem Dj7(d:Nat)(u0 u1 u2 u3 u4 u5 u6 u7 u8 u9 u10 u11 u12 u13 u14 dest15 imageSet16 c17 c18 c19 c20 c_z21 c_t22 c23 cov24 cov25 cov26):evC (A58 L) (d+1) W Y 8 [(gU u0 u1 u2 u3 u4 u5 u6 u7 u8 u9 u10 u11 u12 u13 u14),pI dest15,pB imageSet16,(gCx c17 c18 c19 c20 c_z21 c_t22 c23),(gCv cov24 cov25 cov26)] [] s=Dj6 L u0 u1 u2 u3 u4 u5 u6 u7 u8 u9 u10 u11 u12 u13 u14 dest15 imageSet16 c17 c18 c19 c20 c_z21 c_t22 c23 cov24 cov25 cov26 (λb c e f a=>some (.tup [.agg [pI b,pI c,pS e],pI f],a,s)):=by refine(evE (fn:=Tryz.f8) (by kernel_rfl)).trans ?_;generalize evC (A58 L) d=Q;unfold Dj6;kernel_rfl
noncomputable def YA(L:Nat):Cfg:=B8 L [4] (A2 []) [(12,Ah3)] (A2 [(1,[2]),(0,[1])]) [12] (A2 []) (some [2]) [] [] [] (nt:=[(24,4,9,1)])
noncomputable def B02{R:Type}(L:Nat)(d e f g b a:Bool)(c:LL)(h:Bool->(List Blk)->Option R):Option R:=cond (not (ltI 20 (c.length:Int))) (cond (j4 c isS) (cond (A3 c.length) (h (Fu (400:Int) (b8 elS c)) [(bCx d e f g b a c)]) none) none) (h false [(bCx d e f g b a c)])
theorem Cw4(d:Nat)(c0 c1 c2 c3 c_z4 c_t5 c6):evC (YA L) (d+1) W Y 4 [(gCx c0 c1 c2 c3 c_z4 c_t5 c6)] [] s=B02 L c0 c1 c2 c3 c_z4 c_t5 c6 (λb a=>some (pB b,a,s)):=by refine(evE (fn:=Tryz.f4) (by kernel_rfl)).trans ?_;generalize evC (YA L) d=Q;unfold B02;kernel_rfl
end
theorem Al1{R:Type}{a:Bool->Option R}(n:Int):YY LF n a=a (De n):=by unfold YY De;cases ltI n 1<;>rfl
theorem Ab8{R:Type}{a:Bool->Option R}(n:Int):HO LF n a=a (De n):=by unfold HO De;cases ltI n 1<;>rfl
theorem B61{R:Type}{b:Int->Option R}(n:Int)(a:Bool):De0 LF n a b=b (A69 n a):=by unfold De0 A69;cases n==4<;>cases n==2<;>cases n==20<;>cases n==9<;>cases a<;>cases De n<;>rfl
theorem Bq5{R:Type}(z t:Bool)(l:List By)(v:By)(a:Int->Option R)(b:Unit->Option R)(k:l.length<=1000000000):∀(r i m:Nat),i+r=l.length->r<m->
  Je LF m z t (D2 l) v (l.length:Int) (i:Int) a b=match (l.drop i).findIdx? (· == v) with|some j=>a ((i+j:Nat):Int)|none=>b ():=by
 intro r
 induction r with
 | zero=>
  intro i m e f;obtain⟨m,rfl⟩:∃q,m=q+1:=⟨m-1,by omega⟩
  rw[Je,A6,p5 (by omega)];rfl
 | succ r g=>
  intro i m e f;obtain⟨m,rfl⟩:∃q,m=q+1:=⟨m-1,by omega⟩
  have c:A1 ((i:Int)+1)=((i+1:Nat):Int):=by rw[A7];rfl
  have d:l.drop i=l.getD i []::l.drop (i+1):=by
   rw[j5,j7 (by omega),x3,p6]
  rw[Je,A9,K7 (by omega) (by rw[E3];omega),o8,Q2 (by omega),U1,c,d,List.findIdx?_cons];simp only[cond_true];by_cases h:l.getD i []=v
  ·rw[h,beq_self_eq_true];simp
  ·rw[show(v==l.getD i [])=false by simpa using λq=>h q.symm,show(l.getD i []==v)=false by simpa using h,cond_false,g (i+1) m (by omega) (by omega)];cases (l.drop (i+1)).findIdx? (· == v) with
   | none=>rfl
   | some j=>simp[Nat.add_assoc,Nat.add_comm 1 j]
theorem Bq6{R:Type}{b:Int->Option R}(z t:Bool)(l:LL)(v:By)(c:l.all isS=true)(d:A3 l.length=true):B32 LF z t l v b=b (B90 (l.map elS) v):=by
 have f:=C5;have a:=L4 d;rw[HX c] at a ⊢;generalize l.map elS=q at a ⊢;rw[E3] at a;have e:b8 elS (D2 q)=q:=by
  unfold D2;rw[w6];exact v8 (λ_=>rfl) q
 unfold B32 B90;rw[E3,e];refine(Bq5 z t q v _ _ a q.length 0 LF (by omega) (by omega)).trans ?_;rw[x5];cases q.findIdx? (· == v) with
 | none=>rfl
 | some j=>
  show b ((0+j:Nat):Int)=b (j:Int);rw[Nat.zero_add]
theorem Dh7(l:List By)(v:By):(!ltI (B90 l v) 0)=PH l v:=by
 unfold B90 PH;cases h:l.findIdx? (· == v) with
 | none=>
  rw[List.findIdx?_eq_none_iff] at h;show(!ltI (-1) 0)=_;rw[A9];exact(List.any_eq_false.2 λx c=>by rw[h x c];simp).symm
 | some j=>
  show(!ltI (j:Int) 0)=_;rw[A6];exact(List.any_eq_true.2 (by
   obtain⟨a,b,_⟩:=List.findIdx?_eq_some_iff_getElem.1 h;exact⟨_,List.getElem_mem a,b⟩)).symm
theorem Bq1{R:Type}{a:Bool->Option R}(z t:Bool)(l:LL)(v:By)(b:l.all isS=true)(c:A3 l.length=true):B31 LF z t l v a=a (PH (l.map elS) v):=by unfold B31;rw[b,c,<-Dh7];rfl
theorem Dd5(x v up m z t:Bool)(l:LL)(j:Int)(i:By)(v4 a b c d e f g h:Int)(n:l.all isS=true)(o:A3 l.length=true)(p:A3 i.length=true)(q:ltN v4 4294967296=true)(u:ok8 a b c d e f g h=true) :
  ∃r H,Dd3 LF x v up m z t l j i v4 a b c d e f g h (λw k=>rv (.s (.bool w)) k)=rv r H/\r.stab [] H = .s (.bool (Ta (l.map elS) (mkH j i v4 (n8 a b c d e f g h)))):=by
 unfold Dd3 Ta;rw[n,o,p,q,u];cases J7 (mkH j i v4 (n8 a b c d e f g h))<;>exact⟨_,_,rfl,rfl⟩
theorem Bg4(v u up n z t:Bool)(l:List By)(k:Int)(j:By)(v4 a b c d e f g h:Int)(G:l.length<=1000000000)(x:A3 j.length=true)(y:ltN v4 4294967296=true)(A:ok8 a b c d e f g h=true):∃H,∀(R:Type) (o:List Blk->Option R) (p:Bool->Bool->Bool->Bool->Bool->Bool->LL->Int->By->Int->Int->Int->Int->Int->Int->Int->Int->Int->Option R),∀(r i m:Nat),i+r=l.length->r<m->
  Il LF m (i:Int) v u up n z t (D2 l) k j v4 a b c d e f g h o p=if PH (l.drop i) (P0 (mkH k j v4 (n8 a b c d e f g h))) then o H else p v u up n z t (D2 l) k j v4 a b c d e f g h:=by
 refine⟨[bCx v u up n z t (D2 l),bH k j v4 a b c d e f g h],λR o p r=>?_⟩
 induction r with
 | zero=>
  intro i m C D;obtain⟨m,rfl⟩:∃q,m=q+1:=⟨m-1,by omega⟩
  rw[Il,E6 (by rw[E3];omega),p5 (by omega)];rfl
 | succ r F=>
  intro i m C D;obtain⟨m,rfl⟩:∃q,m=q+1:=⟨m-1,by omega⟩
  have w:A1 ((i:Int)+1)=((i+1:Nat):Int):=by rw[A7];rfl
  have B:l.drop i=l.getD i []::l.drop (i+1):=by
   rw[j5,j7 (by omega),x3,p6]
  rw[Il,B9 (by rw[E3];omega),K7 (by omega) (by rw[E3];omega),o8,Q2 (by omega),U1,w,B,x,y,A];simp only[cond_true,vl];rw[show PH (l.getD i []::l.drop (i+1)) (P0 (mkH k j v4 (n8 a b c d e f g h)))=((l.getD i []==P0 (mkH k j v4 (n8 a b c d e f g h)))||PH (l.drop (i+1)) (P0 (mkH k j v4 (n8 a b c d e f g h)))) from rfl];cases l.getD i []==P0 (mkH k j v4 (n8 a b c d e f g h)) with
  | true=>rfl
  | false=>
   rw[cond_false,F (i+1) m (by omega) (by omega)];rfl
theorem C00(w v up n z t:Bool)(l:LL)(k:Int)(j:By)(v4 a b c d f g h i:Int)(y:l.all isS=true)(A:A3 l.length=true)(o:A3 j.length=true)(p:ltN v4 4294967296=true)(u:ok8 a b c d f g h i=true) :
  ∃r H,B17 LF w v up n z t l k j v4 a b c d f g h i (λD x=>rv (.s (.bool D)) x)=rv r H/\r.stab [] H = .s (.bool (Ta (l.map elS) (mkH k j v4 (n8 a b c d f g h i)))):=by
 have C:=C5;have m:=L4 A;rw[HX y] at m ⊢;generalize l.map elS=q at m ⊢;rw[E3] at m;have e:b8 elS (D2 q)=q:=by
  unfold D2;rw[w6];exact v8 (λ_=>rfl) q
 obtain⟨H,B⟩:=Bg4 w v up n z t q k j v4 a b c d f g h i m o p u;unfold B17 Ta;rw[o,p,u,e];cases J7 (mkH k j v4 (n8 a b c d f g h i)) with
 | false=>exact⟨_,_,rfl,rfl⟩
 | true=>
  simp only[cond_true,j9,cond_false,y5];rw[show(0:Int)=((0:Nat):Int) from rfl,B _ _ _ q.length 0 LF (by omega) (by omega),x5];cases PH q (P0 (mkH k j v4 (n8 a b c d f g h i)))<;>exact⟨_,_,rfl,rfl⟩
theorem Cw5(f d up b z t:Bool)(l:LL)(c:l.all isS=true) :
  ∃r H,B02 LF f d up b z t l (λe a=>rv (.s (.bool e)) a)=rv r H/\r.stab [] H = .s (.bool (w8 l.length 20&&Fu 400 (l.map elS))):=by
 unfold B02;by_cases h:l.length<=20
 ·rw[A6,c,J9,Nat.ble_eq_true_of_le h];exact⟨_,_,rfl,rfl⟩
 ·rw[A9,show w8 l.length 20=false by rw[Bool.eq_false_iff];intro q;exact h (p9 q)];exact⟨_,_,rfl,rfl⟩
theorem D30{a e c d:By}(h:smU a e c d=true):smU (upS a) e c d=true:=by
 obtain⟨f,g,i,j⟩:=Gs h;have:(upS a).length<=100000000:=by
  cases b:M8 a with
  | false=>rw[(B35 b 0).1];exact f
  | true=>rcases Qm b with rfl|rfl<;>decide
 simp only[smU,o9,Nat.ble_eq];exact⟨⟨⟨this,g⟩,i⟩,j⟩
theorem Cx7(a u:By)(o:Int)(b:By)(v4 e f g h j k m n p:Int)(q:By)(v:Int)(y Y A up w z t:Bool)(l:LL)(B:Int)(L:By)(M:Bool)(C:smU a u b q=true)(P:ltN v4 4294967296=true)(Q:ok8 e f g h j k m n=true)(I:R7 p=true)(R:l.all isS=true)(S:A3 l.length=true) :
  ∃r H,Ao8 LF a u o b v4 e f g h j k m n p q v y Y A up w z t l B L M (λV W X J=>rv (.agg [.s (.int .i64 V),.s (.int .i64 W),.s (.str X)]) J)=rv r H/\r.stab [] H = .agg [.s (.int .i64 (dA (Fg a u o b v4 e f g h j k m n p q v y A up w (l.map elS) B))),.s (.int .i64 (dR (Fg a u o b v4 e f g h j k m n p q v y A up w (l.map elS) B))),.s (.str (dU (Fg a u o b v4 e f g h j k m n p q v y A up w (l.map elS) B)))]:=by
 obtain⟨l1,l2,l3,l4⟩:=Gs C;have Z:A3 b.length=true:=J9;have N:=D30 C;have O:=D36 (s:=a) I;unfold Ao8 Qv Lq Yo Fg;simp only[vl,C,P,Q,I,R,S,Z,N,O,cond_true,show(a==([100,97,116,97]:List UInt8))=(a==QX) from rfl,bne];generalize Xp (mkU a u o b v4 (n8 e f g h j k m n) p q)=F;generalize Xp (mkU (upS a) u o b v4 (n8 e f g h j k m n) (upP a p) q)=G;generalize Y0 a u o b v4 e f g h j k m n p q=T;generalize Ta (l.map elS) (mkH o b v4 (n8 e f g h j k m n))=U;generalize M8 a=i;generalize (a==QX)=d;generalize (B==0)=x;generalize (v==4)=D;generalize (A69 v y==2)=c;generalize (o==1)=K;cases i<;>cases x<;>cases T<;>cases d<;>first|exact⟨_,_,rfl,rfl⟩|(cases up<;>cases D<;>cases A<;>first|exact⟨_,_,rfl,rfl⟩|(cases U<;>cases c<;>cases K<;>cases w<;>exact⟨_,_,rfl,rfl⟩))
theorem Dj8(m n:By)(p:Int)(i:By)(v4 a b c d e f g h j:Int)(k:By)(o:Int)(u N v up q z t:Bool)(l:LL)(w:Int)(y:By)(A:Bool)(B:smU m n i k=true)(C:ltN v4 4294967296=true)(D:ok8 a b c d e f g h=true)(F:R7 j=true)(G:l.all isS=true)(I:A3 l.length=true) :
  ∃r H,Dj6 LF m n p i v4 a b c d e f g h j k o u N v up q z t l w y A (λJ K L M x=>rv (.tup [.agg [.s (.int .i64 J),.s (.int .i64 K),.s (.str L)],.s (.int .i64 M)]) x)=rv r H/\r.stab [0,0] H = .tup [.agg [.s (.int .i64 (dA (Xa m n p i v4 a b c d e f g h j k o u v up q (l.map elS) w))),.s (.int .i64 (dR (Xa m n p i v4 a b c d e f g h j k o u v up q (l.map elS) w))),.s (.str (dU (Xa m n p i v4 a b c d e f g h j k o u v up q (l.map elS) w)))],.s (.int .i64 (dE (Xa m n p i v4 a b c d e f g h j k o u v up q (l.map elS) w)))]:=by
 unfold Dj6 Xa;simp only[vl,B,C,D,F,G,I,cond_true];cases T9 (mkU m n p i v4 (n8 a b c d e f g h) j k)<;>cases De o<;>exact⟨_,_,rfl,rfl⟩
section
variable {σ R : Type} (L : Nat) (Q : F6) (Y : Yh σ) (s : σ) (k : Out -> St σ -> Option R)
noncomputable abbrev QZ:Code:=C6 o0
noncomputable def Qe(L:Nat):Cfg:=B8 L [3] (A2 []) [(4,VI),(5,BA),(6,AO),(7,La),(8,IU),(9,WM),(10,BC),(11,WA)] (A2 [(17,[10]),(16,[10]),(15,[11,1,1,1,101]),(14,[10]),(13,[1,9,1,1,1,85]),(12,[10]),(11,[1,9,1,1,1,70]),(10,[1,9,1,1,0,0,0,0,0]),(9,[1,0,6,1,1,0,0,0,0,0]),(8,[1,0,6,1,1,0,0,0]),(7,[1,0,5,0,1,1,0]),(6,[1,0,5,0,1,1,0]),(5,[10]),(4,[1,0,5,0,1,29]),(3,[1,0,5,0,1,0]),(2,[10]),(1,[0,0,0,5,0,23]),(0,[0,0,0,5,0])]) [4,5,6,9,10,11] (A2 []) (some [10]) [] [] [] (nt:=[(24,4,9,1)]) (rw:=[(6,3)]) (fr:=[(6,[1,4],[])])
noncomputable def Qt{R:Type}(n I J o q p:Bool)(a:LL)(D:Int)(M:By)(y:Bool)(m u:By)(r:Int)(l:By)(b c d e f g h i j t:Int)(v:By)(x z:Int)(F:By)(w A:Int)(G:By)(B C:Int)(H:By)(K:Bool->(List Blk)->Option R):Option R:=cond (x==3) (cond (j4 a isS) (cond (A3 a.length) (cond (A3 l.length) (cond (ltN b 4294967296) (cond (ok8 c d e f g h i j) (cond (not (Ta (b8 elS a) (mkH r l b (n8 c d e f g h i j)))) (K true [(bCx n I J o q p a),(bCv D M y),(bU m u r l b c d e f g h i j t v),(Blk.arr true 9 1 []),(bCx n I true o q p a),(Blk.arr true 9 1 []),(bCx n false J o q p a),(bDx x z F),(bDx w A G),(bDx B C H)]) (cond (not (M8 m)) (K true [(bCx n I J o q p a),(bCv D M y),(bU m u r l b c d e f g h i j t v),(Blk.arr true 9 1 []),(bCx n I true o q p a),(Blk.arr true 9 1 []),(bCx n false J o q p a),(bDx x z F),(bDx w A G),(bDx B C H)]) (cond (smU m u l v) (cond (ltN b 4294967296) (cond (ok8 c d e f g h i j) (cond (R7 t) (cond (Y0 m u r l b c d e f g h i j t v) (K true [(bCx n I J o q p a),(bCv D M y),(bU m u r l b c d e f g h i j t v),(Blk.arr true 9 1 []),(bCx n I true o q p a),(Blk.arr true 9 1 []),(bCx n false J o q p a),(bDx x z F),(bDx w A G),(bDx B C H)]) (cond (w==2) (K true [(bCx n I J o q p a),(bCv D M y),(bU m u r l b c d e f g h i j t v),(Blk.arr true 9 1 []),(bCx n I true o q p a),(Blk.arr true 9 1 []),(bCx n false J o q p a),(bDx x z F),(bDx w A G),(bDx B C H)]) (K false [(bCx n I J o q p a),(bCv D M y),(bU m u r l b c d e f g h i j t v),(Blk.arr true 9 1 []),(bCx n I true o q p a),(Blk.arr true 9 1 []),(bCx n false J o q p a),(bDx x z F),(bDx w A G),(bDx B C H)]))) none) none) none) none))) none) none) none) none) none) (cond (w !=3) (cond (j4 a isS) (cond (A3 a.length) (cond (A3 l.length) (cond (ltN b 4294967296) (cond (ok8 c d e f g h i j) (cond (not (Ta (b8 elS a) (mkH r l b (n8 c d e f g h i j)))) (K true [(bCx n I J o q p a),(bCv D M y),(bU m u r l b c d e f g h i j t v),(Blk.arr true 9 1 []),(bCx n I true o q p a),(Blk.arr true 9 1 []),(bCx n false J o q p a),(bDx x z F),(bDx w A G),(bDx B C H)]) (cond (not (M8 m)) (K true [(bCx n I J o q p a),(bCv D M y),(bU m u r l b c d e f g h i j t v),(Blk.arr true 9 1 []),(bCx n I true o q p a),(Blk.arr true 9 1 []),(bCx n false J o q p a),(bDx x z F),(bDx w A G),(bDx B C H)]) (cond (smU m u l v) (cond (ltN b 4294967296) (cond (ok8 c d e f g h i j) (cond (R7 t) (cond (Y0 m u r l b c d e f g h i j t v) (K true [(bCx n I J o q p a),(bCv D M y),(bU m u r l b c d e f g h i j t v),(Blk.arr true 9 1 []),(bCx n I true o q p a),(Blk.arr true 9 1 []),(bCx n false J o q p a),(bDx x z F),(bDx w A G),(bDx B C H)]) (cond (w==2) (K true [(bCx n I J o q p a),(bCv D M y),(bU m u r l b c d e f g h i j t v),(Blk.arr true 9 1 []),(bCx n I true o q p a),(Blk.arr true 9 1 []),(bCx n false J o q p a),(bDx x z F),(bDx w A G),(bDx B C H)]) (K false [(bCx n I J o q p a),(bCv D M y),(bU m u r l b c d e f g h i j t v),(Blk.arr true 9 1 []),(bCx n I true o q p a),(Blk.arr true 9 1 []),(bCx n false J o q p a),(bDx x z F),(bDx w A G),(bDx B C H)]))) none) none) none) none))) none) none) none) none) none) (K false [(bCx n I J o q p a),(bCv D M y),(bU m u r l b c d e f g h i j t v),(Blk.arr true 9 1 []),(bCx n I true o q p a),(Blk.arr true 9 1 []),(bCx n false J o q p a),(bDx x z F),(bDx w A G),(bDx B C H)]))
abbrev Ao3(b:Code):Prop:=∀(k:Out->St σ->Option R) a b1 b2 b3 b4 z5 t6 l7 n8v s9 b10 s11 s12 n13 s14 n15 n16 n17 n18 n19 n20 n21 n22 n23 n24 s25 n26 n27 s28 n29 n30 s31 n32 n33 s34,B3 (Qe L) Q Y b ⟨gp [(11,.ptr 2 0 0),(1,.ptr 4 0 0),(1,.ptr 7 0 0),(1,.ptr 8 0 0),(101,pB a)] 32,[(bCx b1 b2 b3 b4 z5 t6 l7),(bCv n8v s9 b10),(bU s11 s12 n13 s14 n15 n16 n17 n18 n19 n20 n21 n22 n23 n24 s25),.arr true 9 1 [],(bCx b1 b2 true b4 z5 t6 l7),.arr true 9 1 [],(bCx b1 false b3 b4 z5 t6 l7),(bDx n26 n27 s28),(bDx n29 n30 s31),(bDx n32 n33 s34)],s⟩ k=Qt b1 b2 b3 b4 z5 t6 l7 n8v s9 b10 s11 s12 n13 s14 n15 n16 n17 n18 n19 n20 n21 n22 n23 n24 s25 n26 n27 s28 n29 n30 s31 n32 n33 s34 (λa c=>k .ret ⟨gp [(10,pB a)] 141,c,s⟩)
theorem Ca2:Ao3 (R:=R) L Q Y s (cd [1,1,1,1,1,1,1,1,1,1,1,1] QZ):=by intro k C D F G H M K I u J a v w b x c d e f g h i j l m y n o z p q A r t B;unfold Qt;kernel_rfl
noncomputable def DK{R:Type}(F:Int)(C J K D I H:Bool)(G:LL)(N:Int)(y:By)(r:Bool)(a m:By)(p:Int)(n:By)(b c d e f g h i j l:Int)(o:By)(t u:Int)(z:By)(q v:Int)(A:By)(w x:Int)(B:By)(M:Bool->(List Blk)->Option R):Option R:=cond (M8 a) (cond (F !=4) (cond (smU a m n o) (cond (ltN b 4294967296) (cond (ok8 c d e f g h i j) (cond (R7 l) (cond (not (Y0 a m p n b c d e f g h i j l o)) (cond (q !=2) (M false [(bCx C J K D I H G),(bCv N y r),(bU a m p n b c d e f g h i j l o),(Blk.arr true 9 1 []),(bCx C J true D I H G),(Blk.arr true 9 1 []),(bCx C false K D I H G),(bDx t u z),(bDx q v A),(bDx w x B)]) (Qt C J K D I H G N y r a m p n b c d e f g h i j l o t u z q v A w x B M)) (Qt C J K D I H G N y r a m p n b c d e f g h i j l o t u z q v A w x B M)) none) none) none) none) (Qt C J K D I H G N y r a m p n b c d e f g h i j l o t u z q v A w x B M)) (Qt C J K D I H G N y r a m p n b c d e f g h i j l o t u z q v A w x B M)
abbrev MP(b:Code):Prop:=∀(k:Out->St σ->Option R) dest0 b1 b2 b3 b4 b5 z6 t7 l8 n9 s10 b11 s12 s13 n14 s15 n16 n17 n18 n19 n20 n21 n22 n23 n24 n25 s26 n27 n28 s29 n30 n31 s32 n33 n34 s35,B3 (Qe L) Q Y b ⟨gp [(1,pI dest0),(9,.ptr 2 0 0),(1,.ptr 4 0 0),(1,.ptr 7 0 0),(1,.ptr 8 0 0),(85,pB b1)] 48,[(bCx b2 b3 b4 b5 z6 t7 l8),(bCv n9 s10 b11),(bU s12 s13 n14 s15 n16 n17 n18 n19 n20 n21 n22 n23 n24 n25 s26),.arr true 9 1 [],(bCx b2 b3 true b5 z6 t7 l8),.arr true 9 1 [],(bCx b2 false b4 b5 z6 t7 l8),(bDx n27 n28 s29),(bDx n30 n31 s32),(bDx n33 n34 s35)],s⟩ k=DK dest0 b2 b3 b4 b5 z6 t7 l8 n9 s10 b11 s12 s13 n14 s15 n16 n17 n18 n19 n20 n21 n22 n23 n24 n25 s26 n27 n28 s29 n30 n31 s32 n33 n34 s35 (λc a=>k .ret ⟨gp [(10,pB c)] 141,a,s⟩)
theorem Ca3(a:Code)(b:Ao3 (R:=R) L Q Y s a):MP (R:=R) L Q Y s (cd [1,1,1,1,1,1,1,1,1,1,1] (G6 [1,1,1,1,1,1,1,1,1,1,1,1] a QZ)):=by intro k c G H I J K P O M N x e y z f A g h i j l m n o p q B r t C d u D v w F;unfold DK;exact j2 (by kernel_rfl) (A0 (A0 (A0 (A0 (A0 (A0 (A0 (A0 rfl (b k (d !=2) _ _ _ _ _ _ _ _ _ _ _ _ _ _ _ _ _ _ _ _ _ _ _ _ _ _ _ _ _ _ _ _ _ _)) (b k false _ _ _ _ _ _ _ _ _ _ _ _ _ _ _ _ _ _ _ _ _ _ _ _ _ _ _ _ _ _ _ _ _ _)) rfl) rfl) rfl) rfl) (b k false _ _ _ _ _ _ _ _ _ _ _ _ _ _ _ _ _ _ _ _ _ _ _ _ _ _ _ _ _ _ _ _ _ _)) (b k false _ _ _ _ _ _ _ _ _ _ _ _ _ _ _ _ _ _ _ _ _ _ _ _ _ _ _ _ _ _ _ _ _ _))
theorem Ca4:MP (R:=R) L Q Y s (cd [1,1,1,1,1,1,1,1,1,1,1] QZ):=by intro k a D F G H I N M J K v b w x c y d e f g h i j l m n z o p A q r B t u C;exact j2 (by kernel_rfl) (Ca3 L Q Y s (cd [1,1,1,1,1,1,1,1,1,1,1,1] QZ) (Ca2 L Q Y s) k a D F G H I N M J K v b w x c y d e f g h i j l m n z o p A q r B t u C)
noncomputable def lmp{R:Type}(L:Nat)(t:By)(n:Int)(h o p q m c b:Bool)(g:LL)(d:Int)(e:By)(f:Bool)(r:Bool->(List Blk)->Option R):Option R:=cond (ltI 1500 (t.length:Int)) (r true [(bCx o p q m c b g),(bCv d e f)]) (cond (j4 g isS) (cond (not ((w8 g.length 20)&&(Fu (400:Int) (b8 elS g)))) (r true [(bCx o p q m c b g),(bCv d e f)]) (cond (not (De n)) (r true [(bCx o p q m c b g),(bCv d e f)]) (cond (A3 t.length) (vl (A8 t) λa=>cond ((uE a)!=0) (r true [(bCx o p q m c b g),(bCv d e f),(bQ a)]) (cond (smU (uS a) (uU a) (uN a) (uR a)) (cond (ltN (uV a) 4294967296) (cond (okQ a) (cond (R7 (uP a)) (cond (j4 g isS) (cond (A3 g.length) (vl (Xa (uS a) (uU a) (uK a) (uN a) (uV a) (uA a 0) (uA a 1) (uA a 2) (uA a 3) (uA a 4) (uA a 5) (uA a 6) (uA a 7) (uP a) (uR a) n h p q m (b8 elS g) d) λi=>cond (smU (uS a) (uU a) (uN a) (uR a)) (cond (ltN (uV a) 4294967296) (cond (okQ a) (cond (R7 (uP a)) (cond (j4 g isS) (cond (A3 g.length) (vl (Xa (uS a) (uU a) (uK a) (uN a) (uV a) (uA a 0) (uA a 1) (uA a 2) (uA a 3) (uA a 4) (uA a 5) (uA a 6) (uA a 7) (uP a) (uR a) n h p true m (b8 elS g) d) λj=>cond (smU (uS a) (uU a) (uN a) (uR a)) (cond (ltN (uV a) 4294967296) (cond (okQ a) (cond (R7 (uP a)) (cond (j4 g isS) (cond (A3 g.length) (vl (Xa (uS a) (uU a) (uK a) (uN a) (uV a) (uA a 0) (uA a 1) (uA a 2) (uA a 3) (uA a 4) (uA a 5) (uA a 6) (uA a 7) (uP a) (uR a) n h false q m (b8 elS g) d) λl=>cond ((dE i)!=0) (r false [(bCx o p q m c b g),(bCv d e f),(bQ a),(Blk.arr true 9 1 []),(bCx o p true m c b g),(Blk.arr true 9 1 []),(bCx o false q m c b g),(bDQ i),(bDQ j),(bDQ l)]) (cond ((dE j)!=0) (r false [(bCx o p q m c b g),(bCv d e f),(bQ a),(Blk.arr true 9 1 []),(bCx o p true m c b g),(Blk.arr true 9 1 []),(bCx o false q m c b g),(bDQ i),(bDQ j),(bDQ l)]) (cond ((dE l)!=0) (r false [(bCx o p q m c b g),(bCv d e f),(bQ a),(Blk.arr true 9 1 []),(bCx o p true m c b g),(Blk.arr true 9 1 []),(bCx o false q m c b g),(bDQ i),(bDQ j),(bDQ l)]) (cond ((dA l)==3) (r false [(bCx o p q m c b g),(bCv d e f),(bQ a),(Blk.arr true 9 1 []),(bCx o p true m c b g),(Blk.arr true 9 1 []),(bCx o false q m c b g),(bDQ i),(bDQ j),(bDQ l)]) (cond ((dA i)==2) (cond ((dA j)!=2) (r false [(bCx o p q m c b g),(bCv d e f),(bQ a),(Blk.arr true 9 1 []),(bCx o p true m c b g),(Blk.arr true 9 1 []),(bCx o false q m c b g),(bDQ i),(bDQ j),(bDQ l)]) (cond (not ((dU j)==(dU i))) (r false [(bCx o p q m c b g),(bCv d e f),(bQ a),(Blk.arr true 9 1 []),(bCx o p true m c b g),(Blk.arr true 9 1 []),(bCx o false q m c b g),(bDQ i),(bDQ j),(bDQ l)]) (DK n o p q m c b g d e f (uS a) (uU a) (uK a) (uN a) (uV a) (uA a 0) (uA a 1) (uA a 2) (uA a 3) (uA a 4) (uA a 5) (uA a 6) (uA a 7) (uP a) (uR a) (dA i) (dR i) (dU i) (dA j) (dR j) (dU j) (dA l) (dR l) (dU l) r))) (DK n o p q m c b g d e f (uS a) (uU a) (uK a) (uN a) (uV a) (uA a 0) (uA a 1) (uA a 2) (uA a 3) (uA a 4) (uA a 5) (uA a 6) (uA a 7) (uP a) (uR a) (dA i) (dR i) (dU i) (dA j) (dR j) (dU j) (dA l) (dR l) (dU l) r)))))) none) none) none) none) none) none) none) none) none) none) none) none) none) none) none) none) none) none)) none))) none)
theorem D11(b:Code)(d:MP (R:=PV × List Blk × σ) L Q Y s b)(v:By)(h:Int)(c o p q r m l:Bool)(t:LL)(e:Int)(f:By)(g:Bool):B3 (Qe L) Q Y (cd [] (G6 [1,1,1,1,1,1,1,1,1,1,1] b QZ)) ⟨[pS v,pI h,pB c,(gCx o p q r m l t),(gCv e f g)]++tps 147,[],s⟩ (F3 (Qe L) o0)=lmp L v h c o p q r m l t e f g (λx w=>some (pB x,w,s)):=by unfold lmp;exact let u:=(F3 (Qe L) o0);(j2 (by kernel_rfl) (A0 rfl (A0 (A0 rfl (A0 rfl (A0 (A4 λa=>(A0 rfl (A0 (A0 (A0 (A0 (A0 (A0 (A4 λi=>(A0 (A0 (A0 (A0 (A0 (A0 (A4 λj=>(A0 (A0 (A0 (A0 (A0 (A0 (A4 λn=>(A0 rfl (A0 rfl (A0 rfl (A0 rfl (A0 (A0 rfl (A0 rfl ((d u h (not ((dU j)==(dU i))) o p q r m l t e f g (uS a) (uU a) (uK a) (uN a) (uV a) (uA a 0) (uA a 1) (uA a 2) (uA a 3) (uA a 4) (uA a 5) (uA a 6) (uA a 7) (uP a) (uR a) (dA i) (dR i) (dU i) (dA j) (dR j) (dU j) (dA n) (dR n) (dU n)).trans (by kernel_rfl)))) ((d u h false o p q r m l t e f g (uS a) (uU a) (uK a) (uN a) (uV a) (uA a 0) (uA a 1) (uA a 2) (uA a 3) (uA a 4) (uA a 5) (uA a 6) (uA a 7) (uP a) (uR a) (dA i) (dR i) (dU i) (dA j) (dR j) (dU j) (dA n) (dR n) (dU n)).trans (by kernel_rfl)))))))) rfl) rfl) rfl) rfl) rfl) rfl)) rfl) rfl) rfl) rfl) rfl) rfl)) rfl) rfl) rfl) rfl) rfl) rfl))) rfl))) rfl)))
theorem D12(d:Nat)(s0 dest1 imageSet2 c3 c4 c5 c6 c_z7 c_t8 c9 cov10 cov11 cov12):evC (Qe L) (d+1) σ Y 3 [pS s0,pI dest1,pB imageSet2,(gCx c3 c4 c5 c6 c_z7 c_t8 c9),(gCv cov10 cov11 cov12)] [] s=lmp L s0 dest1 imageSet2 c3 c4 c5 c6 c_z7 c_t8 c9 cov10 cov11 cov12 (λb a=>some (pB b,a,s)):=
 (evE (fn:=o0) (by kernel_rfl)).trans (j2 (by kernel_rfl) (D11 L (evC (Qe L) d) Y s (cd [1,1,1,1,1,1,1,1,1,1,1] QZ) (Ca4 L (evC (Qe L) d) Y s) s0 dest1 imageSet2 c3 c4 c5 c6 c_z7 c_t8 c9 cov10 cov11 cov12))
end
theorem OO{l:LL}(h:(w8 l.length 20&&Fu 400 (l.map elS))=true):A3 l.length=true:=by rw[o9] at h;have:=p9 h.1;exact J9
theorem A70{p:U0 × Nat}(c:CU p.1)(a:Int)(d e up b:Bool)(l:List By)(f:Int):Xa (uS p) (uU p) (uK p) (uN p) (uV p) (uA p 0) (uA p 1) (uA p 2) (uA p 3) (uA p 4) (uA p 5) (uA p 6) (uA p 7) (uP p) (uR p) a d e up b l f=cond (De a) (okD (Fg (uS p) (uU p) (uK p) (uN p) (uV p) (uA p 0) (uA p 1) (uA p 2) (uA p 3) (uA p 4) (uA p 5) (uA p 6) (uA p 7) (uP p) (uR p) a d e up b l f)) ⟨0,0,[],2⟩:=by obtain⟨_,_,_,g⟩:=Ap6 c.ok;unfold Xa;rw[show mkU (uS p) _ _ _ _ _ (uP p) _=p.1 from g _ _,Cm7 c];rfl
theorem Cg9(a t:By)(b:Int)(p:By)(v4 e f g j k m n o q:Int)(r:By)(u:Int)(w y up v:Bool)(l:List By)(z:Int)(L:M8 a=true->(a==QX)=false)(A B C:DV)
  (H:A=okD (Fg a t b p v4 e f g j k m n o q r u w y up v l z)) (I:B=okD (Fg a t b p v4 e f g j k m n o q r u w y true v l z)) (J:C=okD (Fg a t b p v4 e f g j k m n o q r u w false up v l z)) :
  (dE A=0/\dE B=0/\dE C=0/\(dA C==3)=false)/\((dA A==2)=true->(dA B !=2)=false/\dU B=dU A)/\(M8 a=true->(u==4)=false->Y0 a t b p v4 e f g j k m n o q r=false->(dA B !=2)=false)/\
  ((dA A==3)=false->(dA B !=3)=true)/\(Ta l (mkH b p v4 (n8 e f g j k m n o))=true->M8 a=true->Y0 a t b p v4 e f g j k m n o q r=false->(dA B==2)=true):=by
 subst H I J;unfold Fg;generalize Xp (mkU a t b p v4 (n8 e f g j k m n o) q r)=F;generalize Xp (mkU (upS a) t b p v4 (n8 e f g j k m n o) (upP a q) r)=G;generalize Y0 a t b p v4 e f g j k m n o q r=T;generalize Ta l (mkH b p v4 (n8 e f g j k m n o))=M;simp only[bne];generalize (a==QX)=d at *;generalize M8 a=i at *;generalize (z==0)=x;generalize (u==4)=D;generalize (A69 u w==2)=c;generalize (b==1)=K;cases i with
 | false=>
  cases T<;>cases d<;>cases D<;>cases y<;>exact⟨⟨rfl,rfl,rfl,rfl⟩,λh=>j6 (show false=true from h),λh=>(by cases h),λh=>(by first|rfl|exact j6 (show true=false from h)),λ_ h=>(by cases h)⟩
 | true=>
  obtain rfl:=L rfl;cases x with
  | false=>exact⟨⟨rfl,rfl,rfl,rfl⟩,λ_=>⟨rfl,rfl⟩,λ_ _ _=>rfl,λ_=>rfl,λ_ _ _=>rfl⟩
  | true=>
   cases T with
   | true=>exact⟨⟨rfl,rfl,rfl,rfl⟩,λh=>j6 (show false=true from h),λ_ _ h=>(by cases h),λ_=>rfl,λ_ _ h=>(by cases h)⟩
   | false=>
    cases D<;>cases M<;>cases up<;>cases y<;>cases c<;>cases K<;>cases v <;>
     exact⟨⟨rfl,rfl,rfl,rfl⟩,λh=>(by first|exact⟨rfl,rfl⟩|exact j6 (show false=true from h)),λ_ h _=>(by first|rfl|cases h),λh=>(by first|rfl|exact j6 (show true=false from h)),λh _ _=>(by first|rfl|cases h)⟩
theorem Cw2(s:By)(b:Int)(j o i up d z:Bool)(l:LL)(f:Int)(m:By)(n:Bool)(v:l.all isS=true) :
  Tru (evC (Qe LF) 1 Unit noY 3 [.s (.str s),.s (.int .i64 b),.s (.bool j),gCx o i up d z false l,gCv f m n] [] ()):=by
 refine Eq.subst (motive:=Tru) (D12 (σ:=Unit) LF noY () 0 s b j o i up d z false l f m n).symm ?_;unfold lmp;by_cases M:(1500:Int)<s.length
 ·rw[B9 M];exact⟨_,rfl⟩
 rw[A6,cond_false,v,cond_true];cases g:(w8 l.length 20&&Fu 400 (l.map elS)) with
 | false=>exact⟨_,rfl⟩
 | true=>
 have c:=Cy8 (s:=s) (by omega) (uS (A8 s)) (Nat.le_trans (NK s).1 (by omega));have J:A3 (b9 (uN (A8 s)))=true:=by
  obtain⟨_,_,l,_⟩:=Gs c;exact J9
 have r:=@SZ s;obtain⟨D,F,G,X⟩:=Ap6 (Cc4 s);rw[j9,cond_false];cases t:De b with
 | false=>exact⟨_,rfl⟩
 | true=>
 rw[j9,cond_false,J9,cond_true];simp only[vl];by_cases u:(A8 s).2=0
 ·have R:=r u;rw[show(uE (A8 s)!=(0:Int))=false by show(((A8 s).2:Int)!=0)=false;rw[u];rfl,cond_false];simp only[c,D,F,G,OO g,cond_true,A70 R,t];have S:M8 (uS (A8 s))=true->(uS (A8 s)==QX)=false:=λh=>by rcases Qm h with e|e<;>rw[e]<;>rfl
  have key:=λA B C=>Cg9 (uS (A8 s)) (uU (A8 s)) (uK (A8 s)) (uN (A8 s)) (uV (A8 s)) (uA (A8 s) 0) (uA (A8 s) 1) (uA (A8 s) 2) (uA (A8 s) 3) (uA (A8 s) 4) (uA (A8 s) 5) (uA (A8 s) 6) (uA (A8 s) 7) (uP (A8 s)) (uR (A8 s)) b j i up d (l.map elS) f S A B C
  generalize okD (Fg (uS (A8 s)) (uU (A8 s)) (uK (A8 s)) (uN (A8 s)) (uV (A8 s)) (uA (A8 s) 0) (uA (A8 s) 1) (uA (A8 s) 2) (uA (A8 s) 3) (uA (A8 s) 4) (uA (A8 s) 5) (uA (A8 s) 6) (uA (A8 s) 7) (uP (A8 s)) (uR (A8 s)) b j i up d (l.map elS) f)=A at key ⊢;generalize okD (Fg (uS (A8 s)) (uU (A8 s)) (uK (A8 s)) (uN (A8 s)) (uV (A8 s)) (uA (A8 s) 0) (uA (A8 s) 1) (uA (A8 s) 2) (uA (A8 s) 3) (uA (A8 s) 4) (uA (A8 s) 5) (uA (A8 s) 6) (uA (A8 s) 7) (uP (A8 s)) (uR (A8 s)) b j i true d (l.map elS) f)=B at key ⊢;generalize okD (Fg (uS (A8 s)) (uU (A8 s)) (uK (A8 s)) (uN (A8 s)) (uV (A8 s)) (uA (A8 s) 0) (uA (A8 s) 1) (uA (A8 s) 2) (uA (A8 s) 3) (uA (A8 s) 4) (uA (A8 s) 5) (uA (A8 s) 6) (uA (A8 s) 7) (uP (A8 s)) (uR (A8 s)) b j false up d (l.map elS) f)=C at key ⊢;obtain⟨⟨O,P,Q,N⟩,K,T,U,L⟩:=key A B C rfl rfl rfl;have x:∃H,∀a:Bool->List Blk->Option (PV × List Blk × Unit),Qt o i up d z false l f m n (uS (A8 s)) (uU (A8 s)) (uK (A8 s)) (uN (A8 s)) (uV (A8 s)) (uA (A8 s) 0) (uA (A8 s) 1) (uA (A8 s) 2) (uA (A8 s) 3) (uA (A8 s) 4) (uA (A8 s) 5) (uA (A8 s) 6) (uA (A8 s) 7) (uP (A8 s)) (uR (A8 s)) (dA A) (dR A) (dU A) (dA B) (dR B) (dU B) (dA C) (dR C) (dU C) a=a true H:=by
   unfold Qt;simp only[c,D,F,G,v,J,OO g,cond_true];cases q:(dA A==3) with
   | true=>
    cases w:Ta (l.map elS) (mkH (uK (A8 s)) (uN (A8 s)) (uV (A8 s)) (n8 (uA (A8 s) 0) (uA (A8 s) 1) (uA (A8 s) 2) (uA (A8 s) 3) (uA (A8 s) 4) (uA (A8 s) 5) (uA (A8 s) 6) (uA (A8 s) 7))) with
    | false=>exact⟨_,λa=>rfl⟩
    | true=>
     cases h:M8 (uS (A8 s)) with
     | false=>exact⟨_,λa=>rfl⟩
     | true=>
      cases k:Y0 (uS (A8 s)) (uU (A8 s)) (uK (A8 s)) (uN (A8 s)) (uV (A8 s)) (uA (A8 s) 0) (uA (A8 s) 1) (uA (A8 s) 2) (uA (A8 s) 3) (uA (A8 s) 4) (uA (A8 s) 5) (uA (A8 s) 6) (uA (A8 s) 7) (uP (A8 s)) (uR (A8 s)) with
      | true=>exact⟨_,λa=>rfl⟩
      | false=>
       rw[L w h k];exact⟨_,λa=>rfl⟩
   | false=>
    rw[U q];cases w:Ta (l.map elS) (mkH (uK (A8 s)) (uN (A8 s)) (uV (A8 s)) (n8 (uA (A8 s) 0) (uA (A8 s) 1) (uA (A8 s) 2) (uA (A8 s) 3) (uA (A8 s) 4) (uA (A8 s) 5) (uA (A8 s) 6) (uA (A8 s) 7))) with
    | false=>exact⟨_,λa=>rfl⟩
    | true=>
     cases h:M8 (uS (A8 s)) with
     | false=>exact⟨_,λa=>rfl⟩
     | true=>
      cases k:Y0 (uS (A8 s)) (uU (A8 s)) (uK (A8 s)) (uN (A8 s)) (uV (A8 s)) (uA (A8 s) 0) (uA (A8 s) 1) (uA (A8 s) 2) (uA (A8 s) 3) (uA (A8 s) 4) (uA (A8 s) 5) (uA (A8 s) 6) (uA (A8 s) 7) (uP (A8 s)) (uR (A8 s)) with
      | true=>exact⟨_,λa=>rfl⟩
      | false=>
       rw[L w h k];exact⟨_,λa=>rfl⟩
  obtain⟨V,x⟩:=x;have y:∃H,∀a:Bool->List Blk->Option (PV × List Blk × Unit),DK b o i up d z false l f m n (uS (A8 s)) (uU (A8 s)) (uK (A8 s)) (uN (A8 s)) (uV (A8 s)) (uA (A8 s) 0) (uA (A8 s) 1) (uA (A8 s) 2) (uA (A8 s) 3) (uA (A8 s) 4) (uA (A8 s) 5) (uA (A8 s) 6) (uA (A8 s) 7) (uP (A8 s)) (uR (A8 s)) (dA A) (dR A) (dU A) (dA B) (dR B) (dU B) (dA C) (dR C) (dU C) a=a true H:=by
   unfold DK;simp only[c,D,F,G,v,J,OO g,cond_true,x];cases h:M8 (uS (A8 s)) with
   | false=>exact⟨_,λa=>rfl⟩
   | true=>
    cases p:(b==4) with
    | true=>
     rw[show(b !=4)=false by unfold bne;rw[p];rfl];exact⟨_,λa=>rfl⟩
    | false=>
     rw[show(b !=4)=true by unfold bne;rw[p];rfl];cases k:Y0 (uS (A8 s)) (uU (A8 s)) (uK (A8 s)) (uN (A8 s)) (uV (A8 s)) (uA (A8 s) 0) (uA (A8 s) 1) (uA (A8 s) 2) (uA (A8 s) 3) (uA (A8 s) 4) (uA (A8 s) 5) (uA (A8 s) 6) (uA (A8 s) 7) (uP (A8 s)) (uR (A8 s)) with
     | true=>exact⟨_,λa=>rfl⟩
     | false=>
      rw[T h p k];exact⟨_,λa=>rfl⟩
  obtain⟨W,y⟩:=y;rw[O,P,Q,N];simp only[show((0:Int)!=0)=false from rfl,cond_false,y];cases I:(dA A==2) with
  | false=>exact⟨_,rfl⟩
  | true=>
   rw[(K I).1,(K I).2,beq_self_eq_true];exact⟨_,rfl⟩
 ·rw[show(uE (A8 s)!=(0:Int))=true by show(((A8 s).2:Int)!=0)=true;simpa using u,cond_true];exact⟨_,rfl⟩
theorem Di5(args:List PV)(h:Ml a8 [9,3,4,24,26] args):∃d a,evC (Qe LF) d Unit noY 3 args [] ()=some (.s (.bool true),a,()):=by obtain⟨v1,w,rfl,i,C,x,rfl,j,D,y,rfl,m,v,A,rfl,n,F,B,rfl,o,rfl⟩:=h;obtain⟨s,rfl,_⟩:=Dd1 i (by kernel_rfl) (by kernel_rfl);obtain⟨f,rfl,_⟩:=Dd0 (k:=.i64) j (by kernel_rfl) (by kernel_rfl);obtain⟨q,rfl⟩:=Cq3 m (by kernel_rfl) (by kernel_rfl);obtain⟨t,r,up,b,z,l,rfl,p⟩:=Dc9 n (by kernel_rfl) (by kernel_rfl);obtain⟨u,c,g,rfl⟩:=Dc8 o (by kernel_rfl) (by kernel_rfl);obtain⟨H,e⟩:=Cw2 s f q t r up b z l u c g p;exact⟨1,H,e⟩
section
variable {W R : Type} (L : Nat) (Q : F6) (Y : Yh W) (s : W) (k : Out -> St W -> Option R)
noncomputable def YE(L:Nat):Cfg:=B8 L [57] (A2 []) [(58,UZ),(86,Cn4)] (A2 [(8,[2]),(5,[2]),(7,[2]),(6,[1,12]),(4,[1,5,0]),(3,[1,5]),(2,[2]),(1,[1,3]),(0,[1])]) [58,86] (A2 [(0,[1])]) (some [2]) [] [] []
noncomputable def B12{R:Type}(L:Nat)(c:Int)(b:By)(d e f g h i j l a:Int)(m:Bool->(List Blk)->Option R):Option R:=cond (A3 b.length) (cond (ltN d 4294967296) (cond (ok8 e f g h i j l a) (cond (not (J7 (mkH c b d (n8 e f g h i j l a)))) (m false [(bH c b d e f g h i j l a)]) (cond (c==2) (vl (Pl .u32 d (24:Int)) λn=>m (n==127) [(bH c b d e f g h i j l a)]) (cond (c==3) (m ((e==0)&&((f==0)&&((g==0)&&((h==0)&&((i==0)&&((j==0)&&((l==0)&&((a==1)&&true)))))))) [(bH c b d e f g h i j l a)]) (cond (A3 b.length) (m (Cm ([108,111,99,97,108,104,111,115,116]:List UInt8) b) [(bH c b d e f g h i j l a)]) none)))) none) none) none
theorem Cy6(d:Nat)(h0 h1 h2 h3 h4 h5 h6 h7 h8 h9 h10):evC (YE L) (d+1) W Y 57 [(gH h0 h1 h2 h3 h4 h5 h6 h7 h8 h9 h10)] [] s=B12 L h0 h1 h2 h3 h4 h5 h6 h7 h8 h9 h10 (λb a=>some (pB b,a,s)):=by refine(evE (fn:=Tryz.f57) (by kernel_rfl)).trans ?_;generalize evC (YE L) d=Q;unfold B12;kernel_rfl
noncomputable abbrev Pv:Code:=C6 x8
noncomputable def Y5(L:Nat):Cfg:=B8 L [31] (A2 []) [(14,Ru),(49,GR),(57,Bv2)] (A2 [(10,[2]),(7,[2]),(9,[2]),(8,[1,10]),(6,[1,5,0]),(5,[1,5,0]),(4,[1,5,0]),(3,[1,5]),(2,[2]),(1,[1,3]),(0,[1])]) [14,49,57] (A2 [(0,[1])]) (some [2]) [] [] []
noncomputable def He{R:Type}(h:By)(r:Bool)(o:By)(i:Int)(p:By)(j l m g n b c d e f:Int)(a:By)(q:Bool->(List Blk)->Option R)(t:Bool->By->By->Int->By->Int->Int->Int->Int->Int->Int->Int->Int->Int->Int->By->Option R):Option R:=cond r (q true [(bU h o i p j l m g n b c d e f a)]) (cond (h==[97,98,111,117,116]) (cond (a==[98,108,97,110,107]) (q true [(bU h o i p j l m g n b c d e f a)]) (q (a==[115,114,99,100,111,99]) [(bU h o i p j l m g n b c d e f a)])) (t (h==[97,98,111,117,116]) h o i p j l m g n b c d e f a))
abbrev FH(b:Code):Prop:=∀(k:Out->St W->Option R) s0 b1 o i p j l m g n a c d e f h,B3 (Y5 L) Q Y b ⟨gp [(1,.ptr 0 0 0),(5,pS s0),(0,pB b1)] 21,[(bU s0 o i p j l m g n a c d e f h)],s⟩ k=He s0 b1 o i p j l m g n a c d e f h (λq r=>k .ret ⟨gp [(2,pB q)] 27,r,s⟩) (λq t o i p j l m g n a c d e f h=>k .normal ⟨gp [(1,.ptr 0 0 0),(10,pB q)] 17,[(bU t o i p j l m g n a c d e f h)],s⟩)
theorem Aa3:FH (R:=R) L Q Y s (cd [1,1,0,1,0,1] Pv):=by intro k o h p i q j l m f n a b c d e g;unfold He;kernel_rfl
noncomputable def Hf{R:Type}(o q:By)(n:Int)(m:By)(h i j e l a b c d f:Int)(g:By)(p:Bool->(List Blk)->Option R):Option R:=cond (H8 o) (cond (A3 m.length) (cond (ltN h 4294967296) (cond (ok8 i j e l a b c d) (p (FF n m h i j e l a b c d) [(bU o q n m h i j e l a b c d f g)]) none) none) none) (p false [(bU o q n m h i j e l a b c d f g)])
abbrev FI(b:Code):Prop:=∀(k:Out->St W->Option R) a s1 s2 n3 s4 n5 n6 n7 n8v n9 n10 n11 n12 n13 n14 s15,B3 (Y5 L) Q Y b ⟨gp [(1,.ptr 0 0 0),(10,pB a)] 17,[(bU s1 s2 n3 s4 n5 n6 n7 n8v n9 n10 n11 n12 n13 n14 s15)],s⟩ k=Hf s1 s2 n3 s4 n5 n6 n7 n8v n9 n10 n11 n12 n13 n14 s15 (λa c=>k .ret ⟨gp [(2,pB a)] 27,c,s⟩)
theorem Aa4:FI (R:=R) L Q Y s (cd [1,1,1] Pv):=by intro k h o p i q j l m f n a b c d e g;unfold Hf;kernel_rfl
noncomputable def NI{R:Type}(L:Nat)(f h:By)(u2:Int)(i:By)(j l m n u8 o a b c d:Int)(e:By)(g:Bool->(List Blk)->Option R):Option R:=cond (smU f h i e) (cond (ltN j 4294967296) (cond (ok8 l m n u8 o a b c) (cond (R7 d) (cond (not (T9 (mkU f h u2 i j (n8 l m n u8 o a b c) d e))) (g false [(bU f h u2 i j l m n u8 o a b c d e)]) (cond (f==[104,116,116,112,115]) (He f (f==[104,116,116,112,115]) h u2 i j l m n u8 o a b c d e g (λc0 b3 b4 a9 b5 b0 b1 b2 p q r t u v w Z=>Hf b3 b4 a9 b5 b0 b1 b2 p q r t u v w Z g)) (cond (f==[119,115,115]) (He f (f==[119,115,115]) h u2 i j l m n u8 o a b c d e g (λb6 a0 a1 x a2 y z A B C D F G H I a3=>Hf a0 a1 x a2 y z A B C D F G H I a3 g)) (He f (f==[102,105,108,101]) h u2 i j l m n u8 o a b c d e g (λb7 a4 a5 J a6 K M N O P S T U V X a7=>Hf a4 a5 J a6 K M N O P S T U V X a7 g))))) none) none) none) none
theorem Cb6(c:Code)(a:FH (R:=PV × List Blk × W) L Q Y s c)(d:Code)(b:FI (R:=PV × List Blk × W) L Q Y s d)(j u1:By)(u2:Int)(u3:By)(u4 u5 u6 u7 u8 u9 e f g h:Int)(i:By):B3 (Y5 L) Q Y (cd [] (G6 [1,1,1] d (G6 [1,1,0,1,0,1] c Pv))) ⟨[(gU j u1 u2 u3 u4 u5 u6 u7 u8 u9 e f g h i)]++tps 29,[],s⟩ (F3 (Y5 L) x8)=NI L j u1 u2 u3 u4 u5 u6 u7 u8 u9 e f g h i (λr0 H1=>some (pB r0,H1,s)):=by unfold NI;exact let K0:=(F3 (Y5 L) x8);let K1:=(E1 0 (E0 (Y5 L) Q Y d K0));(j2 (by kernel_rfl) (A0 (A0 (A0 (A0 (A0 rfl (A0 ((a K1 j (j==[104,116,116,112,115]) u1 u2 u3 u4 u5 u6 u7 u8 u9 e f g h i).trans (congr (congr rfl (by kernel_rfl)) (fx1 λa6=>(fx1 λb2=>(fx1 λb3=>(fx1 λa7=>(fx1 λb4=>(fx1 λa9=>(fx1 λb0=>(fx1 λb1=>(fx1 λn=>(fx1 λo=>(fx1 λp=>(fx1 λq=>(fx1 λr=>(fx1 λt=>(fx1 λu=>(fx1 λV=>(j2 (by kernel_rfl) ((b K0 a6 b2 b3 a7 b4 a9 b0 b1 n o p q r t u V).trans (by kernel_rfl))))))))))))))))))))) (A0 ((a K1 j (j==[119,115,115]) u1 u2 u3 u4 u5 u6 u7 u8 u9 e f g h i).trans (congr (congr rfl (by kernel_rfl)) (fx1 λl=>(fx1 λX=>(fx1 λZ=>(fx1 λv=>(fx1 λa0=>(fx1 λw=>(fx1 λx=>(fx1 λy=>(fx1 λz=>(fx1 λA=>(fx1 λB=>(fx1 λC=>(fx1 λD=>(fx1 λF=>(fx1 λG=>(fx1 λa1=>(j2 (by kernel_rfl) ((b K0 l X Z v a0 w x y z A B C D F G a1).trans (by kernel_rfl))))))))))))))))))))) ((a K1 j (j==[102,105,108,101]) u1 u2 u3 u4 u5 u6 u7 u8 u9 e f g h i).trans (congr (congr rfl (by kernel_rfl)) (fx1 λm=>(fx1 λa2=>(fx1 λa3=>(fx1 λH=>(fx1 λa4=>(fx1 λI=>(fx1 λJ=>(fx1 λK=>(fx1 λM=>(fx1 λN=>(fx1 λO=>(fx1 λP=>(fx1 λS=>(fx1 λT=>(fx1 λU=>(fx1 λa5=>(j2 (by kernel_rfl) ((b K0 m a2 a3 H a4 I J K M N O P S T U a5).trans (by kernel_rfl)))))))))))))))))))))))) rfl) rfl) rfl) rfl))
theorem Cb7(d:Nat)(u0 u1 u2 u3 u4 u5 u6 u7 u8 u9 u10 u11 u12 u13 u14):evC (Y5 L) (d+1) W Y 31 [(gU u0 u1 u2 u3 u4 u5 u6 u7 u8 u9 u10 u11 u12 u13 u14)] [] s=NI L u0 u1 u2 u3 u4 u5 u6 u7 u8 u9 u10 u11 u12 u13 u14 (λb a=>some (pB b,a,s)):=
 (evE (fn:=x8) (by kernel_rfl)).trans (j2 (by kernel_rfl) (Cb6 L (evC (Y5 L) d) Y s (cd [1,1,0,1,0,1] Pv) (Aa3 L (evC (Y5 L) d) Y s) (cd [1,1,1] Pv) (Aa4 L (evC (Y5 L) d) Y s) u0 u1 u2 u3 u4 u5 u6 u7 u8 u9 u10 u11 u12 u13 u14))
noncomputable def KW(L:Nat):Cfg:=B8 L [18] (A2 []) [(19,GP),(35,Bv5)] (A2 [(8,[2]),(5,[2]),(7,[2]),(6,[1,12]),(4,[1,5,0]),(3,[1,5]),(2,[2]),(1,[1,3]),(0,[1])]) [19,35] (A2 [(0,[1])]) (some [2]) [] [] []
noncomputable def Ac3{R:Type}(L:Nat)(c:Int)(b:By)(d e f g h i j l a:Int)(m:Bool->(List Blk)->Option R):Option R:=cond (A3 b.length) (cond (ltN d 4294967296) (cond (ok8 e f g h i j l a) (cond (not (J7 (mkH c b d (n8 e f g h i j l a)))) (m false [(bH c b d e f g h i j l a)]) (cond (c==2) (vl (Pl .u32 d (24:Int)) λn=>m (n==127) [(bH c b d e f g h i j l a)]) (cond (c==3) (m ((e==0)&&((f==0)&&((g==0)&&((h==0)&&((i==0)&&((j==0)&&((l==0)&&((a==1)&&true)))))))) [(bH c b d e f g h i j l a)]) (cond (A3 b.length) (m (Cm ([108,111,99,97,108,104,111,115,116]:List UInt8) b) [(bH c b d e f g h i j l a)]) none)))) none) none) none
theorem Cf6(d:Nat)(h0 h1 h2 h3 h4 h5 h6 h7 h8 h9 h10):evC (KW L) (d+1) W Y 18 [(gH h0 h1 h2 h3 h4 h5 h6 h7 h8 h9 h10)] [] s=Ac3 L h0 h1 h2 h3 h4 h5 h6 h7 h8 h9 h10 (λb a=>some (pB b,a,s)):=by refine(evE (fn:=Tryz.f18) (by kernel_rfl)).trans ?_;generalize evC (KW L) d=Q;unfold Ac3;kernel_rfl
noncomputable abbrev Dl:Code:=C6 x6
noncomputable def W9(L:Nat):Cfg:=B8 L [10] (A2 []) [(17,JU),(18,Ah5)] (A2 [(13,[2]),(7,[2]),(10,[2]),(12,[2]),(11,[1,16]),(9,[1,5,4]),(8,[1,5,4]),(6,[1,5,0]),(5,[1,5,0]),(4,[1,5,0]),(3,[1,5]),(2,[2]),(1,[1,3]),(0,[1])]) [17,18] (A2 [(0,[])]) (some [2]) [] [] []
noncomputable def Io{R:Type}(m:By)(r:Bool)(p:By)(o:Int)(n:By)(h i j e l a b c d g:Int)(f:By)(q:Bool->(List Blk)->Option R)(t:Bool->By->By->Int->By->Int->Int->Int->Int->Int->Int->Int->Int->Int->Int->By->Option R):Option R:=cond r (cond (A3 n.length) (cond (ltN h 4294967296) (cond (ok8 i j e l a b c d) (q (FF o n h i j e l a b c d) [(bU m p o n h i j e l a b c d g f)]) none) none) none) (cond (m==[97,98,111,117,116]) (cond (f==[98,108,97,110,107]) (q true [(bU m p o n h i j e l a b c d g f)]) (q (f==[115,114,99,100,111,99]) [(bU m p o n h i j e l a b c d g f)])) (t (m==[97,98,111,117,116]) m p o n h i j e l a b c d g f))
abbrev Zl(b:Code):Prop:=∀(k:Out->St W->Option R) s0 b1 o i p j l m g n a c d e f h,B3 (W9 L) Q Y b ⟨gp [(1,.ptr 0 0 0),(5,pS s0),(4,pB b1)] 15,[(bU s0 o i p j l m g n a c d e f h)],s⟩ k=Io s0 b1 o i p j l m g n a c d e f h (λq r=>k .ret ⟨gp [(2,pB q)] 25,r,s⟩) (λq t o i p j l m g n a c d e f h=>k .normal ⟨gp [(1,.ptr 0 0 0),(16,pB q)] 9,[(bU t o i p j l m g n a c d e f h)],s⟩)
theorem QC:Zl (R:=R) L Q Y s (cd [1,1,0,1,0,1,1,1] Dl):=by intro k o h p i q j l m f n a b c d e g;unfold Io;kernel_rfl
noncomputable def Eh{R:Type}(h:By)(t:Bool)(p:By)(j:Int)(q:By)(l m n f o a b c d e:Int)(g:By)(i:Bool->(List Blk)->Option R)(r:Bool->By->By->Int->By->Int->Int->Int->Int->Int->Int->Int->Int->Int->Int->By->Option R):Option R:=cond t (i true [(bU h p j q l m n f o a b c d e g)]) (cond (h==[104,116,116,112]) (Io h (h==[104,116,116,112]) p j q l m n f o a b c d e g i r) (Io h (h==[119,115]) p j q l m n f o a b c d e g i r))
abbrev Nz(b:Code):Prop:=∀(k:Out->St W->Option R) s0 b1 o i p j l m g n a c d e f h,B3 (W9 L) Q Y b ⟨gp [(1,.ptr 0 0 0),(5,pS s0),(0,pB b1)] 19,[(bU s0 o i p j l m g n a c d e f h)],s⟩ k=Eh s0 b1 o i p j l m g n a c d e f h (λq r=>k .ret ⟨gp [(2,pB q)] 25,r,s⟩) (λq t o i p j l m g n a c d e f h=>k .normal ⟨gp [(1,.ptr 0 0 0),(16,pB q)] 9,[(bU t o i p j l m g n a c d e f h)],s⟩)
theorem QD(a:Code)(b:Zl (R:=R) L Q Y s a):Nz (R:=R) L Q Y s (cd [1,1,0,1,0,1] (G6 [1,1,0,1,0,1,1,1] a Dl)):=by intro k q j r l t m n o h p c d e f g i;unfold Eh;simp only[<-b k];kernel_rfl
theorem QE:Nz (R:=R) L Q Y s (cd [1,1,0,1,0,1] Dl):=by intro k o h p i q j l m f n a b c d e g;exact j2 (by kernel_rfl) (QD L Q Y s (cd [1,1,0,1,0,1,1,1] Dl) (QC L Q Y s) k o h p i q j l m f n a b c d e g)
noncomputable def Zk{R:Type}(L:Nat)(f h:By)(u2:Int)(i:By)(j l m n u8 o a b c d:Int)(e:By)(g:Bool->(List Blk)->Option R):Option R:=cond (smU f h i e) (cond (ltN j 4294967296) (cond (ok8 l m n u8 o a b c) (cond (R7 d) (cond (not (T9 (mkU f h u2 i j (n8 l m n u8 o a b c) d e))) (g false [(bU f h u2 i j l m n u8 o a b c d e)]) (cond (f==[104,116,116,112,115]) (Eh f (f==[104,116,116,112,115]) h u2 i j l m n u8 o a b c d e g (λb6 a3 a4 p a5 q r t u v w x y z A a6=>g false [(bU a3 a4 p a5 q r t u v w x y z A a6)])) (cond (f==[119,115,115]) (Eh f (f==[119,115,115]) h u2 i j l m n u8 o a b c d e g (λb7 a7 a9 B b0 C D F G H I J K M N b1=>g false [(bU a7 a9 B b0 C D F G H I J K M N b1)])) (Eh f (f==[102,105,108,101]) h u2 i j l m n u8 o a b c d e g (λc0 b2 b3 O b4 P S T U V X Z a0 a1 a2 b5=>g false [(bU b2 b3 O b4 P S T U V X Z a0 a1 a2 b5)]))))) none) none) none) none
theorem Bl1(b:Code)(a:Nz (R:=PV × List Blk × W) L Q Y s b)(h i:By)(j:Int)(l:By)(m n o p u8 q c d e f:Int)(g:By):B3 (W9 L) Q Y (cd [] (G6 [1,1,0,1,0,1] b Dl)) ⟨[(gU h i j l m n o p u8 q c d e f g)]++tps 27,[],s⟩ (F3 (W9 L) x6)=Zk L h i j l m n o p u8 q c d e f g (λu t=>some (pB u,t,s)):=by unfold Zk;exact let r:=(E1 0 (E0 (W9 L) Q Y (cd [1,1,1] Dl) (F3 (W9 L) x6)));(j2 (by kernel_rfl) (A0 (A0 (A0 (A0 (A0 rfl (A0 ((a r h (h==[104,116,116,112,115]) i j l m n o p u8 q c d e f g).trans (by kernel_rfl)) (A0 ((a r h (h==[119,115,115]) i j l m n o p u8 q c d e f g).trans (by kernel_rfl)) ((a r h (h==[102,105,108,101]) i j l m n o p u8 q c d e f g).trans (by kernel_rfl))))) rfl) rfl) rfl) rfl))
theorem Bl2(d:Nat)(u0 u1 u2 u3 u4 u5 u6 u7 u8 u9 u10 u11 u12 u13 u14):evC (W9 L) (d+1) W Y 10 [(gU u0 u1 u2 u3 u4 u5 u6 u7 u8 u9 u10 u11 u12 u13 u14)] [] s=Zk L u0 u1 u2 u3 u4 u5 u6 u7 u8 u9 u10 u11 u12 u13 u14 (λb a=>some (pB b,a,s)):=
 (evE (fn:=x6) (by kernel_rfl)).trans (j2 (by kernel_rfl) (Bl1 L (evC (W9 L) d) Y s (cd [1,1,0,1,0,1] Dl) (QE L (evC (W9 L) d) Y s) u0 u1 u2 u3 u4 u5 u6 u7 u8 u9 u10 u11 u12 u13 u14))
end
abbrev Dx6(f:Int->By->Int->Int->Int->Int->Int->Int->Int->Int->Int->(Bool->List Blk->Option (PV × List Blk × Unit))->Option (PV × List Blk × Unit))(k:Int)(j:By)(v4 a b c d e g h i:Int):Prop:=
 A3 j.length=true->ltN v4 4294967296=true->ok8 a b c d e g h i=true->∃r H,f k j v4 a b c d e g h i (λm l=>rv (.s (.bool m)) l)=rv r H/\r.stab [] H = .s (.bool (FF k j v4 a b c d e g h i))
theorem Cy7(a:Int)(j:By)(v4 b c d e f g h i:Int):Dx6 (B12 LF) a j v4 b c d e f g h i:=λk l m=>by
 unfold B12 FF;rw[k,l,m];cases J7 (mkH a j v4 (n8 b c d e f g h i))<;>cases a==2<;>cases a==3<;>exact⟨_,_,rfl,rfl⟩
theorem Cf7(a:Int)(j:By)(v4 b c d e f g h i:Int):Dx6 (Ac3 LF) a j v4 b c d e f g h i:=λk l m=>by
 unfold Ac3 FF;rw[k,l,m];cases J7 (mkH a j v4 (n8 b c d e f g h i))<;>cases a==2<;>cases a==3<;>exact⟨_,_,rfl,rfl⟩
theorem Cb8(a m:By)(n:Int)(b:By)(v4 d e f g h i j k l:Int)(c:By)(o:smU a m b c=true)(q:ltN v4 4294967296=true)(t:ok8 d e f g h i j k=true)(u:R7 l=true) :
  ∃r H,NI LF a m n b v4 d e f g h i j k l c (λv p=>rv (.s (.bool v)) p)=rv r H/\r.stab [] H = .s (.bool (Y0 a m n b v4 d e f g h i j k l c)):=by
 obtain⟨x,y,z,A⟩:=Gs o;have w:A3 b.length=true:=J9;unfold NI He Hf Y0;simp only[o,q,t,u,w,show(a==([104,116,116,112,115]:List UInt8))=(a==Bj) from rfl,show(a==([119,115,115]:List UInt8))=(a==Uk) from rfl,show(a==([102,105,108,101]:List UInt8))=(a==Ai6) from rfl,show(a==([97,98,111,117,116]:List UInt8))=(a==Uj) from rfl];cases T9 (mkU a m n b v4 (n8 d e f g h i j k) l c)<;>cases a==Bj<;>cases a==Uk<;>cases a==Ai6<;>cases a==Uj<;>cases H8 a<;>cases c==([98,108,97,110,107]:List UInt8)<;>exact⟨_,_,rfl,rfl⟩
theorem Bl3(g v:By)(x:Int)(i:By)(v4 k l m n o p q t u:Int)(j:By)(y:smU g v i j=true)(B:ltN v4 4294967296=true)(C:ok8 k l m n o p q t=true)(D:R7 u=true) :
  ∃r H,Zk LF g v x i v4 k l m n o p q t u j (λG A=>rv (.s (.bool G)) A)=rv r H/\r.stab [] H = .s (.bool (Y0 g v x i v4 k l m n o p q t u j)):=by
 obtain⟨J,K,L,M⟩:=Gs y;have I:A3 i.length=true:=J9;have z:∀a b:By,a≠b->(g==a)=true->(g==b)=false:=λa b h e=>by
  obtain rfl:g=a:=by simpa using e
  simpa using h
 have w:H8 g=(g==Dd||g==bWs||(g==Bj||g==Uk)):=rfl;have hA:=z Dd Uj (by decide);have F:=z bWs Uj (by decide);unfold Zk Eh Io Y0;rw[w];simp only[y,B,C,D,I,show(g==([104,116,116,112,115]:List UInt8))=(g==Bj) from rfl,show(g==([119,115,115]:List UInt8))=(g==Uk) from rfl,show(g==([102,105,108,101]:List UInt8))=(g==Ai6) from rfl,show(g==([97,98,111,117,116]:List UInt8))=(g==Uj) from rfl,show(g==([104,116,116,112]:List UInt8))=(g==Dd) from rfl,show(g==([119,115]:List UInt8))=(g==bWs) from rfl];generalize (g==Bj)=a,(g==Uk)=b,(g==Ai6)=c,(g==Dd)=d,(g==bWs)=e,(g==Uj)=f at *;cases T9 (mkU g v x i v4 (n8 k l m n o p q t) u j)
 ·exact⟨_,_,rfl,rfl⟩
 ·cases a<;>cases b<;>cases c<;>cases d<;>cases e<;>cases f<;>first|(exact absurd (hA rfl) (by decide))|(exact absurd (F rfl) (by decide))|exact⟨_,_,rfl,rfl⟩|(cases j==([98,108,97,110,107]:List UInt8)<;>exact⟨_,_,rfl,rfl⟩)
section
theorem Dt7:B4 a8 GX 57 Bv2:=xf [] (YE LF) IW rfl ⟨Bt3,D55,trivial⟩ rfl (by kernel_rfl) follows λargs=>by
 unfold IW;split
 ·rename_i i j v4 a b c d e f g h;exact λl=>λm=>λn=>(let⟨q,o,k,p⟩:=Cy7 i j v4 a b c d e f g h l m n;⟨rfl,rfl,rfl,q,o,(Cy6 LF noY () 0 i j v4 a b c d e f g h).trans k,p⟩)
 ·trivial
theorem Da5:B4 a8 GX 18 Ah5:=xf [] (KW LF) BB rfl ⟨Af8,Du1,trivial⟩ rfl (by kernel_rfl) follows λargs=>by
 unfold BB;split
 ·rename_i i j v4 a b c d e f g h;exact λl=>λm=>λn=>(let⟨q,o,k,p⟩:=Cf7 i j v4 a b c d e f g h l m n;⟨rfl,rfl,rfl,q,o,(Cf6 LF noY () 0 i j v4 a b c d e f g h).trans k,p⟩)
 ·trivial
theorem C98:B4 a8 GX 31 Ah4:=xf [] (Y5 LF) AW rfl ⟨EI,Ag0,Dt7,trivial⟩ rfl (by kernel_rfl) follows λargs=>by
 unfold AW;split
 ·rename_i m n i j v4 a b c d e f g h k l;exact λp=>λq=>λr=>λt=>(let⟨w,u,o,v⟩:=Cb8 m n i j v4 a b c d e f g h k l p q r t;⟨rfl,rfl,rfl,w,u,(Cb7 LF noY () 0 m n i j v4 a b c d e f g h k l).trans o,v⟩)
 ·trivial
theorem Cm2:B4 a8 GX 10 BC:=xf [] (W9 LF) Uc rfl ⟨Bt5,Da5,trivial⟩ rfl (by kernel_rfl) follows λargs=>by
 unfold Uc;split
 ·rename_i m n i j v4 a b c d e f g h k l;exact λp=>λq=>λr=>λt=>(let⟨w,u,o,v⟩:=Bl3 m n i j v4 a b c d e f g h k l p q r t;⟨rfl,rfl,rfl,w,u,(Bl2 LF noY () 0 m n i j v4 a b c d e f g h k l).trans o,v⟩)
 ·trivial
end
section
theorem A02:B4 a8 GX 15 ID:=xf [] (KT LF) AP rfl trivial rfl (by kernel_rfl) follows λargs=>by
 unfold AP;split
 ·rename_i n;exact⟨rfl,rfl,rfl,_,_,(B69 LF noY () 0 n).trans (Al1 n ),rfl⟩
 ·trivial
theorem D52:B4 a8 GX 33 Cn1:=xf [] (A48 LF) UL rfl ⟨A02,trivial⟩ rfl (by kernel_rfl) follows λargs=>by
 unfold UL;split
 ·rename_i n a;exact⟨rfl,rfl,rfl,_,_,(De1 LF noY () 0 n a).trans (B61 n a ),rfl⟩
 ·trivial
theorem Cm0:B4 a8 GX 5 BA:=xf [] (CD LF) Tz rfl trivial rfl (by kernel_rfl) follows λargs=>by
 unfold Tz;split
 ·rename_i n;exact⟨rfl,rfl,rfl,_,_,(Bh2 LF noY () 0 n).trans (Ab8 n ),rfl⟩
 ·trivial
theorem Dv4:B4 a8 GX 88 Bw6:=xf [] (Na LF) KA rfl trivial rfl (by kernel_rfl) follows λargs=>by
 unfold KA;split
 ·rename_i b a l s;exact λc=>λd=>⟨rfl,rfl,rfl,_,_,(C50 LF noY () 0 b a l s).trans (Bq6 b a l s c d),rfl⟩
 ·trivial
theorem Dv3:B4 a8 GX 59 Bw5:=xf [] (YO LF) JZ rfl ⟨Dv4,trivial⟩ rfl (by kernel_rfl) follows λargs=>by
 unfold JZ;split
 ·rename_i b a l s;exact λc=>λd=>⟨rfl,rfl,rfl,_,_,(C48 LF noY () 0 b a l s).trans (Bq1 b a l s c d),rfl⟩
 ·trivial
theorem D51:B4 a8 GX 32 Cn0:=xf [] (A46 LF) UJ rfl ⟨Bt3,C89,Dv3,trivial⟩ rfl (by kernel_rfl) follows λargs=>by
 unfold UJ;split
 ·rename_i p o up k b a l m n v4 c d e f g h i j;exact λr=>λt=>λu=>λv=>λw=>(let⟨z,x,q,y⟩:=Dd5 p o up k b a l m n v4 c d e f g h i j r t u v w;⟨rfl,rfl,rfl,z,x,(Dd4 LF noY () 0 p o up k b a l m n v4 c d e f g h i j).trans q,y⟩)
 ·trivial
theorem Dt8:B4 a8 GX 11 WA:=xf [] (Mu LF) JA rfl ⟨Af8,B45,trivial⟩ rfl (by kernel_rfl) follows λargs=>by
 unfold JA;split
 ·rename_i p o up k b a l m n v4 c d e f g h i j;exact λr=>λt=>λu=>λv=>λw=>(let⟨z,x,q,y⟩:=C00 p o up k b a l m n v4 c d e f g h i j r t u v w;⟨rfl,rfl,rfl,z,x,(Cz9 LF noY () 0 p o up k b a l m n v4 c d e f g h i j).trans q,y⟩)
 ·trivial
theorem Dt6:B4 a8 GX 16 Bv1:=xf [] (Ck LF) IV rfl ⟨Db5,D75,Eb3,C98,D51,D52,trivial⟩ rfl (by kernel_rfl) follows λargs=>by
 unfold IV;split
 ·rename_i w z q r v4 c d e f g h i j t v n p x u up k b a l y m o;exact λB=>λC=>λD=>λF=>λG=>λH=>(let⟨K,I,A,J⟩:=Cx7 w z q r v4 c d e f g h i j t v n p x u up k b a l y m o B C D F G H;⟨rfl,rfl,rfl,K,I,(Cx6 LF noY () 0 w z q r v4 c d e f g h i j t v n p x u up k b a l y m o).trans A,J⟩)
 ·trivial
theorem C97:B4 a8 GX 8 IU:=xf [0,0] (A58 LF) VQ rfl ⟨EI,A02,Dt6,trivial⟩ rfl (by kernel_rfl) follows λargs=>by
 unfold VQ;split
 ·rename_i w z q r v4 c d e f g h i j t v n p x u up k b a l y m o;exact λB=>λC=>λD=>λF=>λG=>λH=>(let⟨K,I,A,J⟩:=Dj8 w z q r v4 c d e f g h i j t v n p x u up k b a l y m o B C D F G H;⟨rfl,rfl,rfl,K,I,(Dj7 LF noY () 0 w z q r v4 c d e f g h i j t v n p x u up k b a l y m o).trans A,J⟩)
 ·trivial
theorem Dt2:B4 a8 GX 4 VI:=xf [] (YA LF) IQ rfl ⟨C93,trivial⟩ rfl (by kernel_rfl) follows λargs=>by
 unfold IQ;split
 ·rename_i e d up c b a l;exact λg=>(let⟨j,h,f,i⟩:=Cw5 e d up c b a l g;⟨rfl,rfl,rfl,j,h,(Cw4 LF noY () 0 e d up c b a l).trans f,i⟩)
 ·trivial
end
section
variable {L R : Type} (Y : Nat) (Q : F6) (W : Yh L) (s : L) (k : Out -> St L -> Option R)
noncomputable def RG(Y:Nat):Cfg:=B8 Y [6] (A2 []) [(7,La),(8,IU)] (A2 [(7,[0]),(6,[6,0,0,0,0,0]),(5,[1,2,1,0,0,0]),(4,[1,0,1,1,0]),(3,[1,0,1]),(2,[1,0]),(1,[1]),(0,[])]) [] (A2 []) (some [0]) [] [] [] (nt:=[(24,4,9,1)])
end
section
theorem Ai5:HQ (evC (RG LF) 1 Unit noY 6 [] [] ())=true:=by kernel_rfl
theorem Cl6:B4 a8 GX 6 AO:=
 B4.fix (pf:=Tt) _ (by
  have h:=Bt8 (C₀:=RG LF) (N7.ok (l:=[(7,La),(8,IU)]) rfl ⟨UH,C97,trivial⟩) (J1 rfl (by kernel_rfl)) follows Ai5;have e:(λargs:List PV=>match args with|[]=>Tr.ret (.s (.bool true)) []|_=>.fail)=Tt:=by
   funext args
   cases args<;>rfl
  rw[<-e];exact h)
end
end
section
open Go Go.ChangeAt Go.ChangeShapes Go.Proofs Go.RowKit Go.WideShapes
set_option maxRecDepth 100000
section
theorem Bb8(os:Os)(a:os.Started)(H:Type)(enc:TypeId × Value->H) :
  ReturnsInHanded {} Tryz.checked os 3 .any (λw args=>(Rows.mixedMorePolicySpec.pre enc a8 o0 Rows.mixedMorePolicyRow.domain false w args/\laidMetH a8 Fv w)/\sizedMet enc a8 o0 (OpenSpec.ofChange Rows.mixedMorePolicySpec) false w args) (Rows.mixedMorePolicySpec.post enc a8 o0 false true false false):=
 Bb2 a (C:=Qe LF) (tb:=4) rfl rfl (N7.ok (l:=[(4,VI),(5,BA),(6,AO),(7,La),(8,IU),(9,WM),(10,BC),(11,WA)]) rfl ⟨Dt2,Cm0,Cl6,UH,C97,Du9,Cm2,Dt8,trivial⟩) (J1 rfl (by kernel_rfl)) (by kernel_rfl) x9 (c:=C6 o0) rfl (by kernel_rfl)
  (by
   intro t d;have:t=9\/t=3\/t=4\/t=24\/t=26:=by simpa only[List.mem_cons,List.mem_nil_iff,or_false] using(show t∈[9,3,4,24,26] from d)
   rcases this with rfl|rfl|rfl|rfl|rfl
   all_goals exact⟨⟨by kernel_rfl,of_decide_eq_true (by kernel_rfl)⟩,by kernel_rfl⟩) rfl (by kernel_rfl) rfl
  (λds b=>by
   match ds,b with
   | [e,f,g,i,j],_=>rfl)
  #[(.string ⟨#[]⟩),(.int .i64 0),(.bool false),(.agg #[(.bool false),(.bool false),(.bool false),(.bool false),(.slice none 0 0)]),(.agg #[(.int .i64 0),(.string ⟨#[]⟩),(.bool false)])] 8 (by kernel_rfl) (by kernel_rfl) (by kernel_rfl)
  (λargs h=>Di5 args h)
set_option maxHeartbeats 4000000 in theorem Ca1:Rows.MixedMorePolicySaid:=
 OpenClaim.holds_of_wide 3 o0 rfl rfl rfl rfl rfl rfl rfl ⟨rfl,rfl,rfl,rfl,rfl⟩ rfl rfl rfl rfl rfl (by kernel_rfl) x9 (by unfold joinedFacts;simp only[o9];(repeat' apply And.intro)<;>as_aux_lemma=>kernel_rfl)
  (of_decide_eq_true (by as_aux_lemma=>kernel_rfl)) (by unfold Func.isWrapper;first|(rw[if_pos (by decide +kernel)];kernel_rfl)|(rw[if_neg (by decide +kernel)];exact⟨rfl,rfl⟩))
  (λos a H enc _=>Bb8 os a H enc)
theorem lmp_card:Rows.MixedMorePolicyCardSaid:=
 Claim7.holds_tied_plain_at .later [] [.data,.data,.data,.data,.pinned] true (true, "b40218e81dcaf627ccab6a8cca0ed4dad965cf660ea39763b2447e5ca8473765") false Ca1 (λ_ h=>by cases h) (by as_aux_lemma=>kernel_rfl) (λ_ h=>by cases h) mixedMorePolicy_row_tie rfl ⟨rfl,rfl⟩ (by as_aux_lemma=>kernel_rfl) rfl
  (λf fn c b=>by
   obtain rfl:f=3:=k9 ((show a8.funcNamed "hstsstore/hstsstorelaw29.MixedMorePolicy" = some 3 by as_aux_lemma=>kernel_rfl).symm.trans c) |>.symm
   obtain rfl:fn=o0:=(k9 (x9.symm.trans b)).symm;exact⟨by as_aux_lemma=>kernel_rfl,λj t e=>by
    have d:t∈[9,3,4,24,26]:=Array.mem_toList_iff.2 (Array.mem_of_getElem? e);have a:([9,3,4,24,26].all λu=>!a8.wantsStandIn u)=true:=by as_aux_lemma=>kernel_rfl
    exact(show a8.wantsStandIn t=false by simpa using w9.1 a t d)⟩)
  (by as_aux_lemma=>kernel_rfl)
end
end
#print axioms lmp_card
end Go.Proofs.YtkegcjamihlmmaaGreatDoor.E
