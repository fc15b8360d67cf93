/-
  MixedClassifyMatchesSpec, as its tied card says. Conditions: what the card itself names (the package-level variables that are listed, tied to the program's text).
-/
import Derived.Test.YtfkhfkjcidamaaaGreatDoorKMC6
import Derived.Test.YtfkhfkjcidamaaaGreatDoorCards
import Derived.Test.YtfkhfkjcidamaaaGreatDoorTie
open Go.Proofs.Tryz renaming prog->a8,f6->p5,f27->w9,f33->x3,f53->x4,f87->x5,func6->x6,f171->y5,f19->y7,f34->y8
open List renaming map->b8,length->b9,all->j0,getD_eq_getElem?_getD->j2,getElem?_eq_getElem->j4,length_cons->j6,length_append->j9,drop_eq_getElem_cons->k9,drop_of_length_le->o6,getElem_cons_drop->o7,length_nil->o8,drop_eq_nil_iff->p4,map_id''->p6,map_map->p7,all_eq_true->v7,drop_zero->w8
open Eq renaming trans->c9
open Bool renaming and_eq_true->j1,not_true->j7,not_false->j8,and_false->w6,and_true->x7,true_and->x8
open Option.some renaming inj->j5
open Int renaming toNat_natCast->o0,toNat->o5
open Nat renaming le_of_ble_eq_true->o9,ble->p9,ble_eq->y9
open Option renaming getD_some->v8
open List.cons renaming inj->x9
namespace Go.Proofs.YtfkhfkjcidamaaaGreatDoor.E
set_option linter.all false
section
open Go Go.Proofs
set_option maxRecDepth 100000
theorem RU{u:X2}(h:-1<=u.port):Ez u=Y5 u:=by unfold Ez;rw[G3]
theorem Cc4{m n:By}{kd:Int}{a:By}{v4 b c d e f g h i k:Int}{l:By}(h0:smU m n a l=true)(h1:ltN v4 4294967296=true)(j:ok8 b c d e f g h i=true)(o:M8 k=true) :
  (Ez (mkU m n kd a v4 (n8 b c d e f g h i) k l)).length<=400000000:=by
 obtain⟨r,t,u,v⟩:=Fv h0;have p:=Wu (FS (h0:=kd) (h1:=a) h1 j);rw[DT] at p;have q:=RV (kd:=kd) h0 h1 j o;unfold Ez;split
 ·unfold mkU;simp only;split
  ·split<;>simp only[j9,j6,o8]<;>omega
  ·simp only[j9,j6];omega
 ·exact q
theorem Ca4(d b:By)(o:Int)(c:By)(v4 f g i j k l m n a:Int)(e:By)(h0:smU d b c e=true)(h1:ltN v4 4294967296=true)(y:ok8 f g i j k l m n=true)(B:M8 a=true) :
  ∃r H,Vm LF d b o c v4 f g i j k l m n a e (λu p=>rv (.s (.str u)) p)=rv r H/\r.stab [] H = .s (.str (Ez (mkU d b o c v4 (n8 f g i j k l m n) a e))):=by
 obtain⟨G,I,J,K⟩:=Fv h0;have F:=Wu (FS (h0:=o) (h1:=c) h1 y);obtain⟨L,M⟩:=Xg.1 B;have D:=Gb 19 a.toNat (by omega) (by omega);have key:∀T:By,Vm LF d b o c v4 f g i j k l m n a e (λu p=>rv (.s (.str u)) p)=rv (.s (.str T)) [bU d b o c v4 f g i j k l m n a e]->T=Ez (mkU d b o c v4 (n8 f g i j k l m n) a e)->∃r H,Vm LF d b o c v4 f g i j k l m n a e (λu p=>rv (.s (.str u)) p)=rv r H/\r.stab [] H = .s (.str (Ez (mkU d b o c v4 (n8 f g i j k l m n) a e))):=λT v w=>⟨_,_,v,by rw[<-w];rfl⟩
 have C:A3 c.length=true:=J9;cases t:J1 d with
 | false=>
  refine key (d++[58]++e) ?_ ?_
  ·unfold Vm;rw[t,G0 (by omega)];simp only[vl,cond_true,j8];rw[G0 (by simp;omega)];rfl
  ·unfold Ez Y5 mkU;simp[t]
 | true=>
  have v:(b==([]:List UInt8))=decide (b=[]):=by rw[Bool.eq_iff_iff];simp
  have w:ltI a 0=decide (a<0):=Mq ..;have z:ltI a (-1)=decide (a < -1):=Mq ..;have A:0<=a->ltN a 9223372036854775808=true:=λh=>E5.2 ⟨h,by omega⟩
  by_cases x:b=[]<;>rcases(show a < -1\/a=-1\/0<=a by omega) with q|q|q
  all_goals
   apply key
   ·unfold Vm;rw[t,C,h1,y,v,w,z];simp only[x,decide_true,decide_false,vl,cond_true,cond_false,j7,j8]
    first|rw[decide_eq_true (show a<0 by omega),decide_eq_true q]|rw[decide_eq_true (show a<0 by omega),decide_eq_false (show ¬a < -1 by omega)]|rw[decide_eq_false (show ¬a<0 by omega),A q]
    simp only[vl,cond_true,cond_false,j7,j8]
    repeat rw[G0 (by first|omega|(simp only[j9,j6,o8];omega))]
    simp only[vl,cond_true];rfl
   ·unfold Ez Y5 mkU JF Ks
    first
     | (simp[t,DT,x,q];done)
     | simp[t,DT,x,show ¬a < -1 by omega,show ¬a<0 by omega,show ¬a=-1 by omega]
theorem Dw6(u:X2):((C4 (Ez u)).2==0&&eqU (C4 (Ez u)).1 u)=O8 u:=by
 by_cases h:-1<=u.port
 ·rw[RU h];rfl
 ·have a:∀s,eqU (C4 s).1 u=false:=λs=>by
   have b:=(Xt s).port.1;unfold eqU;rw[show((C4 s).1.port==u.port)=false by rw[beq_eq_false_iff_ne];omega];simp
  unfold O8;rw[a,a,w6,w6]
theorem Aq5(sc us:By)(kd:Int)(nm:By)(v4 a b c d f g h i po:Int)(re:By)(m:smU sc us nm re=true)(k:ltN v4 4294967296=true)(l:ok8 a b c d f g h i=true)(n:M8 po=true) :
  ∃r H,Yr LF sc us kd nm v4 a b c d f g h i po re (λu o=>rv (.s (.bool u)) o)=rv r H/\r.stab [] H = .s (.bool (O8 (mkU sc us kd nm v4 (n8 a b c d f g h i) po re))):=by
 have v:=Cc4 (kd:=kd) m k l n;unfold Yr;rw[<-Dw6,m,k,l,n];simp only[vl,cond_true];rw[J9,cond_true];have q:=Xt (Ez (mkU sc us kd nm v4 (n8 a b c d f g h i) po re));have j:=PO (sc:=sc) (us:=us) (kd:=kd) (nm:=nm) (po:=po) (re:=re) k l q;simp only[Pi sc,Pi us,Pi nm,Pi re,Av kd,Av v4,Av a,Av b,Av c,Av d,Av f,Av g,Av h,Av i,Av po] at j;rw[j];generalize C4 (Ez (mkU sc us kd nm v4 (n8 a b c d f g h i) po re))=p;obtain⟨t,e⟩:=p;by_cases j:e=0
 ·subst j;exact⟨_,_,rfl,rfl⟩
 ·rw[show(uE (t,e)==(0:Int))=false by simpa using j,show(e==0)=false by simpa using j];exact⟨_,_,rfl,rfl⟩
theorem Bm4{u:X2}(h:O8 u=true):-1<=u.port:=by have a:=(Xt (Y5 u)).port.1;simp only[O8,eqU,j1,beq_iff_eq] at h;omega
theorem Cv4(l m:By)(n:Int)(i:By)(v4 a b c d e f g h j:Int)(k:By)(p:smU l m i k=true)(q:ltN v4 4294967296=true)(t:ok8 a b c d e f g h=true)(u:M8 j=true) :
  ∃r H,Bw8 LF l m n i v4 a b c d e f g h j k (λw o=>rv (.s (.str w)) o)=rv r H/\r.stab [] H = .s (.str (Im (mkU l m n i v4 (n8 a b c d e f g h) j k))):=by
 unfold Bw8 Im;rw[p,q,t,u];cases v:O8 (mkU l m n i v4 (n8 a b c d e f g h) j k) with
 | false=>exact⟨_,_,rfl,rfl⟩
 | true=>
  rw[RU (Bm4 v)];exact⟨_,_,rfl,rfl⟩
theorem Cv9(a p:By)(k:Int)(l:By)(v4 c d e f g h i j m:Int)(o:By) :
  ∃r H,Bw9 LF a p k l v4 c d e f g h i j m o (λn b=>rv (.s (.bool n)) b)=rv r H/\r.stab [] H = .s (.bool (M9 a)):=by
 unfold Bw9 M9;rw[show(a==([104,116,116,112]:By))=(a==Cp) from rfl,show(a==([119,115]:By))=(a==bWs) from rfl];cases a==Cp<;>exact⟨_,_,rfl,rfl⟩
theorem Cw7(g v:By)(p:Int)(q:By)(v4 h i j k l m n o t:Int)(u:By)(w:(not (M9 g))=true) :
  ∃r H,Bx1 LF g v p q v4 h i j k l m n o t u (λD F x G y z A B n8 C b c d e f a=>rv (gU D F x G y z A B n8 C b c d e f) a)=rv r H/\r.stab [] H=gU g v p q v4 h i j k l m n o t u:=by
 unfold Bx1;rw[w];exact⟨_,_,rfl,rfl⟩
section
theorem Au8:B3 a8 GX 58 IO:=xf [] (JS LF) AH rfl ⟨Au7,By6,Bm8,trivial⟩ rfl (by kernel_rfl) follows λargs=>by
 unfold AH;split
 ·rename_i n o j k v4 a b c d f g h i l m;exact λp=>λt=>λu=>λv=>(let⟨r,H,e,q⟩:=Ca4 n o j k v4 a b c d f g h i l m p t u v;⟨rfl,rfl,rfl,r,H,(Ca3 LF noY () 0 n o j k v4 a b c d f g h i l m).trans e,q⟩)
 ·trivial
theorem Vr:B3 a8 GX 54 Lr:=xf [] (Ue LF) Ox rfl ⟨Au8,By9,trivial⟩ rfl (by kernel_rfl) follows λargs=>by
 unfold Ox;split
 ·rename_i n o j k v4 a b c d f g h i l m;exact λp=>λt=>λu=>λv=>(let⟨r,H,e,q⟩:=Aq5 n o j k v4 a b c d f g h i l m p t u v;⟨rfl,rfl,rfl,r,H,(Aq4 LF noY () 0 n o j k v4 a b c d f g h i l m).trans e,q⟩)
 ·trivial
theorem Do0:B3 a8 GX 32 Bp6:=xf [] (WM LF) IH rfl ⟨Vr,Au8,trivial⟩ rfl (by kernel_rfl) follows λargs=>by
 unfold IH;split
 ·rename_i n o j k v4 a b c d f g h i l m;exact λp=>λt=>λu=>λv=>(let⟨r,H,e,q⟩:=Cv4 n o j k v4 a b c d f g h i l m p t u v;⟨rfl,rfl,rfl,r,H,(Cv3 LF noY () 0 n o j k v4 a b c d f g h i l m).trans e,q⟩)
 ·trivial
theorem By8:B3 a8 GX 29 UK:=xf [] (WN LF) IJ rfl trivial rfl (by kernel_rfl) follows λargs=>by
 unfold IJ;split
 ·rename_i n o j k v4 a b c d f g h i l m;exact(let⟨r,H,e,q⟩:=Cv9 n o j k v4 a b c d f g h i l m ; ⟨rfl,rfl,rfl,r,H,(Cv8 LF noY () 0 n o j k v4 a b c d f g h i l m).trans e,q⟩)
 ·trivial
theorem Do5:B3 a8 GX 55 Bq2:=xf [] (WQ LF) Vy rfl ⟨By8,trivial⟩ rfl (by kernel_rfl) follows λargs=>by
 unfold Vy;split
 ·rename_i n o j k v4 a b c d f g h i l m;exact λp=>(let⟨r,H,e,q⟩:=Cw7 n o j k v4 a b c d f g h i l m p;⟨rfl,rfl,rfl,r,H,(Cw6 LF noY () 0 n o j k v4 a b c d f g h i l m).trans e,q⟩)
 ·trivial
end
section
variable {Z R : Type} (L : Nat) (Y : F8) (Q : Yh Z) (s : Z) (k : Out -> St Z -> Option R)
noncomputable def JM(L:Nat):Cfg:=B5 L [23] (A2 []) [(19,HA)] (A2 [(1,[2]),(0,[1])]) [19] (A2 []) (some [2]) [] [] []
noncomputable def A49{R:Type}(L:Nat)(b c:By)(j:Int)(h:By)(l m n o u8 p d e f g:Int)(a:By)(i:Bool->(List Blk)->Option R):Option R:=cond (j0 [[(SV.str b)],[(SV.str c)],[(SV.str h)],[(SV.str a)]] isS) (i (Bf (1500:Int) (b8 elS [[(SV.str b)],[(SV.str c)],[(SV.str h)],[(SV.str a)]])) [(bU b c j h l m n o u8 p d e f g a)]) none
theorem B33(d:Nat)(u0 u1 u2 u3 u4 u5 u6 u7 u8 u9 u10 u11 u12 u13 u14):evC (JM L) (d+1) Z Q 23 [(gU u0 u1 u2 u3 u4 u5 u6 u7 u8 u9 u10 u11 u12 u13 u14)] [] s=A49 L u0 u1 u2 u3 u4 u5 u6 u7 u8 u9 u10 u11 u12 u13 u14 (λb a=>some (pB b,a,s)):=by refine(evE (fn:=Tryz.f23) (by kernel_rfl)).trans ?_;generalize evC (JM L) d=Y;unfold A49;kernel_rfl
end
theorem B34(c d:By)(n:Int)(a:By)(v4 f g h i j k l m o:Int)(b:By) :
  ∃r H,A49 LF c d n a v4 f g h i j k l m o b (λp e=>rv (.s (.bool p)) e)=rv r H/\r.stab [] H = .s (.bool (CS c d a b)):=
 ⟨_,_,rfl,rfl⟩
section
variable {Z R : Type} (L : Nat) (Y : F8) (Q : Yh Z) (s : Z) (k : Out -> St Z -> Option R)
noncomputable abbrev Ae1:Code:=C3 y7
noncomputable def Gs(L:Nat):Cfg:=B5 L [19] (A2 [(2,[0,0,2,0])]) [] (A2 [(6,[4]),(3,[0,0,3]),(5,[4]),(4,[0,0,3,12]),(2,[0,0,3,3]),(1,[0,0,3]),(0,[0,0])]) [] (A2 [(0,[]),(1,[0,0,3])]) (some [4]) [] [] []
noncomputable def De{R:Type}(L n:Nat)(n0:Int)(d c:Bool)(b:LL)(a:Int)(e:Unit->Option R)(f:Unit->Option R):Option R:=match n with|0=>none|n+1=>cond (ltI a (b.length:Int)) (cond (inR a b.length) (cond (okE Nq b (o5 a) 0) (cond (ltI n0 (↑(b9 (gX b (o5 a) 0)):Int)) (e ()) (De L n n0 d c b (A1 (a+1)) e f)) none) none) (f ())
theorem XQ(n n0 l_z1 l_t2 l3 i4):C7 0 ((Gs L).keep 2) (bd (Gs L) Y Q (cd [1,0,1,0,0] Ae1)) n ⟨gp [(0,pI n0),(0,.s (.sl l_z1 l_t2 1 l3)),(3,pI i4)] 13,[],s⟩ k =
 De L n n0 l_z1 l_t2 l3 i4 (λ_=>k .ret ⟨gp [(4,pB false)] 14,[],s⟩) (λ_=>k (.exit 0) ⟨gp [] 19,[],s⟩):=by
 induction n generalizing n0 l_z1 l_t2 l3 i4 with
 | zero=>rfl
 | succ n a=>rw[De];simp only[<-a];kernel_rfl
noncomputable def XP{R:Type}(L:Nat)(n0:Int)(b a:Bool)(d:LL)(c:Bool->Option R):Option R:=De L L n0 b a d 0 (λ_=>c false) (λ_=>c true)
theorem B32(d:Nat)(n0 l_z1 l_t2 l3):evC (Gs L) (d+1) Z Q 19 [pI n0,.s (.sl l_z1 l_t2 1 l3)] [] s=XP L n0 l_z1 l_t2 l3 (λa=>some (pB a,[],s)):=by refine(evE (fn:=y7) (by kernel_rfl)).trans ?_;generalize evC (Gs L) d=Y;unfold XP;exact(c9 (by kernel_rfl) ((XQ L Y Q s (E0 0 (D9 (Gs L) Y Q (cd [1,1] Ae1) (F0 (Gs L) y7))) L n0 l_z1 l_t2 l3 0).trans (by kernel_rfl)))
end
end
section
open Go Go.Proofs Go.Sort
set_option maxRecDepth 100000
theorem DY{R:Type}(n:Int)(z t:Bool)(l:List By)(c d:Unit->Option R)(j:l.length<=1000000000):∀(r:List By) (i m:Nat),l.drop i=r->r.length<m->De LF m n z t (D1 l) (i:Int) c d=if Bf n r then d () else c ()
 | [],i,m,h,b=>by
  obtain⟨m,rfl⟩:∃q,m=q+1:=⟨m-1,by simp at b;omega⟩
  rw[De];have:l.length<=i:=p4.1 h;rw[E4 (by rw[E1];omega)];rfl
 | x::r,i,m,h,b=>by
  obtain⟨m,rfl⟩:∃q,m=q+1:=⟨m-1,by simp at b;omega⟩
  rw[De];have a:i<l.length:=Decidable.byContradiction λg=>by
   rw[p4.2 (by omega)] at h;cases h
  have o:l.getD i []=x:=by
   have:=k9 a;rw[h] at this;rw[j2,j4 a];exact(x9 this).1.symm
  have k:l.drop (i+1)=r:=by
   have:=k9 a;rw[h] at this;exact(x9 this).2.symm
  rw[B7 (by rw[E1];omega),cond_true,K3 (by omega) (by rw[E1];omega),cond_true,o0,O9 a,cond_true,S8,o];have e:Bf n (x::r)=(!(ltI n (x.length:Int))&&Bf n r):=rfl;rw[e];by_cases f:n<(x.length:Int)
  ·rw[B7 f];rfl
  ·rw[A6,cond_false,A7,j8,x8];exact DY n z t l c d j r (i+1) m k (by simp at b;omega)
theorem Ai4{R:Type}{b:Bool->Option R}(n:Int)(z t:Bool)(l:LL)(c:l.all isS=true)(d:A3 l.length=true):XP LF n z t l b=b (Bf n (l.map elS)):=by
 have e:=C2;have a:=K7 d;rw[GJ c] at a ⊢;generalize l.map elS=q at a ⊢;rw[E1] at a;unfold XP;rw[show(0:Int)=((0:Nat):Int) from rfl,DY n z t q _ _ a q 0 LF rfl (by omega)];have:b8 elS (D1 q)=q:=by
  unfold D1;rw[p7];exact p6 (λ_=>rfl) q
 rw[this];cases Bf n q<;>rfl
end
section
open Go Go.Proofs
set_option maxRecDepth 100000
section
theorem Au2:B3 a8 GX 19 HA:=xf [] (Gs LF) Zu rfl trivial rfl (by kernel_rfl) follows λargs=>by
 unfold Zu;split
 ·rename_i n b a l;exact λc=>λd=>⟨rfl,rfl,rfl,_,_,(B32 LF noY () 0 n b a l).trans (Ai4 n b a l c d),rfl⟩
 ·trivial
end
section
theorem C24:B3 a8 GX 23 HB:=xf [] (JM LF) Zv rfl ⟨Au2,trivial⟩ rfl (by kernel_rfl) follows λargs=>by
 unfold Zv;split
 ·rename_i n o j k v4 a b c d f g h i l m;exact(let⟨r,H,e,q⟩:=B34 n o j k v4 a b c d f g h i l m ; ⟨rfl,rfl,rfl,r,H,(B33 LF noY () 0 n o j k v4 a b c d f g h i l m).trans e,q⟩)
 ·trivial
end
theorem Dy6:B3 a8 GX 55 Ax0:=λargs ret d h=>by
 have a:=Do4 args ret d;have b:=Do5 args ret d;unfold Ax0 at h;unfold Bq1 at a;unfold Bq2 at b;generalize B8 _ args=l at h a b;unfold Bq0 at h;split at h
 ·rename_i i w t u v4 j k m n o p q r g v;cases c:M9 i with
  | true=>
   refine a ?_;unfold Vx;rw[Z6 c];exact h
  | false=>
   refine b ?_;unfold Vy;rw[Z6 (by rw[c];rfl)];obtain⟨e,f⟩:=Aa2 c g;rw[e,f] at h;exact h
 ·cases h
def C02:List Ty:=[.str,.str,.int .i64,.str,.int .u32,.int .u16,.int .u16,.int .u16,.int .u16,.int .u16,.int .u16,.int .u16,.int .u16,.int .i64,.str]
theorem C63{P:Program}{t:Nat}{v:PV}(h:Si P t v)(e:Ep P 20 t=some C02)(D:Nz P t=true) :
  ∃u w p q v4 a b c d f g i j o r,v=gU u w p q v4 a b c d f g i j o r/\ltN v4 4294967296=true/\ok8 a b c d f g i j=true/\M8 o=true:=by
 obtain⟨Q,l,k,m,n⟩:=h;rw[e] at k;obtain rfl:=j5 k;simp only[C02,Ty.ofL] at m;obtain⟨_,_,rfl,⟨u,rfl,_⟩,_,_,rfl,⟨w,rfl,_⟩,_,_,rfl,⟨p,rfl,T,U⟩,_,_,rfl,⟨q,rfl,S⟩,_,_,rfl,⟨v4,rfl,v1,R⟩,_,_,rfl,x,_,_,rfl,k,_,_,rfl,m,_,_,rfl,y,_,_,rfl,z,_,_,rfl,A,_,_,rfl,B,_,_,rfl,C,_,_,rfl,⟨o,rfl,F,G⟩,_,_,rfl,⟨r,rfl,_⟩,rfl⟩:=m;simp[IntKind.min,IntKind.max,IntKind.signed,IntKind.bits] at v1 R F G;obtain⟨a,rfl,H⟩:=Qi x;obtain⟨b,rfl,I⟩:=Qi k;obtain⟨c,rfl,J⟩:=Qi m;obtain⟨d,rfl,K⟩:=Qi y;obtain⟨f,rfl,L⟩:=Qi z;obtain⟨g,rfl,M⟩:=Qi A;obtain⟨i,rfl,N⟩:=Qi B;obtain⟨j,rfl,O⟩:=Qi C;rcases n with⟨_,rfl⟩|⟨n,_⟩
 ·exact⟨u,w,p,q,v4,a,b,c,d,f,g,i,j,o,r,rfl,E5.2 ⟨v1,by omega⟩,by simp[ok8,H,I,J,K,L,M,N,O],Xg.2 ⟨by omega,by omega⟩⟩
 ·rw[D] at n;cases n
theorem Cx3{i j f g:By}(h:CS i j f g=true):smU i j f g=true:=by
 have e:∀x:By,(!ltI 1500 (x.length:Int))=true->x.length<=100000000:=λx h=>by
  rw[Bool.not_eq_true',Kv] at h;omega
 simp only[CS,Bf,List.all_cons,List.all_nil,x7,j1] at h;obtain⟨a,b,c,d⟩:=h;simp only[smU,j1,y9];exact⟨⟨⟨e _ a,e _ b⟩,e _ c⟩,e _ d⟩
end
section
open Go
def ofB(u:X2):Bool:=J1 u.sch&&O8 u
structure OC where
 s:By
 k:Int
 n:By
 v:Int
 a:List Int
 p:Int
 b:Bool
def ofC(i n:By)(j:Int)(k:By)(v4 a b c d e f g h l:Int)(m:By):OC:=
 cond (ofB (mkU i n j k v4 (n8 a b c d e f g h) l m)) ⟨i,j,k,v4,[a,b,c,d,e,f,g,h],prt i l,true⟩ ⟨[],0,[],0,[0,0,0,0,0,0,0,0],0,false⟩
abbrev oS(c:OC):By:=c.s
abbrev oK(c:OC):Int:=c.k
abbrev oN(c:OC):By:=c.n
abbrev oV(c:OC):Int:=c.v
abbrev oA(c:OC)(i:Nat):Int:=c.a.getD i 0
abbrev oP(c:OC):Int:=c.p
abbrev oB(c:OC):Bool:=c.b
def D38:By:=[108,111,99,97,108,104,111,115,116]
def EA(i:Int)(j:By)(v4 a b c d e f g h:Int):Bool:=
 cond (M0 (mkH i j v4 (n8 a b c d e f g h))) (cond (i==2) (Om .u32 v4 24==127) (cond (i==3) ((a==0)&&((b==0)&&((c==0)&&((d==0)&&((e==0)&&((f==0)&&((g==0)&&((h==1)&&true)))))))) (Fc D38 j))) false
def Ad7:By:=[102,105,108,101]
def Tl:By:=[97,98,111,117,116]
def Ig(i n:By)(k:Int)(l:By)(v4 a b c d e f g h m:Int)(j:By):Bool:=
 cond (O8 (mkU i n k l v4 (n8 a b c d e f g h) m j)) (cond (i==Ay||(i==Tm||i==Ad7)) true (cond (i==Tl) (j==[98,108,97,110,107]||j==[115,114,99,100,111,99]) (cond (J1 i) (EA k l v4 a b c d e f g h) false))) false
def Al(n:Int):Bool:=!ltI n 1&&!ltI 22 n
def KB(n:Int)(a:Bool):Int:=cond (n==4) 1 (cond (n==2||(n==20||(n==9&&!a))) 2 (cond (Al n) 3 0))
def B27(l:List By)(s:By):Int:=match l.findIdx? (· == s) with|some i=>(i:Int)|none=>-1
def NU(l:List By)(s:By):Bool:=l.any (· == s)
def CE(l:List By)(h:B4):Bool:=M0 h&&NU l (Bt h)
structure DV where
 a:Int
 r:Int
 u:By
 e:Int
abbrev dA(d:DV):Int:=d.a
abbrev dR(d:DV):Int:=d.r
abbrev dU(d:DV):By:=d.u
abbrev dE(d:DV):Int:=d.e
def Ad6:By:=[100,97,116,97]
def Sq(i o:By)(j:Int)(k:By)(v4 a b c d e f g h m:Int)(n:By)(p:Int)(r t up q:Bool)(l:List By)(u:Int):DV:=
 cond (M9 i&&u !=0) ⟨2,2,Im (mkU (upS i) o j k v4 (n8 a b c d e f g h) (upP i m) n),0⟩
 (cond (Ig i o j k v4 a b c d e f g h m n||i==Ad6) ⟨1,1,Im (mkU i o j k v4 (n8 a b c d e f g h) m n),0⟩
 (cond (M9 i&&(up&&(p !=4||CE l (mkH j k v4 (n8 a b c d e f g h))))) ⟨2,3,Im (mkU (upS i) o j k v4 (n8 a b c d e f g h) (upP i m) n),0⟩
 (cond (p==4||!t) ⟨1,6,Im (mkU i o j k v4 (n8 a b c d e f g h) m n),0⟩
 (cond (M9 i&&(KB p r==2&&(j==1&&!q))) ⟨2,4,Im (mkU (upS i) o j k v4 (n8 a b c d e f g h) (upP i m) n),0⟩
 ⟨3,5,[],0⟩))))
def okD(d:DV):DV:=⟨d.a,d.r,d.u,0⟩
def Ko(o p:By)(j:Int)(k:By)(v4 a b c d e f g h m:Int)(n:By)(i:Int)(r t up q:Bool)(l:List By)(u:Int):DV:=
 cond (O8 (mkU o p j k v4 (n8 a b c d e f g h) m n)) (cond (Al i) (okD (Sq o p j k v4 a b c d e f g h m n i r t up q l u)) ⟨0,0,[],2⟩) ⟨0,0,[],1⟩
end
section
open Go Go.Proofs
set_option maxRecDepth 100000
theorem Cy2{a:LL}(h:∀b∈a,Ty.ofL [.str] b):a.all isS=true:=by rw[v7];intro b c;have:=h b c;simp only[Ty.ofL,Ty.of] at this;obtain⟨_,_,rfl,⟨l,rfl,_⟩,rfl⟩:=this;rfl
theorem C61{P:Program}{t:Nat}{v:PV}(h:Si P t v)(e:Ep P 20 t=some [.bool,.bool,.bool,.bool,.slice [.str]])(m:Nz P t=true) :
  ∃g f up c z l,v = .agg [.s (.bool g),.s (.bool f),.s (.bool up),.s (.bool c),.s (.sl z false 1 l)]/\l.all isS=true:=by
 obtain⟨n,l,i,j,b⟩:=h;rw[e] at i;obtain rfl:=j5 i;simp only[Ty.ofL] at j;obtain⟨_,_,rfl,⟨g,rfl⟩,_,_,rfl,⟨f,rfl⟩,_,_,rfl,⟨up,rfl⟩,_,_,rfl,⟨c,rfl⟩,x,_,rfl,k,rfl⟩:=j;simp only[Ty.of,j6,o8] at k;have⟨z,l,ex,hl⟩:∃z l,x = .sl z false 1 l/\l.all isS=true:=by
  rcases k with rfl|⟨d,rfl,_,a⟩
  ·exact⟨true,[],rfl,rfl⟩
  ·exact⟨false,d,rfl,Cy2 a⟩
 subst ex;rcases b with⟨_,rfl⟩|⟨b,_⟩
 ·exact⟨g,f,up,c,z,l,rfl,hl⟩
 ·rw[m] at b;cases b
theorem C60{P:Program}{t:Nat}{v:PV}(h:Si P t v)(e:Ep P 20 t=some [.int .i64,.str,.bool])(i:Nz P t=true) :
  ∃d b c,v = .agg [.s (.int .i64 d),.s (.str b),.s (.bool c)]:=by
 obtain⟨j,l,f,g,a⟩:=h;rw[e] at f;obtain rfl:=j5 f;simp only[Ty.ofL] at g;obtain⟨_,_,rfl,⟨d,rfl,_,_⟩,_,_,rfl,⟨b,rfl,_⟩,_,_,rfl,⟨c,rfl⟩,rfl⟩:=g;rcases a with⟨_,rfl⟩|⟨a,_⟩
 ·exact⟨d,b,c,rfl⟩
 ·rw[i] at a;cases a
section
def D37:List PV->Tr
 | [.agg [.s (.str l),.s (.str m),.s (.int .i64 n),.s (.str i),.s (.int .u32 v4),.s (.int .u16 a),.s (.int .u16 b),.s (.int .u16 c),.s (.int .u16 d),.s (.int .u16 e),.s (.int .u16 f),.s (.int .u16 g),.s (.int .u16 h),.s (.int .i64 j),.s (.str k)]]=>.need (smU l m i k) (.need (ltN v4 4294967296) (.need (ok8 a b c d e f g h) (.need (M8 j) (.ret (.tup [.agg [.s (.str (oS (ofC l m n i v4 a b c d e f g h j k))),.s (.int .i64 (oK (ofC l m n i v4 a b c d e f g h j k))),.s (.str (oN (ofC l m n i v4 a b c d e f g h j k))),.s (.int .u32 (oV (ofC l m n i v4 a b c d e f g h j k))),.s (.int .u16 (oA (ofC l m n i v4 a b c d e f g h j k) 0)),.s (.int .u16 (oA (ofC l m n i v4 a b c d e f g h j k) 1)),.s (.int .u16 (oA (ofC l m n i v4 a b c d e f g h j k) 2)),.s (.int .u16 (oA (ofC l m n i v4 a b c d e f g h j k) 3)),.s (.int .u16 (oA (ofC l m n i v4 a b c d e f g h j k) 4)),.s (.int .u16 (oA (ofC l m n i v4 a b c d e f g h j k) 5)),.s (.int .u16 (oA (ofC l m n i v4 a b c d e f g h j k) 6)),.s (.int .u16 (oA (ofC l m n i v4 a b c d e f g h j k) 7)),.s (.int .i64 (oP (ofC l m n i v4 a b c d e f g h j k)))],.s (.bool (oB (ofC l m n i v4 a b c d e f g h j k)))]) []))))
 | _=>.fail
def HM:List PV->Tr
 | [.agg [.s (.int .i64 j),.s (.str i),.s (.int .u32 v4),.s (.int .u16 a),.s (.int .u16 b),.s (.int .u16 c),.s (.int .u16 d),.s (.int .u16 e),.s (.int .u16 f),.s (.int .u16 g),.s (.int .u16 h)]]=>.need (A3 (b9 i)) (.need (ltN v4 4294967296) (.need (ok8 a b c d e f g h) (.ret (.s (.bool (EA j i v4 a b c d e f g h))) [])))
 | _=>.fail
def Bo4(args:List PV):Tr:=HM (B8 [[0,0,0,0,0,0,0,0,0,0,0]] args)
def Zw:List PV->Tr
 | [.agg [.s (.str l),.s (.str m),.s (.int .i64 n),.s (.str i),.s (.int .u32 v4),.s (.int .u16 a),.s (.int .u16 b),.s (.int .u16 c),.s (.int .u16 d),.s (.int .u16 e),.s (.int .u16 f),.s (.int .u16 g),.s (.int .u16 h),.s (.int .i64 j),.s (.str k)]]=>.need (smU l m i k) (.need (ltN v4 4294967296) (.need (ok8 a b c d e f g h) (.need (M8 j) (.ret (.s (.bool (Ig l m n i v4 a b c d e f g h j k))) []))))
 | _=>.fail
def Ac5(args:List PV):Tr:=Zw (B8 [[0,0,0,0,0,0,0,0,0,0,0,0,0,0,0]] args)
def AB:List PV->Tr
 | [.agg [.s (.int .i64 j),.s (.str i),.s (.int .u32 v4),.s (.int .u16 a),.s (.int .u16 b),.s (.int .u16 c),.s (.int .u16 d),.s (.int .u16 e),.s (.int .u16 f),.s (.int .u16 g),.s (.int .u16 h)]]=>.need (A3 (b9 i)) (.need (ltN v4 4294967296) (.need (ok8 a b c d e f g h) (.ret (.s (.bool (EA j i v4 a b c d e f g h))) [])))
 | _=>.fail
def Ac6(args:List PV):Tr:=AB (B8 [[0,0,0,0,0,0,0,0,0,0,0]] args)
def Te:List PV->Tr
 | [.agg [.s (.str l),.s (.str m),.s (.int .i64 n),.s (.str i),.s (.int .u32 v4),.s (.int .u16 a),.s (.int .u16 b),.s (.int .u16 c),.s (.int .u16 d),.s (.int .u16 e),.s (.int .u16 f),.s (.int .u16 g),.s (.int .u16 h),.s (.int .i64 j),.s (.str k)]]=>.need (smU l m i k) (.need (ltN v4 4294967296) (.need (ok8 a b c d e f g h) (.need (M8 j) (.ret (.s (.bool (Ig l m n i v4 a b c d e f g h j k))) []))))
 | _=>.fail
def OX(args:List PV):Tr:=Te (B8 [[0,0,0,0,0,0,0,0,0,0,0,0,0,0,0]] args)
end
section
def Zo:List PV->Tr
 | [.s (.int .i64 n)]=>.ret (.s (.bool (Al n))) []
 | _=>.fail
def GO(args:List PV):Tr:=Zo (B8 [[0]] args)
def SJ:List PV->Tr
 | [.s (.int .i64 n),.s (.bool a)]=>.ret (.s (.int .i64 (KB n a))) []
 | _=>.fail
def Cf9(args:List PV):Tr:=SJ (B8 [[0],[0]] args)
def Tb:List PV->Tr
 | [.s (.int .i64 n)]=>.ret (.s (.bool (Al n))) []
 | _=>.fail
def AA(args:List PV):Tr:=Tb (B8 [[0]] args)
def HS:List PV->Tr
 | [.s (.int .i64 n),.s (.bool a)]=>.ret (.s (.int .i64 (KB n a))) []
 | _=>.fail
def Bo6(args:List PV):Tr:=HS (B8 [[0],[0]] args)
def IU:List PV->Tr
 | [.s (.sl b a 1 l),.s (.str s)]=>.need (j0 l isS) (.need (A3 (b9 l)) (.ret (.s (.int .i64 (B27 (b8 elS l) s))) []))
 | _=>.fail
def Bq4(args:List PV):Tr:=IU (B8 [[1],[0]] args)
def IT:List PV->Tr
 | [.s (.sl b a 1 l),.s (.str s)]=>.need (j0 l isS) (.need (A3 (b9 l)) (.ret (.s (.bool (NU (b8 elS l) s))) []))
 | _=>.fail
def Bq3(args:List PV):Tr:=IT (B8 [[1],[0]] args)
def SG:List PV->Tr
 | [.agg [.s (.bool p),.s (.bool o),.s (.bool up),.s (.bool n),.s (.sl m k 1 l)],.agg [.s (.int .i64 j),.s (.str i),.s (.int .u32 v4),.s (.int .u16 a),.s (.int .u16 b),.s (.int .u16 c),.s (.int .u16 d),.s (.int .u16 e),.s (.int .u16 f),.s (.int .u16 g),.s (.int .u16 h)]]=>.need (j0 l isS) (.need (A3 (b9 l)) (.need (A3 (b9 i)) (.need (ltN v4 4294967296) (.need (ok8 a b c d e f g h) (.ret (.s (.bool (CE (b8 elS l) (mkH j i v4 (n8 a b c d e f g h))))) [])))))
 | _=>.fail
def Cf8(args:List PV):Tr:=SG (B8 [[0,0,0,0,1],[0,0,0,0,0,0,0,0,0,0,0]] args)
def HQ:List PV->Tr
 | [.agg [.s (.bool p),.s (.bool o),.s (.bool up),.s (.bool n),.s (.sl m k 1 l)],.agg [.s (.int .i64 j),.s (.str i),.s (.int .u32 v4),.s (.int .u16 a),.s (.int .u16 b),.s (.int .u16 c),.s (.int .u16 d),.s (.int .u16 e),.s (.int .u16 f),.s (.int .u16 g),.s (.int .u16 h)]]=>.need (j0 l isS) (.need (A3 (b9 l)) (.need (A3 (b9 i)) (.need (ltN v4 4294967296) (.need (ok8 a b c d e f g h) (.ret (.s (.bool (CE (b8 elS l) (mkH j i v4 (n8 a b c d e f g h))))) [])))))
 | _=>.fail
def Bo5(args:List PV):Tr:=HQ (B8 [[0,0,0,0,1],[0,0,0,0,0,0,0,0,0,0,0]] args)
def HL:List PV->Tr
 | [.agg [.s (.str m),.s (.str n),.s (.int .i64 r),.s (.str i),.s (.int .u32 v4),.s (.int .u16 a),.s (.int .u16 b),.s (.int .u16 c),.s (.int .u16 d),.s (.int .u16 e),.s (.int .u16 f),.s (.int .u16 g),.s (.int .u16 h),.s (.int .i64 j),.s (.str k)],.s (.int .i64 p),.s (.bool q),.agg [.s (.bool z),.s (.bool t),.s (.bool up),.s (.bool o),.s (.sl w v 1 l)],.agg [.s (.int .i64 u),.s (.str x),.s (.bool y)]]=>.need (smU m n i k) (.need (ltN v4 4294967296) (.need (ok8 a b c d e f g h) (.need (M8 j) (.need (j0 l isS) (.need (A3 (b9 l)) (.ret (.agg [.s (.int .i64 (dA (Sq m n r i v4 a b c d e f g h j k p q t up o (b8 elS l) u))),.s (.int .i64 (dR (Sq m n r i v4 a b c d e f g h j k p q t up o (b8 elS l) u))),.s (.str (dU (Sq m n r i v4 a b c d e f g h j k p q t up o (b8 elS l) u)))]) []))))))
 | _=>.fail
def Bo3(args:List PV):Tr:=HL (B8 [[0,0,0,0,0,0,0,0,0,0,0,0,0,0,0],[0],[0],[0,0,0,0,1],[0,0,0]] args)
def TP:List PV->Tr
 | [.agg [.s (.str m),.s (.str n),.s (.int .i64 r),.s (.str i),.s (.int .u32 v4),.s (.int .u16 a),.s (.int .u16 b),.s (.int .u16 c),.s (.int .u16 d),.s (.int .u16 e),.s (.int .u16 f),.s (.int .u16 g),.s (.int .u16 h),.s (.int .i64 j),.s (.str k)],.s (.int .i64 p),.s (.bool q),.agg [.s (.bool z),.s (.bool t),.s (.bool up),.s (.bool o),.s (.sl w v 1 l)],.agg [.s (.int .i64 u),.s (.str x),.s (.bool y)]]=>.need (smU m n i k) (.need (ltN v4 4294967296) (.need (ok8 a b c d e f g h) (.need (M8 j) (.need (j0 l isS) (.need (A3 (b9 l)) (.ret (.tup [.agg [.s (.int .i64 (dA (Ko m n r i v4 a b c d e f g h j k p q t up o (b8 elS l) u))),.s (.int .i64 (dR (Ko m n r i v4 a b c d e f g h j k p q t up o (b8 elS l) u))),.s (.str (dU (Ko m n r i v4 a b c d e f g h j k p q t up o (b8 elS l) u)))],.s (.int .i64 (dE (Ko m n r i v4 a b c d e f g h j k p q t up o (b8 elS l) u)))]) []))))))
 | _=>.fail
def HK(args:List PV):Tr:=TP (B8 [[0,0,0,0,0,0,0,0,0,0,0,0,0,0,0],[0],[0],[0,0,0,0,1],[0,0,0]] args)
def IC:List PV->Tr
 | [.agg [.s (.str m),.s (.str n),.s (.int .i64 r),.s (.str i),.s (.int .u32 v4),.s (.int .u16 a),.s (.int .u16 b),.s (.int .u16 c),.s (.int .u16 d),.s (.int .u16 e),.s (.int .u16 f),.s (.int .u16 g),.s (.int .u16 h),.s (.int .i64 j),.s (.str k)],.s (.int .i64 p),.s (.bool q),.agg [.s (.bool z),.s (.bool t),.s (.bool up),.s (.bool o),.s (.sl w v 1 l)],.agg [.s (.int .i64 u),.s (.str x),.s (.bool y)]]=>.need (smU m n i k) (.need (ltN v4 4294967296) (.need (ok8 a b c d e f g h) (.need (M8 j) (.need (j0 l isS) (.need (A3 (b9 l)) (.ret (.tup [.agg [.s (.int .i64 (dA (Ko m n r i v4 a b c d e f g h j k p q t up o (b8 elS l) u))),.s (.int .i64 (dR (Ko m n r i v4 a b c d e f g h j k p q t up o (b8 elS l) u))),.s (.str (dU (Ko m n r i v4 a b c d e f g h j k p q t up o (b8 elS l) u)))],.s (.int .i64 (dE (Ko m n r i v4 a b c d e f g h j k p q t up o (b8 elS l) u)))]) []))))))
 | _=>.fail
def UG(args:List PV):Tr:=IC (B8 [[0,0,0,0,0,0,0,0,0,0,0,0,0,0,0],[0],[0],[0,0,0,0,1],[0,0,0]] args)
def HF:List PV->Tr
 | [.agg [.s (.bool e),.s (.bool d),.s (.bool up),.s (.bool c),.s (.sl b a 1 l)]]=>.need (j0 l isS) (.ret (.s (.bool ((p9 (b9 l) 20)&&(Bf (400:Int) (b8 elS l))))) [])
 | _=>.fail
def TK(args:List PV):Tr:=HF (B8 [[0,0,0,0,1]] args)
def Sw:List PV->Tr
 | []=>.ret (.s (.bool true)) []
 | _=>.fail
def Zn(args:List PV):Tr:=Sw (B8 [] args)
end
section
variable {Z R : Type} (L : Nat) (Q : F8) (Y : Yh Z) (s : Z) (k : Out -> St Z -> Option R)
noncomputable def JL(L:Nat):Cfg:=B5 L [52] (A2 []) [] (A2 [(1,[2]),(0,[0])]) [] (A2 []) (some [2]) [] [] []
noncomputable def XB{R:Type}(L:Nat)(a:Int)(b:Bool->Option R):Option R:=cond (not (ltI a 1)) (b (not (ltI 22 a))) (b false)
theorem B09(d:Nat)(dest0):evC (JL L) (d+1) Z Y 52 [pI dest0] [] s=XB L dest0 (λa=>some (pB a,[],s)):=by refine(evE (fn:=Tryz.f52) (by kernel_rfl)).trans ?_;generalize evC (JL L) d=Q;unfold XB;kernel_rfl
noncomputable def Az3(L:Nat):Cfg:=B5 L [89] (A2 []) [(52,GO)] (A2 [(12,[4]),(11,[4]),(10,[17]),(3,[4]),(6,[4]),(9,[4]),(8,[0,13]),(7,[0,0,9]),(5,[0,0,3,2]),(4,[0,0,3,2]),(2,[0,0,3,0]),(1,[0,0,3]),(0,[0,0])]) [52] (A2 [(0,[0])]) (some [4]) [] [] []
noncomputable def C74{R:Type}(L:Nat)(a:Int)(b:Bool)(c:Int->Option R):Option R:=cond (a==4) (c 1) (cond (a==2) (cond (a==2) (c 2) (cond (a==9) (cond (not b) (c 2) (cond (not (Al a)) (c 0) (c 3))) (cond (not (Al a)) (c 0) (c 3)))) (cond (a==20) (c 2) (cond (a==9) (cond (not b) (c 2) (cond (not (Al a)) (c 0) (c 3))) (cond (not (Al a)) (c 0) (c 3)))))
theorem C75(d:Nat)(dest0 imageSet1):evC (Az3 L) (d+1) Z Y 89 [pI dest0,pB imageSet1] [] s=C74 L dest0 imageSet1 (λa=>some (pI a,[],s)):=by refine(evE (fn:=Tryz.f89) (by kernel_rfl)).trans ?_;generalize evC (Az3 L) d=Q;unfold C74;kernel_rfl
noncomputable def BA(L:Nat):Cfg:=B5 L [30] (A2 []) [] (A2 [(1,[2]),(0,[0])]) [] (A2 []) (some [2]) [] [] []
noncomputable def GC{R:Type}(L:Nat)(a:Int)(b:Bool->Option R):Option R:=cond (not (ltI a 1)) (b (not (ltI 22 a))) (b false)
theorem Ba9(d:Nat)(dest0):evC (BA L) (d+1) Z Y 30 [pI dest0] [] s=GC L dest0 (λa=>some (pB a,[],s)):=by refine(evE (fn:=Tryz.f30) (by kernel_rfl)).trans ?_;generalize evC (BA L) d=Q;unfold GC;kernel_rfl
noncomputable def WG(L:Nat):Cfg:=B5 L [56] (A2 []) [(30,AA)] (A2 [(7,[4]),(2,[4]),(4,[4]),(6,[4]),(5,[12]),(3,[0,0,7]),(1,[0,0,3]),(0,[0,0])]) [30] (A2 [(0,[])]) (some [4]) [] [] []
noncomputable def Bv7{R:Type}(L:Nat)(a:Int)(b:Bool)(c:Int->Option R):Option R:=cond (not (Al a)) (c 0) (cond (a==4) (c 1) (cond (a==2) (c 2) (cond (a==20) (c 2) (cond (a==9) (cond (not b) (c 2) (c 3)) (c 3)))))
theorem Cs0(d:Nat)(dest0 imageSet1):evC (WG L) (d+1) Z Y 56 [pI dest0,pB imageSet1] [] s=Bv7 L dest0 imageSet1 (λa=>some (pI a,[],s)):=by refine(evE (fn:=Tryz.f56) (by kernel_rfl)).trans ?_;generalize evC (WG L) d=Q;unfold Bv7;kernel_rfl
noncomputable abbrev Br7:Code:=C3 y5
noncomputable def Me(L:Nat):Cfg:=B5 L [171] (A2 [(2,[0,0,2,2,0])]) [] (A2 [(7,[4]),(6,[0,0,5,0]),(5,[4]),(4,[0,0,3,1,0,7]),(3,[0,0,3,1,0]),(2,[0,0,5,0,0]),(1,[0,0,5,0]),(0,[0,0])]) [] (A2 [(0,[]),(1,[0,0,5,0])]) (some [4]) [] [] []
noncomputable def Ic{R:Type}(L n:Nat)(c b:Bool)(d:LL)(h:By)(g a:Int)(e:Int->Option R)(f:Unit->Option R):Option R:=match n with|0=>none|n+1=>cond (ltI a g) (cond (inR a d.length) (cond (okE Nq d (o5 a) 0) (cond (h==(gX d (o5 a) 0)) (e a) (Ic L n c b d h g (A1 (a+1)) e f)) none) none) (f ())
theorem As3(n s_z0 s_t1 s2 v3 n4 n5):C7 0 ((Me L).keep 2) (bd (Me L) Q Y (cd [1,0,1,0,0] Br7)) n ⟨gp [(0,.s (.sl s_z0 s_t1 1 s2)),(0,pS v3),(5,pI n4),(0,pI n5)] 10,[],s⟩ k =
 Ic L n s_z0 s_t1 s2 v3 n4 n5 (λn0=>k .ret ⟨gp [(4,pI n0)] 14,[],s⟩) (λ_=>k (.exit 0) ⟨gp [] 19,[],s⟩):=by
 induction n generalizing s_z0 s_t1 s2 v3 n4 n5 with
 | zero=>rfl
 | succ n a=>rw[Ic];simp only[<-a];kernel_rfl
noncomputable def Bx4{R:Type}(L:Nat)(b a:Bool)(d:LL)(e:By)(c:Int->Option R):Option R:=Ic L L b a d e (d.length:Int) 0 c (λ_=>c (-1))
theorem Cx8(d:Nat)(s_z0 s_t1 s2 v3):evC (Me L) (d+1) Z Y 171 [.s (.sl s_z0 s_t1 1 s2),pS v3] [] s=Bx4 L s_z0 s_t1 s2 v3 (λa=>some (pI a,[],s)):=by refine(evE (fn:=y5) (by kernel_rfl)).trans ?_;generalize evC (Me L) d=Q;unfold Bx4;exact(c9 (by kernel_rfl) ((As3 L Q Y s (E0 0 (D9 (Me L) Q Y (cd [1,1] Br7) (F0 (Me L) y5))) L s_z0 s_t1 s2 v3 (s2.length:Int) 0).trans (by kernel_rfl)))
noncomputable def WR(L:Nat):Cfg:=B5 L [126] (A2 []) [(171,Bq4)] (A2 [(1,[4]),(0,[0,0])]) [171] (A2 []) (some [4]) [] [] []
noncomputable def Bx3{R:Type}(L:Nat)(d c:Bool)(b:LL)(f:By)(e:Bool->Option R):Option R:=cond (j0 b isS) (cond (A3 b.length) (vl (B27 (b8 elS b) f) λa=>e (not (ltI a 0))) none) none
theorem Cx6(d:Nat)(s_z0 s_t1 s2 v3):evC (WR L) (d+1) Z Y 126 [.s (.sl s_z0 s_t1 1 s2),pS v3] [] s=Bx3 L s_z0 s_t1 s2 v3 (λa=>some (pB a,[],s)):=by refine(evE (fn:=Tryz.f126) (by kernel_rfl)).trans ?_;generalize evC (WR L) d=Q;unfold Bx3;kernel_rfl
noncomputable def Az1(L:Nat):Cfg:=B5 L [88] (A2 []) [(39,TA),(122,Av5),(126,Bq3)] (A2 [(1,[4]),(0,[2,0])]) [39,122,126] (A2 []) (some [4]) [] [] [] (nt:=[(58,4,9,1)])
noncomputable def C67{R:Type}(L:Nat)(q r t u j i:Bool)(n:LL)(o:Int)(l:By)(m a b c d e f g h:Int)(v:Bool->(List Blk)->Option R):Option R:=cond (A3 l.length) (cond (ltN m 4294967296) (cond (ok8 a b c d e f g h) (cond (M0 (mkH o l m (n8 a b c d e f g h))) (cond (A3 l.length) (cond (ltN m 4294967296) (cond (ok8 a b c d e f g h) (vl (Bt (mkH o l m (n8 a b c d e f g h))) λp=>cond (j0 n isS) (cond (A3 n.length) (v (NU (b8 elS n) p) [(bCx q r t u j i n),(bH o l m a b c d e f g h)]) none) none) none) none) none) (v false [(bCx q r t u j i n),(bH o l m a b c d e f g h)])) none) none) none
theorem C68(d:Nat)(c0 c1 c2 c3 c_z4 c_t5 c6 h7 h8 h9 h10 h11 h12 h13 h14 h15 h16 h17):evC (Az1 L) (d+1) Z Y 88 [(gCx c0 c1 c2 c3 c_z4 c_t5 c6),(gH h7 h8 h9 h10 h11 h12 h13 h14 h15 h16 h17)] [] s=C67 L c0 c1 c2 c3 c_z4 c_t5 c6 h7 h8 h9 h10 h11 h12 h13 h14 h15 h16 h17 (λb a=>some (pB b,a,s)):=by refine(evE (fn:=Tryz.f88) (by kernel_rfl)).trans ?_;generalize evC (Az1 L) d=Q;unfold C67;kernel_rfl
noncomputable abbrev Br1:Code:=C3 y8
noncomputable def Ly(L:Nat):Cfg:=B5 L [34] (A2 [(4,[2,0,0,0])]) [(42,FK),(59,UC)] (A2 [(8,[4]),(5,[2,0,1]),(7,[4]),(6,[2,0,1,17]),(4,[2,0,1,7]),(3,[2,0,1]),(2,[4]),(1,[2,0,4]),(0,[2,0])]) [42,59] (A2 [(0,[]),(1,[2,0,1])]) (some [4]) [] [] [] (nt:=[(58,4,9,1)])
noncomputable def Hl{R:Type}(L n:Nat)(m:Int)(p q r t w v:Bool)(l:LL)(j:Int)(o:By)(a b c d e f g h i:Int)(x:(List Blk)->Option R)(y:Bool->Bool->Bool->Bool->Bool->Bool->LL->Int->By->Int->Int->Int->Int->Int->Int->Int->Int->Int->Option R):Option R:=match n with|0=>none|n+1=>cond (ltI m (l.length:Int)) (cond (inR m l.length) (cond (okE Nq l (o5 m) 0) (cond (A3 o.length) (cond (ltN a 4294967296) (cond (ok8 b c d e f g h i) (vl (Bt (mkH j o a (n8 b c d e f g h i))) λu=>cond ((gX l (o5 m) 0)==u) (x [(bCx p q r t w v l),(bH j o a b c d e f g h i)]) (Hl L n (A1 (m+1)) p q r t w v l j o a b c d e f g h i x y)) none) none) none) none) none) (y p q r t w v l j o a b c d e f g h i)
theorem Al1(n i0 i j l b4 z5 t6 l7 n8v s9 a b c d e f g h n18):C7 2 ((Ly L).keep 4) (bd (Ly L) Q Y (cd [1,1,0,1,0,0] Br1)) n ⟨gp [(2,.ptr 0 0 0),(0,.ptr 1 0 0),(1,pI i0)] 18,[(bCx i j l b4 z5 t6 l7),(bH n8v s9 a b c d e f g h n18)],s⟩ k =
 Hl L n i0 i j l b4 z5 t6 l7 n8v s9 a b c d e f g h n18 (λm=>k .ret ⟨gp [(4,pB true)] 19,m,s⟩) (λo i j l w v q r u t a b c d e f g h=>k (.exit 0) ⟨gp [] 24,[(bCx o i j l w v q),(bH r u t a b c d e f g h)],s⟩):=by
 induction n generalizing i0 i j l b4 z5 t6 l7 n8v s9 a b c d e f g h n18 with
 | zero=>rfl
 | succ n p=>rw[Hl];simp only[<-p];kernel_rfl
noncomputable def Bv6{R:Type}(L:Nat)(K M N O j i:Bool)(P:LL)(D:Int)(w:By)(x a b c d e f g h:Int)(F:Bool->(List Blk)->Option R):Option R:=cond (A3 w.length) (cond (ltN x 4294967296) (cond (ok8 a b c d e f g h) (cond (not (M0 (mkH D w x (n8 a b c d e f g h)))) (F false [(bCx K M N O j i P),(bH D w x a b c d e f g h)]) (Hl L L 0 K M N O j i P D w x a b c d e f g h (λy=>F true y) (λz A B C J I G H v l m n o p q r t u=>F false [(bCx z A B C J I G),(bH H v l m n o p q r t u)]))) none) none) none
theorem Cr8(d:Nat)(c0 c1 c2 c3 c_z4 c_t5 c6 h7 h8 h9 h10 h11 h12 h13 h14 h15 h16 h17):evC (Ly L) (d+1) Z Y 34 [(gCx c0 c1 c2 c3 c_z4 c_t5 c6),(gH h7 h8 h9 h10 h11 h12 h13 h14 h15 h16 h17)] [] s=Bv6 L c0 c1 c2 c3 c_z4 c_t5 c6 h7 h8 h9 h10 h11 h12 h13 h14 h15 h16 h17 (λb a=>some (pB b,a,s)):=by refine(evE (fn:=y8) (by kernel_rfl)).trans ?_;generalize evC (Ly L) d=Q;unfold Bv6;exact(c9 (by kernel_rfl) (A0 (A0 (A0 (A0 rfl ((Al1 L Q Y s (E0 0 (D9 (Ly L) Q Y (cd [1,1,1] Br1) (F0 (Ly L) y8))) L 0 c0 c1 c2 c3 c_z4 c_t5 c6 h7 h8 h9 h10 h11 h12 h13 h14 h15 h16 h17).trans (by kernel_rfl))) rfl) rfl) rfl))
noncomputable abbrev Ip:Code:=C3 x4
noncomputable def Bz(L:Nat):Cfg:=B5 L [53] (A2 []) [(84,Ax4),(85,Ci2),(86,Ci6),(87,Ac5),(88,Cf8),(89,Cf9)] (A2 [(13,[10]),(4,[10]),(6,[10]),(8,[10]),(10,[10]),(12,[10]),(11,[10,3,55]),(9,[1,0,2,2,1,0,1,0,46]),(7,[1,0,2,2,1,0,0,0,0,28]),(5,[1,0,2,2,1,0,0,0,0,18]),(3,[1,0,2,2,1,0,0,0,0,9]),(2,[1,0,2,2,0,0,0,0,0,0]),(1,[1,0,2,2,0,0,0,0]),(0,[1,0,2,2,0,0])]) [84,85,87,88,89] (A2 [(0,[10])]) (some [10]) [] [] [] (nt:=[(58,4,9,1)])
noncomputable def Xo{R:Type}(a A B:By)(u:Int)(C:By)(h i j l m n o p q r:Int)(v:By)(b c d e y x:Bool)(g:LL)(t:Int)(w:By)(f:Bool)(z:Blk->Blk->Blk->By->(List Blk)->Option R):Option R:=z (bU A B u C h i j l m n o p q r v) (bCx b c d e y x g) (bCv t w f) a []
abbrev LN(b:Code):Prop:=∀(k:Out->St Z->Option R) dest0 imageSet1 insecure2 document3 allow4 upgrade5 s6 s7 n8v s9 n10 n11 n12 n13 n14 n15 n16 n17 n18 n19 s20 b21 b22 b23 b24 z25 t26 l27 n28 s29 b30,A9 (Bz L) Q Y b ⟨gp [(1,pI dest0),(0,pB imageSet1),(2,.ptr 0 0 0),(2,.ptr 1 0 0),(1,.ptr 3 0 0),(0,pB insecure2),(0,pB document3),(0,pS allow4),(0,pS upgrade5),(28,pB true)] 48,[(bU s6 s7 n8v s9 n10 n11 n12 n13 n14 n15 n16 n17 n18 n19 s20),(bCx b21 b22 b23 b24 z25 t26 l27),(bCv n28 s29 b30),.box [pI (0:Int),pI (0:Int),pS e0]],s⟩ k=Xo upgrade5 s6 s7 n8v s9 n10 n11 n12 n13 n14 n15 n16 n17 n18 n19 s20 b21 b22 b23 b24 z25 t26 l27 n28 s29 b30 (λa c d f e=>k .ret ⟨gp [(10,.ptr 3 0 0)] 81,(a::c::d::.box [pI (2:Int),pI (3:Int),pS f]::e),s⟩)
theorem Aj1:LN (R:=R) L Q Y s (cd [1,1,1,0,0,1,1,1,1,1] Ip):=by intro k f b c a e d F G z H n o p q r t u v w x A g h i j D C m y B l;unfold Xo;kernel_rfl
noncomputable def Kw{R:Type}(H:Int)(A B z:Bool)(C a:By)(K:Bool)(F G:By)(D:Int)(u:By)(h i j l m n o p q r:Int)(v:By)(d c e b y x:Bool)(g:LL)(t:Int)(w:By)(f:Bool)(I:Blk->Blk->Blk->Int->Int->By->(List Blk)->Option R)(J:By->Bool->By->By->Int->By->Int->Int->Int->Int->Int->Int->Int->Int->Int->Int->By->Bool->Bool->Bool->Bool->Bool->Bool->LL->Int->By->Bool->Option R):Option R:=cond K (I (bU F G D u h i j l m n o p q r v) (bCx d c e b y x g) (bCv t w f) 2 3 a []) (cond z (I (bU F G D u h i j l m n o p q r v) (bCx d c e b y x g) (bCv t w f) 1 6 C []) (cond (not c) (I (bU F G D u h i j l m n o p q r v) (bCx d c e b y x g) (bCv t w f) 1 6 C []) (cond B (cond ((KB H A)==2) (cond (D==1) (cond (not b) (I (bU F G D u h i j l m n o p q r v) (bCx d c e b y x g) (bCv t w f) 2 4 a []) (J a (not b) F G D u h i j l m n o p q r v d c e b y x g t w f)) (J a false F G D u h i j l m n o p q r v d c e b y x g t w f)) (J a false F G D u h i j l m n o p q r v d c e b y x g t w f)) (J a false F G D u h i j l m n o p q r v d c e b y x g t w f))))
abbrev LP(b:Code):Prop:=∀(k:Out->St Z->Option R) dest0 imageSet1 insecure2 document3 allow4 upgrade5 b6 s7 s8 h s10 c d e f g n16 n17 n18 n19 n20 s21 b22 b23 b24 b25 z26 t27 l28 n29 s30 b31,A9 (Bz L) Q Y b ⟨gp [(1,pI dest0),(0,pB imageSet1),(2,.ptr 0 0 0),(2,.ptr 1 0 0),(1,.ptr 3 0 0),(0,pB insecure2),(0,pB document3),(0,pS allow4),(0,pS upgrade5),(28,pB b6)] 48,[(bU s7 s8 h s10 c d e f g n16 n17 n18 n19 n20 s21),(bCx b22 b23 b24 b25 z26 t27 l28),(bCv n29 s30 b31),.box [pI (0:Int),pI (0:Int),pS e0]],s⟩ k=Kw dest0 imageSet1 insecure2 document3 allow4 upgrade5 b6 s7 s8 h s10 c d e f g n16 n17 n18 n19 n20 s21 b22 b23 b24 b25 z26 t27 l28 n29 s30 b31 (λz A B F r w C=>k .ret ⟨gp [(10,.ptr 3 0 0)] 81,(z::A::B::.box [pI F,pI r,pS w]::C),s⟩) (λa D I J r w G H t h p c d e f g u i j l m y x o q v n=>k .normal ⟨gp [(10,.ptr 3 0 0),(3,pS a),(55,pB D)] 21,[(bU I J r w G H t h p c d e f g u),(bCx i j l m y x o),(bCv q v n),.box [pI (0:Int),pI (0:Int),pS e0]],s⟩)
theorem Aj2:LP (R:=R) L Q Y s (cd [1,1,1,0,0,1,1,1,1,1] Ip):=by intro k f b c a e d F H I G z n o p q r t u v w x A g h i j D C m y B l;unfold Kw;kernel_rfl
noncomputable def Pw{R:Type}(z:Int)(d c b:Bool)(e a:By)(S:Bool)(F H:By)(G:Int)(p:By)(f g h i j l m n o r:Int)(t:By)(v w u x D C:Bool)(q:LL)(A:Int)(B:By)(y:Bool)(I:Blk->Blk->Blk->Int->Int->By->(List Blk)->Option R)(O:By->Bool->By->By->Int->By->Int->Int->Int->Int->Int->Int->Int->Int->Int->Int->By->Bool->Bool->Bool->Bool->Bool->Bool->LL->Int->By->Bool->Option R):Option R:=cond S (I (bU F H G p f g h i j l m n o r t) (bCx v w u x D C q) (bCv A B y) 2 2 a []) (cond (smU F H p t) (cond (ltN f 4294967296) (cond (ok8 g h i j l m n o) (cond (M8 r) (cond (Ig F H G p f g h i j l m n o r t) (I (bU F H G p f g h i j l m n o r t) (bCx v w u x D C q) (bCv A B y) 1 1 e []) (cond (F==[100,97,116,97]) (I (bU F H G p f g h i j l m n o r t) (bCx v w u x D C q) (bCv A B y) 1 1 e []) (cond c (cond u (cond (not b) (Xo a F H G p f g h i j l m n o r t v w u x D C q A B y (λJ K M P N=>I J K M 2 3 P N)) (cond (j0 q isS) (cond (A3 q.length) (cond (A3 p.length) (cond (ltN f 4294967296) (cond (ok8 g h i j l m n o) (Kw z d c b e a (CE (b8 elS q) (mkH G p f (n8 g h i j l m n o))) F H G p f g h i j l m n o r t v w u x D C q A B y I O) none) none) none) none) none)) (Kw z d c b e a false F H G p f g h i j l m n o r t v w u x D C q A B y I O)) (Kw z d c b e a false F H G p f g h i j l m n o r t v w u x D C q A B y I O)))) none) none) none) none)
abbrev Uq(b:Code):Prop:=∀(k:Out->St Z->Option R) dest0 imageSet1 insecure2 document3 allow4 upgrade5 b6 s7 s8 h s10 c d e f g n16 n17 n18 n19 n20 s21 b22 b23 b24 b25 z26 t27 l28 n29 s30 b31,A9 (Bz L) Q Y b ⟨gp [(1,pI dest0),(0,pB imageSet1),(2,.ptr 0 0 0),(2,.ptr 1 0 0),(1,.ptr 3 0 0),(0,pB insecure2),(0,pB document3),(0,pS allow4),(0,pS upgrade5),(9,pB b6)] 67,[(bU s7 s8 h s10 c d e f g n16 n17 n18 n19 n20 s21),(bCx b22 b23 b24 b25 z26 t27 l28),(bCv n29 s30 b31),.box [pI (0:Int),pI (0:Int),pS e0]],s⟩ k=Pw dest0 imageSet1 insecure2 document3 allow4 upgrade5 b6 s7 s8 h s10 c d e f g n16 n17 n18 n19 n20 s21 b22 b23 b24 b25 z26 t27 l28 n29 s30 b31 (λz A B F r w C=>k .ret ⟨gp [(10,.ptr 3 0 0)] 81,(z::A::B::.box [pI F,pI r,pS w]::C),s⟩) (λa D I J r w G H t h p c d e f g u i j l m y x o q v n=>k .normal ⟨gp [(10,.ptr 3 0 0),(3,pS a),(55,pB D)] 21,[(bU I J r w G H t h p c d e f g u),(bCx i j l m y x o),(bCv q v n),.box [pI (0:Int),pI (0:Int),pS e0]],s⟩)
theorem Aj3(a:Code)(i:LN (R:=R) L Q Y s a)(e:LP (R:=R) L Q Y s a):Uq (R:=R) L Q Y s (cd [1,1,1,0,0,1] (G2 [1,1,1,0,0,1,1,1,1,1] a Ip)):=by intro k h c d b g f M J K I v l m n o p q r t u B D w x y z H G j C F A;unfold Pw;exact(c9 (by kernel_rfl) (A0 rfl (A0 (A0 (A0 (A0 (A0 rfl (A0 rfl (A0 (A0 (A0 ((i k h c d b g f J K I v l m n o p q r t u B D w x y z H G j C F A).trans (by kernel_rfl)) (A0 (A0 (A0 (A0 (A0 ((e k h c d b g f (CE (b8 elS j) (mkH I v l (n8 m n o p q r t u))) J K I v l m n o p q r t u B D w x y z H G j C F A).trans (by kernel_rfl)) rfl) rfl) rfl) rfl) rfl)) ((e k h c d b g f false J K I v l m n o p q r t u B D w x y z H G j C F A).trans (by kernel_rfl))) ((e k h c d b g f false J K I v l m n o p q r t u B D w x y z H G j C F A).trans (by kernel_rfl))))) rfl) rfl) rfl) rfl)))
theorem Aj4:Uq (R:=R) L Q Y s (cd [1,1,1,0,0,1] Ip):=by intro k f b c a e d F H I G z n o p q r t u v w x A g h i j D C m y B l;exact c9 (by kernel_rfl) (Aj3 L Q Y s (cd [1,1,1,0,0,1,1,1,1,1] Ip) (Aj1 L Q Y s) (Aj2 L Q Y s) k f b c a e d F H I G z n o p q r t u v w x A g h i j D C m y B l)
noncomputable def Aj0{R:Type}(L:Nat)(u u1:By)(u2:Int)(u3:By)(u4 u5 u6 u7 u8 u9 d e f g:Int)(h:By)(b:Int)(a d9 e1 e2 e3 j i:Bool)(e4:LL)(c:Int)(l:By)(m:Bool)(k0:Int->Int->By->(List Blk)->Option R):Option R:=cond (smU u u1 u3 h) (cond (ltN u4 4294967296) (cond (ok8 u5 u6 u7 u8 u9 d e f) (cond (M8 g) (vl (Im (mkU u u1 u2 u3 u4 (n8 u5 u6 u7 u8 u9 d e f) g h)) λe5=>cond (smU (upS u) u1 u3 h) (cond (ltN u4 4294967296) (cond (ok8 u5 u6 u7 u8 u9 d e f) (cond (M8 (upP u g)) (vl (Im (mkU (upS u) u1 u2 u3 u4 (n8 u5 u6 u7 u8 u9 d e f) (upP u g) h)) λe6=>cond (M9 u) (Pw b a (M9 u) (b==4) e5 e6 (c !=0) u u1 u2 u3 u4 u5 u6 u7 u8 u9 d e f g h d9 e1 e2 e3 j i e4 c l m (λx y z n o r D=>k0 n o r (x::(y::(z::((Blk.box [(PV.s (SV.int .i64 n)),(PV.s (SV.int .i64 o)),(PV.s (SV.str r))])::D))))) (λv e7 c4 c5 V c6 W X a0 a1 a2 a3 a4 a5 a6 a7 c7 G H I J d7 d5 T a9 c8 K=>k0 3 5 e0 [(bU c4 c5 V c6 W X a0 a1 a2 a3 a4 a5 a6 a7 c7),(bCx G H I J d7 d5 T),(bCv a9 c8 K),(Blk.box [(PV.s (SV.int .i64 (3:Int))),(PV.s (SV.int .i64 (5:Int))),(PV.s (SV.str e0))])])) (Pw b a (M9 u) (b==4) e5 e6 false u u1 u2 u3 u4 u5 u6 u7 u8 u9 d e f g h d9 e1 e2 e3 j i e4 c l m (λA B C p q t F=>k0 p q t (A::(B::(C::((Blk.box [(PV.s (SV.int .i64 p)),(PV.s (SV.int .i64 q)),(PV.s (SV.str t))])::F))))) (λw e8 d0 d1 b0 d2 b1 b2 b3 b4 b5 b6 b7 c0 c1 c2 d3 M N O P d8 d6 U c3 d4 S=>k0 3 5 e0 [(bU d0 d1 b0 d2 b1 b2 b3 b4 b5 b6 b7 c0 c1 c2 d3),(bCx M N O P d8 d6 U),(bCv c3 d4 S),(Blk.box [(PV.s (SV.int .i64 (3:Int))),(PV.s (SV.int .i64 (5:Int))),(PV.s (SV.str e0))])]))) none) none) none) none) none) none) none) none
theorem Cp5(e:Code)(c:Uq (R:=PV × List Blk × Z) L Q Y s e)(v y:By)(z:Int)(A:By)(B C D F u8 G p q r t:Int)(u:By)(b:Int)(a j l m n g f:Bool)(o:LL)(d:Int)(h:By)(i:Bool):A9 (Bz L) Q Y (cd [] (G2 [1,1,1,0,0,1] e Ip)) ⟨[(gU v y z A B C D F u8 G p q r t u),pI b,pB a,(gCx j l m n g f o),(gCv d h i)]++tps 87,[],s⟩ (F0 (Bz L) x4)=Aj0 L v y z A B C D F u8 G p q r t u b a j l m n g f o d h i (λJ K M I=>some (.agg [pI J,pI K,pS M],I,s)):=by unfold Aj0;exact let H:=(E0 0 (D9 (Bz L) Q Y (cd [1,1,1,1] Ip) (F0 (Bz L) x4)));(c9 (by kernel_rfl) (A0 (A0 (A0 (A0 (A4 λw=>(A0 (A0 (A0 (A0 (A4 λx=>(A0 ((c H b a (M9 v) (b==4) w x (d !=0) v y z A B C D F u8 G p q r t u j l m n g f o d h i).trans (by kernel_rfl)) ((c H b a (M9 v) (b==4) w x false v y z A B C D F u8 G p q r t u j l m n g f o d h i).trans (by kernel_rfl)))) rfl) rfl) rfl) rfl)) rfl) rfl) rfl) rfl))
theorem Cp6(d:Nat)(u0 u1 u2 u3 u4 u5 u6 u7 u8 u9 u10 u11 u12 u13 u14 dest15 imageSet16 c17 c18 c19 c20 c_z21 c_t22 c23 cov24 cov25 cov26):evC (Bz L) (d+1) Z Y 53 [(gU u0 u1 u2 u3 u4 u5 u6 u7 u8 u9 u10 u11 u12 u13 u14),pI dest15,pB imageSet16,(gCx c17 c18 c19 c20 c_z21 c_t22 c23),(gCv cov24 cov25 cov26)] [] s=Aj0 L u0 u1 u2 u3 u4 u5 u6 u7 u8 u9 u10 u11 u12 u13 u14 dest15 imageSet16 c17 c18 c19 c20 c_z21 c_t22 c23 cov24 cov25 cov26 (λb c e a=>some (.agg [pI b,pI c,pS e],a,s)):=
 (evE (fn:=x4) (by kernel_rfl)).trans (c9 (by kernel_rfl) (Cp5 L (evC (Bz L) d) Y s (cd [1,1,1,0,0,1] Ip) (Aj4 L (evC (Bz L) d) Y s) u0 u1 u2 u3 u4 u5 u6 u7 u8 u9 u10 u11 u12 u13 u14 dest15 imageSet16 c17 c18 c19 c20 c_z21 c_t22 c23 cov24 cov25 cov26))
noncomputable def A03(L:Nat):Cfg:=B5 L [26] (A2 []) [(51,Qw),(52,GO),(53,Bo3)] (A2 [(5,[10,0]),(2,[10,0]),(4,[10,0]),(3,[1,0,2,2,0,0,6]),(1,[1,0,2,2,0,0,1]),(0,[1,0,2,2,0,0])]) [51,52] (A2 [(0,[1,0,2,2,0,0])]) (some [10,0]) [] [] [] (nt:=[(58,4,9,1)])
noncomputable def Dc6{R:Type}(L:Nat)(u v:By)(C:Int)(w:By)(x y z A u8 B g h i j:Int)(l:By)(m:Int)(b t p q r d c:Bool)(n:LL)(a:Int)(e:By)(f:Bool)(D:Int->Int->By->Int->(List Blk)->Option R):Option R:=cond (smU u v w l) (cond (ltN x 4294967296) (cond (ok8 y z A u8 B g h i) (cond (M8 j) (cond (not (O8 (mkU u v C w x (n8 y z A u8 B g h i) j l))) (D 0 0 e0 1 [(bU u v C w x y z A u8 B g h i j l),(bCx t p q r d c n),(bCv a e f),(Blk.box [(PV.s (SV.int .i64 (0:Int))),(PV.s (SV.int .i64 (0:Int))),(PV.s (SV.str e0))])]) (cond (not (Al m)) (D 0 0 e0 2 [(bU u v C w x y z A u8 B g h i j l),(bCx t p q r d c n),(bCv a e f),(Blk.box [(PV.s (SV.int .i64 (0:Int))),(PV.s (SV.int .i64 (0:Int))),(PV.s (SV.str e0))])]) (cond (smU u v w l) (cond (ltN x 4294967296) (cond (ok8 y z A u8 B g h i) (cond (M8 j) (cond (j0 n isS) (cond (A3 n.length) (vl (Sq u v C w x y z A u8 B g h i j l m b p q r (b8 elS n) a) λo=>D (dA o) (dR o) (dU o) 0 [(bU u v C w x y z A u8 B g h i j l),(bCx t p q r d c n),(bCv a e f),(Blk.box [(PV.s (SV.int .i64 (dA o))),(PV.s (SV.int .i64 (dR o))),(PV.s (SV.str (dU o)))])]) none) none) none) none) none) none))) none) none) none) none
theorem Dc7(d:Nat)(u0 u1 u2 u3 u4 u5 u6 u7 u8 u9 u10 u11 u12 u13 u14 dest15 imageSet16 c17 c18 c19 c20 c_z21 c_t22 c23 cov24 cov25 cov26):evC (A03 L) (d+1) Z Y 26 [(gU u0 u1 u2 u3 u4 u5 u6 u7 u8 u9 u10 u11 u12 u13 u14),pI dest15,pB imageSet16,(gCx c17 c18 c19 c20 c_z21 c_t22 c23),(gCv cov24 cov25 cov26)] [] s=Dc6 L u0 u1 u2 u3 u4 u5 u6 u7 u8 u9 u10 u11 u12 u13 u14 dest15 imageSet16 c17 c18 c19 c20 c_z21 c_t22 c23 cov24 cov25 cov26 (λb c e f a=>some (.tup [.agg [pI b,pI c,pS e],pI f],a,s)):=by refine(evE (fn:=Tryz.f26) (by kernel_rfl)).trans ?_;generalize evC (A03 L) d=Q;unfold Dc6;kernel_rfl
noncomputable abbrev Qy:Code:=C3 w9
noncomputable def Fb(L:Nat):Cfg:=B5 L [27] (A2 []) [(54,Lr),(30,AA),(55,Ax0),(32,Bp6),(29,UK),(33,OX),(34,Bo5),(56,Bo6)] (A2 [(16,[10,0]),(15,[10,0]),(14,[10,1,76]),(13,[10,0]),(12,[1,0,2,2,1,1,54]),(11,[10,0]),(10,[1,0,2,2,1,1,45]),(9,[10,0]),(8,[1,0,2,2,1,1,26]),(7,[10,0]),(6,[1,0,2,2,1,1,17]),(5,[1,0,2,2,0,0,1]),(4,[10,0]),(3,[1,0,2,2,0,0,8]),(2,[10,0]),(1,[1,0,2,2,0,0,4]),(0,[1,0,2,2,0,0])]) [54,30,32,29,33,34,56] (A2 []) (some [10,0]) [] [] [] (nt:=[(58,4,9,1)])
noncomputable def Ld{R:Type}(y:Int)(q:Bool)(H x A:By)(C:Int)(B:By)(i z a b c d e f g h:Int)(j:By)(n l o m w v:Bool)(r:LL)(t:Int)(u:By)(p:Bool)(D:Blk->Blk->Blk->Int->Int->By->(List Blk)->Option R):Option R:=cond (y==4) (cond (smU x A B j) (cond (ltN i 4294967296) (cond (ok8 z a b c d e f g) (cond (M8 h) (vl (Im (mkU x A C B i (n8 z a b c d e f g) h j)) λF=>D (bU x A C B i z a b c d e f g h j) (bCx n l o m w v r) (bCv t u p) 1 6 F []) none) none) none) none) (cond (not l) (cond (smU x A B j) (cond (ltN i 4294967296) (cond (ok8 z a b c d e f g) (cond (M8 h) (vl (Im (mkU x A C B i (n8 z a b c d e f g) h j)) λG=>D (bU x A C B i z a b c d e f g h j) (bCx n l o m w v r) (bCv t u p) 1 6 G []) none) none) none) none) (cond (M9 x) (cond ((KB y q)==2) (cond (C==1) (cond (not m) (D (bU x A C B i z a b c d e f g h j) (bCx n l o m w v r) (bCv t u p) 2 4 H []) (D (bU x A C B i z a b c d e f g h j) (bCx n l o m w v r) (bCv t u p) 3 5 [] [])) (D (bU x A C B i z a b c d e f g h j) (bCx n l o m w v r) (bCv t u p) 3 5 [] [])) (D (bU x A C B i z a b c d e f g h j) (bCx n l o m w v r) (bCv t u p) 3 5 [] [])) (D (bU x A C B i z a b c d e f g h j) (bCx n l o m w v r) (bCv t u p) 3 5 [] [])))
abbrev MN(b:Code):Prop:=∀(k:Out->St Z->Option R) dest0 imageSet1 up2 b3 s4 a n6 s7 n8v n9 n10 n11 n12 n13 n14 n15 n16 n17 s18 b19 b20 b21 b22 z23 t24 l25 n26 s27 b28,A9 (Fb L) Q Y b ⟨gp [(1,pI dest0),(0,pB imageSet1),(2,.ptr 0 0 0),(2,.ptr 1 0 0),(1,.ptr 3 0 0),(1,pS up2),(45,pB b3)] 34,[(bU s4 a n6 s7 n8v n9 n10 n11 n12 n13 n14 n15 n16 n17 s18),(bCx b19 b20 b21 b22 z23 t24 l25),(bCv n26 s27 b28),.box [pI (0:Int),pI (0:Int),pS e0]],s⟩ k=Ld dest0 imageSet1 up2 s4 a n6 s7 n8v n9 n10 n11 n12 n13 n14 n15 n16 n17 s18 b19 b20 b21 b22 z23 t24 l25 n26 s27 b28 (λc d e g h a f=>k .ret ⟨gp [(10,.ptr 3 0 0),(0,pI (0:Int))] 81,(c::d::e::.box [pI g,pI h,pS a]::f),s⟩)
theorem Am3:MN (R:=R) L Q Y s (cd [1,1,1,1,1,1,1] Qy):=by intro k b a x z C D A F t B i j l m n o p q u c d e f y w h r v g;unfold Ld;kernel_rfl
noncomputable def Qb{R:Type}(n:Int)(a:Bool)(D x B:By)(C:Int)(y:By)(i v b c d e f g h j:Int)(l:By)(p q o r A z:Bool)(m:LL)(u:Int)(w:By)(t:Bool)(F:Blk->Blk->Blk->Int->Int->By->(List Blk)->Option R):Option R:=cond (smU x B y l) (cond (ltN i 4294967296) (cond (ok8 v b c d e f g h) (cond (M8 j) (cond (Ig x B C y i v b c d e f g h j l) (cond (smU x B y l) (cond (ltN i 4294967296) (cond (ok8 v b c d e f g h) (cond (M8 j) (vl (Im (mkU x B C y i (n8 v b c d e f g h) j l)) λG=>F (bU x B C y i v b c d e f g h j l) (bCx p q o r A z m) (bCv u w t) 1 1 G []) none) none) none) none) (cond (x==[100,97,116,97]) (cond (smU x B y l) (cond (ltN i 4294967296) (cond (ok8 v b c d e f g h) (cond (M8 j) (vl (Im (mkU x B C y i (n8 v b c d e f g h) j l)) λH=>F (bU x B C y i v b c d e f g h j l) (bCx p q o r A z m) (bCv u w t) 1 1 H []) none) none) none) none) (cond (M9 x) (cond o (cond (n !=4) (F (bU x B C y i v b c d e f g h j l) (bCx p q o r A z m) (bCv u w t) 2 3 D []) (cond (j0 m isS) (cond (A3 m.length) (cond (A3 y.length) (cond (ltN i 4294967296) (cond (ok8 v b c d e f g h) (cond (CE (b8 elS m) (mkH C y i (n8 v b c d e f g h))) (F (bU x B C y i v b c d e f g h j l) (bCx p q o r A z m) (bCv u w t) 2 3 D []) (Ld n a D x B C y i v b c d e f g h j l p q o r A z m u w t F)) none) none) none) none) none)) (Ld n a D x B C y i v b c d e f g h j l p q o r A z m u w t F)) (Ld n a D x B C y i v b c d e f g h j l p q o r A z m u w t F)))) none) none) none) none
abbrev Uz(b:Code):Prop:=∀(k:Out->St Z->Option R) dest0 imageSet1 up2 b3 s4 a n6 s7 n8v n9 n10 n11 n12 n13 n14 n15 n16 n17 s18 b19 b20 b21 b22 z23 t24 l25 n26 s27 b28,A9 (Fb L) Q Y b ⟨gp [(1,pI dest0),(0,pB imageSet1),(2,.ptr 0 0 0),(2,.ptr 1 0 0),(1,.ptr 3 0 0),(1,pS up2),(17,pB b3)] 62,[(bU s4 a n6 s7 n8v n9 n10 n11 n12 n13 n14 n15 n16 n17 s18),(bCx b19 b20 b21 b22 z23 t24 l25),(bCv n26 s27 b28),.box [pI (0:Int),pI (0:Int),pS e0]],s⟩ k=Qb dest0 imageSet1 up2 s4 a n6 s7 n8v n9 n10 n11 n12 n13 n14 n15 n16 n17 s18 b19 b20 b21 b22 z23 t24 l25 n26 s27 b28 (λc d e g h a f=>k .ret ⟨gp [(10,.ptr 3 0 0),(0,pI (0:Int))] 81,(c::d::e::.box [pI g,pI h,pS a]::f),s⟩)
theorem Am4(c:Code)(a:MN (R:=R) L Q Y s c):Uz (R:=R) L Q Y s (cd [1,1,1,1,1] (G2 [1,1,1,1,1,1,1] c Qy)):=by intro k d b z J F G B D n C f g h i j l m u w o p q r A y e v x t;unfold Qb;exact(c9 (by kernel_rfl) (A0 (A0 (A0 (A0 (A0 (A0 (A0 (A0 (A0 (A4 λH=>rfl) rfl) rfl) rfl) rfl) (A0 (A0 (A0 (A0 (A0 (A4 λI=>rfl) rfl) rfl) rfl) rfl) (A0 (A0 (A0 rfl (A0 (A0 (A0 (A0 (A0 (A0 rfl ((a k d b z (CE (b8 elS e) (mkH B D n (n8 C f g h i j l m))) F G B D n C f g h i j l m u w o p q r A y e v x t).trans (by kernel_rfl))) rfl) rfl) rfl) rfl) rfl)) ((a k d b z false F G B D n C f g h i j l m u w o p q r A y e v x t).trans (by kernel_rfl))) ((a k d b z false F G B D n C f g h i j l m u w o p q r A y e v x t).trans (by kernel_rfl))))) rfl) rfl) rfl) rfl))
theorem Am5:Uz (R:=R) L Q Y s (cd [1,1,1,1,1] Qy):=by intro k b a x z C D A F t B i j l m n o p q u c d e f y w h r v g;exact c9 (by kernel_rfl) (Am4 L Q Y s (cd [1,1,1,1,1,1,1] Qy) (Am3 L Q Y s) k b a x z C D A F t B i j l m n o p q u c d e f y w h r v g)
noncomputable def Am2{R:Type}(L:Nat)(n v:By)(J:Int)(w:By)(x y z A u8 B h i j l:Int)(m:By)(g:Int)(b o p q r d c:Bool)(t:LL)(a:Int)(e:By)(f:Bool)(V:Int->Int->By->Int->(List Blk)->Option R):Option R:=cond (smU n v w m) (cond (ltN x 4294967296) (cond (ok8 y z A u8 B h i j) (cond (M8 l) (cond (not (O8 (mkU n v J w x (n8 y z A u8 B h i j) l m))) (V 0 0 e0 1 [(bU n v J w x y z A u8 B h i j l m),(bCx o p q r d c t),(bCv a e f),(Blk.box [(PV.s (SV.int .i64 (0:Int))),(PV.s (SV.int .i64 (0:Int))),(PV.s (SV.str e0))])]) (cond (not (Al g)) (V 0 0 e0 2 [(bU n v J w x y z A u8 B h i j l m),(bCx o p q r d c t),(bCv a e f),(Blk.box [(PV.s (SV.int .i64 (0:Int))),(PV.s (SV.int .i64 (0:Int))),(PV.s (SV.str e0))])]) (cond (smU (upS n) v w m) (cond (ltN x 4294967296) (cond (ok8 y z A u8 B h i j) (cond (M8 (upP n l)) (vl (Im (mkU (upS n) v J w x (n8 y z A u8 B h i j) (upP n l) m)) λu=>cond (M9 n) (cond (a !=0) (V 2 2 u 0 [(bU n v J w x y z A u8 B h i j l m),(bCx o p q r d c t),(bCv a e f),(Blk.box [(PV.s (SV.int .i64 (2:Int))),(PV.s (SV.int .i64 (2:Int))),(PV.s (SV.str u))])]) (Qb g b u n v J w x y z A u8 B h i j l m o p q r d c t a e f (λK M N C D H T=>V C D H 0 (K::(M::(N::((Blk.box [(PV.s (SV.int .i64 C)),(PV.s (SV.int .i64 D)),(PV.s (SV.str H))])::T))))))) (Qb g b u n v J w x y z A u8 B h i j l m o p q r d c t a e f (λO P S F G I U=>V F G I 0 (O::(P::(S::((Blk.box [(PV.s (SV.int .i64 F)),(PV.s (SV.int .i64 G)),(PV.s (SV.str I))])::U))))))) none) none) none) none))) none) none) none) none
theorem Cu4(i:Code)(b:Uz (R:=PV × List Blk × Z) L Q Y s i)(w x:By)(y:Int)(z:By)(A B C D u8 F p q r t:Int)(u:By)(c:Int)(a j l m n f e:Bool)(o:LL)(d:Int)(g:By)(h:Bool):A9 (Fb L) Q Y (cd [] (G2 [1,1,1,1,1] i Qy)) ⟨[(gU w x y z A B C D u8 F p q r t u),pI c,pB a,(gCx j l m n f e o),(gCv d g h)]++tps 88,[],s⟩ (F0 (Fb L) w9)=Am2 L w x y z A B C D u8 F p q r t u c a j l m n f e o d g h (λI J K M H=>some (.tup [.agg [pI I,pI J,pS K],pI M],H,s)):=by unfold Am2;exact let G:=(F0 (Fb L) w9);(c9 (by kernel_rfl) (A0 (A0 (A0 (A0 (A0 rfl (A0 rfl (A0 (A0 (A0 (A0 (A4 λv=>(A0 (A0 rfl ((b G c a v (d !=0) w x y z A B C D u8 F p q r t u j l m n f e o d g h).trans (by kernel_rfl))) ((b G c a v false w x y z A B C D u8 F p q r t u j l m n f e o d g h).trans (by kernel_rfl)))) rfl) rfl) rfl) rfl))) rfl) rfl) rfl) rfl))
theorem Cu5(d:Nat)(u0 u1 u2 u3 u4 u5 u6 u7 u8 u9 u10 u11 u12 u13 u14 dest15 imageSet16 c17 c18 c19 c20 c_z21 c_t22 c23 cov24 cov25 cov26):evC (Fb L) (d+1) Z Y 27 [(gU u0 u1 u2 u3 u4 u5 u6 u7 u8 u9 u10 u11 u12 u13 u14),pI dest15,pB imageSet16,(gCx c17 c18 c19 c20 c_z21 c_t22 c23),(gCv cov24 cov25 cov26)] [] s=Am2 L u0 u1 u2 u3 u4 u5 u6 u7 u8 u9 u10 u11 u12 u13 u14 dest15 imageSet16 c17 c18 c19 c20 c_z21 c_t22 c23 cov24 cov25 cov26 (λb c e f a=>some (.tup [.agg [pI b,pI c,pS e],pI f],a,s)):=
 (evE (fn:=w9) (by kernel_rfl)).trans (c9 (by kernel_rfl) (Cu4 L (evC (Fb L) d) Y s (cd [1,1,1,1,1] Qy) (Am5 L (evC (Fb L) d) Y s) u0 u1 u2 u3 u4 u5 u6 u7 u8 u9 u10 u11 u12 u13 u14 dest15 imageSet16 c17 c18 c19 c20 c_z21 c_t22 c23 cov24 cov25 cov26))
noncomputable def VZ(L:Nat):Cfg:=B5 L [24] (A2 []) [(19,HA)] (A2 [(1,[2]),(0,[1])]) [19] (A2 []) (some [2]) [] [] [] (nt:=[(58,4,9,1)])
noncomputable def Bu0{R:Type}(L:Nat)(d e f g b a:Bool)(c:LL)(h:Bool->(List Blk)->Option R):Option R:=cond (not (ltI 20 (c.length:Int))) (cond (j0 c isS) (cond (A3 c.length) (h (Bf (400:Int) (b8 elS c)) [(bCx d e f g b a c)]) none) none) (h false [(bCx d e f g b a c)])
theorem Co5(d:Nat)(c0 c1 c2 c3 c_z4 c_t5 c6):evC (VZ L) (d+1) Z Y 24 [(gCx c0 c1 c2 c3 c_z4 c_t5 c6)] [] s=Bu0 L c0 c1 c2 c3 c_z4 c_t5 c6 (λb a=>some (pB b,a,s)):=by refine(evE (fn:=Tryz.f24) (by kernel_rfl)).trans ?_;generalize evC (VZ L) d=Q;unfold Bu0;kernel_rfl
end
theorem Af9{R:Type}{a:Bool->Option R}(n:Int):XB LF n a=a (Al n):=by unfold XB Al;cases ltI n 1<;>rfl
theorem YV{R:Type}{a:Bool->Option R}(n:Int):GC LF n a=a (Al n):=by unfold GC Al;cases ltI n 1<;>rfl
theorem B00{R:Type}{b:Int->Option R}(n:Int)(a:Bool):C74 LF n a b=b (KB n a):=by unfold C74 KB;cases n==4<;>cases n==2<;>cases n==20<;>cases n==9<;>cases a<;>cases Al n<;>rfl
theorem Ba1{R:Type}{c:Int->Option R}(n:Int)(a:Bool):Bv7 LF n a c=c (KB n a):=by
 have h:Al n=false->(n==4)=false/\(n==2)=false/\(n==20)=false/\(n==9)=false:=λh=>by
  have e:∀m:Int,Al m=true->(n==m)=false:=λm b=>by
   rw[beq_eq_false_iff_ne];rintro rfl;rw[h] at b;cases b
  exact⟨e 4 rfl,e 2 rfl,e 20 rfl,e 9 rfl⟩
 unfold Bv7 KB;cases j:Al n with
 | false=>
  obtain⟨d,f,g,i⟩:=h j;rw[d,f,g,i];rfl
 | true=>cases n==4<;>cases n==2<;>cases n==20<;>cases n==9<;>cases a<;>rfl
theorem Bk1{R:Type}(z t:Bool)(l:List By)(v:By)(a:Int->Option R)(b:Unit->Option R)(k:l.length<=1000000000):∀(r i m:Nat),i+r=l.length->r<m->
  Ic LF m z t (D1 l) v (l.length:Int) (i:Int) a b=match (l.drop i).findIdx? (· == v) with|some j=>a ((i+j:Nat):Int)|none=>b ():=by
 intro r
 induction r with
 | zero=>
  intro i m e f;obtain⟨m,rfl⟩:∃q,m=q+1:=⟨m-1,by omega⟩
  rw[Ic,A6,o6 (by omega)];rfl
 | succ r g=>
  intro i m e f;obtain⟨m,rfl⟩:∃q,m=q+1:=⟨m-1,by omega⟩
  have c:A1 ((i:Int)+1)=((i+1:Nat):Int):=by rw[A7];rfl
  have d:l.drop i=l.getD i []::l.drop (i+1):=by
   rw[j2,j4 (by omega),v8,o7]
  rw[Ic,A8,K3 (by omega) (by rw[E1];omega),o0,O9 (by omega),S8,c,d,List.findIdx?_cons];simp only[cond_true];by_cases h:l.getD i []=v
  ·rw[h,beq_self_eq_true];simp
  ·rw[show(v==l.getD i [])=false by simpa using λq=>h q.symm,show(l.getD i []==v)=false by simpa using h,cond_false,g (i+1) m (by omega) (by omega)];cases (l.drop (i+1)).findIdx? (· == v) with
   | none=>rfl
   | some j=>simp[Nat.add_assoc,Nat.add_comm 1 j]
theorem Bk2{R:Type}{b:Int->Option R}(z t:Bool)(l:LL)(v:By)(c:l.all isS=true)(d:A3 l.length=true):Bx4 LF z t l v b=b (B27 (l.map elS) v):=by
 have f:=C2;have a:=K7 d;rw[GJ c] at a ⊢;generalize l.map elS=q at a ⊢;rw[E1] at a;have e:b8 elS (D1 q)=q:=by
  unfold D1;rw[p7];exact p6 (λ_=>rfl) q
 unfold Bx4 B27;rw[E1,e];refine(Bk1 z t q v _ _ a q.length 0 LF (by omega) (by omega)).trans ?_;rw[w8];cases q.findIdx? (· == v) with
 | none=>rfl
 | some j=>
  show b ((0+j:Nat):Int)=b (j:Int);rw[Nat.zero_add]
theorem Da9(l:List By)(v:By):(!ltI (B27 l v) 0)=NU l v:=by
 unfold B27 NU;cases h:l.findIdx? (· == v) with
 | none=>
  rw[List.findIdx?_eq_none_iff] at h;show(!ltI (-1) 0)=_;rw[A8];exact(List.any_eq_false.2 λx c=>by rw[h x c];simp).symm
 | some j=>
  show(!ltI (j:Int) 0)=_;rw[A6];exact(List.any_eq_true.2 (by
   obtain⟨a,b,_⟩:=List.findIdx?_eq_some_iff_getElem.1 h;exact⟨_,List.getElem_mem a,b⟩)).symm
theorem Bj7{R:Type}{a:Bool->Option R}(z t:Bool)(l:LL)(v:By)(b:l.all isS=true)(c:A3 l.length=true):Bx3 LF z t l v a=a (NU (l.map elS) v):=by unfold Bx3;rw[b,c,<-Da9];rfl
theorem C69(x v up m z t:Bool)(l:LL)(j:Int)(i:By)(v4 a b c d e f g h:Int)(n:l.all isS=true)(o:A3 l.length=true)(p:A3 i.length=true)(q:ltN v4 4294967296=true)(u:ok8 a b c d e f g h=true) :
  ∃r H,C67 LF x v up m z t l j i v4 a b c d e f g h (λw k=>rv (.s (.bool w)) k)=rv r H/\r.stab [] H = .s (.bool (CE (l.map elS) (mkH j i v4 (n8 a b c d e f g h)))):=by
 unfold C67 CE;rw[n,o,p,q,u];cases M0 (mkH j i v4 (n8 a b c d e f g h))<;>exact⟨_,_,rfl,rfl⟩
theorem Ba0(v u up n z t:Bool)(l:List By)(k:Int)(j:By)(v4 a b c d e f g h:Int)(G:l.length<=1000000000)(x:A3 j.length=true)(y:ltN v4 4294967296=true)(A:ok8 a b c d e f g h=true):∃H,∀(R:Type) (o:List Blk->Option R) (p:Bool->Bool->Bool->Bool->Bool->Bool->LL->Int->By->Int->Int->Int->Int->Int->Int->Int->Int->Int->Option R),∀(r i m:Nat),i+r=l.length->r<m->
  Hl LF m (i:Int) v u up n z t (D1 l) k j v4 a b c d e f g h o p=if NU (l.drop i) (Bt (mkH k j v4 (n8 a b c d e f g h))) then o H else p v u up n z t (D1 l) k j v4 a b c d e f g h:=by
 refine⟨[bCx v u up n z t (D1 l),bH k j v4 a b c d e f g h],λR o p r=>?_⟩
 induction r with
 | zero=>
  intro i m C D;obtain⟨m,rfl⟩:∃q,m=q+1:=⟨m-1,by omega⟩
  rw[Hl,E4 (by rw[E1];omega),o6 (by omega)];rfl
 | succ r F=>
  intro i m C D;obtain⟨m,rfl⟩:∃q,m=q+1:=⟨m-1,by omega⟩
  have w:A1 ((i:Int)+1)=((i+1:Nat):Int):=by rw[A7];rfl
  have B:l.drop i=l.getD i []::l.drop (i+1):=by
   rw[j2,j4 (by omega),v8,o7]
  rw[Hl,B7 (by rw[E1];omega),K3 (by omega) (by rw[E1];omega),o0,O9 (by omega),S8,w,B,x,y,A];simp only[cond_true,vl];rw[show NU (l.getD i []::l.drop (i+1)) (Bt (mkH k j v4 (n8 a b c d e f g h)))=((l.getD i []==Bt (mkH k j v4 (n8 a b c d e f g h)))||NU (l.drop (i+1)) (Bt (mkH k j v4 (n8 a b c d e f g h)))) from rfl];cases l.getD i []==Bt (mkH k j v4 (n8 a b c d e f g h)) with
  | true=>rfl
  | false=>
   rw[cond_false,F (i+1) m (by omega) (by omega)];rfl
theorem Cr9(w v up n z t:Bool)(l:LL)(k:Int)(j:By)(v4 a b c d f g h i:Int)(y:l.all isS=true)(A:A3 l.length=true)(o:A3 j.length=true)(p:ltN v4 4294967296=true)(u:ok8 a b c d f g h i=true) :
  ∃r H,Bv6 LF w v up n z t l k j v4 a b c d f g h i (λD x=>rv (.s (.bool D)) x)=rv r H/\r.stab [] H = .s (.bool (CE (l.map elS) (mkH k j v4 (n8 a b c d f g h i)))):=by
 have C:=C2;have m:=K7 A;rw[GJ y] at m ⊢;generalize l.map elS=q at m ⊢;rw[E1] at m;have e:b8 elS (D1 q)=q:=by
  unfold D1;rw[p7];exact p6 (λ_=>rfl) q
 obtain⟨H,B⟩:=Ba0 w v up n z t q k j v4 a b c d f g h i m o p u;unfold Bv6 CE;rw[o,p,u,e];cases M0 (mkH k j v4 (n8 a b c d f g h i)) with
 | false=>exact⟨_,_,rfl,rfl⟩
 | true=>
  simp only[cond_true,j7,cond_false,x8];rw[show(0:Int)=((0:Nat):Int) from rfl,B _ _ _ q.length 0 LF (by omega) (by omega),w8];cases NU q (Bt (mkH k j v4 (n8 a b c d f g h i)))<;>exact⟨_,_,rfl,rfl⟩
theorem Co6(f d up b z t:Bool)(l:LL)(c:l.all isS=true) :
  ∃r H,Bu0 LF f d up b z t l (λe a=>rv (.s (.bool e)) a)=rv r H/\r.stab [] H = .s (.bool (p9 l.length 20&&Bf 400 (l.map elS))):=by
 unfold Bu0;by_cases h:l.length<=20
 ·rw[A6,c,J9,Nat.ble_eq_true_of_le h];exact⟨_,_,rfl,rfl⟩
 ·rw[A8,show p9 l.length 20=false by rw[Bool.eq_false_iff];intro q;exact h (o9 q)];exact⟨_,_,rfl,rfl⟩
theorem Cx5{a e c d:By}(h:smU a e c d=true):smU (upS a) e c d=true:=by
 obtain⟨f,g,i,j⟩:=Fv h;have:(upS a).length<=100000000:=by
  cases b:M9 a with
  | false=>rw[(Aa2 b 0).1];exact f
  | true=>rcases Pq b with rfl|rfl<;>decide
 simp only[smU,j1,y9];exact⟨⟨⟨this,g⟩,i⟩,j⟩
theorem Cp7(a u:By)(o:Int)(b:By)(v4 e f g h j k m n p:Int)(q:By)(v:Int)(y Y A up w z t:Bool)(l:LL)(B:Int)(L:By)(M:Bool)(C:smU a u b q=true)(P:ltN v4 4294967296=true)(Q:ok8 e f g h j k m n=true)(I:M8 p=true)(R:l.all isS=true)(S:A3 l.length=true) :
  ∃r H,Aj0 LF a u o b v4 e f g h j k m n p q v y Y A up w z t l B L M (λV W X J=>rv (.agg [.s (.int .i64 V),.s (.int .i64 W),.s (.str X)]) J)=rv r H/\r.stab [] H = .agg [.s (.int .i64 (dA (Sq a u o b v4 e f g h j k m n p q v y A up w (l.map elS) B))),.s (.int .i64 (dR (Sq a u o b v4 e f g h j k m n p q v y A up w (l.map elS) B))),.s (.str (dU (Sq a u o b v4 e f g h j k m n p q v y A up w (l.map elS) B)))]:=by
 obtain⟨l1,l2,l3,l4⟩:=Fv C;have Z:A3 b.length=true:=J9;have N:=Cx5 C;have O:=Cz9 (s:=a) I;unfold Aj0 Pw Kw Xo Sq;simp only[vl,C,P,Q,I,R,S,Z,N,O,cond_true,show(a==([100,97,116,97]:List UInt8))=(a==Ad6) from rfl,bne];generalize Im (mkU a u o b v4 (n8 e f g h j k m n) p q)=F;generalize Im (mkU (upS a) u o b v4 (n8 e f g h j k m n) (upP a p) q)=G;generalize Ig a u o b v4 e f g h j k m n p q=T;generalize CE (l.map elS) (mkH o b v4 (n8 e f g h j k m n))=U;generalize M9 a=i;generalize (a==Ad6)=d;generalize (B==0)=x;generalize (v==4)=D;generalize (KB v y==2)=c;generalize (o==1)=K;cases i<;>cases x<;>cases T<;>cases d<;>first|exact⟨_,_,rfl,rfl⟩|(cases up<;>cases D<;>cases A<;>first|exact⟨_,_,rfl,rfl⟩|(cases U<;>cases c<;>cases K<;>cases w<;>exact⟨_,_,rfl,rfl⟩))
theorem Dc8(m n:By)(p:Int)(i:By)(v4 a b c d e f g h j:Int)(k:By)(o:Int)(u N v up q z t:Bool)(l:LL)(w:Int)(y:By)(A:Bool)(B:smU m n i k=true)(C:ltN v4 4294967296=true)(D:ok8 a b c d e f g h=true)(F:M8 j=true)(G:l.all isS=true)(I:A3 l.length=true) :
  ∃r H,Dc6 LF m n p i v4 a b c d e f g h j k o u N v up q z t l w y A (λJ K L M x=>rv (.tup [.agg [.s (.int .i64 J),.s (.int .i64 K),.s (.str L)],.s (.int .i64 M)]) x)=rv r H/\r.stab [0,0] H = .tup [.agg [.s (.int .i64 (dA (Ko m n p i v4 a b c d e f g h j k o u v up q (l.map elS) w))),.s (.int .i64 (dR (Ko m n p i v4 a b c d e f g h j k o u v up q (l.map elS) w))),.s (.str (dU (Ko m n p i v4 a b c d e f g h j k o u v up q (l.map elS) w)))],.s (.int .i64 (dE (Ko m n p i v4 a b c d e f g h j k o u v up q (l.map elS) w)))]:=by
 unfold Dc6 Ko;simp only[vl,B,C,D,F,G,I,cond_true];cases O8 (mkU m n p i v4 (n8 a b c d e f g h) j k)<;>cases Al o<;>exact⟨_,_,rfl,rfl⟩
theorem Cu6(a u:By)(o:Int)(b:By)(v4 e f g h j k m n p:Int)(q:By)(v:Int)(y Z A up w z t:Bool)(l:LL)(B:Int)(L:By)(M:Bool)(C:smU a u b q=true)(P:ltN v4 4294967296=true)(Q:ok8 e f g h j k m n=true)(I:M8 p=true)(R:l.all isS=true)(S:A3 l.length=true) :
  ∃r H,Am2 LF a u o b v4 e f g h j k m n p q v y Z A up w z t l B L M (λV W X Y J=>rv (.tup [.agg [.s (.int .i64 V),.s (.int .i64 W),.s (.str X)],.s (.int .i64 Y)]) J)=rv r H/\r.stab [0,0] H = .tup [.agg [.s (.int .i64 (dA (Ko a u o b v4 e f g h j k m n p q v y A up w (l.map elS) B))),.s (.int .i64 (dR (Ko a u o b v4 e f g h j k m n p q v y A up w (l.map elS) B))),.s (.str (dU (Ko a u o b v4 e f g h j k m n p q v y A up w (l.map elS) B)))],.s (.int .i64 (dE (Ko a u o b v4 e f g h j k m n p q v y A up w (l.map elS) B)))]:=by
 obtain⟨l1,l2,l3,l4⟩:=Fv C;have sn:A3 b.length=true:=J9;have N:=Cx5 C;have O:=Cz9 (s:=a) I;unfold Am2 Qb Ld Ko Sq;simp only[vl,C,P,Q,I,R,S,sn,N,O,cond_true,show(a==([100,97,116,97]:List UInt8))=(a==Ad6) from rfl,bne];cases O8 (mkU a u o b v4 (n8 e f g h j k m n) p q)
 ·exact⟨_,_,rfl,rfl⟩
 cases Al v
 ·exact⟨_,_,rfl,rfl⟩
 generalize Im (mkU a u o b v4 (n8 e f g h j k m n) p q)=F;generalize Im (mkU (upS a) u o b v4 (n8 e f g h j k m n) (upP a p) q)=G;generalize Ig a u o b v4 e f g h j k m n p q=T;generalize CE (l.map elS) (mkH o b v4 (n8 e f g h j k m n))=U;generalize M9 a=i;generalize (a==Ad6)=d;generalize (B==0)=x;generalize (v==4)=D;generalize (KB v y==2)=c;generalize (o==1)=K;cases i<;>cases x<;>cases T<;>cases d<;>first|exact⟨_,_,rfl,rfl⟩|(cases up<;>cases D<;>cases A<;>first|exact⟨_,_,rfl,rfl⟩|(cases U<;>cases c<;>cases K<;>cases w<;>exact⟨_,_,rfl,rfl⟩))
section
variable {Z R : Type} (L : Nat) (Y : F8) (Q : Yh Z) (s : Z) (k : Out -> St Z -> Option R)
noncomputable def PM(L:Nat):Cfg:=B5 L [25] (A2 []) [(28,AF),(26,HK)] (A2 [(7,[0]),(6,[6,0,0,0,0,0]),(5,[1,2,1,0,0,0]),(4,[1,0,1,1,0]),(3,[1,0,1]),(2,[1,0]),(1,[1]),(0,[])]) [] (A2 []) (some [0]) [] [] [] (nt:=[(58,4,9,1)])
noncomputable def Br8(L:Nat):Cfg:=B5 L [6] (A2 []) [(23,HB),(24,TK),(25,Zn),(26,HK),(27,UG)] (A2 [(5,[10]),(4,[11,0,0,0]),(3,[1,0,2,2,0,1,0]),(2,[10]),(1,[1,0,2,2,0,12]),(0,[1,0,2,2,0])]) [23,24,25] (A2 []) (some [10]) [] [] [] (nt:=[(58,4,9,1)])
noncomputable def lmc{R:Type}(L:Nat)(v w:By)(D:Int)(x:By)(y z A B u8 C l m n o:Int)(j:By)(t:Int)(e u p q r g f:Bool)(b:LL)(a:Int)(h:By)(i:Bool)(F:Bool->(List Blk)->Option R):Option R:=cond (not (CS v w x j)) (F true [(bU v w D x y z A B u8 C l m n o j),(bCx u p q r g f b),(bCv a h i)]) (cond (j0 b isS) (cond (not ((p9 b.length 20)&&(Bf (400:Int) (b8 elS b)))) (F true [(bU v w D x y z A B u8 C l m n o j),(bCx u p q r g f b),(bCv a h i)]) (cond (smU v w x j) (cond (ltN y 4294967296) (cond (ok8 z A B u8 C l m n) (cond (M8 o) (cond (j0 b isS) (cond (A3 b.length) (vl (Ko v w D x y z A B u8 C l m n o j t e p q r (b8 elS b) a) λc=>cond (smU v w x j) (cond (ltN y 4294967296) (cond (ok8 z A B u8 C l m n) (cond (M8 o) (cond (j0 b isS) (cond (A3 b.length) (vl (Ko v w D x y z A B u8 C l m n o j t e p q r (b8 elS b) a) λd=>cond (((dA c)==(dA d))&&(((dR c)==(dR d))&&(((dU c)==(dU d))&&true))) (cond ((dE c)==(dE d)) (F true [(bU v w D x y z A B u8 C l m n o j),(bCx u p q r g f b),(bCv a h i),(Blk.box [(PV.s (SV.int .i64 (dA c))),(PV.s (SV.int .i64 (dR c))),(PV.s (SV.str (dU c)))]),(Blk.box [(PV.s (SV.int .i64 (dA d))),(PV.s (SV.int .i64 (dR d))),(PV.s (SV.str (dU d)))])]) (F false [(bU v w D x y z A B u8 C l m n o j),(bCx u p q r g f b),(bCv a h i),(Blk.box [(PV.s (SV.int .i64 (dA c))),(PV.s (SV.int .i64 (dR c))),(PV.s (SV.str (dU c)))]),(Blk.box [(PV.s (SV.int .i64 (dA d))),(PV.s (SV.int .i64 (dR d))),(PV.s (SV.str (dU d)))])])) (F false [(bU v w D x y z A B u8 C l m n o j),(bCx u p q r g f b),(bCv a h i),(Blk.box [(PV.s (SV.int .i64 (dA c))),(PV.s (SV.int .i64 (dR c))),(PV.s (SV.str (dU c)))]),(Blk.box [(PV.s (SV.int .i64 (dA d))),(PV.s (SV.int .i64 (dR d))),(PV.s (SV.str (dU d)))])])) none) none) none) none) none) none) none) none) none) none) none) none)) none)
theorem Dt7(d:Nat)(u0 u1 u2 u3 u4 u5 u6 u7 u8 u9 u10 u11 u12 u13 u14 dest15 imageSet16 c17 c18 c19 c20 c_z21 c_t22 c23 cov24 cov25 cov26):evC (Br8 L) (d+1) Z Q 6 [(gU u0 u1 u2 u3 u4 u5 u6 u7 u8 u9 u10 u11 u12 u13 u14),pI dest15,pB imageSet16,(gCx c17 c18 c19 c20 c_z21 c_t22 c23),(gCv cov24 cov25 cov26)] [] s=lmc L u0 u1 u2 u3 u4 u5 u6 u7 u8 u9 u10 u11 u12 u13 u14 dest15 imageSet16 c17 c18 c19 c20 c_z21 c_t22 c23 cov24 cov25 cov26 (λb a=>some (pB b,a,s)):=by refine(evE (fn:=p5) (by kernel_rfl)).trans ?_;generalize evC (Br8 L) d=Y;unfold lmc;kernel_rfl
end
theorem Di6{l:LL}(h:(p9 l.length 20&&Bf 400 (l.map elS))=true):A3 l.length=true:=by rw[j1] at h;have:=o9 h.1;exact J9
theorem Db6(args:List PV)(h:Lp a8 [55,3,4,58,37] args):∃d g,evC (Br8 LF) d Unit noY 6 args [] ()=some (.s (.bool true),g,()):=by
 obtain⟨v1,Q,rfl,x,V,R,rfl,y,W,S,rfl,A,P,T,rfl,B,X,U,rfl,C,rfl⟩:=h;obtain⟨e,f,H,b,v4,i,j,m,n,o,p,q,r,L,c,rfl,I,J,K⟩:=C63 x (by kernel_rfl) (by kernel_rfl);obtain⟨v,rfl,_⟩:=C62 (k:=.i64) y (by kernel_rfl) (by kernel_rfl);obtain⟨G,rfl⟩:=Cj1 A (by kernel_rfl) (by kernel_rfl);obtain⟨N,M,up,t,z,l,rfl,D⟩:=C61 B (by kernel_rfl) (by kernel_rfl);obtain⟨O,u,w,rfl⟩:=C60 C (by kernel_rfl) (by kernel_rfl);refine⟨1,?_⟩;show Tru _;refine Eq.subst (motive:=Tru) (Dt7 (Z:=Unit) LF noY () 0 e f H b v4 i j m n o p q r L c v G N M up t z false l O u w).symm ?_;unfold lmc;cases F:CS e f b c with
 | false=>exact⟨_,rfl⟩
 | true=>
  rw[j7,cond_false,D,cond_true];cases a:(p9 l.length 20&&Bf 400 (l.map elS)) with
  | false=>exact⟨_,rfl⟩
  | true=>
   simp only[Cx3 F,I,J,K,Di6 a,vl,cond_true,cond_false,j7,beq_self_eq_true,x7];exact⟨_,rfl⟩
section
variable {Z R : Type} (L : Nat) (Q : F8) (Y : Yh Z) (s : Z) (k : Out -> St Z -> Option R)
noncomputable def WD(L:Nat):Cfg:=B5 L [125] (A2 []) [(39,TA),(170,Cg2)] (A2 [(8,[2]),(5,[2]),(7,[2]),(6,[1,12]),(4,[1,5,0]),(3,[1,5]),(2,[2]),(1,[1,3]),(0,[1])]) [39,170] (A2 [(0,[1])]) (some [2]) [] [] []
noncomputable def Bv1{R:Type}(L:Nat)(c:Int)(b:By)(d e f g h i j l a:Int)(m:Bool->(List Blk)->Option R):Option R:=cond (A3 b.length) (cond (ltN d 4294967296) (cond (ok8 e f g h i j l a) (cond (not (M0 (mkH c b d (n8 e f g h i j l a)))) (m false [(bH c b d e f g h i j l a)]) (cond (c==2) (vl (Om .u32 d (24:Int)) λn=>m (n==127) [(bH c b d e f g h i j l a)]) (cond (c==3) (m ((e==0)&&((f==0)&&((g==0)&&((h==0)&&((i==0)&&((j==0)&&((l==0)&&((a==1)&&true)))))))) [(bH c b d e f g h i j l a)]) (cond (A3 b.length) (m (Fc ([108,111,99,97,108,104,111,115,116]:List UInt8) b) [(bH c b d e f g h i j l a)]) none)))) none) none) none
theorem Cq6(d:Nat)(h0 h1 h2 h3 h4 h5 h6 h7 h8 h9 h10):evC (WD L) (d+1) Z Y 125 [(gH h0 h1 h2 h3 h4 h5 h6 h7 h8 h9 h10)] [] s=Bv1 L h0 h1 h2 h3 h4 h5 h6 h7 h8 h9 h10 (λb a=>some (pB b,a,s)):=by refine(evE (fn:=Tryz.f125) (by kernel_rfl)).trans ?_;generalize evC (WD L) d=Q;unfold Bv1;kernel_rfl
noncomputable abbrev Pb:Code:=C3 x5
noncomputable def X4(L:Nat):Cfg:=B5 L [87] (A2 []) [(51,Qw),(117,FM),(125,Bo4)] (A2 [(10,[2]),(7,[2]),(9,[2]),(8,[1,10]),(6,[1,5,0]),(5,[1,5,0]),(4,[1,5,0]),(3,[1,5]),(2,[2]),(1,[1,3]),(0,[1])]) [51,117,125] (A2 [(0,[1])]) (some [2]) [] [] []
noncomputable def Gg{R:Type}(h:By)(r:Bool)(o:By)(i:Int)(p:By)(j l m g n b c d e f:Int)(a:By)(q:Bool->(List Blk)->Option R)(t:Bool->By->By->Int->By->Int->Int->Int->Int->Int->Int->Int->Int->Int->Int->By->Option R):Option R:=cond r (q true [(bU h o i p j l m g n b c d e f a)]) (cond (h==[97,98,111,117,116]) (cond (a==[98,108,97,110,107]) (q true [(bU h o i p j l m g n b c d e f a)]) (q (a==[115,114,99,100,111,99]) [(bU h o i p j l m g n b c d e f a)])) (t (h==[97,98,111,117,116]) h o i p j l m g n b c d e f a))
abbrev ED(b:Code):Prop:=∀(k:Out->St Z->Option R) s0 b1 o i p j l m g n a c d e f h,A9 (X4 L) Q Y b ⟨gp [(1,.ptr 0 0 0),(5,pS s0),(0,pB b1)] 21,[(bU s0 o i p j l m g n a c d e f h)],s⟩ k=Gg s0 b1 o i p j l m g n a c d e f h (λq r=>k .ret ⟨gp [(2,pB q)] 27,r,s⟩) (λq t o i p j l m g n a c d e f h=>k .normal ⟨gp [(1,.ptr 0 0 0),(10,pB q)] 17,[(bU t o i p j l m g n a c d e f h)],s⟩)
theorem YG:ED (R:=R) L Q Y s (cd [1,1,0,1,0,1] Pb):=by intro k o h p i q j l m f n a b c d e g;unfold Gg;kernel_rfl
noncomputable def Gh{R:Type}(o q:By)(n:Int)(m:By)(h i j e l a b c d f:Int)(g:By)(p:Bool->(List Blk)->Option R):Option R:=cond (J1 o) (cond (A3 m.length) (cond (ltN h 4294967296) (cond (ok8 i j e l a b c d) (p (EA n m h i j e l a b c d) [(bU o q n m h i j e l a b c d f g)]) none) none) none) (p false [(bU o q n m h i j e l a b c d f g)])
abbrev EE(b:Code):Prop:=∀(k:Out->St Z->Option R) a s1 s2 n3 s4 n5 n6 n7 n8v n9 n10 n11 n12 n13 n14 s15,A9 (X4 L) Q Y b ⟨gp [(1,.ptr 0 0 0),(10,pB a)] 17,[(bU s1 s2 n3 s4 n5 n6 n7 n8v n9 n10 n11 n12 n13 n14 s15)],s⟩ k=Gh s1 s2 n3 s4 n5 n6 n7 n8v n9 n10 n11 n12 n13 n14 s15 (λa c=>k .ret ⟨gp [(2,pB a)] 27,c,s⟩)
theorem YH:EE (R:=R) L Q Y s (cd [1,1,1] Pb):=by intro k h o p i q j l m f n a b c d e g;unfold Gh;kernel_rfl
noncomputable def LZ{R:Type}(L:Nat)(f h:By)(u2:Int)(i:By)(j l m n u8 o a b c d:Int)(e:By)(g:Bool->(List Blk)->Option R):Option R:=cond (smU f h i e) (cond (ltN j 4294967296) (cond (ok8 l m n u8 o a b c) (cond (M8 d) (cond (not (O8 (mkU f h u2 i j (n8 l m n u8 o a b c) d e))) (g false [(bU f h u2 i j l m n u8 o a b c d e)]) (cond (f==[104,116,116,112,115]) (Gg f (f==[104,116,116,112,115]) h u2 i j l m n u8 o a b c d e g (λc0 b3 b4 a9 b5 b0 b1 b2 p q r t u v w X=>Gh b3 b4 a9 b5 b0 b1 b2 p q r t u v w X g)) (cond (f==[119,115,115]) (Gg f (f==[119,115,115]) h u2 i j l m n u8 o a b c d e g (λb6 a0 a1 x a2 y z A B C D F G H I a3=>Gh a0 a1 x a2 y z A B C D F G H I a3 g)) (Gg f (f==[102,105,108,101]) h u2 i j l m n u8 o a b c d e g (λb7 a4 a5 J a6 K M N O P S T U V W a7=>Gh a4 a5 J a6 K M N O P S T U V W a7 g))))) none) none) none) none
theorem B48(c:Code)(a:ED (R:=PV × List Blk × Z) L Q Y s c)(d:Code)(b:EE (R:=PV × List Blk × Z) L Q Y s d)(j u1:By)(u2:Int)(u3:By)(u4 u5 u6 u7 u8 u9 e f g h:Int)(i:By):A9 (X4 L) Q Y (cd [] (G2 [1,1,1] d (G2 [1,1,0,1,0,1] c Pb))) ⟨[(gU j u1 u2 u3 u4 u5 u6 u7 u8 u9 e f g h i)]++tps 29,[],s⟩ (F0 (X4 L) x5)=LZ L j u1 u2 u3 u4 u5 u6 u7 u8 u9 e f g h i (λr0 H1=>some (pB r0,H1,s)):=by unfold LZ;exact let K0:=(F0 (X4 L) x5);let K1:=(E0 0 (D9 (X4 L) Q Y d K0));(c9 (by kernel_rfl) (A0 (A0 (A0 (A0 (A0 rfl (A0 ((a K1 j (j==[104,116,116,112,115]) u1 u2 u3 u4 u5 u6 u7 u8 u9 e f g h i).trans (congr (congr rfl (by kernel_rfl)) (fx1 λa6=>(fx1 λb2=>(fx1 λb3=>(fx1 λa7=>(fx1 λb4=>(fx1 λa9=>(fx1 λb0=>(fx1 λb1=>(fx1 λn=>(fx1 λo=>(fx1 λp=>(fx1 λq=>(fx1 λr=>(fx1 λt=>(fx1 λu=>(fx1 λV=>(c9 (by kernel_rfl) ((b K0 a6 b2 b3 a7 b4 a9 b0 b1 n o p q r t u V).trans (by kernel_rfl))))))))))))))))))))) (A0 ((a K1 j (j==[119,115,115]) u1 u2 u3 u4 u5 u6 u7 u8 u9 e f g h i).trans (congr (congr rfl (by kernel_rfl)) (fx1 λl=>(fx1 λW=>(fx1 λX=>(fx1 λv=>(fx1 λa0=>(fx1 λw=>(fx1 λx=>(fx1 λy=>(fx1 λz=>(fx1 λA=>(fx1 λB=>(fx1 λC=>(fx1 λD=>(fx1 λF=>(fx1 λG=>(fx1 λa1=>(c9 (by kernel_rfl) ((b K0 l W X v a0 w x y z A B C D F G a1).trans (by kernel_rfl))))))))))))))))))))) ((a K1 j (j==[102,105,108,101]) u1 u2 u3 u4 u5 u6 u7 u8 u9 e f g h i).trans (congr (congr rfl (by kernel_rfl)) (fx1 λm=>(fx1 λa2=>(fx1 λa3=>(fx1 λH=>(fx1 λa4=>(fx1 λI=>(fx1 λJ=>(fx1 λK=>(fx1 λM=>(fx1 λN=>(fx1 λO=>(fx1 λP=>(fx1 λS=>(fx1 λT=>(fx1 λU=>(fx1 λa5=>(c9 (by kernel_rfl) ((b K0 m a2 a3 H a4 I J K M N O P S T U a5).trans (by kernel_rfl)))))))))))))))))))))))) rfl) rfl) rfl) rfl))
theorem B49(d:Nat)(u0 u1 u2 u3 u4 u5 u6 u7 u8 u9 u10 u11 u12 u13 u14):evC (X4 L) (d+1) Z Y 87 [(gU u0 u1 u2 u3 u4 u5 u6 u7 u8 u9 u10 u11 u12 u13 u14)] [] s=LZ L u0 u1 u2 u3 u4 u5 u6 u7 u8 u9 u10 u11 u12 u13 u14 (λb a=>some (pB b,a,s)):=
 (evE (fn:=x5) (by kernel_rfl)).trans (c9 (by kernel_rfl) (B48 L (evC (X4 L) d) Y s (cd [1,1,0,1,0,1] Pb) (YG L (evC (X4 L) d) Y s) (cd [1,1,1] Pb) (YH L (evC (X4 L) d) Y s) u0 u1 u2 u3 u4 u5 u6 u7 u8 u9 u10 u11 u12 u13 u14))
noncomputable def JO(L:Nat):Cfg:=B5 L [31] (A2 []) [(42,FK),(20,Bo9)] (A2 [(8,[2]),(5,[2]),(7,[2]),(6,[1,12]),(4,[1,5,0]),(3,[1,5]),(2,[2]),(1,[1,3]),(0,[1])]) [42,20] (A2 [(0,[1])]) (some [2]) [] [] []
noncomputable def ZA{R:Type}(L:Nat)(c:Int)(b:By)(d e f g h i j l a:Int)(m:Bool->(List Blk)->Option R):Option R:=cond (A3 b.length) (cond (ltN d 4294967296) (cond (ok8 e f g h i j l a) (cond (not (M0 (mkH c b d (n8 e f g h i j l a)))) (m false [(bH c b d e f g h i j l a)]) (cond (c==2) (vl (Om .u32 d (24:Int)) λn=>m (n==127) [(bH c b d e f g h i j l a)]) (cond (c==3) (m ((e==0)&&((f==0)&&((g==0)&&((h==0)&&((i==0)&&((j==0)&&((l==0)&&((a==1)&&true)))))))) [(bH c b d e f g h i j l a)]) (cond (A3 b.length) (m (Fc ([108,111,99,97,108,104,111,115,116]:List UInt8) b) [(bH c b d e f g h i j l a)]) none)))) none) none) none
theorem B88(d:Nat)(h0 h1 h2 h3 h4 h5 h6 h7 h8 h9 h10):evC (JO L) (d+1) Z Y 31 [(gH h0 h1 h2 h3 h4 h5 h6 h7 h8 h9 h10)] [] s=ZA L h0 h1 h2 h3 h4 h5 h6 h7 h8 h9 h10 (λb a=>some (pB b,a,s)):=by refine(evE (fn:=Tryz.f31) (by kernel_rfl)).trans ?_;generalize evC (JO L) d=Q;unfold ZA;kernel_rfl
noncomputable abbrev Cv:Code:=C3 x3
noncomputable def V6(L:Nat):Cfg:=B5 L [33] (A2 []) [(54,Lr),(31,Ac6)] (A2 [(13,[2]),(7,[2]),(10,[2]),(12,[2]),(11,[1,16]),(9,[1,5,4]),(8,[1,5,4]),(6,[1,5,0]),(5,[1,5,0]),(4,[1,5,0]),(3,[1,5]),(2,[2]),(1,[1,3]),(0,[1])]) [54,31] (A2 [(0,[])]) (some [2]) [] [] []
noncomputable def Hn{R:Type}(m:By)(r:Bool)(p:By)(o:Int)(n:By)(h i j e l a b c d g:Int)(f:By)(q:Bool->(List Blk)->Option R)(t:Bool->By->By->Int->By->Int->Int->Int->Int->Int->Int->Int->Int->Int->Int->By->Option R):Option R:=cond r (cond (A3 n.length) (cond (ltN h 4294967296) (cond (ok8 i j e l a b c d) (q (EA o n h i j e l a b c d) [(bU m p o n h i j e l a b c d g f)]) none) none) none) (cond (m==[97,98,111,117,116]) (cond (f==[98,108,97,110,107]) (q true [(bU m p o n h i j e l a b c d g f)]) (q (f==[115,114,99,100,111,99]) [(bU m p o n h i j e l a b c d g f)])) (t (m==[97,98,111,117,116]) m p o n h i j e l a b c d g f))
abbrev Yl(b:Code):Prop:=∀(k:Out->St Z->Option R) s0 b1 o i p j l m g n a c d e f h,A9 (V6 L) Q Y b ⟨gp [(1,.ptr 0 0 0),(5,pS s0),(4,pB b1)] 15,[(bU s0 o i p j l m g n a c d e f h)],s⟩ k=Hn s0 b1 o i p j l m g n a c d e f h (λq r=>k .ret ⟨gp [(2,pB q)] 25,r,s⟩) (λq t o i p j l m g n a c d e f h=>k .normal ⟨gp [(1,.ptr 0 0 0),(16,pB q)] 9,[(bU t o i p j l m g n a c d e f h)],s⟩)
theorem OL:Yl (R:=R) L Q Y s (cd [1,1,0,1,0,1,1,1] Cv):=by intro k o h p i q j l m f n a b c d e g;unfold Hn;kernel_rfl
noncomputable def Dn{R:Type}(h:By)(t:Bool)(p:By)(j:Int)(q:By)(l m n f o a b c d e:Int)(g:By)(i:Bool->(List Blk)->Option R)(r:Bool->By->By->Int->By->Int->Int->Int->Int->Int->Int->Int->Int->Int->Int->By->Option R):Option R:=cond t (i true [(bU h p j q l m n f o a b c d e g)]) (cond (h==[104,116,116,112]) (Hn h (h==[104,116,116,112]) p j q l m n f o a b c d e g i r) (Hn h (h==[119,115]) p j q l m n f o a b c d e g i r))
abbrev Nd(b:Code):Prop:=∀(k:Out->St Z->Option R) s0 b1 o i p j l m g n a c d e f h,A9 (V6 L) Q Y b ⟨gp [(1,.ptr 0 0 0),(5,pS s0),(0,pB b1)] 19,[(bU s0 o i p j l m g n a c d e f h)],s⟩ k=Dn s0 b1 o i p j l m g n a c d e f h (λq r=>k .ret ⟨gp [(2,pB q)] 25,r,s⟩) (λq t o i p j l m g n a c d e f h=>k .normal ⟨gp [(1,.ptr 0 0 0),(16,pB q)] 9,[(bU t o i p j l m g n a c d e f h)],s⟩)
theorem OM(a:Code)(b:Yl (R:=R) L Q Y s a):Nd (R:=R) L Q Y s (cd [1,1,0,1,0,1] (G2 [1,1,0,1,0,1,1,1] a Cv)):=by intro k q j r l t m n o h p c d e f g i;unfold Dn;simp only[<-b k];kernel_rfl
theorem ON:Nd (R:=R) L Q Y s (cd [1,1,0,1,0,1] Cv):=by intro k o h p i q j l m f n a b c d e g;exact c9 (by kernel_rfl) (OM L Q Y s (cd [1,1,0,1,0,1,1,1] Cv) (OL L Q Y s) k o h p i q j l m f n a b c d e g)
noncomputable def Yk{R:Type}(L:Nat)(f h:By)(u2:Int)(i:By)(j l m n u8 o a b c d:Int)(e:By)(g:Bool->(List Blk)->Option R):Option R:=cond (smU f h i e) (cond (ltN j 4294967296) (cond (ok8 l m n u8 o a b c) (cond (M8 d) (cond (not (O8 (mkU f h u2 i j (n8 l m n u8 o a b c) d e))) (g false [(bU f h u2 i j l m n u8 o a b c d e)]) (cond (f==[104,116,116,112,115]) (Dn f (f==[104,116,116,112,115]) h u2 i j l m n u8 o a b c d e g (λb6 a3 a4 p a5 q r t u v w x y z A a6=>g false [(bU a3 a4 p a5 q r t u v w x y z A a6)])) (cond (f==[119,115,115]) (Dn f (f==[119,115,115]) h u2 i j l m n u8 o a b c d e g (λb7 a7 a9 B b0 C D F G H I J K M N b1=>g false [(bU a7 a9 B b0 C D F G H I J K M N b1)])) (Dn f (f==[102,105,108,101]) h u2 i j l m n u8 o a b c d e g (λc0 b2 b3 O b4 P S T U V W X a0 a1 a2 b5=>g false [(bU b2 b3 O b4 P S T U V W X a0 a1 a2 b5)]))))) none) none) none) none
theorem Be8(b:Code)(a:Nd (R:=PV × List Blk × Z) L Q Y s b)(h i:By)(j:Int)(l:By)(m n o p u8 q c d e f:Int)(g:By):A9 (V6 L) Q Y (cd [] (G2 [1,1,0,1,0,1] b Cv)) ⟨[(gU h i j l m n o p u8 q c d e f g)]++tps 27,[],s⟩ (F0 (V6 L) x3)=Yk L h i j l m n o p u8 q c d e f g (λu t=>some (pB u,t,s)):=by unfold Yk;exact let r:=(E0 0 (D9 (V6 L) Q Y (cd [1,1,1] Cv) (F0 (V6 L) x3)));(c9 (by kernel_rfl) (A0 (A0 (A0 (A0 (A0 rfl (A0 ((a r h (h==[104,116,116,112,115]) i j l m n o p u8 q c d e f g).trans (by kernel_rfl)) (A0 ((a r h (h==[119,115,115]) i j l m n o p u8 q c d e f g).trans (by kernel_rfl)) ((a r h (h==[102,105,108,101]) i j l m n o p u8 q c d e f g).trans (by kernel_rfl))))) rfl) rfl) rfl) rfl))
theorem Be9(d:Nat)(u0 u1 u2 u3 u4 u5 u6 u7 u8 u9 u10 u11 u12 u13 u14):evC (V6 L) (d+1) Z Y 33 [(gU u0 u1 u2 u3 u4 u5 u6 u7 u8 u9 u10 u11 u12 u13 u14)] [] s=Yk L u0 u1 u2 u3 u4 u5 u6 u7 u8 u9 u10 u11 u12 u13 u14 (λb a=>some (pB b,a,s)):=
 (evE (fn:=x3) (by kernel_rfl)).trans (c9 (by kernel_rfl) (Be8 L (evC (V6 L) d) Y s (cd [1,1,0,1,0,1] Cv) (ON L (evC (V6 L) d) Y s) u0 u1 u2 u3 u4 u5 u6 u7 u8 u9 u10 u11 u12 u13 u14))
end
abbrev Dq8(f:Int->By->Int->Int->Int->Int->Int->Int->Int->Int->Int->(Bool->List Blk->Option (PV × List Blk × Unit))->Option (PV × List Blk × Unit))(k:Int)(j:By)(v4 a b c d e g h i:Int):Prop:=
 A3 j.length=true->ltN v4 4294967296=true->ok8 a b c d e g h i=true->∃r H,f k j v4 a b c d e g h i (λm l=>rv (.s (.bool m)) l)=rv r H/\r.stab [] H = .s (.bool (EA k j v4 a b c d e g h i))
theorem Cq7(a:Int)(j:By)(v4 b c d e f g h i:Int):Dq8 (Bv1 LF) a j v4 b c d e f g h i:=λk l m=>by
 unfold Bv1 EA;rw[k,l,m];cases M0 (mkH a j v4 (n8 b c d e f g h i))<;>cases a==2<;>cases a==3<;>exact⟨_,_,rfl,rfl⟩
theorem B89(a:Int)(j:By)(v4 b c d e f g h i:Int):Dq8 (ZA LF) a j v4 b c d e f g h i:=λk l m=>by
 unfold ZA EA;rw[k,l,m];cases M0 (mkH a j v4 (n8 b c d e f g h i))<;>cases a==2<;>cases a==3<;>exact⟨_,_,rfl,rfl⟩
theorem B50(a m:By)(n:Int)(b:By)(v4 d e f g h i j k l:Int)(c:By)(o:smU a m b c=true)(q:ltN v4 4294967296=true)(t:ok8 d e f g h i j k=true)(u:M8 l=true) :
  ∃r H,LZ LF a m n b v4 d e f g h i j k l c (λv p=>rv (.s (.bool v)) p)=rv r H/\r.stab [] H = .s (.bool (Ig a m n b v4 d e f g h i j k l c)):=by
 obtain⟨x,y,z,A⟩:=Fv o;have w:A3 b.length=true:=J9;unfold LZ Gg Gh Ig;simp only[o,q,t,u,w,show(a==([104,116,116,112,115]:List UInt8))=(a==Ay) from rfl,show(a==([119,115,115]:List UInt8))=(a==Tm) from rfl,show(a==([102,105,108,101]:List UInt8))=(a==Ad7) from rfl,show(a==([97,98,111,117,116]:List UInt8))=(a==Tl) from rfl];cases O8 (mkU a m n b v4 (n8 d e f g h i j k) l c)<;>cases a==Ay<;>cases a==Tm<;>cases a==Ad7<;>cases a==Tl<;>cases J1 a<;>cases c==([98,108,97,110,107]:List UInt8)<;>exact⟨_,_,rfl,rfl⟩
theorem Bf0(g v:By)(x:Int)(i:By)(v4 k l m n o p q t u:Int)(j:By)(y:smU g v i j=true)(B:ltN v4 4294967296=true)(C:ok8 k l m n o p q t=true)(D:M8 u=true) :
  ∃r H,Yk LF g v x i v4 k l m n o p q t u j (λG A=>rv (.s (.bool G)) A)=rv r H/\r.stab [] H = .s (.bool (Ig g v x i v4 k l m n o p q t u j)):=by
 obtain⟨J,K,L,M⟩:=Fv y;have I:A3 i.length=true:=J9;have z:∀a b:By,a≠b->(g==a)=true->(g==b)=false:=λa b h e=>by
  obtain rfl:g=a:=by simpa using e
  simpa using h
 have w:J1 g=(g==Cp||g==bWs||(g==Ay||g==Tm)):=rfl;have hA:=z Cp Tl (by decide);have F:=z bWs Tl (by decide);unfold Yk Dn Hn Ig;rw[w];simp only[y,B,C,D,I,show(g==([104,116,116,112,115]:List UInt8))=(g==Ay) from rfl,show(g==([119,115,115]:List UInt8))=(g==Tm) from rfl,show(g==([102,105,108,101]:List UInt8))=(g==Ad7) from rfl,show(g==([97,98,111,117,116]:List UInt8))=(g==Tl) from rfl,show(g==([104,116,116,112]:List UInt8))=(g==Cp) from rfl,show(g==([119,115]:List UInt8))=(g==bWs) from rfl];generalize (g==Ay)=a,(g==Tm)=b,(g==Ad7)=c,(g==Cp)=d,(g==bWs)=e,(g==Tl)=f at *;cases O8 (mkU g v x i v4 (n8 k l m n o p q t) u j)
 ·exact⟨_,_,rfl,rfl⟩
 ·cases a<;>cases b<;>cases c<;>cases d<;>cases e<;>cases f<;>first|(exact absurd (hA rfl) (by decide))|(exact absurd (F rfl) (by decide))|exact⟨_,_,rfl,rfl⟩|(cases j==([98,108,97,110,107]:List UInt8)<;>exact⟨_,_,rfl,rfl⟩)
section
theorem Dm7:B3 a8 GX 125 Bo4:=xf [] (WD LF) HM rfl ⟨Bm9,Dx3,trivial⟩ rfl (by kernel_rfl) follows λargs=>by
 unfold HM;split
 ·rename_i j k v4 a b c d f g h i;exact λl=>λm=>λn=>(let⟨r,H,e,q⟩:=Cq7 j k v4 a b c d f g h i l m n;⟨rfl,rfl,rfl,r,H,(Cq6 LF noY () 0 j k v4 a b c d f g h i).trans e,q⟩)
 ·trivial
theorem C36:B3 a8 GX 31 Ac6:=xf [] (JO LF) AB rfl ⟨Ab2,Dn2,trivial⟩ rfl (by kernel_rfl) follows λargs=>by
 unfold AB;split
 ·rename_i j k v4 a b c d f g h i;exact λl=>λm=>λn=>(let⟨r,H,e,q⟩:=B89 j k v4 a b c d f g h i l m n;⟨rfl,rfl,rfl,r,H,(B88 LF noY () 0 j k v4 a b c d f g h i).trans e,q⟩)
 ·trivial
theorem C29:B3 a8 GX 87 Ac5:=xf [] (X4 LF) Zw rfl ⟨DE,Ab4,Dm7,trivial⟩ rfl (by kernel_rfl) follows λargs=>by
 unfold Zw;split
 ·rename_i n o j k v4 a b c d f g h i l m;exact λp=>λt=>λu=>λv=>(let⟨r,H,e,q⟩:=B50 n o j k v4 a b c d f g h i l m p t u v;⟨rfl,rfl,rfl,r,H,(B49 LF noY () 0 n o j k v4 a b c d f g h i l m).trans e,q⟩)
 ·trivial
theorem Cf0:B3 a8 GX 33 OX:=xf [] (V6 LF) Te rfl ⟨Vr,C36,trivial⟩ rfl (by kernel_rfl) follows λargs=>by
 unfold Te;split
 ·rename_i n o j k v4 a b c d f g h i l m;exact λp=>λt=>λu=>λv=>(let⟨r,H,e,q⟩:=Bf0 n o j k v4 a b c d f g h i l m p t u v;⟨rfl,rfl,rfl,r,H,(Be9 LF noY () 0 n o j k v4 a b c d f g h i l m).trans e,q⟩)
 ·trivial
end
section
theorem Au1:B3 a8 GX 52 GO:=xf [] (JL LF) Zo rfl trivial rfl (by kernel_rfl) follows λargs=>by
 unfold Zo;split
 ·rename_i n;exact⟨rfl,rfl,rfl,_,_,(B09 LF noY () 0 n).trans (Af9 n ),rfl⟩
 ·trivial
theorem Dx0:B3 a8 GX 89 Cf9:=xf [] (Az3 LF) SJ rfl ⟨Au1,trivial⟩ rfl (by kernel_rfl) follows λargs=>by
 unfold SJ;split
 ·rename_i n a;exact⟨rfl,rfl,rfl,_,_,(C75 LF noY () 0 n a).trans (B00 n a ),rfl⟩
 ·trivial
theorem SD:B3 a8 GX 30 AA:=xf [] (BA LF) Tb rfl trivial rfl (by kernel_rfl) follows λargs=>by
 unfold Tb;split
 ·rename_i n;exact⟨rfl,rfl,rfl,_,_,(Ba9 LF noY () 0 n).trans (YV n ),rfl⟩
 ·trivial
theorem Dm9:B3 a8 GX 56 Bo6:=xf [] (WG LF) HS rfl ⟨SD,trivial⟩ rfl (by kernel_rfl) follows λargs=>by
 unfold HS;split
 ·rename_i n a;exact⟨rfl,rfl,rfl,_,_,(Cs0 LF noY () 0 n a).trans (Ba1 n a ),rfl⟩
 ·trivial
theorem Do8:B3 a8 GX 171 Bq4:=xf [] (Me LF) IU rfl trivial rfl (by kernel_rfl) follows λargs=>by
 unfold IU;split
 ·rename_i b a l s;exact λc=>λd=>⟨rfl,rfl,rfl,_,_,(Cx8 LF noY () 0 b a l s).trans (Bk2 b a l s c d),rfl⟩
 ·trivial
theorem Do7:B3 a8 GX 126 Bq3:=xf [] (WR LF) IT rfl ⟨Do8,trivial⟩ rfl (by kernel_rfl) follows λargs=>by
 unfold IT;split
 ·rename_i b a l s;exact λc=>λd=>⟨rfl,rfl,rfl,_,_,(Cx6 LF noY () 0 b a l s).trans (Bj7 b a l s c d),rfl⟩
 ·trivial
theorem Dw9:B3 a8 GX 88 Cf8:=xf [] (Az1 LF) SG rfl ⟨Bm9,C20,Do7,trivial⟩ rfl (by kernel_rfl) follows λargs=>by
 unfold SG;split
 ·rename_i t p up m b a l n o v4 c d f g h i j k;exact λu=>λv=>λw=>λx=>λy=>(let⟨r,H,e,q⟩:=C69 t p up m b a l n o v4 c d f g h i j k u v w x y;⟨rfl,rfl,rfl,r,H,(C68 LF noY () 0 t p up m b a l n o v4 c d f g h i j k).trans e,q⟩)
 ·trivial
theorem Dm8:B3 a8 GX 34 Bo5:=xf [] (Ly LF) HQ rfl ⟨Ab2,By6,trivial⟩ rfl (by kernel_rfl) follows λargs=>by
 unfold HQ;split
 ·rename_i t p up m b a l n o v4 c d f g h i j k;exact λu=>λv=>λw=>λx=>λy=>(let⟨r,H,e,q⟩:=Cr9 t p up m b a l n o v4 c d f g h i j k u v w x y;⟨rfl,rfl,rfl,r,H,(Cr8 LF noY () 0 t p up m b a l n o v4 c d f g h i j k).trans e,q⟩)
 ·trivial
theorem Dm6:B3 a8 GX 53 Bo3:=xf [] (Bz LF) HL rfl ⟨C45,Dz4,D31,C29,Dw9,Dx0,trivial⟩ rfl (by kernel_rfl) follows λargs=>by
 unfold HL;split
 ·rename_i z C u v v4 c d f g h i j k w y o t A x up m b a l B n p;exact λD=>λF=>λG=>λI=>λJ=>λK=>(let⟨r,H,e,q⟩:=Cp7 z C u v v4 c d f g h i j k w y o t A x up m b a l B n p D F G I J K;⟨rfl,rfl,rfl,r,H,(Cp6 LF noY () 0 z C u v v4 c d f g h i j k w y o t A x up m b a l B n p).trans e,q⟩)
 ·trivial
theorem C28:B3 a8 GX 26 HK:=xf [0,0] (A03 LF) TP rfl ⟨DE,Au1,Dm6,trivial⟩ rfl (by kernel_rfl) follows λargs=>by
 unfold TP;split
 ·rename_i z C u v v4 c d f g h i j k w y o t A x up m b a l B n p;exact λD=>λF=>λG=>λI=>λJ=>λK=>(let⟨r,H,e,q⟩:=Dc8 z C u v v4 c d f g h i j k w y o t A x up m b a l B n p D F G I J K;⟨rfl,rfl,rfl,r,H,(Dc7 LF noY () 0 z C u v v4 c d f g h i j k w y o t A x up m b a l B n p).trans e,q⟩)
 ·trivial
theorem Dn6:B3 a8 GX 27 UG:=xf [0,0] (Fb LF) IC rfl ⟨Vr,SD,Dy6,Do0,By8,Cf0,Dm8,Dm9,trivial⟩ rfl (by kernel_rfl) follows λargs=>by
 unfold IC;split
 ·rename_i z C u v v4 c d f g h i j k w y o t A x up m b a l B n p;exact λD=>λF=>λG=>λI=>λJ=>λK=>(let⟨r,H,e,q⟩:=Cu6 z C u v v4 c d f g h i j k w y o t A x up m b a l B n p D F G I J K;⟨rfl,rfl,rfl,r,H,(Cu5 LF noY () 0 z C u v v4 c d f g h i j k w y o t A x up m b a l B n p).trans e,q⟩)
 ·trivial
theorem Dm2:B3 a8 GX 24 TK:=xf [] (VZ LF) HF rfl ⟨Au2,trivial⟩ rfl (by kernel_rfl) follows λargs=>by
 unfold HF;split
 ·rename_i f d up c b a l;exact λg=>(let⟨r,H,e,q⟩:=Co6 f d up c b a l g;⟨rfl,rfl,rfl,r,H,(Co5 LF noY () 0 f d up c b a l).trans e,q⟩)
 ·trivial
end
section
theorem Ad5:GE (evC (PM LF) 1 Unit noY 25 [] [] ())=true:=by kernel_rfl
theorem Ce5:B3 a8 GX 25 Zn:=
 B3.fix (pf:=Sw) _ (by
  have h:=Bn2 (C₀:=PM LF) (M5.ok (l:=[(28,AF),(26,HK)]) rfl ⟨Cf1,C28,trivial⟩) (I9 rfl (by kernel_rfl)) follows Ad5;have e:(λargs:List PV=>match args with|[]=>Tr.ret (.s (.bool true)) []|_=>.fail)=Sw:=by
   funext args
   cases args<;>rfl
  rw[<-e];exact h)
end
end
section
open Go Go.ChangeAt Go.ChangeShapes Go.Proofs Go.RowKit Go.WideShapes
set_option maxRecDepth 100000
section
theorem A59(os:Os)(a:os.Started)(H:Type)(enc:TypeId × Value->H) :
  ReturnsInHanded {} Tryz.checked os 6 .any (λw args=>(Rows.mixedClassifyMatchesSpecSpec.pre enc a8 p5 Rows.mixedClassifyMatchesSpecRow.domain false w args/\laidMetH a8 Ew w)/\sizedMet enc a8 p5 (OpenSpec.ofChange Rows.mixedClassifyMatchesSpecSpec) false w args) (Rows.mixedClassifyMatchesSpecSpec.post enc a8 p5 false true false false):=
 A53 a (C:=Br8 LF) (tb:=4) rfl rfl (M5.ok (l:=[(23,HB),(24,TK),(25,Zn),(26,HK),(27,UG)]) rfl ⟨C24,Dm2,Ce5,C28,Dn6,trivial⟩) (I9 rfl (by kernel_rfl)) (by kernel_rfl) x6 (c:=C3 p5) rfl (by kernel_rfl)
  (by
   intro t d;have:t=55\/t=3\/t=4\/t=58\/t=37:=by simpa only[List.mem_cons,List.mem_nil_iff,or_false] using(show t∈[55,3,4,58,37] from d)
   rcases this with rfl|rfl|rfl|rfl|rfl
   all_goals exact⟨⟨by kernel_rfl,of_decide_eq_true (by kernel_rfl)⟩,by kernel_rfl⟩) rfl (by kernel_rfl) rfl
  (λds b=>by
   match ds,b with
   | [e,f,g,i,j],_=>rfl)
  #[(.agg #[(.string ⟨#[]⟩),(.string ⟨#[]⟩),(.int .i64 0),(.string ⟨#[]⟩),(.int .u32 0),(.int .u16 0),(.int .u16 0),(.int .u16 0),(.int .u16 0),(.int .u16 0),(.int .u16 0),(.int .u16 0),(.int .u16 0),(.int .i64 0),(.string ⟨#[]⟩)]),(.int .i64 0),(.bool false),(.agg #[(.bool false),(.bool false),(.bool false),(.bool false),(.slice none 0 0)]),(.agg #[(.int .i64 0),(.string ⟨#[]⟩),(.bool false)])] 8 (by kernel_rfl) (by kernel_rfl) (by kernel_rfl)
  (λargs h=>Db6 args h)
set_option maxHeartbeats 4000000 in theorem B38:Rows.MixedClassifyMatchesSpecSaid:=
 OpenClaim.holds_of_wide 6 p5 rfl rfl rfl rfl rfl rfl rfl ⟨rfl,rfl,rfl,rfl,rfl⟩ rfl rfl rfl rfl rfl (by kernel_rfl) x6 (by unfold joinedFacts;simp only[j1];(repeat' apply And.intro)<;>as_aux_lemma=>kernel_rfl)
  (of_decide_eq_true (by as_aux_lemma=>kernel_rfl)) (by unfold Func.isWrapper;first|(rw[if_pos (by decide +kernel)];kernel_rfl)|(rw[if_neg (by decide +kernel)];exact⟨rfl,rfl⟩))
  (λos a H enc _=>A59 os a H enc)
theorem lmc_card:Rows.MixedClassifyMatchesSpecCardSaid:=
 Claim7.holds_tied_plain_at .later [] [.data,.data,.data,.data,.pinned] true (true, "3edcf2d0d4ba03f015f6faca6dbfc35b207af51aad1c65e00543b4f3d9771d1d") false B38 (λ_ h=>by cases h) (by as_aux_lemma=>kernel_rfl) (λ_ h=>by cases h) mixedClassifyMatchesSpec_row_tie rfl ⟨rfl,rfl⟩ (by as_aux_lemma=>kernel_rfl) rfl
  (λf fn c b=>by
   obtain rfl:f=6:=j5 ((show a8.funcNamed "hstsstore/hstsstorelaw29.MixedClassifyMatchesSpec" = some 6 by as_aux_lemma=>kernel_rfl).symm.trans c) |>.symm
   obtain rfl:fn=p5:=(j5 (x6.symm.trans b)).symm;exact⟨by as_aux_lemma=>kernel_rfl,λj t e=>by
    have d:t∈[55,3,4,58,37]:=Array.mem_toList_iff.2 (Array.mem_of_getElem? e);have a:([55,3,4,58,37].all λu=>!a8.wantsStandIn u)=true:=by as_aux_lemma=>kernel_rfl
    exact(show a8.wantsStandIn t=false by simpa using v7.1 a t d)⟩)
  (by as_aux_lemma=>kernel_rfl)
end
end
#print axioms lmc_card
end Go.Proofs.YtfkhfkjcidamaaaGreatDoor.E
