/-
  Parts of the proof, merged by a program of the prover's own; no condition.
-/
import Derived.Test.YtddlcgjamdbinaaGreatDoorKXS5
import Derived.Laws.Runes
import Derived.Lib.SlicesCompact
open Go.Proofs.Tryz renaming prog->c9,f11->ah5,f20->ah6,f22->ah7,f71->ah8,f72->ah9,f10->ai7,f5->ai9,f6->aj0
open Int renaming toNat->j0,toNat_natCast->p4,eq_ofNat_of_zero_le->aa9
open Go.Lib renaming compact->j1,compactUpTo->x5,compactUpTo_succ->ab5,keeps->ad6,indexByte->af4,decodeL->ag7,size_eq->ag8
open List renaming length->j2,length_cons->j4,length_drop->j5,getElem?_eq_getElem->j7,length_append->k9,length_singleton->o0,map->o5,getD_eq_getElem?_getD->o6,length_take->o8,getElem?_cons_zero->p6,length_eq_zero_iff->p7,isEmpty->p9,size_toArray->s8,all_eq_true->v7,all->w8,getElem?_append_right->w9,length_map->x3,drop_of_length_le->x6,drop_eq_getElem_cons->x8,length_nil->x9,drop_eq_nil_iff->y7,getElem?_take_of_lt->y8,getElem?_cons_succ->z7,mem_singleton->aa1,map_cons->aa2,getElem?_toArray->aa3,drop_zero->aa5,getElem?_append_left->aa7,getElem?_take->aa8,flatMap_cons->ab1,mem_of_mem_drop->ab6,length_pos_iff->ab9,getElem?_eq_some_iff->ac6,pairwise_iff_getElem->ac7,any_cons->ad4,getElem_mem->ad7,not_mem_nil->ad8,getElem_cons_zero->ae0,take_of_length_le->ae1,toArray->ae2,foldl_cons->ae4,replicate->ae8,getD->af0,getD_cons_succ->af1,getD_cons_zero->af2,getElem_of_mem->af3,map_id''->af5,mem_cons->af6,sum_cons->af7,append_assoc->ag1,getElem?_map->ag2,map_map->ag3,cons_append->ag5,le_antisymm->ag6,append_nil->ah1,mem_append->ah2,nil_append->ah3,mem_map->ai1
open Option.some renaming injEq->j6,inj->ae5
open Eq renaming trans->j8
open Bool renaming not_true->j9,and_eq_true->o7,not_false->p5,eq_iff_iff->w6,true_and->x7,false_eq_true->aa0,false_and->ab0,or_eq_true->ab8,not_eq_true'->ac9,and_true->ad2,false_or->ad3,true_or->ad9,or_eq_false_iff->ae7,or_true->af9
open Go.Value renaming int->o9
open Nat renaming mul_one->s9,le_of_ble_eq_true->v8,ble_eq_true_of_le->aa4,ble->ab3,add_zero->ac1,zero_add->ac2,le_refl->ad0,lt_of_lt_of_le->af8,zero_le->ag9,not_lt_zero->ah4,le_trans->ai2,sub_self->ai3
open Go.Fn renaming func->x4
open Option renaming map_some->y5
open Array renaming length_toList->y9,getElem?_eq_getElem->aa6,getElem?_append_left->ac3,getElem?_eq_some_iff->ac4,size_append->ac8,getElem?_modify->ae6
open Go.World renaming shape?->ab2,frozen?->ab4,cell?->ad1
open Go.Utf8 renaming encode->ab7,decode->ae9
open Exists renaming intro->ac0
open Decidable renaming byContradiction->ac5
open Prod.mk renaming injEq->ad5,inj->ai6
open Go.Sort renaming ahead->ae3
open Classical renaming not_not->ag0
open Go.RowKit.Below renaming refl->ag4
open UInt8 renaming ofNat->ah0
open List.cons renaming inj->ai0
open BEq renaming comm->ai4
set_option maxRecDepth 100000
variable{R:Type}
namespace Go.Proofs.YtddlcgjamdbinaaGreatDoor.E
set_option linter.all false
section
open Go Go.Proofs
def Cj4(c z:By)(x:Int)(y:By)(v4 m n o p t u v w k:Int)(b a:By)(O:A2 c.length=true)(P:A2 b.length=true)(A:A2 a.length=true)(B:z.isEmpty=true)(C:(k==-1)=true) :
  ∃r H,Wu LF c z x y v4 m n o p t u v w k b a (λL M D N F G I J n8 K f g h i l j d=>rv (.tup [gU L M D N F G I J n8 K f g h i l,.s (.int .i64 j)]) d)=rv r H/\
   r.stab [0,0] H=(λq=>.tup [gU (uS q) (uU q) (uK q) (uN q) (uV q) (uA q 0) (uA q 1) (uA q 2) (uA q 3) (uA q 4) (uA q 5) (uA q 6) (uA q 7) (uP q) (uR q),.s (.int .i64 (uE q))]) (J2 c b a):=by
 obtain rfl:=List.isEmpty_iff.1 B;obtain rfl:k=-1:=by simpa using C
 obtain⟨H,e⟩:=Bq3 c x y v4 m n o p t u v w b a A;exact⟨_,_,e _ _,rfl⟩
def Db5(b:UInt8):ctl b=(!ltI 32 (b.toNat:Int)||((b.toNat:Int)==127)):=by rw[w6,Db4,ab8,ac9,Yy,beq_iff_eq];omega
def Cj5{a:List Blk->Option R}{b:By->Option R}(s:By)(g:s.length<=1000000000):∀(r i n:Nat),i+r=s.length->r<n->
  Ks LF n s (s.length:Int) (i:Int) a b=if (s.drop i).any ctl then a [] else b s:=by
 intro r
 induction r with
 | zero=>
  intro i n d e;rcases n with _|n;omega
  rw[Ks];rw[A7,x6 (by omega)];rfl
 | succ r f=>
  intro i n d e;rcases n with _|n;omega
  have c:A1 ((i:Int)+1)=((i+1:Nat):Int):=by rw[A6];rfl
  rw[Ks];rw[A8,H4,F6,G2 s i (by omega),c,ad4,Db5];simp only[aa];rw[f (i+1) n (by omega) (by omega)];cases ltI 32 ((s.getD i 0).toNat:Int) with
  | false=>rfl
  | true=>cases (((s.getD i 0).toNat:Int)==127)<;>rfl
def C41(s:By)(i:A2 s.length=true):∃H,∀(R:Type) (a:KU R),QC LF s a=RA a (H3 s) H:=by
 have y:=M5 i;have v:=D6;have L:∀{R:Type} (a:List Blk->Option R) (l:By->Option R),Ks LF LF s (s.length:Int) 0 a l=if s.any ctl then a [] else l s:=λa l=>Cj5 s y s.length 0 LF (by omega) (by omega)
 unfold H3;by_cases h:s.any ctl=true
 ·rw[ac h];apply ac0;intro R a;unfold QC;rw[L,ac h];rfl
 rw[ae h];rcases Aj 58 s with b|⟨p,r,rfl,b⟩
 ·apply ac0;intro R a;unfold QC;rw[L,ae h,i,CS b];rfl
 have B:(p++58::r).length=p.length+r.length+1:=by rw[k9,j4];omega
 have sp:A2 p.length=true:=R0;have o:A2 r.length=true:=R0;rw[Iy b];simp only[j9,ad3];cases c:Fh p with
 | false=>
  apply ac0;intro R a;unfold QC;rw[L,ae h,i,Iy b];simp only[vl,aa,j9,ab];rw[sp,c];rfl
 | true=>
 rw[ae (by simp)];cases f:G3 (C5 p) with
 | false=>
  apply ac0;intro R a;unfold QC;rw[L,ae h,i,Iy b];simp only[vl,aa,j9,ab];rw[sp,c,f];rfl
 | true=>
 rw[ae (by simp)];cases GK:([47,47]:By).isPrefixOf r with
 | false=>
  apply ac0;intro R a;unfold QC;rw[L,ae h,i,Iy b];simp only[vl,aa,j9,ab];rw[sp,c,f,o,GK];rfl
 | true=>
 rw[ae (by simp)];have j:Iz r [47,47]=r.drop 2:=by unfold Iz;rw[GK,ac rfl];rfl
 generalize m:r.drop 2=t;rw[m] at j;have lt:t.length<=r.length:=by rw[<-m,j5];omega
 have u:A2 t.length=true:=R0;have z:=OI t;have sl:A2 (C5 p).length=true:=by rw[Aq];exact sp
 have tail:∀(R:Type) (a:KU R) (X d:By),X.length<=t.length->d.length<=t.length->
   (cond (A2 (j2 X))
    (cond (not (List.isPrefixOf (([47]:By)) X))
     (cond (J1 1 (j2 X))
     (cond (A2 (j2 (C5 p)))
      (cond (A2 (j2 (([47]:By)++X)))
       (cond (A2 (j2 d))
       (cond (((-1):Int)==((-1):Int))
        (RA a (J2 (C5 p) (([47]:By)++X) d) ((λq=>[bU (uS q) (uU q) (uK q) (uN q) (uV q) (uA q 0) (uA q 1) (uA q 2) (uA q 3) (uA q 4) (uA q 5) (uA q 6) (uA q 7) (uP q) (uR q),bU (C5 p) [] 0 [] 0 0 0 0 0 0 0 0 0 (-1) (([47]:By)++X)]) (J2 (C5 p) (([47]:By)++X) d)))
        (none))
       (none))
       (none))
      (none))
     (none))
     (cond (A2 (j2 (C5 p)))
     (cond (A2 (j2 X))
      (cond (A2 (j2 d))
      (cond (((-1):Int)==((-1):Int))
       (RA a (J2 (C5 p) X d) ((λq=>[bU (uS q) (uU q) (uK q) (uN q) (uV q) (uA q 0) (uA q 1) (uA q 2) (uA q 3) (uA q 4) (uA q 5) (uA q 6) (uA q 7) (uP q) (uR q),bU (C5 p) [] 0 [] 0 0 0 0 0 0 0 0 0 (-1) X]) (J2 (C5 p) X d)))
       (none))
      (none))
      (none))
     (none))) none)=RA a (J2 (C5 p) (Z2 X) d) ((λq=>[bU (uS q) (uU q) (uK q) (uN q) (uV q) (uA q 0) (uA q 1) (uA q 2) (uA q 3) (uA q 4) (uA q 5) (uA q 6) (uA q 7) (uP q) (uR q),bU (C5 p) [] 0 [] 0 0 0 0 0 0 0 0 0 (-1) (Z2 X)]) (J2 (C5 p) (Z2 X) d)):=by
  intro R a X d A w;rw[R0,sl,Dz5,D9 (n:=d.length) (by omega)];unfold Z2;by_cases g:X.head? = some 47
  ·rw[ac g,g];rfl
  ·have e:(X.head? == some 47)=false:=by simpa using g
   rw[ae g,e,J4 (by omega),D9 (by simp;omega)];rfl
 refine⟨(λX=>(λq=>[bU (uS q) (uU q) (uK q) (uN q) (uV q) (uA q 0) (uA q 1) (uA q 2) (uA q 3) (uA q 4) (uA q 5) (uA q 6) (uA q 7) (uP q) (uR q),bU (C5 p) [] 0 [] 0 0 0 0 0 0 0 0 0 (-1) (Z2 X)]) (J2 (C5 p) (Z2 X) (t.take (N8 t)))) (t.drop (N8 t)),λR a=>?_⟩;refine j8 ?_ (tail R a (t.drop (N8 t)) (t.take (N8 t)) (by rw[j5];omega) (by rw[o8];omega));unfold QC;rw[L,ae h,i,Iy b];simp only[vl,aa,j9,ab];rw[sp,c,f,o,GK,j,u];rw[show DJ ([47,63,35]:By)=true from rfl,show([47,63,35]:By)=isl from rfl,Le];simp only[aa,j9,ab];by_cases k:N8 t<t.length
 ·rw[ac k,A7,p5,aa,U6,p4,o8,Nat.min_eq_left (by omega),O8,O8,Y9,p4];rfl
 ·have x:N8 t=t.length:=by omega
  rw[ae k,A8,j9,ab,O8,Y9,p4,x,List.take_length,u];rfl
abbrev rvU(n o:By)(h:Int)(p:By)(i j k l n8 m b c d e:Int)(g:By)(f:Int)(a:List Blk):=rv (.tup [gU n o h p i j k l n8 m b c d e g,.s (.int .i64 f)]) a
abbrev pvU(q:Y0 × Nat):PV:=.tup [gU (uS q) (uU q) (uK q) (uN q) (uV q) (uA q 0) (uA q 1) (uA q 2) (uA q 3) (uA q 4) (uA q 5) (uA q 6) (uA q 7) (uP q) (uR q),.s (.int .i64 (uE q))]
def Dp0(s:By)(a:A2 s.length=true):∃r H,QC LF s rvU=rv r H/\r.stab [0,0] H=pvU (H3 s):=by obtain⟨H,e⟩:=C41 s a;exact⟨_,_,e _ _,rfl⟩
def Cj1(s:By)(a:A2 s.length=true):∃r H,Ah5 LF s rvU=rv r H/\r.stab [0,0] H=pvU (C7 s):=by
 unfold Ah5 C7;by_cases h:2048<s.length
 ·rw[A8,ac h];exact⟨_,_,rfl,rfl⟩
 ·rw[A7,ae h,a];exact⟨_,_,rfl,rfl⟩
def SJ{p:Int}(h:Qf p=true):(Pv p).length<=20:=by
 obtain⟨a,b⟩:=MA.1 h;unfold Pv;split
 ·have:=Ly 19 (-p).toNat (by omega) (by omega);rw[j4];omega
 ·have:=Ly 19 p.toNat (by omega) (by omega);omega
def RS(b:Int)(c:By)(v4:Int)(a:List Nat):Y4 (mkH b c v4 a)=Y4 (Cv7 b c v4 a):=by
 unfold mkH Cv7;cases h:ltN b 4 with
 | true=>rfl
 | false=>
  rw[ae (by simp),ae (by simp),LT (by rfl),LT (by rfl)]
def HS{c d a b:By}(h:smU c d a b=true):c.length<=100000000/\d.length<=100000000/\a.length<=100000000/\b.length<=100000000:=by simp only[smU,o7,Nat.ble_eq,and_assoc] at h;exact h
def Ci3{l m:By}{kd:Int}{a:By}{v4 b c d e f g h i j:Int}{k:By}(h0:smU l m a k=true)(h1:ltN v4 4294967296=true)(n:ok8 b c d e f g h i=true)(o:Qf j=true) :
  (Gn (mkU l m kd a v4 (n8 b c d e f g h i) j k)).length<=400000000:=by
 obtain⟨r,t,u,v⟩:=HS h0;have p:=LU (Bx8 (h0:=kd) (h1:=a) h1 n);rw[RS] at p;have q:=SJ o;unfold Gn mkU QQ;simp only;split
 ·split<;>split<;>simp only[k9,j4,x9]<;>omega
 ·simp only[k9,j4];omega
def C45(c n:By)(m:Int)(a:By)(v4 e f g h i j k l b:Int)(d:By)(h0:smU c n a d=true)(h1:ltN v4 4294967296=true)(t:ok8 e f g h i j k l=true)(x:Qf b=true) :
  ∃r H,Un LF c n m a v4 e f g h i j k l b d (λu q=>rv (.s (.str u)) q)=rv r H/\r.stab [] H = .s (.str (Gn (mkU c n m a v4 (n8 e f g h i j k l) b d))):=by
 obtain⟨D,F,G,I⟩:=HS h0;have A:=LU (Bx8 (h0:=m) (h1:=a) h1 t);have C:=SJ x;have key:∀T:By,Un LF c n m a v4 e f g h i j k l b d (λu q=>rv (.s (.str u)) q)=rv (.s (.str T)) [bU c n m a v4 e f g h i j k l b d]->T=Gn (mkU c n m a v4 (n8 e f g h i j k l) b d)->∃r H,Un LF c n m a v4 e f g h i j k l b d (λu q=>rv (.s (.str u)) q)=rv r H/\r.stab [] H = .s (.str (Gn (mkU c n m a v4 (n8 e f g h i j k l) b d))):=λT y z=>⟨_,_,y,by rw[<-z];rfl⟩
 have w:A2 a.length=true:=R0;cases o:G3 c with
 | false=>
  refine key (c++[58]++d) ?_ ?_
  ·unfold Un;rw[o,J4 (by omega)];simp only[vl,aa,p5];rw[J4 (by simp;omega)];rfl
  ·unfold Gn mkU;simp only[o];simp
 | true=>
  have B:=A;by_cases v:n=[]
  ·subst v;have e0:(([]:By)==([]:By))=true:=rfl;by_cases p:b=-1
   ·subst p;refine key (((c++[58,47,47])++Y4 (mkH m a v4 (n8 e f g h i j k l)))++d) ?_ ?_
    ·unfold Un;rw[o,w,h1,t,e0];simp only[vl,aa,ab,j9,show((-1:Int)!=-1)=false from rfl]
     repeat rw[J4 (by first|omega|(simp only[k9,j4,x9];omega))]
     rfl
    ·unfold Gn mkU QQ;simp[o,RS]
   ·refine key (((c++[58,47,47])++Y4 (mkH m a v4 (n8 e f g h i j k l)))++([58]++Pv b)++d) ?_ ?_
    ·unfold Un;rw[o,w,h1,t,x,e0];simp only[vl,aa,ab,j9,show(b !=-1)=true by simpa using p]
     repeat rw[J4 (by first|omega|(simp only[k9,j4,x9];omega))]
     rfl
    ·unfold Gn mkU QQ;simp[o,RS,p]
  ·have e0:(n==([]:By))=false:=by simpa using v
   by_cases p:b=-1
   ·subst p;refine key (((c++[58,47,47])++(n++[64])++Y4 (mkH m a v4 (n8 e f g h i j k l)))++d) ?_ ?_
    ·unfold Un;rw[o,w,h1,t,e0];simp only[vl,aa,ab,j9,p5,show((-1:Int)!=-1)=false from rfl]
     repeat rw[J4 (by first|omega|(simp only[k9,j4,x9];omega))]
     rfl
    ·unfold Gn mkU QQ;simp[o,RS,v]
   ·refine key (((c++[58,47,47])++(n++[64])++Y4 (mkH m a v4 (n8 e f g h i j k l)))++([58]++Pv b)++d) ?_ ?_
    ·unfold Un;rw[o,w,h1,t,x,e0];simp only[vl,aa,ab,j9,p5,show(b !=-1)=true by simpa using p]
     repeat rw[J4 (by first|omega|(simp only[k9,j4,x9];omega))]
     rfl
    ·unfold Gn mkU QQ;simp[o,RS,p,v]
def Dg1{a:Int}{k:Nat}(d:k<4):(a==(k:Int))=(k==(if ltN a 4 then a.toNat else 4)):=by
 rw[w6,beq_iff_eq,beq_iff_eq];cases h:ltN a 4 with
 | true=>
  obtain⟨b,c⟩:=E7.1 h;rw[ac rfl];omega
 | false=>
  rw[ae (by simp)];have:¬(0<=a/\a<4):=λq=>by
   have:=E7.2 q;rw[h] at this;cases this
  omega
def XT(a b:By):(a==b)=(b==a):=by rw[w6,beq_iff_eq,beq_iff_eq];exact eq_comm
def Df6(a b:Int):(a==b)=(b==a):=by rw[w6,beq_iff_eq,beq_iff_eq];exact eq_comm
def Gx(a b:Nat):((a:Int)==(b:Int))=(b==a):=by rw[w6,beq_iff_eq,beq_iff_eq];omega
def B51{F G:By}{Q:Int}{B:By}{v4 a b c d f g h i C:Int}{D:By}{p:Y0 × Nat}(R:ltN v4 4294967296=true)(S:ok8 a b c d f g h i=true)(V:Aj4 p.1) :
  ((F==(uS p))&&((G==(uU p))&&((Q==(uK p))&&((B==(uN p))&&((v4==(uV p))&&((a==(uA p 0))&&((b==(uA p 1))&&((c==(uA p 2))&&((d==(uA p 3))&&((f==(uA p 4))&&((g==(uA p 5))&&((h==(uA p 6))&&((i==(uA p 7))&&((C==(uP p))&&((D==(uR p))&&true)))))))))))))))=eqU p.1 (mkU F G Q B v4 (n8 a b c d f g h i) C D):=by
 obtain⟨⟨s,u,⟨k,n,v,l⟩,q,t⟩,e⟩:=p;obtain⟨P,_⟩:=V;obtain⟨H,I,J,K,L,M,N,O,rfl⟩:=eq8 P.v6.1;obtain⟨j,m,o,r,x,y,z,A,rfl,rfl,rfl,rfl,rfl,rfl,rfl,rfl,_⟩:=Th S;obtain⟨w,rfl⟩:=aa9 (E7.1 R).1;have T:k<4:=P.kd;have U:(([H,I,J,K,L,M,N,O]:List Nat)==[j,m,o,r,x,y,z,A])=((H==j)&&((I==m)&&((J==o)&&((K==r)&&((L==x)&&((M==y)&&((N==z)&&((O==A)&&true)))))))):=rfl;simp only[eqU,eqH,mkU,Cv7,n8,p4,U,af2,af1];rw[Dg1 T,XT F,XT G,XT B,XT D,Df6 C,Gx w,Gx j,Gx m,Gx o,Gx r,Gx x,Gx y,Gx z,Gx A];simp only[Bool.and_assoc,ad2];rfl
def Br2(m n:By)(kd:Int)(j:By)(v4 a b c d f g h i k:Int)(l:By)(u:smU m n j l=true)(o:ltN v4 4294967296=true)(q:ok8 a b c d f g h i=true)(v:Qf k=true) :
  ∃r H,HW LF m n kd j v4 a b c d f g h i k l (λz w=>rv (.s (.bool z)) w)=rv r H/\r.stab [] H = .s (.bool (Wy (mkU m n kd j v4 (n8 a b c d f g h i) k l))):=by
 have A:=Ci3 (kd:=kd) u o q v;unfold HW Wy;rw[u,o,q,v];simp only[vl,aa];rw[R0,aa];have x:=At3 (Gn (mkU m n kd j v4 (n8 a b c d f g h i) k l));rw[B51 o q x];generalize H3 (Gn (mkU m n kd j v4 (n8 a b c d f g h i) k l))=p;obtain⟨y,e⟩:=p;by_cases t:e=0
 ·subst t;exact⟨_,_,rfl,rfl⟩
 ·rw[show(uE (y,e)==(0:Int))=false by simpa using t,show(e==0)=false by simpa using t];exact⟨_,_,rfl,rfl⟩
end
section
open Go
def ofB(u:Y0):Bool:=G3 u.sch&&Wy u
structure OC where
 s:By
 k:Int
 n:By
 v:Int
 a:List Int
 p:Int
 b:Bool
def ofC(i n:By)(j:Int)(k:By)(v4 a b c d e f g h l:Int)(m:By):OC:=
 cond (ofB (mkU i n j k v4 (n8 a b c d e f g h) l m)) ⟨i,j,k,v4,[a,b,c,d,e,f,g,h],prt i l,true⟩ ⟨[],0,[],0,[0,0,0,0,0,0,0,0],0,false⟩
abbrev oS(c:OC):By:=c.s
abbrev oK(c:OC):Int:=c.k
abbrev oN(c:OC):By:=c.n
abbrev oV(c:OC):Int:=c.v
abbrev oA(c:OC)(i:Nat):Int:=c.a.getD i 0
abbrev oP(c:OC):Int:=c.p
abbrev oB(c:OC):Bool:=c.b
def D92:By:=[108,111,99,97,108,104,111,115,116]
def Ar7(i:Int)(j:By)(v4 a b c d e f g h:Int):Bool:=
 cond (N7 (mkH i j v4 (n8 a b c d e f g h))) (cond (i==2) (Sa .u32 v4 24==127) (cond (i==3) ((a==0)&&((b==0)&&((c==0)&&((d==0)&&((e==0)&&((f==0)&&((g==0)&&((h==1)&&true)))))))) (Nw D92 j))) false
def Co7:By:=[102,105,108,101]
def KF:By:=[97,98,111,117,116]
def EH(i n:By)(k:Int)(l:By)(v4 a b c d e f g h m:Int)(j:By):Bool:=
 cond (Wy (mkU i n k l v4 (n8 a b c d e f g h) m j)) (cond (i==Qq||(i==Al2||i==Co7)) true (cond (i==KF) (j==[98,108,97,110,107]||j==[115,114,99,100,111,99]) (cond (G3 i) (Ar7 k l v4 a b c d e f g h) false))) false
def Du7(n:Int):Bool:=!ltI n 1&&!ltI 22 n
def D93(n:Int)(a:Bool):Int:=cond (n==4) 1 (cond (n==2||(n==20||(n==9&&!a))) 2 (cond (Du7 n) 3 0))
def B85(l:List By)(s:By):Int:=match l.findIdx? (· == s) with|some i=>(i:Int)|none=>-1
def R7(l:List By)(s:By):Bool:=l.any (· == s)
def Bd2(l:List By)(h:C1):Bool:=N7 h&&R7 l (Y4 h)
end
section
open Go Go.Op
def B88(c:Int):Bool:=c==32||c==9
def MG(c:Int):Bool:=B88 c||(c==10||(c==12||c==13))
def spB(b:UInt8):Bool:=MG (b.toNat:Int)
def EL(a:By):By->List By
 | []=>if a.isEmpty then [] else [a]
 | c::r=>if spB c then (if a.isEmpty then EL [] r else a::EL [] r) else EL (a++[c]) r
def U0(s:By):List By:=EL [] s
def smL(s:By):Bool:=A2 s.length
def AX:∀(s a:By),(∀x∈EL a s,x.length<=a.length+s.length)/\(EL a s).length<=s.length+(if a.isEmpty then 0 else 1)
 | [],a=>by
  unfold EL;split
  ·exact⟨λx b=>(by cases b),ag9 _⟩
  ·exact⟨λx b=>(by simp at b;subst b;simp),by simp[*]⟩
 | c::r,a=>by
  unfold EL;split
  ·split
   ·obtain⟨d,e⟩:=AX r [];refine⟨λx b=>?_,?_⟩
    ·have:=d x b;simp at this ⊢;omega
    ·simp at e ⊢;omega
   ·obtain⟨d,e⟩:=AX r [];refine⟨λx b=>?_,?_⟩
    ·rcases af6.1 b with rfl|b
     ·omega
     ·have:=d x b;simp at this ⊢;omega
    ·simp at e ⊢;omega
  ·obtain⟨d,e⟩:=AX r (a++[c]);refine⟨λx b=>?_,?_⟩
   ·have:=d x b;simp at this ⊢;omega
   ·simp at e ⊢;omega
def C58{s:By}(h:A2 s.length=true):A2 (C2 (U0 s)).length=true/\((C2 (U0 s)).map elS).all smL=true:=by have d:=M5 h;obtain⟨a,b⟩:=AX s [];refine⟨D9 (by rw[C3];unfold U0;simp at b;omega),?_⟩;rw[show(C2 (U0 s)).map elS=U0 s by unfold C2;rw[ag3];exact af5 (λ_=>rfl) _];exact v7.2 λx c=>D9 (by have:=a x c;simp at this;omega)
def OX(d:By):List By:=match U0 d with
 | []=>[]
 | w::_=>[C5 w]
def Rf(t:By):List By:=(pcs 44 t).flatMap λp=>(pcs 59 p).flatMap OX
def KA(a:List By)(n:By):List By:=cond (R7 a n) a (a++[n])
def MU:List By->List By->List By × Int
 | [],a=>(a,0)
 | v::r,a=>cond (ltI 4096 (v.length:Int)) ([],3) (MU r ((Rf v).foldl KA a))
def K8(l:List By):List By × Int:=MU l []
def OM:By:=[117,112,103,114,97,100,101,45,105,110,115,101,99,117,114,101,45,114,101,113,117,101,115,116,115]
def CC:By:=[98,108,111,99,107,45,97,108,108,45,109,105,120,101,100,45,99,111,110,116,101,110,116]
def Yu:List SV->Bool
 | [.str _,.sl z _ k a]=>(Nat.beq k 1||(z&&a.isEmpty))&&a.all isS
 | _=>false
def Ag1(a:List SV):Bool:=ab3 (elS a).length 10000000&&ab3 ((a.getD 1 .nilp).gE).length 1000
abbrev FrV:=By × List By
def U7(a:List SV):FrV:=(elS a,((a.getD 1 .nilp).gE).map elS)
def Pf(l:List FrV):Bool:=ab3 l.length 20&&l.all λf=>ltN f.1.length 3001&&(ab3 f.2.length 6&&Lk 5000 f.2)
def O9:List By->List By
 | []=>[]
 | [a]=>[a]
 | l=>l.mergeSort λx y=>decide (x<=y)
def AL(l:List By):O9 l=l.mergeSort λx y=>decide (x<=y):=by unfold O9;split<;>simp
structure UO where
 e:Int
 s:Bool
 p:Bool
 u:Bool
 b:Bool
 h:List By
abbrev cE(c:UO):Int:=c.e
abbrev cS(c:UO):Bool:=c.s
abbrev cP(c:UO):Bool:=c.p
abbrev cU(c:UO):Bool:=c.u
abbrev cB(c:UO):Bool:=c.b
abbrev cH(c:UO):List By:=c.h
def OZ(e:Int):UO:=⟨e,false,false,false,false,[]⟩
abbrev trQ(p:Y0 × Nat):Bool:=EH (uS p) (uU p) (uK p) (uN p) (uV p) (uA p 0) (uA p 1) (uA p 2) (uA p 3) (uA p 4) (uA p 5) (uA p 6) (uA p 7) (uP p) (uR p)
abbrev hsQ(p:Y0 × Nat):By:=Y4 (mkH (uK p) (uN p) (uV p) (n8 (uA p 0) (uA p 1) (uA p 2) (uA p 3) (uA p 4) (uA p 5) (uA p 6) (uA p 7)))
def trF(a:Bool)(p:Y0 × Nat):Bool:=cond (uS p !=KF) (G3 (uS p)&&trQ p) a
def upF(c:List By):Bool:=R7 (K8 c).1 OM
def Vk:List FrV->Bool->Bool->Bool->Bool->Bool->List By->UO
 | [],e,d,up,c,b,a=>⟨0,e,d,up,c,j1 (O9 a)⟩
 | f::r,e,d,up,c,b,a=>cond (uE (C7 f.1)!=0) (OZ (uE (C7 f.1))) (cond ((K8 f.2).2 !=0) (OZ (K8 f.2).2)
   (Vk r (e&&trF b (C7 f.1)) (d||trF b (C7 f.1)) (up||upF f.2) (c||R7 (K8 f.2).1 CC) (trF b (C7 f.1))
    (cond (upF f.2&&G3 (uS (C7 f.1))) (a++[hsQ (C7 f.1)]) a)))
def T0(l:List FrV):UO:=cond (l.isEmpty||ltI 16 (l.length:Int)) (OZ 3) (Vk l true false false false false [])
def Dk(l:List By):(C2 l).map elS=l:=by unfold C2;rw[ag3];exact af5 (λ_=>rfl) _
def Cq7(d:Array By)(m:Nat):(x5 d m).length<=m:=by unfold x5;rw[x3];exact ai2 (List.length_filter_le _ _) (by simp)
def Bw6(l:List By):(j1 l).length<=l.length:=Cq7 _ _
def RD(d:Array By):∀m,0<m->(x5 d m).getLast? = some d[m-1]!
 | 0,h=>absurd h (by omega)
 | m+1,_=>by
  rw[ab5];cases a:ad6 d m with
  | true=>rw[ac rfl];simp
  | false=>
   rw[ae (by simp),ah1];have b:0<m:=by
    apply Nat.pos_of_ne_zero;rintro rfl;rw[Lib.keeps_lt_one d 0 (by omega)] at a;cases a
   rw[RD d m b];have:d[m]! = d[m-1]!:=by
    simp only[ad6,decide_eq_false_iff_not,not_or,ag0] at a;exact a.2
   simp[this]
def Dx1{l:List By}(h:l≠[]):j1 l≠[]:=by intro e;have:=RD l.toArray l.length (ab9.2 h);rw[show x5 l.toArray l.length=[] from e] at this;cases this
def LC(d:Array By)(x:By):∀m,x∈x5 d m↔∃i,i<m/\d[i]! = x
 | 0=>by simp[x5]
 | m+1=>by
  rw[ab5,ah2,LC d x m];cases b:ad6 d m with
  | true=>
   simp only[if_true,aa1];constructor
   ·rintro(⟨i,a,e⟩|e)
    ·exact⟨i,by omega,e⟩
    ·exact⟨m,by omega,e.symm⟩
   ·rintro⟨i,a,e⟩;by_cases q:i=m
    ·exact .inr (by rw[<-e,q])
    ·exact .inl ⟨i,by omega,e⟩
  | false=>
   simp only[aa0,if_false,ad8,or_false];constructor
   ·rintro⟨i,a,e⟩;exact⟨i,by omega,e⟩
   ·rintro⟨i,a,e⟩;by_cases q:i=m
    ·subst q;simp only[ad6,decide_eq_false_iff_not,not_or,ag0] at b;exact⟨i-1,by omega,by rw[<-b.2];exact e⟩
    ·exact⟨i,by omega,e⟩
def Da8{l:List By}{x:By}:x∈j1 l↔x∈l:=by
 unfold j1;rw[LC];constructor
 ·rintro⟨i,a,rfl⟩;rw[getElem!_pos _ _ (by simpa using a)];simp
 ·intro h;obtain⟨i,a,rfl⟩:=af3 h;exact⟨i,a,by rw[getElem!_pos _ _ (by simpa using a)];simp⟩
def C18{l:List By}{x:By}:x∈O9 l↔x∈l:=by rw[AL];exact List.mem_mergeSort
def OH(l:List By):(O9 l).length=l.length:=by rw[AL];exact List.length_mergeSort l
def Dw9{l:List By}{x:By}:x∈j1 (O9 l)↔x∈l:=by rw[Da8,C18]
def RE(d:Array By)(R:By->By->Prop)(t:∀a b c,R a b->R b c->R a c)(l:∀i j,i<j->j<d.size->d[i]!≠d[j]!->R d[i]! d[j]!)(f:∀i j k,i<j->j<k->k<d.size->d[i]! = d[k]!->d[i]! = d[j]!) :
  ∀m,m<=d.size->(x5 d m).Pairwise R
 | 0,_=>by simp[x5]
 | m+1,hm=>by
  rw[ab5];have o:=RE d R t l f m (by omega);cases n:ad6 d m with
  | false=>simpa using o
  | true=>
   rw[ac rfl,List.pairwise_append];refine⟨o,by simp,λa p b g=>?_⟩;simp only[aa1] at g;subst g;obtain⟨i,r,rfl⟩:=(LC d _ m).1 p;refine l i m r (by omega) λe=>?_
   simp only[ad6,af] at n;rcases n with h|h
   ·omega
   ·by_cases q:i=m-1
    ·exact h (by rw[<-q];exact e.symm)
    ·exact h ((f i (m-1) m (by omega) (by omega) (by omega) e).symm.trans e).symm
end
section
open Go Go.Proofs
section
def D91:List PV->Tr
 | [.agg [.s (.str l),.s (.str m),.s (.int .i64 n),.s (.str i),.s (.int .u32 v4),.s (.int .u16 a),.s (.int .u16 b),.s (.int .u16 c),.s (.int .u16 d),.s (.int .u16 e),.s (.int .u16 f),.s (.int .u16 g),.s (.int .u16 h),.s (.int .i64 j),.s (.str k)]]=>.need (smU l m i k) (.need (ltN v4 4294967296) (.need (ok8 a b c d e f g h) (.need (Qf j) (.ret (.tup [.agg [.s (.str (oS (ofC l m n i v4 a b c d e f g h j k))),.s (.int .i64 (oK (ofC l m n i v4 a b c d e f g h j k))),.s (.str (oN (ofC l m n i v4 a b c d e f g h j k))),.s (.int .u32 (oV (ofC l m n i v4 a b c d e f g h j k))),.s (.int .u16 (oA (ofC l m n i v4 a b c d e f g h j k) 0)),.s (.int .u16 (oA (ofC l m n i v4 a b c d e f g h j k) 1)),.s (.int .u16 (oA (ofC l m n i v4 a b c d e f g h j k) 2)),.s (.int .u16 (oA (ofC l m n i v4 a b c d e f g h j k) 3)),.s (.int .u16 (oA (ofC l m n i v4 a b c d e f g h j k) 4)),.s (.int .u16 (oA (ofC l m n i v4 a b c d e f g h j k) 5)),.s (.int .u16 (oA (ofC l m n i v4 a b c d e f g h j k) 6)),.s (.int .u16 (oA (ofC l m n i v4 a b c d e f g h j k) 7)),.s (.int .i64 (oP (ofC l m n i v4 a b c d e f g h j k)))],.s (.bool (oB (ofC l m n i v4 a b c d e f g h j k)))]) []))))
 | _=>.fail
def IS:List PV->Tr
 | [.agg [.s (.int .i64 j),.s (.str i),.s (.int .u32 v4),.s (.int .u16 a),.s (.int .u16 b),.s (.int .u16 c),.s (.int .u16 d),.s (.int .u16 e),.s (.int .u16 f),.s (.int .u16 g),.s (.int .u16 h)]]=>.need (A2 (j2 i)) (.need (ltN v4 4294967296) (.need (ok8 a b c d e f g h) (.ret (.s (.bool (Ar7 j i v4 a b c d e f g h))) [])))
 | _=>.fail
def Bu2(args:List PV):Tr:=IS (D5 [[0,0,0,0,0,0,0,0,0,0,0]] args)
def BI:List PV->Tr
 | [.agg [.s (.str l),.s (.str m),.s (.int .i64 n),.s (.str i),.s (.int .u32 v4),.s (.int .u16 a),.s (.int .u16 b),.s (.int .u16 c),.s (.int .u16 d),.s (.int .u16 e),.s (.int .u16 f),.s (.int .u16 g),.s (.int .u16 h),.s (.int .i64 j),.s (.str k)]]=>.need (smU l m i k) (.need (ltN v4 4294967296) (.need (ok8 a b c d e f g h) (.need (Qf j) (.ret (.s (.bool (EH l m n i v4 a b c d e f g h j k))) []))))
 | _=>.fail
def IT(args:List PV):Tr:=BI (D5 [[0,0,0,0,0,0,0,0,0,0,0,0,0,0,0]] args)
def D52:List PV->Tr
 | [.s (.int .i64 n)]=>.ret (.s (.bool (Du7 n))) []
 | _=>.fail
def D89:List PV->Tr
 | [.s (.int .i64 n),.s (.bool a)]=>.ret (.s (.int .i64 (D93 n a))) []
 | _=>.fail
def JP:List PV->Tr
 | [.s (.sl b a 1 l),.s (.str s)]=>.need (w8 l isS) (.need (A2 (j2 l)) (.ret (.s (.int .i64 (B85 (o5 elS l) s))) []))
 | _=>.fail
def Bv2(args:List PV):Tr:=JP (D5 [[1],[0]] args)
def JN:List PV->Tr
 | [.s (.sl b a 1 l),.s (.str s)]=>.need (w8 l isS) (.need (A2 (j2 l)) (.ret (.s (.bool (R7 (o5 elS l) s))) []))
 | _=>.fail
def GR(args:List PV):Tr:=JN (D5 [[1],[0]] args)
def UR:List PV->Tr
 | [.agg [.s (.bool p),.s (.bool o),.s (.bool up),.s (.bool n),.s (.sl m k 1 l)],.agg [.s (.int .i64 j),.s (.str i),.s (.int .u32 v4),.s (.int .u16 a),.s (.int .u16 b),.s (.int .u16 c),.s (.int .u16 d),.s (.int .u16 e),.s (.int .u16 f),.s (.int .u16 g),.s (.int .u16 h)]]=>.need (w8 l isS) (.need (A2 (j2 l)) (.need (A2 (j2 i)) (.need (ltN v4 4294967296) (.need (ok8 a b c d e f g h) (.ret (.s (.bool (Bd2 (o5 elS l) (mkH j i v4 (n8 a b c d e f g h))))) [])))))
 | _=>.fail
def IA(args:List PV):Tr:=UR (D5 [[0,0,0,0,1],[0,0,0,0,0,0,0,0,0,0,0]] args)
def VJ:List PV->Tr
 | [.s (.int .u8 c)]=>.ret (.s (.bool (B88 c))) []
 | _=>.fail
def Cm5(args:List PV):Tr:=VJ (D5 [[0]] args)
def IJ:List PV->Tr
 | [.s (.int .u8 c)]=>.ret (.s (.bool (MG c))) []
 | _=>.fail
def Bt6(args:List PV):Tr:=IJ (D5 [[0]] args)
def JW:List PV->Tr
 | [.s (.str s)]=>.need (A2 (j2 s)) (.ret (.s (.sl (p9 (U0 s)) (p9 (U0 s)) 1 (C2 (U0 s)))) [])
 | _=>.fail
def XL(args:List PV):Tr:=JW (D5 [[0]] args)
def UQ:List PV->Tr
 | [.s (.str t)]=>.ret (.fnr (x4 71) [] [.ptr 0 0 0]) [.box [.s (.str t)]]
 | _=>.fail
def A13(args:List PV):Tr:=UQ (D5 [[0]] args)
def GO:List PV->List Blk->Option (Bool × List (List PV))
 | [.yd,.ptr 0 0 0],[.box [.s (.str t)]]=>some ((A2 (j2 t)),o5 (λ(x:By)=>([.s (.str x)]:List PV)) (Rf t))
 | _,_=>none
def BB:List PV->Tr
 | [.s (.sl b a 1 l)]=>.need (w8 l isS) (.need (ab3 (j2 l) 1000) (.ret (.tup [.agg [.s (.bool (R7 ((K8 (o5 elS l))).1 OM)),.s (.bool (R7 ((K8 (o5 elS l))).1 CC)),.s (.sl (p9 ((K8 (o5 elS l))).1) (p9 ((K8 (o5 elS l))).1) 1 (C2 ((K8 (o5 elS l))).1))],.s (.int .i64 ((K8 (o5 elS l))).2)]) []))
 | _=>.fail
def HZ(args:List PV):Tr:=BB (D5 [[1]] args)
def Xf:SV->List (List SV)->Bool × List (List SV)
 | .nilp,l=>(((w8 l isS)&&(A2 (j2 l))),(C2 (O9 (o5 elS l))))
 | _,_=>(false,[])
def Ng:List PV->List Blk->Tr
 | [.fl 0],[.arr z 9 1 l]=>.need (w8 l isS) (.need (A2 (j2 l)) (.ret (.fl 0) [.arr z 9 1 (C2 (j1 (o5 elS l)))]))
 | _,_=>.fail
def BA:List PV->Tr
 | [.s (.sl b a 2 l)]=>.need (w8 l Yu) (.need (w8 l Ag1) (.need (A2 (j2 l)) (.ret (.tup [.agg [.s (.bool (cS (T0 (o5 U7 l)))),.s (.bool (cP (T0 (o5 U7 l)))),.s (.bool (cU (T0 (o5 U7 l)))),.s (.bool (cB (T0 (o5 U7 l)))),.fl 0],.s (.int .i64 (cE (T0 (o5 U7 l))))]) [.arr true 9 1 (C2 (cH (T0 (o5 U7 l))))])))
 | _=>.fail
def Qj(args:List PV):Tr:=BA (D5 [[2]] args)
def VO:List PV->Tr
 | [.s (.sl b a 2 l)]=>.need (w8 l Yu) (.ret (.s (.bool (Pf (o5 U7 l)))) [])
 | _=>.fail
def A19(args:List PV):Tr:=VO (D5 [[2]] args)
def Up:List PV->Tr
 | []=>.ret (.s (.bool true)) []
 | _=>.fail
def AZ(args:List PV):Tr:=Up (D5 [] args)
end
end
section
open Go
abbrev hK(p:C1 × Nat):Int:=(p.1.kind:Int)
abbrev hN(p:C1 × Nat):By:=p.1.name
abbrev hV(p:C1 × Nat):Int:=(p.1.v4:Int)
abbrev hA(p:C1 × Nat)(i:Nat):Int:=(p.1.v6.getD i 0:Int)
abbrev e0:By:=[]
end
section
open Go Go.Proofs
section
variable {W R : Type} (Y : Nat) (J : G4) (Q : Yh W) (s : W) (k : Out -> St W -> Option R)
noncomputable def A57(Y:Nat):Cfg:=D0 Y [148] (A4 []) []
 (A4 [(1,[2]),(0,[0])]) [] (A4 []) (some [2]) [] [] []
noncomputable def Df8(Y:Nat)(a:Int)(b:Bool->Option R):Option R:=
 cond (a==32)
 (b true)
 (b (a==9))
def Df9(d:Nat)(b0):evC (A57 Y) (d+1) W Q 148 [p8 b0] [] s=Df8 Y b0 (λa=>some (pB a,[],s)):=by refine(evE (fn:=Tryz.f148) (by kernel_rfl)).trans ?_;generalize evC (A57 Y) d=J;unfold Df8;kernel_rfl
noncomputable def YA(Y:Nat):Cfg:=D0 Y [115] (A4 []) [(148,Cm5)]
 (A4 [(1,[2]),(0,[0])]) [148] (A4 []) (some [2]) [] [] []
noncomputable def By4(Y:Nat)(a:Int)(b:Bool->Option R):Option R:=
 cond (B88 a)
 (b true)
 (cond (a==10)
  (b true)
  (cond (a==12)
  (b true)
  (b (a==13))))
def Cu3(d:Nat)(b0):evC (YA Y) (d+1) W Q 115 [p8 b0] [] s=By4 Y b0 (λa=>some (pB a,[],s)):=by refine(evE (fn:=Tryz.f115) (by kernel_rfl)).trans ?_;generalize evC (YA Y) d=J;unfold By4;kernel_rfl
noncomputable abbrev Nj:Code:=D4 ah9
noncomputable def Y8(Y:Nat):Cfg:=D0 Y [72] (A4 [(4,[0,1,0,0,0])]) [(115,Bt6)]
 (A4 [(10,[2]),(5,[0,2,0,0]),(9,[0,2,0,0]),(8,[0,2,1]),(7,[0,2,0,0,19]),(6,[0,2,0,0,16]),(4,[0,2,0,0,3]),(3,[0,2,0,0]),(2,[0,2,0]),(1,[0,2]),(0,[0])]) [115] (A4 [(0,[3]),(1,[0,2,0,0])]) (some [2]) [] [] []
abbrev Kbe(R:Type):=By->Int->Int->LL->Option R
noncomputable def Nb(c:By)(a b:Int)(d:LL)(e:Kbe R):Option R:=
 cond (ltI a b)
 (cond (L3 a b c.length)
  (cond (G0 (d.length+1))
  (e c (A1 (b+1)) b (d++[[(SV.str (cut c a b))]])) none) none)
 (e c (A1 (b+1)) b d)
abbrev Wz(b:Code):Prop:=∀(k:Out->St W->Option R) d a c b3 l4,A9 (Y8 Y) J Q b ⟨gp [(0,pS d),(2,.fl 0),(0,pI a),(0,pI c),(16,pB b3)] 13,[.arr true 9 1 l4],s⟩ k =
 Nb d a c l4 (λd a c e=>k .normal ⟨gp [(0,pS d),(2,.fl 0),(0,pI a),(0,pI c)] 30,[.arr true 9 1 e],s⟩)
def A00:Wz (R:=R) Y J Q s (cd [1,1,1,0,1,0,0,1,0,0,1] Nj):=by intro k e a c b d;unfold Nb;kernel_rfl
noncomputable def Al(Y n:Nat)(e:By)(a d:Int)(g:LL)(f:LL->Option R):Option R:=match n with
 | 0=>none
 | n+1=>
  cond (not (ltI (e.length:Int) d))
   (cond (ltI d (e.length:Int))
   (cond (inR d e.length)
    (cond (not (MG (bAt e d)))
    (Al Y n e a (A1 (d+1)) g f)
    (Nb e a d g (λm b h j=>Al Y n m b (A1 (h+1)) j f))) none)
   (Nb e a d g (λo c i l=>Al Y n o c (A1 (i+1)) l f)))
   (f g)
def A01(a:Code)(c:Wz (R:=R) Y J Q s a)(n:Nat)(g:By)(b f:Int)(h:LL):E0 1 ((Y8 Y).keep 4) (bd (Y8 Y) J Q (cd [1,1,1,0,1,0,0] (I2 [1,1,1,0,1,0,0,1,0,0,1] a Nj))) n ⟨gp [(0,pS g),(2,.fl 0),(0,pI b),(0,pI f)] 30,[.arr true 9 1 h],s⟩ k =
 Al Y n g b f h (λt=>k (.exit 0) ⟨gp [(3,.fl 0)] 32,[.arr true 9 1 t],s⟩):=by
 induction n generalizing g b f h with
 | zero=>rfl
 | succ n l=>rw[Al];exact let r:=(F0 1 (F5 (Y8 Y) J Q (cd [1,1,1,0,1,0,0,1,1] Nj) (lpK 1 ((Y8 Y).keep 4) (bd (Y8 Y) J Q (cd [1,1,1,0,1,0,0] (I2 [1,1,1,0,1,0,0,1,0,0,1] a Nj))) n k)));(j8 (by kernel_rfl) (A0 (A0 (A0 (A0 (l g b (A1 (f+1)) h) ((c r g b f (not (MG (bAt g f))) h).trans (congr rfl (fx4 λp d i m=>(j8 (by kernel_rfl) (l p d (A1 (i+1)) m)))))) rfl) ((c r g b f false h).trans (congr rfl (fx4 λq e j o=>(j8 (by kernel_rfl) (l q e (A1 (j+1)) o)))))) rfl))
noncomputable def Az9(Y:Nat)(c:By)(b:LL->(List Blk)->Option R):Option R:=
 Al Y Y c 0 0 [] (λa=>b a [])
def C56(a:Code)(b:Wz (R:=PV × List Blk × W) Y J Q s a)(c:By):A9 (Y8 Y) J Q (cd [] (I2 [1,1,1,0,1,0,0,1,0,0,1] a Nj)) ⟨[pS c]++tps 35,[],s⟩ (G1 (Y8 Y) ah9)=Az9 Y c (λe d=>some (.fl 0,(.arr true 9 1 e::d),s)):=by unfold Az9;exact(j8 (by kernel_rfl) ((A01 Y J Q s (F0 0 (F5 (Y8 Y) J Q (cd [1,1,1,1] Nj) (G1 (Y8 Y) ah9))) a b Y c 0 0 []).trans (by kernel_rfl)))
def C57(d:Nat)(s0):evC (Y8 Y) (d+1) W Q 72 [pS s0] [] s=Az9 Y s0 (λb a=>some (.fl 0,(.arr true 9 1 b::a),s)):=
 (evE (fn:=ah9) (by kernel_rfl)).trans (j8 (by kernel_rfl) (C56 Y (evC (Y8 Y) d) Q s (cd [1,1,1,0,1,0,0,1,0,0,1] Nj) (A00 Y (evC (Y8 Y) d) Q s) s0))
noncomputable abbrev B26(c:By):Option (PV × List Blk × Unit):=Az9 LF c (λb a=>some (.fl 0,(.arr true 9 1 b::a),()))
noncomputable def A47(Y:Nat):Cfg:=D0 Y [40] (A4 []) []
 (A4 [(1,[2]),(0,[1])]) [] (A4 []) (some [2]) [] [] []
noncomputable def Dx0(Y:Nat)(a:By)(b:By->(List Blk)->Option R):Option R:=
 b a []
def Da7(d:Nat)(value0):evC (A47 Y) (d+1) W Q 40 [pS value0] [] s=Dx0 Y value0 (λb a=>some (.fnr (x4 71) [] [.ptr 0 0 0],(.box [pS b]::a),s)):=by refine(evE (fn:=Tryz.f40) (by kernel_rfl)).trans ?_;generalize evC (A47 Y) d=J;unfold Dx0;kernel_rfl
noncomputable abbrev Cx:Code:=D4 ah6
noncomputable def Q2(Y:Nat):Cfg:=D0 Y [20] (A4 [(4,[2,0,0,0,4,0,0])]) [(40,A13),(16,GR)]
 (A4 [(16,[2,0]),(15,[2,1]),(14,[2,1]),(13,[2,1,0,4,0,0]),(12,[2,1,0,4,0,0]),(11,[2,1,0,2,1,0,0]),(10,[2,1,0,2,1,0,0,13]),(9,[2,1,0,2,1,0,0]),(8,[2,1,0,4,0,0,8]),(7,[2,0]),(6,[2,1,0,1,2,0,0,5]),(5,[2,1,0,1,2,0,0]),(4,[2,1,0,4,0,0,0]),(3,[2,1,0,4,0,0]),(2,[0,1,1,0]),(1,[0,1,1]),(0,[0,1])]) [16] (A4 [(0,[2,1]),(1,[2,1,0,4,0,0]),(2,[2,1,0,4,0,0]),(3,[2,1,0,4,0,0])]) (some [2,0]) [] [(71,GO)] [] (nt:=[(52,2,9,1),(1000052,2,9,1),(1000022,0,9,1)])
abbrev Kah(R:Type):=Bool->Bool->LL->Int->Int->LL->MS->Option R
noncomputable def Nv(Y:Nat)(a:By)(xs:List By)(self:Kah R)(h g:Bool)(d:LL)(e f:Int)(c:LL)(b:MS)(i:Kah R):Option R:=
 cond ((!(Ae b a))||(Di5 ⟨true,false,[.bool]⟩ (Z1 [] b a)))
 (cond (not ((Ae b a)&&(SV.gB (af0 (Z1 [] b a) 0 SV.nilp))))
  (cond (G0 (c.length+1))
  (self h g d e f (c++[[(SV.str a)]]) (Dd b a [(SV.bool true)])) none)
  (self h g d e f c b))
 none
noncomputable def Lx(Y:Nat)(L:List By)(h f:Bool)(a:LL)(c d:Int)(b:LL)(e:MS)(i:Kah R):Option R:=
 Cy4 (α:=Kah R) i (λg xs self h f a c d b e=>Nv Y g xs self h f a c d b e i) L h f a c d b e
def EX(Y:Nat)(a:By)(xs:List By)(h g:Bool)(b:LL)(d e:Int)(c:LL)(f:MS)(i:Kah R):Lx Y (a::xs) h g b d e c f i=Nv Y a xs (λh g b d e c f=>Lx Y xs h g b d e c f i) h g b d e c f i:=rfl
def ZL(L:List By)(f e:Bool)(b:LL)(c d:Int)(g:LL)(h:MS):U4 #[22] (gp [(2,.ptr 1 0 0),(1,.ptr 3 0 0),(0,.ptr 5 0 0),(4,.s (.sl f e 1 b)),(0,pI c),(0,pI d),(8,.fnr (x4 71) [] [.bad])] 23) (bd (Q2 Y) J Q (cd [1,1,1,0,1,0,0,1,1,0,0,1,1,1,0,0] Cx)) (bd (Q2 Y) J Q (cd [1,1,1,0,1,0,0,1,1,0,0,1,1,1,0,1] Cx)) (L.map (λ(a:By)=>([pS a]:List PV))) [.arr true 9 1 [],.box [pB false,pB false,.fl 0],.arr true 9 1 g,.box [pB false,pB false,.fl 2],.ms false h,.box [.it 4],.dead] s (rgK (gp [(2,.ptr 1 0 0),(1,.ptr 3 0 0),(0,.ptr 5 0 0),(4,.s (.sl f e 1 b)),(0,pI c),(0,pI d),(8,.fnr (x4 71) [] [.bad])] 23) (λH=>W4 H [6] [.box [.bad]]) k) =
 Lx Y L f e b c d g h (λf e b c d g h=>k .normal ⟨gp [(2,.ptr 1 0 0),(1,.ptr 3 0 0),(0,.ptr 5 0 0),(4,.s (.sl f e 1 b)),(0,pI c),(0,pI d),(8,.fnr (x4 71) [] [.bad])] 23,[.arr true 9 1 [],.box [pB false,pB false,.fl 0],.arr true 9 1 g,.box [pB false,pB false,.fl 2],.ms false h,.box [.it 4],.box [.bad]],s⟩):=by
 induction L generalizing f e b c d g h with
 | nil=>rfl
 | cons a xs i=>rw[EX];unfold Nv;exact(j8 (by kernel_rfl) (A0 (A0 (A0 (i f e b c d (g++[[(SV.str a)]]) (Dd h a [(SV.bool true)])) rfl) (i f e b c d g h)) rfl))
noncomputable def Lw(Y:Nat)(i h:Bool)(c:LL)(e f:Int)(d:LL)(g:MS)(a:By)(b:Kah R):Option R:=
 cond (A2 a.length) (Lx Y (Rf a) i h c e f d g b) none
abbrev Re(b:Code):Prop:=∀(k:Out->St W->Option R) h g a d e c f s7,A9 (Q2 Y) J Q b ⟨gp [(2,.ptr 1 0 0),(1,.ptr 3 0 0),(0,.ptr 5 0 0),(4,.s (.sl h g 1 a)),(0,pI d),(0,pI e),(8,.fnr (x4 71) [] [.ptr 6 0 0])] 23,[.arr true 9 1 [],.box [pB false,pB false,.fl 0],.arr true 9 1 c,.box [pB false,pB false,.fl 2],.ms false f,.box [.it 4],.box [pS s7]],s⟩ k =
 Lw Y h g a d e c f s7 (λh g a d e c f=>k .normal ⟨gp [(2,.ptr 1 0 0),(1,.ptr 3 0 0),(0,.ptr 5 0 0),(4,.s (.sl h g 1 a)),(0,pI d),(0,pI e),(8,.fnr (x4 71) [] [.bad])] 23,[.arr true 9 1 [],.box [pB false,pB false,.fl 0],.arr true 9 1 c,.box [pB false,pB false,.fl 2],.ms false f,.box [.it 4],.box [.bad]],s⟩)
def ZK:Re (R:=R) Y J Q s (cd [1,1,1,0,1,0,0,1,1,0,0,1,1,1,0] Cx):=by intro k h g a c d b e f;unfold Lw;exact((Bx0 [1,1,1,0,1,0,0,1,1,0,0,1,1,1,0] (by kernel_rfl)).trans (by kernel_rfl)).trans (Oh (ZL Y J Q s k (Rf f) h g a c d b e))
abbrev Kbc(R:Type):=Blk->Blk->Blk->Blk->Blk->(List Blk)->Option R
noncomputable def P6(Y n:Nat)(r q:Bool)(b:LL)(p a:Int)(e:LL)(i:MS)(m:Kbc R)(o:LL->MS->Option R):Option R:=match n with
 | 0=>none
 | n+1=>
  cond (ltI a p)
   (cond (inR a b.length)
   (cond (okE Dr b (j0 a) 0)
    (cond (ltI 4096 (↑(j2 (gX b (j0 a) 0)):Int))
    (m (Blk.arr true 9 1 []) (Blk.arr true 9 1 e) (Blk.box [(PV.s (SV.bool false)),(PV.s (SV.bool false)),(PV.fl 2)]) (Blk.ms false i) (Blk.box [(PV.it 4)]) [])
    (Lw Y r q b p a e i (gX b (j0 a) 0) (λl j c f g d h=>P6 Y n l j c f (A1 (g+1)) d h m o))) none) none)
   (o e i)
def ZM(a:Code)(b:Re (R:=R) Y J Q s a)(n:Nat)(i h:Bool)(c:LL)(f d:Int)(e:LL)(g:MS):E0 6 ((Q2 Y).keep 4) (bd (Q2 Y) J Q (cd [1,1,1,0,1,0,0] (I2 [1,1,1,0,1,0,0,1,1,0,0,1,1,1,0] a Cx))) n ⟨gp [(2,.ptr 1 0 0),(1,.ptr 3 0 0),(0,.ptr 5 0 0),(4,.s (.sl i h 1 c)),(0,pI f),(0,pI d)] 32,[.arr true 9 1 [],.box [pB false,pB false,.fl 0],.arr true 9 1 e,.box [pB false,pB false,.fl 2],.ms false g,.box [.it 4]],s⟩ k =
 P6 Y n i h c f d e g (λt u v w x y=>k .ret ⟨gp [(2,.ptr 1 0 0),(0,pI (3:Int))] 41,(t::.box [pB false,pB false,.fl 6]::u::v::w::x::.arr true 9 1 []::y),s⟩) (λA B=>k (.exit 0) ⟨gp [(2,.ptr 1 0 0),(1,.ptr 3 0 0)] 40,[.arr true 9 1 [],.box [pB false,pB false,.fl 0],.arr true 9 1 A,.box [pB false,pB false,.fl 2],.ms false B,.box [.it 4]],s⟩):=by
 induction n generalizing i h c f d e g with
 | zero=>rfl
 | succ n z=>rw[P6];exact(j8 (by kernel_rfl) (A0 (A0 (A0 (A0 rfl ((b (F0 2 (F0 1 (F5 (Q2 Y) J Q (cd [1,1,1,0,1,0,0,1,1,1] Cx) (lpK 6 ((Q2 Y).keep 4) (bd (Q2 Y) J Q (cd [1,1,1,0,1,0,0] (I2 [1,1,1,0,1,0,0,1,1,0,0,1,1,1,0] a Cx))) n k)))) i h c f d e g (gX c (j0 d) 0)).trans (congr rfl (fx7 λr q j m o l p=>(j8 (by kernel_rfl) (z r q j m (A1 (o+1)) l p)))))) rfl) rfl) rfl))
noncomputable def LB(Y:Nat)(d c:Bool)(b:LL)(m:Blk->Blk->Blk->Blk->Blk->Blk->(List Blk)->Option R)(n:Bool->Bool->Blk->Blk->LL->(List Blk)->Option R):Option R:=
 P6 Y Y d c b (b.length:Int) 0 [] [] (λj l e f g h=>m j (Blk.box [(PV.s (SV.bool false)),(PV.s (SV.bool false)),(PV.fl 6)]) l e f g h) (λa i=>cond (w8 a isS)
 (cond (A2 a.length)
  (cond (w8 a isS)
  (cond (A2 a.length)
   (n (R7 (o5 elS a) ([117,112,103,114,97,100,101,45,105,110,115,101,99,117,114,101,45,114,101,113,117,101,115,116,115]:By)) (R7 (o5 elS a) ([98,108,111,99,107,45,97,108,108,45,109,105,120,101,100,45,99,111,110,116,101,110,116]:By)) (Blk.arr true 9 1 []) (Blk.box [(PV.s (SV.bool (R7 (o5 elS a) ([117,112,103,114,97,100,101,45,105,110,115,101,99,117,114,101,45,114,101,113,117,101,115,116,115]:By)))),(PV.s (SV.bool (R7 (o5 elS a) ([98,108,111,99,107,45,97,108,108,45,109,105,120,101,100,45,99,111,110,116,101,110,116]:By)))),(PV.fl 2)]) a [(Blk.box [(PV.s (SV.bool (R7 (o5 elS a) ([117,112,103,114,97,100,101,45,105,110,115,101,99,117,114,101,45,114,101,113,117,101,115,116,115]:By)))),(PV.s (SV.bool (R7 (o5 elS a) ([98,108,111,99,107,45,97,108,108,45,109,105,120,101,100,45,99,111,110,116,101,110,116]:By)))),(PV.fl 2)]),(Blk.ms false i),(Blk.box [(PV.it 4)])]) none) none) none) none)
def B53(a:Code)(e:Re (R:=PV × List Blk × W) Y J Q s a)(c b:Bool)(d:LL):A9 (Q2 Y) J Q (cd [] (I2 [1,1,1,0,1,0,0,1,1,0,0,1,1,1,0] a Cx)) ⟨[.s (.sl c b 1 d)]++tps 44,[],s⟩ (G1 (Q2 Y) ah6)=LB Y c b d (λh i f g j l n=>some (.tup [.agg [pB false,pB false,.fl 6],pI (3:Int)],(h::i::f::g::j::l::.arr true 9 1 []::n),s)) (λp q f g o m=>some (.tup [.agg [pB p,pB q,.fl 2],pI (0:Int)],(f::g::.arr true 9 1 o::m),s)):=by unfold LB;exact(j8 (by kernel_rfl) ((ZM Y J Q s (F0 0 (F5 (Q2 Y) J Q (cd [1,1,1,1] Cx) (G1 (Q2 Y) ah6))) a e Y c b d (d.length:Int) 0 [] []).trans (by kernel_rfl)))
def B54(d:Nat)(values_z0 values_t1 values2):evC (Q2 Y) (d+1) W Q 20 [.s (.sl values_z0 values_t1 1 values2)] [] s=LB Y values_z0 values_t1 values2 (λc e a b f g i=>some (.tup [.agg [pB false,pB false,.fl 6],pI (3:Int)],(c::e::a::b::f::g::.arr true 9 1 []::i),s)) (λl m a b j h=>some (.tup [.agg [pB l,pB m,.fl 2],pI (0:Int)],(a::b::.arr true 9 1 j::h),s)):=
 (evE (fn:=ah6) (by kernel_rfl)).trans (j8 (by kernel_rfl) (B53 Y (evC (Q2 Y) d) Q s (cd [1,1,1,0,1,0,0,1,1,0,0,1,1,1,0] Cx) (ZK Y (evC (Q2 Y) d) Q s) values_z0 values_t1 values2))
noncomputable abbrev An3(b a:Bool)(c:LL):Option (PV × List Blk × Unit):=LB LF b a c (λf g d e h i l=>some (.tup [.agg [pB false,pB false,.fl 6],pI (3:Int)],(f::g::d::e::h::i::.arr true 9 1 []::l),())) (λn o d e m j=>some (.tup [.agg [pB n,pB o,.fl 2],pI (0:Int)],(d::e::.arr true 9 1 m::j),()))
noncomputable abbrev Co9:Code:=D4 ai7
noncomputable def Vm(Y:Nat):Cfg:=D0 Y [10] (A4 [(4,[0,1,0])]) [(6,Aj9)]
 (A4 [(8,[2]),(5,[0,2]),(7,[2]),(6,[0,2,33]),(4,[0,2,6]),(3,[0,2]),(2,[2]),(1,[0,5]),(0,[0])]) [6] (A4 [(0,[]),(1,[0,2])]) (some [2]) [] [] []
noncomputable def Oe(Y n:Nat)(e d:Bool)(b:LL)(a:Int)(f:Unit->Option R)(h:Unit->Option R):Option R:=match n with
 | 0=>none
 | n+1=>
  cond (ltI a (b.length:Int))
   (cond (inR a b.length)
   (cond (okE Dr b (j0 a) 0)
    (cond (ltI 3000 (↑(j2 (gX b (j0 a) 0)):Int))
    (f ())
    (cond (inR a b.length)
     (cond (okE ⟨true,false,[.sl 1]⟩ b (j0 a) 1)
     (vl (SV.gE (gC b (j0 a) 1)) λg=>
      cond (ltI 6 (g.length:Int))
      (f ())
      (cond (inR a b.length)
       (cond (okE ⟨true,false,[.sl 1]⟩ b (j0 a) 1)
       (vl (SV.gE (gC b (j0 a) 1)) λc=>
        cond (w8 c isS)
        (cond (A2 c.length)
         (cond (not (Lk (5000:Int) (o5 elS c)))
         (f ())
         (Oe Y n e d b (A1 (a+1)) f h)) none) none) none) none)) none) none)) none) none)
   (h ())
def Ba9(n l_z0 l_t1 l2 i3):E0 0 ((Vm Y).keep 4) (bd (Vm Y) J Q (cd [1,1,0,1,0,0] Co9)) n ⟨gp [(0,.s (.sl l_z0 l_t1 2 l2)),(2,pI i3)] 34,[],s⟩ k =
 Oe Y n l_z0 l_t1 l2 i3 (λ_=>k .ret ⟨gp [(2,pB false)] 35,[],s⟩) (λ_=>k (.exit 0) ⟨gp [] 38,[],s⟩):=by
 induction n generalizing l_z0 l_t1 l2 i3 with
 | zero=>rfl
 | succ n a=>rw[Oe];simp only[<-a];kernel_rfl
noncomputable def Dg2(Y:Nat)(b a:Bool)(d:LL)(c:Bool->Option R):Option R:=
 cond (ltI 20 (d.length:Int))
 (c false)
 (Oe Y Y b a d 0 (λ_=>c false) (λ_=>c true))
def Dg3(d:Nat)(l_z0 l_t1 l2):evC (Vm Y) (d+1) W Q 10 [.s (.sl l_z0 l_t1 2 l2)] [] s=Dg2 Y l_z0 l_t1 l2 (λa=>some (pB a,[],s)):=by refine(evE (fn:=ai7) (by kernel_rfl)).trans ?_;generalize evC (Vm Y) d=J;unfold Dg2;exact(j8 (by kernel_rfl) (A0 rfl ((Ba9 Y J Q s (F0 0 (F5 (Vm Y) J Q (cd [1,1,1] Co9) (G1 (Vm Y) ai7))) Y l_z0 l_t1 l2 0).trans (by kernel_rfl))))
noncomputable abbrev Br:Code:=D4 ah8
noncomputable def V4(Y:Nat):Cfg:=D0 Y [71] (A4 []) [(59,JO),(72,XL),(66,IN)]
 (A4 [(6,[2,22]),(5,[2,2]),(4,[2,1]),(3,[2,7]),(2,[2,0]),(1,[2,4]),(0,[1,0])]) [66] (A4 [(0,[]),(1,[2]),(2,[2]),(3,[2])]) (some []) [] [(126,Sp)] []
noncomputable def Hy{W R:Type}(Q:Yh W)(Y:Nat)(a:By)(xs:List By)(self:By->W->Option R)(e:By)(s:W)(g:By->W->Option R)(f:By->W->Option R):Option R:=
 cond (A2 a.length)
 (cond (ltI 0 (↑(j2 (C2 (U0 a))):Int))
  (cond (inR 0 (j2 (C2 (U0 a))))
  (cond (okE Dr (C2 (U0 a)) 0 0)
   (vl (gX (C2 (U0 a)) 0 0) λd=>
   cond (A2 d.length)
    (ydK (Q [pS (C5 d)] s) λc b=>
    (cond (not c)
     (f e b)
     (self e b))) none) none) none)
  (self e s))
 none
noncomputable def R6{W R:Type}(Q:Yh W)(Y:Nat)(L:List By)(a:By)(s:W)(c:By->W->Option R)(d:By->W->Option R):Option R:=
 Cy4 (α:=By->W->Option R) c (λb xs self a s=>Hy Q Y b xs self a s c d) L a s
def A67{W R:Type}(Q:Yh W)(Y:Nat)(a:By)(xs:List By)(b:By)(s:W)(c:By->W->Option R)(d:By->W->Option R):R6 Q Y (a::xs) b s c d=Hy Q Y a xs (λb s=>R6 Q Y xs b s c d) b s c d:=rfl
def An1(L:List By)(a:By)(s:W):U4 #[11] (gp [(2,.ptr 1 0 0),(7,.fnr (x4 126) [] [.bad,.bad,.bad])] 15) (bd (V4 Y) J Q (cd [1,1,0,1,0,1,0,0] Br)) (bd (V4 Y) J Q (cd [1,1,0,1,0,1,0,1] Br)) (L.map (λ(c:By)=>([pS c]:List PV))) [.box [pS a],.box [.yd],.dead,.dead,.dead,.dead,.dead,.dead] s (rgK (gp [(2,.ptr 1 0 0),(7,.fnr (x4 126) [] [.bad,.bad,.bad])] 15) (λH=>W4 H [6,5,7] [.box [.bad],.box [.bad],.box [.bad]]) k) =
 R6 Q Y L a s (λa s=>k .normal ⟨gp [(2,.ptr 1 0 0),(7,.fnr (x4 126) [] [.bad,.bad,.bad])] 15,[.box [pS a],.box [.yd],.dead,.dead,.dead,.box [.bad],.box [.bad],.box [.bad]],s⟩) (λa s=>k .ret ⟨gp [(2,.ptr 1 0 0),(7,.fnr (x4 126) [] [.bad,.bad,.bad])] 15,[.box [pS a],.box [.yd],.dead,.dead,.dead,.box [.bad],.box [.bad],.box [.bad]],s⟩):=by
 induction L generalizing a s with
 | nil=>rfl
 | cons c xs e=>rw[A67];unfold Hy;exact(j8 (by kernel_rfl) (A0 (A0 (A0 (A0 (A5 λf=>(A0 (C91 λd b=>(A0 rfl (e a b))) rfl)) rfl) rfl) (e a s)) rfl))
noncomputable def Xu{W R:Type}(Q:Yh W)(Y:Nat)(d a:By)(s:W)(b:By->W->Option R)(c:By->W->Option R):Option R:=
 cond ((A2 a.length)&&((1==1)&&((0:Int)==0))) (R6 Q Y (pcs (af0 ([59]:By) 0 0) a) d s b c) none
abbrev Vy(b:Code):Prop:=∀(k:Out->St W->Option R) a s1 s,A9 (V4 Y) J Q b ⟨gp [(2,.ptr 1 0 0),(7,.fnr (x4 126) [] [.ptr 6 0 0,.ptr 5 0 0,.ptr 7 0 0])] 15,[.box [pS a],.box [.yd],.dead,.dead,.dead,.box [pS s1],.box [pS ([59]:By)],.box [pI (0:Int)]],s⟩ k =
 Xu Q Y a s1 s (λa s=>k .normal ⟨gp [(2,.ptr 1 0 0),(7,.fnr (x4 126) [] [.bad,.bad,.bad])] 15,[.box [pS a],.box [.yd],.dead,.dead,.dead,.box [.bad],.box [.bad],.box [.bad]],s⟩) (λa s=>k .ret ⟨gp [(2,.ptr 1 0 0),(7,.fnr (x4 126) [] [.bad,.bad,.bad])] 15,[.box [pS a],.box [.yd],.dead,.dead,.dead,.box [.bad],.box [.bad],.box [.bad]],s⟩)
def Am8:Vy (R:=R) Y J Q (cd [1,1,0,1,0,1,0] Br):=by intro k a b s;unfold Xu;exact((Bx0 [1,1,0,1,0,1,0] (by kernel_rfl)).trans (by kernel_rfl)).trans (Oh (An1 Y J Q k (pcs (af0 ([59]:By) 0 0) b) a s))
noncomputable def Lv{W R:Type}(Q:Yh W)(Y:Nat)(a:By)(xs:List By)(self:By->W->Option R)(c:By)(s:W)(d:By->W->Option R)(b:By->W->Option R):Option R:=
 Xu Q Y c a s self b
noncomputable def Z9{W R:Type}(Q:Yh W)(Y:Nat)(L:List By)(a:By)(s:W)(c:By->W->Option R)(d:By->W->Option R):Option R:=
 Cy4 (α:=By->W->Option R) c (λb xs self a s=>Lv Q Y b xs self a s c d) L a s
def A68{W R:Type}(Q:Yh W)(Y:Nat)(a:By)(xs:List By)(b:By)(s:W)(c:By->W->Option R)(d:By->W->Option R):Z9 Q Y (a::xs) b s c d=Lv Q Y a xs (λb s=>Z9 Q Y xs b s c d) b s c d:=rfl
def An2(a:Code)(b:Vy (R:=R) Y J Q a)(L:List By)(d:By)(s:W):U4 #[8] (gp [(2,.ptr 1 0 0),(4,.fnr (x4 126) [] [.bad,.bad,.bad])] 18) (bd (V4 Y) J Q (cd [1,1,0,0] Br)) (bd (V4 Y) J Q (cd [1,1,0,1] (I2 [1,1,0,1,0,1,0] a Br))) (L.map (λ(c:By)=>([pS c]:List PV))) [.box [pS d],.box [.yd],.dead,.dead,.dead] s (rgK (gp [(2,.ptr 1 0 0),(4,.fnr (x4 126) [] [.bad,.bad,.bad])] 18) (λH=>W4 H [3,2,4] [.box [.bad],.box [.bad],.box [.bad]]) k) =
 Z9 Q Y L d s (λd s=>k .normal ⟨gp [(2,.ptr 1 0 0),(4,.fnr (x4 126) [] [.bad,.bad,.bad])] 18,[.box [pS d],.box [.yd],.box [.bad],.box [.bad],.box [.bad]],s⟩) (λd s=>k .ret ⟨gp [(2,.ptr 1 0 0),(4,.fnr (x4 126) [] [.bad,.bad,.bad])] 18,[.box [pS d],.box [.yd],.box [.bad],.box [.bad],.box [.bad]],s⟩):=by
 induction L generalizing d s with
 | nil=>rfl
 | cons c xs g=>rw[A68];unfold Lv;exact(j8 (by kernel_rfl) ((b (F0 2 (F0 1 (rdB #[8] (gp [(2,.ptr 1 0 0),(4,.fnr (x4 126) [] [.bad,.bad,.bad])] 18) (bd (V4 Y) J Q (cd [1,1,0,0] Br)) (bd (V4 Y) J Q (cd [1,1,0,1] (I2 [1,1,0,1,0,1,0] a Br))) (o5 (λ(c:By)=>([pS c]:List PV)) xs) 5 (rgK (gp [(2,.ptr 1 0 0),(4,.fnr (x4 126) [] [.bad,.bad,.bad])] 18) (λH=>W4 H [3,2,4] [.box [.bad],.box [.bad],.box [.bad]]) k)))) d c s).trans (congr (congr rfl (fx2 λe f=>(j8 (by kernel_rfl) (g e f)))) (by kernel_rfl))))
noncomputable def Xv{W R:Type}(Q:Yh W)(Y:Nat)(a:By)(s:W)(b:By->W->Option R)(c:By->W->Option R):Option R:=
 cond ((A2 a.length)&&((1==1)&&((0:Int)==0))) (Z9 Q Y (pcs (af0 ([44]:By) 0 0) a) a s b c) none
abbrev Vz(b:Code):Prop:=∀(k:Out->St W->Option R) a s,A9 (V4 Y) J Q b ⟨gp [(2,.ptr 1 0 0),(4,.fnr (x4 126) [] [.ptr 3 0 0,.ptr 2 0 0,.ptr 4 0 0])] 18,[.box [pS a],.box [.yd],.box [pS a],.box [pS ([44]:By)],.box [pI (0:Int)]],s⟩ k =
 Xv Q Y a s (λa s=>k .normal ⟨gp [(2,.ptr 1 0 0),(4,.fnr (x4 126) [] [.bad,.bad,.bad])] 18,[.box [pS a],.box [.yd],.box [.bad],.box [.bad],.box [.bad]],s⟩) (λa s=>k .ret ⟨gp [(2,.ptr 1 0 0),(4,.fnr (x4 126) [] [.bad,.bad,.bad])] 18,[.box [pS a],.box [.yd],.box [.bad],.box [.bad],.box [.bad]],s⟩)
def Am9(a:Code)(b:Vy (R:=R) Y J Q a):Vz (R:=R) Y J Q (cd [1,1,0] (I2 [1,1,0,1,0,1,0] a Br)):=by intro k c s;unfold Xv;exact((Bx0 [1,1,0] (by kernel_rfl)).trans (by kernel_rfl)).trans (Oh (An2 Y J Q k a b (pcs (af0 ([44]:By) 0 0) c) c s))
def An0:Vz (R:=R) Y J Q (cd [1,1,0] Br):=by intro k a s;exact j8 (by kernel_rfl) (Am9 Y J Q (cd [1,1,0,1,0,1,0] Br) (Am8 Y J Q) k a s)
noncomputable def RC{W R:Type}(Q:Yh W)(Y:Nat)(t:By)(s:W)(a:By->W->Option R):Option R:=
 Xv Q Y t s a a
def Cq5(b:Code)(a:Vz (R:=PV × List Blk × W) Y J Q b)(t:By)(s:W):A9 (V4 Y) J Q (cd [] (I2 [1,1,0] b Br)) ⟨[.yd,.ptr 0 0 0]++tps 24,[.box [pS t]],s⟩ (G1 (V4 Y) ah8)=RC Q Y t s (λc s=>some (.tup [],[.box [pS c],.box [.yd],.box [.bad],.box [.bad],.box [.bad]],s)):=by unfold RC;exact(j8 (by kernel_rfl) ((a (F0 0 (G1 (V4 Y) ah8)) t s).trans (by kernel_rfl)))
def Cq6(d:Nat)(t s):evC (V4 Y) (d+1) W Q 71 [.yd,.ptr 0 0 0] [.box [pS t]] s=RC Q Y t s (λa s=>some (.tup [],[.box [pS a],.box [.yd],.box [.bad],.box [.bad],.box [.bad]],s)):=
 (evE (fn:=ah8) (by kernel_rfl)).trans (j8 (by kernel_rfl) (Cq5 Y (evC (V4 Y) d) Q (cd [1,1,0] Br) (An0 Y (evC (V4 Y) d) Q) t s))
end
end
section
open Go Go.Op
def B91{a:Bool->Option R}(c:Int):Df8 LF c a=a (B88 c):=by unfold Df8 B88;cases (c==32)<;>rfl
def Ba6{a:Bool->Option R}(c:Int):By4 LF c a=a (MG c):=by unfold By4 MG;cases B88 c<;>cases (c==10)<;>cases (c==12)<;>rfl
def Cr2{s:By}{a b:Nat}(h:a<b)(c:b<=s.length):(cut s (a:Int) (b:Int)).isEmpty=false:=by rw[Fc,List.isEmpty_eq_false_iff];intro e;have:=congrArg j2 e;simp at this;omega
def Br7{k0:LL->Option R}(s:By)(p:s.length<=1000000000):∀(r i a n:Nat) (l:List By),i+r=s.length->r+1<n->a<=i->l.length<=i->
  Al LF n s (a:Int) (i:Int) (C2 l) k0=k0 (C2 (l++EL (cut s (a:Int) (i:Int)) (s.drop i))):=by
 intro r
 induction r with
 | zero=>
  intro i a n l j o h k;rcases n with _|n;omega
  rcases n with _|n;omega
  have d:i=s.length:=by omega
  subst d;rw[Al,E4 (by omega),List.drop_length];unfold Nb;have b:A1 ((s.length:Int)+1)=((s.length+1:Nat):Int):=by rw[A6];rfl
  by_cases c:a<s.length
  ·rw[C6 (by omega),Y7 (by omega) (by omega) (by omega),C3,F4 (by omega),b];simp only[p5,aa,ab];rw[Al,C6 (by omega),EL,Cr2 c (ad0 _)];simp only[j9,ab,aa0,if_false,Fx];rfl
  ·obtain rfl:a=s.length:=by omega
   rw[E4 (by omega),b];simp only[p5,aa,ab];rw[Al,C6 (by omega),EL,Wa];simp
 | succ r f=>
  intro i a n l j o h k;rcases n with _|n;omega
  have b:A1 ((i:Int)+1)=((i+1:Nat):Int):=by rw[A6];rfl
  rw[Al,E4 (by omega),C6 (by omega),K6 (by omega) (by omega),F6,G2 s i (by omega),b];simp only[p5,aa];unfold Nb;have e:MG ((s.getD i 0).toNat:Int)=spB (s.getD i 0):=rfl;rw[e];cases g:spB (s.getD i 0) with
  | false=>
   rw[p5,aa,f (i+1) a n l (by omega) (by omega) (by omega) (by omega),Du6 s a i h (by omega)];rw[EL,g];rfl
  | true=>
   rw[j9,ab,EL,g,ac rfl];by_cases c:a<i
   ·rw[C6 (by omega),Y7 (by omega) (by omega) (by omega),C3,F4 (by omega),b,Cr2 c (by omega)];simp only[aa,aa0,if_false];have:=f (i+1) (i+1) n (l++[cut s (a:Int) (i:Int)]) (by omega) (by omega) (by omega) (by simp;omega);rw[Wa,ag1] at this;rw[b,show C2 l++[[SV.str (cut s (a:Int) (i:Int))]]=C2 (l++[cut s (a:Int) (i:Int)]) by rw[Fx];rfl];exact this
   ·obtain rfl:a=i:=by omega
    rw[E4 (by omega),b,Wa];simp only[ab,List.isEmpty_nil,if_true];have:=f (a+1) (a+1) n l (by omega) (by omega) (by omega) (by omega);rw[Wa] at this;rw[b];exact this
def C59(s:By)(a:A2 s.length=true):∃r H,B26 s=rv r H/\r.stab [1] H = .s (.sl (p9 (U0 s)) (p9 (U0 s)) 1 (C2 (U0 s))):=by
 have c:=M5 a;have b:=D6;have:=Br7 (k0:=λl=>some (PV.fl 0,[Blk.arr true 9 1 l],())) s c s.length 0 0 LF [] (by omega) (by omega) (by omega) (by simp);unfold B26 Az9;refine⟨_,_,this,?_⟩;rw[Wa,ah3,aa5];show PV.stab [1] [Blk.arr true _ 1 (C2 (U0 s))] (.fl 0)=_;simp only[PV.stab,Qb,PV.snap,List.headD_cons,p6,x7];have:(C2 (U0 s)).isEmpty=(U0 s).isEmpty:=by cases U0 s<;>rfl
 rw[this];rfl
abbrev yS(l:List By):List (List PV):=l.map λx=>[.s (.str x)]
def Dn7{d:Type}{b:Yh d}{x:By}{l:List By}{s c:d}(h:T3 b (yS (x::l)) s=some c) :
  (∃a,b [.s (.str x)] s=some (true,a)/\T3 b (yS l) a=some c)\/b [.s (.str x)] s=some (false,c):=by
 simp only[yS,aa2,T3] at h;split at h
 ·rename_i a e;exact .inl ⟨a,e,h⟩
 ·rename_i a e;simp only[j6] at h;subst h;exact .inr e
 ·cases h
def Rd{i R:Type}(e:Yh i)(d:By)(f:List By)(m:i):∀(L:List By) (s:i),(∀x∈L,A2 x.length=true)->T3 e (yS (L.flatMap OX++f)) s=some m->
  (∃g,(∀(c a:By->i->Option R),R6 e LF L d s c a=c d g)/\T3 e (yS f) g=some m)\/(∀(c a:By->i->Option R),R6 e LF L d s c a=a d m)
 | [],s,_,h=>.inl ⟨s,λc a=>rfl,h⟩
 | x::xs,s,A,h=>by
  have p:=A x (by simp);have l:∀y∈xs,A2 y.length=true:=λy F=>A y (by simp[F])
  have e0:∀c a:By->i->Option R,R6 e LF (x::xs) d s c a=Hy e LF x xs (λd s=>R6 e LF xs d s c a) d s c a:=λ_ _=>rfl
  cases k:U0 x with
  | nil=>
   have j:∀c a:By->i->Option R,R6 e LF (x::xs) d s c a=R6 e LF xs d s c a:=λc a=>by
    rw[e0];unfold Hy;rw[p,k];rfl
   have n:OX x=[]:=by unfold OX;rw[k]
   rw[ab1,n,ah3] at h;rcases Rd (R:=R) e d f m xs s l h with⟨g,r,t⟩|q
   ·exact .inl ⟨g,λc a=>(j c a).trans (r c a),t⟩
   ·exact .inr λc a=>(j c a).trans (q c a)
  | cons w B=>
   have o:A2 w.length=true:=by
    have z:=(C58 p).2;rw[k,Dk] at z;exact(v7.1 z) w (by simp)
   have j:∀c a:By->i->Option R,R6 e LF (x::xs) d s c a=ydK (e [pS (C5 w)] s) λb g=>cond (not b) (a d g) (R6 e LF xs d g c a):=λc a=>by
    rw[e0];unfold Hy;rw[p,k,C3,j4,C6 (by omega),K6 (by omega) (by omega)];have C:okE Dr (C2 (w::B)) 0 0=true:=rfl;have D:gX (C2 (w::B)) 0 0=w:=rfl;rw[C,D];simp only[aa,vl];rw[o];rfl
   have n:OX x=[C5 w]:=by unfold OX;rw[k]
   rw[ab1,n,List.singleton_append,ag5] at h;rcases Dn7 h with⟨g,u,H⟩|u
   ·have v:∀c a:By->i->Option R,R6 e LF (x::xs) d s c a=R6 e LF xs d g c a:=λc a=>by rw[j,u];rfl
    rcases Rd (R:=R) e d f m xs g l H with⟨G,r,t⟩|q
    ·exact .inl ⟨G,λc a=>(v c a).trans (r c a),t⟩
    ·exact .inr λc a=>(v c a).trans (q c a)
   ·exact .inr λc a=>by rw[j,u];rfl
def EW{f R:Type}(d:Yh f)(c:By)(e:List By)(g:f):∀(L:List By) (s:f),(∀x∈L,A2 x.length=true)->T3 d (yS (L.flatMap (λp=>(pcs 59 p).flatMap OX)++e)) s=some g->
  (∃i,(∀(b a:By->f->Option R),Z9 d LF L c s b a=b c i)/\T3 d (yS e) i=some g)\/(∀(b a:By->f->Option R),Z9 d LF L c s b a=a c g)
 | [],s,_,h=>.inl ⟨s,λb a=>rfl,h⟩
 | x::xs,s,m,h=>by
  have n:=m x (by simp);have k:∀y∈xs,A2 y.length=true:=λy l=>m y (by simp[l])
  have j:∀b a:By->f->Option R,Z9 d LF (x::xs) c s b a=R6 d LF (pcs 59 x) c s (λc s=>Z9 d LF xs c s b a) a:=λb a=>by
   have e0:Z9 d LF (x::xs) c s b a=Lv d LF x xs (λc s=>Z9 d LF xs c s b a) c s b a:=rfl;rw[e0];unfold Lv Xu;rw[n];rfl
  have t:∀y∈pcs 59 x,A2 y.length=true:=λy l=>D9 (by have:=(Av l).2;have:=M5 n;omega)
  rw[ab1,ag1] at h;rcases Rd (R:=R) d c _ g (pcs 59 x) s t h with⟨i,o,u⟩|q
  ·rcases EW (R:=R) d c e g xs i k u with⟨z,v,w⟩|r
   ·exact .inl ⟨z,λb a=>by rw[j,o,v],w⟩
   ·exact .inr λb a=>by rw[j,o,r]
  ·exact .inr λb a=>by rw[j,q]
def A69{d R:Type}(b:Yh d)(t:By)(s c:d)(h:A2 t.length=true)(g:T3 b ((Rf t).map λx=>([.s (.str x)]:List PV)) s=some c):∀(a:By->d->Option R),RC b LF t s a=a t c:=by
 intro a;have f:∀y∈pcs 44 t,A2 y.length=true:=λy i=>D9 (by have:=(Av i).2;have:=M5 h;omega)
 have e:RC b LF t s a=Z9 b LF (pcs 44 t) t s a a:=by
  unfold RC Xv;rw[h];rfl
 rw[e];rcases EW (R:=R) b t [] c (pcs 44 t) s f (by rw[ah1];exact g) with⟨l,j,k⟩|q
 ·have:l=c:=by simpa[yS,T3] using k
  rw[j,this]
 ·exact q a a
def Ag7(c:UInt8):∀(s a:By),((L7 c a s).map λx=>x.length+1).sum=a.length+s.length+1
 | [],a=>by simp[L7]
 | b::r,a=>by
  simp only[L7];split
  ·rw[aa2,af7,Ag7 c r []];simp;omega
  ·rw[Ag7 c r (a++[b])];simp;omega
def Cr5(d:By):(OX d).length<=1:=by unfold OX;split<;>simp
def LS{f:By->List By}{g:By->Nat}(h:∀x,(f x).length<=g x):∀l:List By,(l.flatMap f).length<=(l.map g).sum
 | []=>by simp
 | x::l=>by rw[ab1,k9,aa2,af7];have:=h x;have:=LS h l;omega
def Ay9:∀l:List By,(l.map λ_=>1).sum=l.length
 | []=>rfl
 | x::l=>by rw[aa2,af7,Ay9 l,j4];omega
def Cr6(t:By):(Rf t).length<=t.length+1:=by
 have b:∀p:By,((pcs 59 p).flatMap OX).length<=p.length+1:=λp=>by
  have:=LS Cr5 (pcs 59 p);have a:((pcs 59 p).map λ_=>1).sum=(pcs 59 p).length:=Ay9 _;have c:=Gz 59 p;have d:=Fm 59 p;rw[a] at this;omega
 have:=LS b (pcs 44 t);have a:=Ag7 44 t [];unfold pcs at this;rw[a] at this;unfold Rf pcs;simpa using this
def Ap4:∀(L a:List By),(L.foldl KA a).length<=a.length+L.length
 | [],a=>by simp
 | x::L,a=>by
  have:=Ap4 L (KA a x);have b:(KA a x).length<=a.length+1:=by unfold KA;cases R7 a x<;>simp
  simp only[ae4,j4];omega
def Mj(l:List By):MS:=l.map λn=>(n,[SV.bool true])
def As1(x:By):∀l:List By,Ae (Mj l) x=R7 l x
 | []=>rfl
 | n::l=>by
  have h:=As1 x l;unfold Mj at h;simp only[Mj,aa2,Ae,R7,ad4,h];rw[ai4 (a:=x) (b:=n)];cases n==x<;>rfl
def As0(x:By):∀l:List By,R7 l x=true->Z1 [] (Mj l) x=[SV.bool true]
 | [],h=>by cases h
 | n::l,h=>by
  simp only[Mj,aa2,Z1];rw[ai4 (a:=x) (b:=n)];simp only[R7,ad4] at h;cases c:(n==x) with
  | true=>rfl
  | false=>rw[c] at h;exact As0 x l h
def As2(x:By):∀l:List By,R7 l x=false->Dd (Mj l) x [SV.bool true]=Mj (l++[x])
 | [],h=>rfl
 | n::l,h=>by
  simp only[R7,ad4,ae7] at h;simp only[Mj,aa2,Dd,ag5];rw[ai4 (a:=x) (b:=n),h.1,ab];have:=As2 x l h.2;unfold Mj at this;rw[this]
def Nu(z t:Bool)(l:LL)(e f:Int)(d:Kah R):∀(L a:List By),a.length+L.length<=10000000000->
  Lx LF L z t l e f (C2 a) (Mj a) d=d z t l e f (C2 (L.foldl KA a)) (Mj (L.foldl KA a))
 | [],a,_=>rfl
 | x::L,a,g=>by
  rw[j4] at g;rw[EX];unfold Nv;rw[As1];have b:KA a x=cond (R7 a x) a (a++[x]):=rfl;cases c:R7 a x with
  | true=>
   rw[c] at b;rw[As0 x a c,ae4,b];exact Nu z t l e f d L a (by omega)
  | false=>
   rw[c] at b;simp only[p5,ad9,aa,ab0];rw[C3,F4 (by omega),As2 x a c,ae4,b];have:=Nu z t l e f d L (a++[x]) (by simp;omega);rw[Fx] at this;exact this
def ZN(z t:Bool)(l:List By)(v:l.length<=1000):∀(r i n:Nat) (a:List By),i+r=l.length->r<n->a.length<=i*4098->
  ((MU (l.drop i) a).2=0/\(∀(b:Kbc R) (c:LL->MS->Option R),P6 LF n z t (C2 l) (l.length:Int) (i:Int) (C2 a) (Mj a) b c=c (C2 (MU (l.drop i) a).1) (Mj (MU (l.drop i) a).1))/\(MU (l.drop i) a).1.length<=4098000)\/
  (MU (l.drop i) a=([],3)/\∃w x y A B H,∀(b:Kbc R) (c:LL->MS->Option R),P6 LF n z t (C2 l) (l.length:Int) (i:Int) (C2 a) (Mj a) b c=b w x y A B H):=by
 intro r
 induction r with
 | zero=>
  intro i n a I K F;rcases n with _|n;omega
  rw[y7.2 (by omega)];exact .inl ⟨rfl,λb c=>by rw[P6,E4 (by omega)];rfl,by simp only[MU];omega⟩
 | succ r L=>
  intro i n a I K F;rcases n with _|n;omega
  have d:i<l.length:=by omega
  have G:l.drop i=l.getD i []::l.drop (i+1):=by
   rw[x8 d,o6,j7 d];rfl
  have C:A1 ((i:Int)+1)=((i+1:Nat):Int):=by rw[A6];rfl
  have u:∀(b:Kbc R) (c:LL->MS->Option R),P6 LF (n+1) z t (C2 l) (l.length:Int) (i:Int) (C2 a) (Mj a) b c =
    cond (ltI 4096 ((l.getD i []).length:Int)) (b (Blk.arr true 9 1 []) (Blk.arr true 9 1 (C2 a)) (Blk.box [(PV.s (SV.bool false)),(PV.s (SV.bool false)),(PV.fl 2)]) (Blk.ms false (Mj a)) (Blk.box [(PV.it 4)]) [])
     (Lw LF z t (C2 l) (l.length:Int) (i:Int) (C2 a) (Mj a) (l.getD i []) (λq p g j k h o=>P6 LF n q p g j (A1 (k+1)) h o b c)):=λb c=>by
   rw[P6,C6 (by omega),K6 (by omega) (by rw[C3];omega),p4,O0 d,S8];rfl
  have D:MU (l.getD i []::l.drop (i+1)) a=cond (ltI 4096 ((l.getD i []).length:Int)) ([],3) (MU (l.drop (i+1)) ((Rf (l.getD i [])).foldl KA a)):=rfl;rw[G,D];cases f:ltI 4096 ((l.getD i []).length:Int) with
  | true=>exact .inr ⟨rfl,_,_,_,_,_,_,λb c=>by rw[u,f];rfl⟩
  | false=>
   have J:(l.getD i []).length<=4096:=by
    rw[Cd,decide_eq_false_iff_not] at f;omega
   have M:=Cr6 (l.getD i []);have N:=Ap4 (Rf (l.getD i [])) a;have e:∀(b:Kbc R) (c:LL->MS->Option R),P6 LF (n+1) z t (C2 l) (l.length:Int) (i:Int) (C2 a) (Mj a) b c =
     P6 LF n z t (C2 l) (l.length:Int) ((i+1:Nat):Int) (C2 ((Rf (l.getD i [])).foldl KA a)) (Mj ((Rf (l.getD i [])).foldl KA a)) b c:=λb c=>by
    rw[u,f,ab];unfold Lw;rw[D9 (by omega),aa,Nu z t (C2 l) _ _ _ _ a (by omega),C]
   simp only[ab,e];exact L (i+1) n _ (by omega) (by omega) (by omega)
def B55(z t:Bool)(l:LL)(m:l.all isS=true)(f:ab3 l.length 1000=true):∃r H,An3 z t l=rv r H/\r.stab [0,0] H = .tup [.agg [.s (.bool (R7 (K8 (l.map elS)).1 OM)),.s (.bool (R7 (K8 (l.map elS)).1 CC)),.s (.sl (p9 (K8 (l.map elS)).1) (p9 (K8 (l.map elS)).1) 1 (C2 (K8 (l.map elS)).1))],.s (.int .i64 (K8 (l.map elS)).2)]:=by
 have n:=D6;obtain⟨E,rfl⟩:∃E,l=C2 E:=⟨_,Pi m⟩
 rw[C3] at f;have p:=v8 f;rw[Dk];have e0:K8 E=MU (E.drop 0) []:=rfl;have o:(C2 (K8 E).1).isEmpty=(K8 E).1.isEmpty:=by cases (K8 E).1<;>rfl
 unfold An3 LB;rw[C3];rcases ZN (R:=PV × List Blk × Unit) z t E p E.length 0 LF [] (by omega) (by omega) (by simp) with⟨b,e,q⟩|⟨b,g,h,i,j,k,H,e⟩
 ·rw[<-e0] at b e q;have a:∀c d,P6 LF LF z t (C2 E) (E.length:Int) 0 [] [] c d=d (C2 (K8 E).1) (Mj (K8 E).1):=e;simp only[a,Jr,C3,Dk,D9 (show(K8 E).1.length<=1000000000 by omega),aa];rw[b];exact⟨_,_,rfl,by simp only[PV.stab,N5,PV.snap,Qc,Qb,z7,p6,x7,o];rfl⟩
 ·rw[<-e0] at b;have a:∀c d,P6 LF LF z t (C2 E) (E.length:Int) 0 [] [] c d=c g h i j k H:=e;rw[a,b];exact⟨_,_,rfl,rfl⟩
end
section
open Go Go.Proofs
section
variable {W R : Type} (L : Nat) (Q : G4) (Y : Yh W) (s : W) (k : Out -> St W -> Option R)
noncomputable abbrev G7:Code:=D4 ah5
noncomputable def K5(L:Nat):Cfg:=D0 L [11] (A4 [(6,[2,0,0,0,15,0,0])]) [(19,JR),(20,HZ),(21,Sq),(22,IT),(17,IF)]
 (A4 [(25,[2,0]),(24,[2,1]),(23,[2,1]),(22,[2,1,0,15,0,0]),(21,[2,1,0,15,0,0]),(20,[2,1,0,2,12,0,0,65]),(19,[2,1,0,2,1,10,0,0]),(18,[2,1,0,2,1,10,0,0]),(17,[2,1,0,2,1,10,0,0]),(16,[2,1,0,2,1,10,0,0]),(15,[2,1,0,2,1,10,0,0]),(14,[2,1,0,2,1,10,0,0,25]),(13,[2,0]),(12,[2,1,0,2,0,0,10,0,0,20]),(11,[2,1,0,2,0,0,10,0,0]),(10,[2,0]),(9,[2,1,0,1,0,0,11,0,0,10]),(8,[2,1,0,1,0,0,11,0,0]),(7,[2,1,0,1,13,0,0]),(6,[2,1,0,15,0,0,0]),(5,[2,1,0,15,0,0]),(4,[0,1,1,0]),(3,[0,1,1]),(2,[2,0]),(1,[0,1,15]),(0,[0,1])]) [21,22,17] (A4 [(0,[2,1]),(1,[2,1,0,15,0,0])]) (some [2,0]) [(24,Ng)] [] [24] (nt:=[(24,4,9,1),(35,1,9,1),(52,2,9,1),(1000024,4,9,1),(1000035,1,9,1),(1000052,2,9,1),(1000022,0,9,1)]) (Z:=[(23,Xf)])
abbrev Kac(R:Type):=Bool->Bool->Bool->LL->Int->Int->Bool->Bool->Bool->Bool->Bool->Bool->Bool->LL->By->Bool->Bool->LL->By->By->Int->By->Int->Int->Int->Int->Int->Int->Int->Int->Int->Int->By->Bool->Bool->Bool->LL->Option R
abbrev Kaa(R:Type):=Bool->Bool->Bool->LL->Int->Int->Bool->Bool->Bool->Bool->Bool->Bool->Bool->Bool->LL->By->Bool->Bool->LL->By->By->Int->By->Int->Int->Int->Int->Int->Int->Int->Int->Int->Int->By->Bool->Bool->Bool->LL->Option R
noncomputable def Hq(a S P:Bool)(M:LL)(N O:Int)(H I J K o p q r:Bool)(m:LL)(y:By)(D C:Bool)(v:LL)(z A:By)(n:Int)(l:By)(b c d e f g h i j x:Int)(B:By)(t u F:Bool)(w:LL)(T:Kac R)(U:Kaa R):Option R:=
 cond H
 (cond (A2 l.length)
  (cond (ltN b 4294967296)
  (cond (ok8 c d e f g h i j)
   (vl (Y4 (mkH n l b (n8 c d e f g h i j))) λG=>
   cond (G0 (m.length+1))
    (T a S P M N O I J K o p q r (m++[[(SV.str G)]]) y D C v z A n l b c d e f g h i j x B t u F w) none) none) none) none)
 (U a S P M N O H I J K o p q r m y D C v z A n l b c d e f g h i j x B t u F w)
abbrev Ra(b:Code):Prop:=∀(k:Out->St W->Option R) a S P M N O H I J K c d e t v A G F w q B y C g h i j l m n o p z D f u r x,A9 (K5 L) Q Y b ⟨gp [(2,.ptr 1 0 0),(1,.ptr 3 0 0),(0,pB a),(2,.ptr 7 0 0),(12,.s (.sl S P 2 M)),(0,pI N),(0,pI O),(65,pB H)] 17,[.arr true 9 1 [],.box [pB I,pB J,pB K,pB c,.fl 0],.arr true 9 1 [],.box [pB a,pB d,pB e,pB t,.fl 4],.arr true 9 1 v,.arr true 9 1 [],.box [pS A,.s (.sl G F 1 w)],(bU q B y C g h i j l m n o p z D),.arr true 9 1 [],.box [pB f,pB u,.s (.sl r r 1 x)]],s⟩ k =
 Hq a S P M N O H I J K c d e t v A G F w q B y C g h i j l m n o p z D f u r x (λa S P M N O H I J K c d e V a2 a7 a6 X a3 q a0 a4 a1 g h i j l m n o p a5 U f T Z=>k .normal ⟨gp [(2,.ptr 1 0 0),(1,.ptr 3 0 0),(0,pB a),(15,.s (.sl S P 2 M)),(0,pI N),(0,pI O)] 83,[.arr true 9 1 [],.box [pB H,pB I,pB J,pB K,.fl 0],.arr true 9 1 [],.box [pB a,pB c,pB d,pB e,.fl 4],.arr true 9 1 V,.arr true 9 1 [],.box [pS a2,.s (.sl a7 a6 1 X)],(bU a3 q a0 a4 a1 g h i j l m n o p a5),.arr true 9 1 [],.box [pB U,pB f,.s (.sl T T 1 Z)]],s⟩) (λa S P M N O H I J K c d e t v A G F w q B y C g h i j l m n o p z D f u r x=>k .normal ⟨gp [(2,.ptr 1 0 0),(1,.ptr 3 0 0),(0,pB a),(2,.ptr 7 0 0),(12,.s (.sl S P 2 M)),(0,pI N),(0,pI O),(65,pB H)] 17,[.arr true 9 1 [],.box [pB I,pB J,pB K,pB c,.fl 0],.arr true 9 1 [],.box [pB a,pB d,pB e,pB t,.fl 4],.arr true 9 1 v,.arr true 9 1 [],.box [pS A,.s (.sl G F 1 w)],(bU q B y C g h i j l m n o p z D),.arr true 9 1 [],.box [pB f,pB u,.s (.sl r r 1 x)]],s⟩)
def Xp:Ra (R:=R) L Q Y s (cd [1,1,1,1,0,1,0,0,1,1,0,0,1,1,1,1,1,1,1,1,1,1,1] G7):=by intro k a P O K M N G H I J b c d e h x D C i y z l A m n o p q r t u v w B f g F j;unfold Hq;kernel_rfl
noncomputable def Hr(a S P:Bool)(M:LL)(N O:Int)(F G H I d e f:Bool)(h:LL)(x:By)(C B:Bool)(i:LL)(c y:By)(l:Int)(z:By)(m n o p q r t u v w:Int)(A:By)(b g D:Bool)(j:LL)(J:Kac R)(K:Kaa R):Option R:=
 cond b
 (Hq a S P M N O (G3 c) F G H I d e f h x C B i c y l z m n o p q r t u v w A b g D j J K)
 (Hq a S P M N O false F G H I d e f h x C B i c y l z m n o p q r t u v w A b g D j J K)
abbrev Jz(b:Code):Prop:=∀(k:Out->St W->Option R) a P O K M N G H I J c d e u z F D v A q x B y g h i j l m n o p C t f r w,A9 (K5 L) Q Y b ⟨gp [(2,.ptr 1 0 0),(1,.ptr 3 0 0),(0,pB a),(2,.ptr 7 0 0),(1,.ptr 9 0 0),(10,.s (.sl P O 2 K)),(0,pI M),(0,pI N)] 83,[.arr true 9 1 [],.box [pB G,pB H,pB I,pB J,.fl 0],.arr true 9 1 [],.box [pB a,pB c,pB d,pB e,.fl 4],.arr true 9 1 u,.arr true 9 1 [],.box [pS z,.s (.sl F D 1 v)],(bU A q x B y g h i j l m n o p C),.arr true 9 1 [],.box [pB t,pB f,.s (.sl r r 1 w)]],s⟩ k =
 Hr a P O K M N G H I J c d e u z F D v A q x B y g h i j l m n o p C t f r w (λa P O K M N G H I J c d e u z F D v A q x B y g h i j l m n o p C t f r w=>k .normal ⟨gp [(2,.ptr 1 0 0),(1,.ptr 3 0 0),(0,pB a),(15,.s (.sl P O 2 K)),(0,pI M),(0,pI N)] 83,[.arr true 9 1 [],.box [pB G,pB H,pB I,pB J,.fl 0],.arr true 9 1 [],.box [pB a,pB c,pB d,pB e,.fl 4],.arr true 9 1 u,.arr true 9 1 [],.box [pS z,.s (.sl F D 1 v)],(bU A q x B y g h i j l m n o p C),.arr true 9 1 [],.box [pB t,pB f,.s (.sl r r 1 w)]],s⟩) (λa P O K M N G H I J c d e T V a2 a7 a6 X q a3 a0 a4 g h i j l m n o p a1 a5 f U S Z=>k .normal ⟨gp [(2,.ptr 1 0 0),(1,.ptr 3 0 0),(0,pB a),(2,.ptr 7 0 0),(12,.s (.sl P O 2 K)),(0,pI M),(0,pI N),(65,pB G)] 17,[.arr true 9 1 [],.box [pB H,pB I,pB J,pB c,.fl 0],.arr true 9 1 [],.box [pB a,pB d,pB e,pB T,.fl 4],.arr true 9 1 V,.arr true 9 1 [],.box [pS a2,.s (.sl a7 a6 1 X)],(bU q a3 a0 a4 g h i j l m n o p a1 a5),.arr true 9 1 [],.box [pB f,pB U,.s (.sl S S 1 Z)]],s⟩)
def YU(a:Code)(b:Ra (R:=R) L Q Y s a):Jz (R:=R) L Q Y s (cd [1,1,1,1,0,1,0,0,1,1,0,0,1,1,1,1,1,1,1,1,1,1] (I2 [1,1,1,1,0,1,0,0,1,1,0,0,1,1,1,1,1,1,1,1,1,1,1] a G7)):=by intro k c S P M N O H I J K d e f i y F D j z A m B n o p q r t u v w x C g h G l;unfold Hr;simp only[<-b k];kernel_rfl
def Xq:Jz (R:=R) L Q Y s (cd [1,1,1,1,0,1,0,0,1,1,0,0,1,1,1,1,1,1,1,1,1,1] G7):=by intro k a O N J K M F G H I b c d g w C B h x y j z l m n o p q r t u v A e f D i;exact j8 (by kernel_rfl) (YU L Q Y s (cd [1,1,1,1,0,1,0,0,1,1,0,0,1,1,1,1,1,1,1,1,1,1,1] G7) (Xp L Q Y s) k a O N J K M F G H I b c d g w C B h x y j z l m n o p q r t u v A e f D i)
noncomputable def Hs(a S P:Bool)(M:LL)(N O:Int)(F G H I c d D:Bool)(f:LL)(v:By)(B A:Bool)(g:LL)(w x:By)(i:Int)(y:By)(j l m n o p q r t u:Int)(z:By)(e b C:Bool)(h:LL)(J:Kac R)(K:Kaa R):Option R:=
 cond D
 (Hr a S P M N O F G H I c d true f v B A g w x i y j l m n o p q r t u z e b C h J K)
 (Hr a S P M N O F G H I c d b f v B A g w x i y j l m n o p q r t u z e b C h J K)
abbrev Ka(b:Code):Prop:=∀(k:Out->St W->Option R) a P O K M N G H I J c d e u z F D v A q x B y g h i j l m n o p C t f r w,A9 (K5 L) Q Y b ⟨gp [(2,.ptr 1 0 0),(1,.ptr 3 0 0),(0,pB a),(2,.ptr 7 0 0),(1,.ptr 9 0 0),(10,.s (.sl P O 2 K)),(0,pI M),(0,pI N)] 83,[.arr true 9 1 [],.box [pB G,pB H,pB I,pB J,.fl 0],.arr true 9 1 [],.box [pB a,pB c,pB d,pB e,.fl 4],.arr true 9 1 u,.arr true 9 1 [],.box [pS z,.s (.sl F D 1 v)],(bU A q x B y g h i j l m n o p C),.arr true 9 1 [],.box [pB t,pB f,.s (.sl r r 1 w)]],s⟩ k =
 Hs a P O K M N G H I J c d e u z F D v A q x B y g h i j l m n o p C t f r w (λa P O K M N G H I J c d e u z F D v A q x B y g h i j l m n o p C t f r w=>k .normal ⟨gp [(2,.ptr 1 0 0),(1,.ptr 3 0 0),(0,pB a),(15,.s (.sl P O 2 K)),(0,pI M),(0,pI N)] 83,[.arr true 9 1 [],.box [pB G,pB H,pB I,pB J,.fl 0],.arr true 9 1 [],.box [pB a,pB c,pB d,pB e,.fl 4],.arr true 9 1 u,.arr true 9 1 [],.box [pS z,.s (.sl F D 1 v)],(bU A q x B y g h i j l m n o p C),.arr true 9 1 [],.box [pB t,pB f,.s (.sl r r 1 w)]],s⟩) (λa P O K M N G H I J c d e T V a2 a7 a6 X q a3 a0 a4 g h i j l m n o p a1 a5 f U S Z=>k .normal ⟨gp [(2,.ptr 1 0 0),(1,.ptr 3 0 0),(0,pB a),(2,.ptr 7 0 0),(12,.s (.sl P O 2 K)),(0,pI M),(0,pI N),(65,pB G)] 17,[.arr true 9 1 [],.box [pB H,pB I,pB J,pB c,.fl 0],.arr true 9 1 [],.box [pB a,pB d,pB e,pB T,.fl 4],.arr true 9 1 V,.arr true 9 1 [],.box [pS a2,.s (.sl a7 a6 1 X)],(bU q a3 a0 a4 g h i j l m n o p a1 a5),.arr true 9 1 [],.box [pB f,pB U,.s (.sl S S 1 Z)]],s⟩)
def YV(a:Code)(b:Jz (R:=R) L Q Y s a):Ka (R:=R) L Q Y s (cd [1,1,1,1,0,1,0,0,1,1,0,0,1,1,1,1,1,1,1,1,1] (I2 [1,1,1,1,0,1,0,0,1,1,0,0,1,1,1,1,1,1,1,1,1,1] a G7)):=by intro k c S P M N O H I J K d e f i y F D j z A m B n o p q r t u v w x C g h G l;unfold Hs;simp only[<-b k];kernel_rfl
def Xr:Ka (R:=R) L Q Y s (cd [1,1,1,1,0,1,0,0,1,1,0,0,1,1,1,1,1,1,1,1,1] G7):=by intro k a O N J K M F G H I b c d g w C B h x y j z l m n o p q r t u v A e f D i;exact j8 (by kernel_rfl) (YV L Q Y s (cd [1,1,1,1,0,1,0,0,1,1,0,0,1,1,1,1,1,1,1,1,1,1] G7) (Xq L Q Y s) k a O N J K M F G H I b c d g w C B h x y j z l m n o p q r t u v A e f D i)
noncomputable def Ht(a S P:Bool)(M:LL)(N O:Int)(F G H I c D d:Bool)(f:LL)(v:By)(B A:Bool)(g:LL)(w x:By)(i:Int)(y:By)(j l m n o p q r t u:Int)(z:By)(b e C:Bool)(h:LL)(J:Kac R)(K:Kaa R):Option R:=
 cond D
 (Hs a S P M N O F G H I c true d f v B A g w x i y j l m n o p q r t u z b e C h J K)
 (Hs a S P M N O F G H I c b d f v B A g w x i y j l m n o p q r t u z b e C h J K)
abbrev Kb(b:Code):Prop:=∀(k:Out->St W->Option R) a P O K M N G H I J c d e u z F D v A q x B y g h i j l m n o p C t f r w,A9 (K5 L) Q Y b ⟨gp [(2,.ptr 1 0 0),(1,.ptr 3 0 0),(0,pB a),(2,.ptr 7 0 0),(1,.ptr 9 0 0),(10,.s (.sl P O 2 K)),(0,pI M),(0,pI N)] 83,[.arr true 9 1 [],.box [pB G,pB H,pB I,pB J,.fl 0],.arr true 9 1 [],.box [pB a,pB c,pB d,pB e,.fl 4],.arr true 9 1 u,.arr true 9 1 [],.box [pS z,.s (.sl F D 1 v)],(bU A q x B y g h i j l m n o p C),.arr true 9 1 [],.box [pB t,pB f,.s (.sl r r 1 w)]],s⟩ k =
 Ht a P O K M N G H I J c d e u z F D v A q x B y g h i j l m n o p C t f r w (λa P O K M N G H I J c d e u z F D v A q x B y g h i j l m n o p C t f r w=>k .normal ⟨gp [(2,.ptr 1 0 0),(1,.ptr 3 0 0),(0,pB a),(15,.s (.sl P O 2 K)),(0,pI M),(0,pI N)] 83,[.arr true 9 1 [],.box [pB G,pB H,pB I,pB J,.fl 0],.arr true 9 1 [],.box [pB a,pB c,pB d,pB e,.fl 4],.arr true 9 1 u,.arr true 9 1 [],.box [pS z,.s (.sl F D 1 v)],(bU A q x B y g h i j l m n o p C),.arr true 9 1 [],.box [pB t,pB f,.s (.sl r r 1 w)]],s⟩) (λa P O K M N G H I J c d e T V a2 a7 a6 X q a3 a0 a4 g h i j l m n o p a1 a5 f U S Z=>k .normal ⟨gp [(2,.ptr 1 0 0),(1,.ptr 3 0 0),(0,pB a),(2,.ptr 7 0 0),(12,.s (.sl P O 2 K)),(0,pI M),(0,pI N),(65,pB G)] 17,[.arr true 9 1 [],.box [pB H,pB I,pB J,pB c,.fl 0],.arr true 9 1 [],.box [pB a,pB d,pB e,pB T,.fl 4],.arr true 9 1 V,.arr true 9 1 [],.box [pS a2,.s (.sl a7 a6 1 X)],(bU q a3 a0 a4 g h i j l m n o p a1 a5),.arr true 9 1 [],.box [pB f,pB U,.s (.sl S S 1 Z)]],s⟩)
def YW(a:Code)(b:Ka (R:=R) L Q Y s a):Kb (R:=R) L Q Y s (cd [1,1,1,1,0,1,0,0,1,1,0,0,1,1,1,1,1,1,1,1] (I2 [1,1,1,1,0,1,0,0,1,1,0,0,1,1,1,1,1,1,1,1,1] a G7)):=by intro k c S P M N O H I J K d e f i y F D j z A m B n o p q r t u v w x C g h G l;unfold Ht;simp only[<-b k];kernel_rfl
def Xs:Kb (R:=R) L Q Y s (cd [1,1,1,1,0,1,0,0,1,1,0,0,1,1,1,1,1,1,1,1] G7):=by intro k a O N J K M F G H I b c d g w C B h x y j z l m n o p q r t u v A e f D i;exact j8 (by kernel_rfl) (YW L Q Y s (cd [1,1,1,1,0,1,0,0,1,1,0,0,1,1,1,1,1,1,1,1,1] G7) (Xr L Q Y s) k a O N J K M F G H I b c d g w C B h x y j z l m n o p q r t u v A e f D i)
abbrev Kab(R:Type):=Bool->Bool->Bool->LL->Int->Int->Bool->Bool->Bool->Bool->Bool->Bool->Bool->Bool->Bool->LL->By->Bool->Bool->LL->By->By->Int->By->Int->Int->Int->Int->Int->Int->Int->Int->Int->Int->By->Bool->Bool->Bool->LL->Option R
noncomputable def Hu(a T S:Bool)(N:LL)(O P:Int)(I J K M p q r t u:Bool)(m:LL)(A:By)(G F:Bool)(x:LL)(B C:By)(n:Int)(l:By)(b c d e f g h i j z:Int)(D:By)(v w H:Bool)(y:LL)(U:Kaa R)(V:Kab R):Option R:=
 cond I
 (cond (A2 l.length)
  (cond (ltN b 4294967296)
  (cond (ok8 c d e f g h i j)
   (vl (Y4 (mkH n l b (n8 c d e f g h i j))) λo=>
   cond (G0 (m.length+1))
    (U a T S N O P J K M p q r t u (m++[[(SV.str o)]]) A G F x B C n l b c d e f g h i j z D v w H y) none) none) none) none)
 (V a T S N O P I J K M p q r t u m A G F x B C n l b c d e f g h i j z D v w H y)
abbrev EV(b:Code):Prop:=∀(k:Out->St W->Option R) a T S N O P I J K M c d e f u w B H G x r C z D h i j l m n o p q A F g v t y,A9 (K5 L) Q Y b ⟨gp [(2,.ptr 1 0 0),(1,.ptr 3 0 0),(0,pB a),(2,.ptr 7 0 0),(12,.s (.sl T S 2 N)),(0,pI O),(0,pI P),(65,pB I)] 17,[.arr true 9 1 [],.box [pB J,pB K,pB M,pB c,.fl 0],.arr true 9 1 [],.box [pB d,pB e,pB f,pB u,.fl 4],.arr true 9 1 w,.arr true 9 1 [],.box [pS B,.s (.sl H G 1 x)],(bU r C z D h i j l m n o p q A F),.arr true 9 1 [],.box [pB g,pB v,.s (.sl t t 1 y)]],s⟩ k =
 Hu a T S N O P I J K M c d e f u w B H G x r C z D h i j l m n o p q A F g v t y (λa T S N O P I J K M c d e f X a3 a8 a7 Z a4 r a1 a5 a2 h i j l m n o p q a6 V g U a0=>k .normal ⟨gp [(2,.ptr 1 0 0),(1,.ptr 3 0 0),(0,pB a),(15,.s (.sl T S 2 N)),(0,pI O),(0,pI P)] 83,[.arr true 9 1 [],.box [pB I,pB J,pB K,pB M,.fl 0],.arr true 9 1 [],.box [pB c,pB d,pB e,pB f,.fl 4],.arr true 9 1 X,.arr true 9 1 [],.box [pS a3,.s (.sl a8 a7 1 Z)],(bU a4 r a1 a5 a2 h i j l m n o p q a6),.arr true 9 1 [],.box [pB V,pB g,.s (.sl U U 1 a0)]],s⟩) (λa T S N O P I J K M c d e f u w B H G x r C z D h i j l m n o p q A F g v t y=>k .normal ⟨gp [(2,.ptr 1 0 0),(1,.ptr 3 0 0),(0,pB a),(2,.ptr 7 0 0),(12,.s (.sl T S 2 N)),(0,pI O),(0,pI P),(65,pB I)] 17,[.arr true 9 1 [],.box [pB J,pB K,pB M,pB c,.fl 0],.arr true 9 1 [],.box [pB d,pB e,pB f,pB u,.fl 4],.arr true 9 1 w,.arr true 9 1 [],.box [pS B,.s (.sl H G 1 x)],(bU r C z D h i j l m n o p q A F),.arr true 9 1 [],.box [pB g,pB v,.s (.sl t t 1 y)]],s⟩)
def YX:EV (R:=R) L Q Y s (cd [1,1,1,1,0,1,0,0,1,1,0,0,1,1,1,1,1,1,1,1,1,1,1] G7):=by intro k a S P M N O H I J K b c d e f i y F D j z A m B n o p q r t u v w x C g h G l;unfold Hu;kernel_rfl
noncomputable def Hv(a T S:Bool)(N:LL)(O P:Int)(G H I J d e f g:Bool)(i:LL)(y:By)(D C:Bool)(j:LL)(c z:By)(m:Int)(A:By)(n o p q r t u v w x:Int)(B:By)(b h F:Bool)(l:LL)(K:Kaa R)(M:Kab R):Option R:=
 cond b
 (Hu a T S N O P (G3 c) G H I J d e f g i y D C j c z m A n o p q r t u v w x B b h F l K M)
 (Hu a T S N O P false G H I J d e f g i y D C j c z m A n o p q r t u v w x B b h F l K M)
abbrev Rb(b:Code):Prop:=∀(k:Out->St W->Option R) a S P M N O H I J K c d e f v A G F w B r y C z h i j l m n o p q D u g t x,A9 (K5 L) Q Y b ⟨gp [(2,.ptr 1 0 0),(1,.ptr 3 0 0),(0,pB a),(2,.ptr 7 0 0),(1,.ptr 9 0 0),(10,.s (.sl S P 2 M)),(0,pI N),(0,pI O)] 83,[.arr true 9 1 [],.box [pB H,pB I,pB J,pB K,.fl 0],.arr true 9 1 [],.box [pB c,pB d,pB e,pB f,.fl 4],.arr true 9 1 v,.arr true 9 1 [],.box [pS A,.s (.sl G F 1 w)],(bU B r y C z h i j l m n o p q D),.arr true 9 1 [],.box [pB u,pB g,.s (.sl t t 1 x)]],s⟩ k =
 Hv a S P M N O H I J K c d e f v A G F w B r y C z h i j l m n o p q D u g t x (λa S P M N O H I J K c d e f v A G F w B r y C z h i j l m n o p q D u g t x=>k .normal ⟨gp [(2,.ptr 1 0 0),(1,.ptr 3 0 0),(0,pB a),(15,.s (.sl S P 2 M)),(0,pI N),(0,pI O)] 83,[.arr true 9 1 [],.box [pB H,pB I,pB J,pB K,.fl 0],.arr true 9 1 [],.box [pB c,pB d,pB e,pB f,.fl 4],.arr true 9 1 v,.arr true 9 1 [],.box [pS A,.s (.sl G F 1 w)],(bU B r y C z h i j l m n o p q D),.arr true 9 1 [],.box [pB u,pB g,.s (.sl t t 1 x)]],s⟩) (λa S P M N O H I J K c d e f U X a3 a8 a7 Z r a4 a1 a5 h i j l m n o p q a2 a6 g V T a0=>k .normal ⟨gp [(2,.ptr 1 0 0),(1,.ptr 3 0 0),(0,pB a),(2,.ptr 7 0 0),(12,.s (.sl S P 2 M)),(0,pI N),(0,pI O),(65,pB H)] 17,[.arr true 9 1 [],.box [pB I,pB J,pB K,pB c,.fl 0],.arr true 9 1 [],.box [pB d,pB e,pB f,pB U,.fl 4],.arr true 9 1 X,.arr true 9 1 [],.box [pS a3,.s (.sl a8 a7 1 Z)],(bU r a4 a1 a5 h i j l m n o p q a2 a6),.arr true 9 1 [],.box [pB g,pB V,.s (.sl T T 1 a0)]],s⟩)
def YY(a:Code)(c:Ra (R:=R) L Q Y s a)(b:EV (R:=R) L Q Y s a):Rb (R:=R) L Q Y s (cd [1,1,1,1,0,1,0,0,1,1,0,0,1,1,1,1,1,1,1,1,1,1] (I2 [1,1,1,1,0,1,0,0,1,1,0,0,1,1,1,1,1,1,1,1,1,1,1] a G7)):=by intro k d U T O P S J K M N e f g h l A H G m B C o D p q r t u v w x y z F i j I n;unfold Hv;simp only[<-b k];kernel_rfl
def YZ:Rb (R:=R) L Q Y s (cd [1,1,1,1,0,1,0,0,1,1,0,0,1,1,1,1,1,1,1,1,1,1] G7):=by intro k a P O K M N G H I J b c d e h x D C i y z l A m n o p q r t u v w B f g F j;exact j8 (by kernel_rfl) (YY L Q Y s (cd [1,1,1,1,0,1,0,0,1,1,0,0,1,1,1,1,1,1,1,1,1,1,1] G7) (Xp L Q Y s) (YX L Q Y s) k a P O K M N G H I J b c d e h x D C i y z l A m n o p q r t u v w B f g F j)
noncomputable def Hw(a T S:Bool)(N:LL)(O P:Int)(G H I J c d e F:Bool)(g:LL)(w:By)(C B:Bool)(h:LL)(x y:By)(j:Int)(z:By)(l m n o p q r t u v:Int)(A:By)(f b D:Bool)(i:LL)(K:Kaa R)(M:Kab R):Option R:=
 cond F
 (Hv a T S N O P G H I J c d e true g w C B h x y j z l m n o p q r t u v A f b D i K M)
 (Hv a T S N O P G H I J c d e b g w C B h x y j z l m n o p q r t u v A f b D i K M)
abbrev Rc(b:Code):Prop:=∀(k:Out->St W->Option R) a S P M N O H I J K c d e f v A G F w B r y C z h i j l m n o p q D u g t x,A9 (K5 L) Q Y b ⟨gp [(2,.ptr 1 0 0),(1,.ptr 3 0 0),(0,pB a),(2,.ptr 7 0 0),(1,.ptr 9 0 0),(10,.s (.sl S P 2 M)),(0,pI N),(0,pI O)] 83,[.arr true 9 1 [],.box [pB H,pB I,pB J,pB K,.fl 0],.arr true 9 1 [],.box [pB c,pB d,pB e,pB f,.fl 4],.arr true 9 1 v,.arr true 9 1 [],.box [pS A,.s (.sl G F 1 w)],(bU B r y C z h i j l m n o p q D),.arr true 9 1 [],.box [pB u,pB g,.s (.sl t t 1 x)]],s⟩ k =
 Hw a S P M N O H I J K c d e f v A G F w B r y C z h i j l m n o p q D u g t x (λa S P M N O H I J K c d e f v A G F w B r y C z h i j l m n o p q D u g t x=>k .normal ⟨gp [(2,.ptr 1 0 0),(1,.ptr 3 0 0),(0,pB a),(15,.s (.sl S P 2 M)),(0,pI N),(0,pI O)] 83,[.arr true 9 1 [],.box [pB H,pB I,pB J,pB K,.fl 0],.arr true 9 1 [],.box [pB c,pB d,pB e,pB f,.fl 4],.arr true 9 1 v,.arr true 9 1 [],.box [pS A,.s (.sl G F 1 w)],(bU B r y C z h i j l m n o p q D),.arr true 9 1 [],.box [pB u,pB g,.s (.sl t t 1 x)]],s⟩) (λa S P M N O H I J K c d e f U X a3 a8 a7 Z r a4 a1 a5 h i j l m n o p q a2 a6 g V T a0=>k .normal ⟨gp [(2,.ptr 1 0 0),(1,.ptr 3 0 0),(0,pB a),(2,.ptr 7 0 0),(12,.s (.sl S P 2 M)),(0,pI N),(0,pI O),(65,pB H)] 17,[.arr true 9 1 [],.box [pB I,pB J,pB K,pB c,.fl 0],.arr true 9 1 [],.box [pB d,pB e,pB f,pB U,.fl 4],.arr true 9 1 X,.arr true 9 1 [],.box [pS a3,.s (.sl a8 a7 1 Z)],(bU r a4 a1 a5 h i j l m n o p q a2 a6),.arr true 9 1 [],.box [pB g,pB V,.s (.sl T T 1 a0)]],s⟩)
def ZA(a:Code)(c:Jz (R:=R) L Q Y s a)(b:Rb (R:=R) L Q Y s a):Rc (R:=R) L Q Y s (cd [1,1,1,1,0,1,0,0,1,1,0,0,1,1,1,1,1,1,1,1,1] (I2 [1,1,1,1,0,1,0,0,1,1,0,0,1,1,1,1,1,1,1,1,1,1] a G7)):=by intro k d U T O P S J K M N e f g h l A H G m B C o D p q r t u v w x y z F i j I n;unfold Hw;simp only[<-b k];kernel_rfl
def ZB:Rc (R:=R) L Q Y s (cd [1,1,1,1,0,1,0,0,1,1,0,0,1,1,1,1,1,1,1,1,1] G7):=by intro k a P O K M N G H I J b c d e h x D C i y z l A m n o p q r t u v w B f g F j;exact j8 (by kernel_rfl) (ZA L Q Y s (cd [1,1,1,1,0,1,0,0,1,1,0,0,1,1,1,1,1,1,1,1,1,1] G7) (Xq L Q Y s) (YZ L Q Y s) k a P O K M N G H I J b c d e h x D C i y z l A m n o p q r t u v w B f g F j)
noncomputable def X5(a T S:Bool)(N:LL)(O P:Int)(G H I J c d F e:Bool)(g:LL)(w:By)(C B:Bool)(h:LL)(x y:By)(j:Int)(z:By)(l m n o p q r t u v:Int)(A:By)(b f D:Bool)(i:LL)(K:Kaa R)(M:Kab R):Option R:=
 cond F
 (Hw a T S N O P G H I J c d true e g w C B h x y j z l m n o p q r t u v A b f D i K M)
 (Hw a T S N O P G H I J c d b e g w C B h x y j z l m n o p q r t u v A b f D i K M)
abbrev Kc(b:Code):Prop:=∀(k:Out->St W->Option R) a S P M N O H I J K c d e f v A G F w B r y C z h i j l m n o p q D u g t x,A9 (K5 L) Q Y b ⟨gp [(2,.ptr 1 0 0),(1,.ptr 3 0 0),(0,pB a),(2,.ptr 7 0 0),(1,.ptr 9 0 0),(10,.s (.sl S P 2 M)),(0,pI N),(0,pI O)] 83,[.arr true 9 1 [],.box [pB H,pB I,pB J,pB K,.fl 0],.arr true 9 1 [],.box [pB c,pB d,pB e,pB f,.fl 4],.arr true 9 1 v,.arr true 9 1 [],.box [pS A,.s (.sl G F 1 w)],(bU B r y C z h i j l m n o p q D),.arr true 9 1 [],.box [pB u,pB g,.s (.sl t t 1 x)]],s⟩ k =
 X5 a S P M N O H I J K c d e f v A G F w B r y C z h i j l m n o p q D u g t x (λa S P M N O H I J K c d e f v A G F w B r y C z h i j l m n o p q D u g t x=>k .normal ⟨gp [(2,.ptr 1 0 0),(1,.ptr 3 0 0),(0,pB a),(15,.s (.sl S P 2 M)),(0,pI N),(0,pI O)] 83,[.arr true 9 1 [],.box [pB H,pB I,pB J,pB K,.fl 0],.arr true 9 1 [],.box [pB c,pB d,pB e,pB f,.fl 4],.arr true 9 1 v,.arr true 9 1 [],.box [pS A,.s (.sl G F 1 w)],(bU B r y C z h i j l m n o p q D),.arr true 9 1 [],.box [pB u,pB g,.s (.sl t t 1 x)]],s⟩) (λa S P M N O H I J K c d e f U X a3 a8 a7 Z r a4 a1 a5 h i j l m n o p q a2 a6 g V T a0=>k .normal ⟨gp [(2,.ptr 1 0 0),(1,.ptr 3 0 0),(0,pB a),(2,.ptr 7 0 0),(12,.s (.sl S P 2 M)),(0,pI N),(0,pI O),(65,pB H)] 17,[.arr true 9 1 [],.box [pB I,pB J,pB K,pB c,.fl 0],.arr true 9 1 [],.box [pB d,pB e,pB f,pB U,.fl 4],.arr true 9 1 X,.arr true 9 1 [],.box [pS a3,.s (.sl a8 a7 1 Z)],(bU r a4 a1 a5 h i j l m n o p q a2 a6),.arr true 9 1 [],.box [pB g,pB V,.s (.sl T T 1 a0)]],s⟩)
def ZC(a:Code)(c:Ka (R:=R) L Q Y s a)(b:Rc (R:=R) L Q Y s a):Kc (R:=R) L Q Y s (cd [1,1,1,1,0,1,0,0,1,1,0,0,1,1,1,1,1,1,1,1] (I2 [1,1,1,1,0,1,0,0,1,1,0,0,1,1,1,1,1,1,1,1,1] a G7)):=by intro k d U T O P S J K M N e f g h l A H G m B C o D p q r t u v w x y z F i j I n;unfold X5;simp only[<-b k];kernel_rfl
def Xt:Kc (R:=R) L Q Y s (cd [1,1,1,1,0,1,0,0,1,1,0,0,1,1,1,1,1,1,1,1] G7):=by intro k a P O K M N G H I J b c d e h x D C i y z l A m n o p q r t u v w B f g F j;exact j8 (by kernel_rfl) (ZC L Q Y s (cd [1,1,1,1,0,1,0,0,1,1,0,0,1,1,1,1,1,1,1,1,1] G7) (Xr L Q Y s) (ZB L Q Y s) k a P O K M N G H I J b c d e h x D C i y z l A m n o p q r t u v w B f g F j)
noncomputable def Hx(a z1 t2:Bool)(l3:LL)(n4 n5:Int)(b6 b7 b8 b9 r0 q9 f g:Bool)(j:LL)(z:By)(G F:Bool)(l:LL)(A B:By)(n:Int)(C:By)(o p q r t u v w x y:Int)(D:By)(h i H:Bool)(m:LL)(k0:Kaa R)(k1:Kab R):Option R:=
 cond r0
 (cond q9
  (Ht a z1 t2 l3 n4 n5 b6 b7 b8 b9 true f g j z G F l A B n C o p q r t u v w x y D h i H m (λb p1 n6 d0 e7 e8 I J K M N O P d1 l2 p2 n7 d2 l4 l5 e9 l6 f0 f1 f2 f3 f4 f5 f6 f7 f8 f9 l7 S T p3 d3=>k0 b p1 n6 d0 e7 e8 I J K M b N O P d1 l2 p2 n7 d2 l4 l5 e9 l6 f0 f1 f2 f3 f4 f5 f6 f7 f8 f9 l7 S T p3 d3) (λc q0 n9 d4 g0 g1 U V X Z a0 a1 a2 a3 d5 l8 q1 o1 d6 l9 m0 g2 m1 g3 g4 g5 g6 g7 g8 g9 h0 h1 h2 m2 a4 a5 q2 d7=>k1 c q0 n9 d4 g0 g1 U V X Z a0 c a1 a2 a3 d5 l8 q1 o1 d6 l9 m0 g2 m1 g3 g4 g5 g6 g7 g8 g9 h0 h1 h2 m2 a4 a5 q2 d7))
  (Ht a z1 t2 l3 n4 n5 b6 b7 b8 b9 a f g j z G F l A B n C o p q r t u v w x y D h i H m (λd q3 o2 d8 h3 h4 a6 a7 a8 a9 b0 b1 b2 d9 m3 q4 o3 e1 m4 m5 h5 m6 h6 h7 h8 h9 i0 i1 i2 i3 i4 i5 m7 b3 b4 q5 e2=>k0 d q3 o2 d8 h3 h4 a6 a7 a8 a9 d b0 b1 b2 d9 m3 q4 o3 e1 m4 m5 h5 m6 h6 h7 h8 h9 i0 i1 i2 i3 i4 i5 m7 b3 b4 q5 e2) (λe q6 o4 e3 i6 i7 b5 c0 c1 c2 c3 c4 c5 c6 e4 m8 q7 p0 e5 m9 n1 i9 n2 j3 k2 k3 k4 k5 k6 k7 k8 l0 l1 n3 c7 c8 q8 e6=>k1 e q6 o4 e3 i6 i7 b5 c0 c1 c2 c3 e c4 c5 c6 e4 m8 q7 p0 e5 m9 n1 i9 n2 j3 k2 k3 k4 k5 k6 k7 k8 l0 l1 n3 c7 c8 q8 e6)))
 (cond q9
  (X5 a z1 t2 l3 n4 n5 b6 b7 b8 b9 false true f g j z G F l A B n C o p q r t u v w x y D h i H m k0 k1)
  (X5 a z1 t2 l3 n4 n5 b6 b7 b8 b9 false a f g j z G F l A B n C o p q r t u v w x y D h i H m k0 k1))
abbrev Kd(b:Code):Prop:=∀(k:Out->St W->Option R) a S P M N O H I J K c d e f v A G F w B r y C z h i j l m n o p q D u g t x,A9 (K5 L) Q Y b ⟨gp [(2,.ptr 1 0 0),(1,.ptr 3 0 0),(0,pB a),(2,.ptr 7 0 0),(1,.ptr 9 0 0),(10,.s (.sl S P 2 M)),(0,pI N),(0,pI O)] 83,[.arr true 9 1 [],.box [pB H,pB I,pB J,pB K,.fl 0],.arr true 9 1 [],.box [pB c,pB d,pB e,pB f,.fl 4],.arr true 9 1 v,.arr true 9 1 [],.box [pS A,.s (.sl G F 1 w)],(bU B r y C z h i j l m n o p q D),.arr true 9 1 [],.box [pB u,pB g,.s (.sl t t 1 x)]],s⟩ k =
 Hx a S P M N O H I J K c d e f v A G F w B r y C z h i j l m n o p q D u g t x (λa S P M N O H I J K c d e f v A G F w B r y C z h i j l m n o p q D u g t x=>k .normal ⟨gp [(2,.ptr 1 0 0),(1,.ptr 3 0 0),(0,pB a),(15,.s (.sl S P 2 M)),(0,pI N),(0,pI O)] 83,[.arr true 9 1 [],.box [pB H,pB I,pB J,pB K,.fl 0],.arr true 9 1 [],.box [pB c,pB d,pB e,pB f,.fl 4],.arr true 9 1 v,.arr true 9 1 [],.box [pS A,.s (.sl G F 1 w)],(bU B r y C z h i j l m n o p q D),.arr true 9 1 [],.box [pB u,pB g,.s (.sl t t 1 x)]],s⟩) (λa S P M N O H I J K c d e f U X a3 a8 a7 Z r a4 a1 a5 h i j l m n o p q a2 a6 g V T a0=>k .normal ⟨gp [(2,.ptr 1 0 0),(1,.ptr 3 0 0),(0,pB a),(2,.ptr 7 0 0),(12,.s (.sl S P 2 M)),(0,pI N),(0,pI O),(65,pB H)] 17,[.arr true 9 1 [],.box [pB I,pB J,pB K,pB c,.fl 0],.arr true 9 1 [],.box [pB d,pB e,pB f,pB U,.fl 4],.arr true 9 1 X,.arr true 9 1 [],.box [pS a3,.s (.sl a8 a7 1 Z)],(bU r a4 a1 a5 h i j l m n o p q a2 a6),.arr true 9 1 [],.box [pB g,pB V,.s (.sl T T 1 a0)]],s⟩)
def ZD(a:Code)(b:Kb (R:=R) L Q Y s a)(c:Kc (R:=R) L Q Y s a):Kd (R:=R) L Q Y s (cd [1,1,1,1,0,1,0,0,1,1,0,0,1,1,1,1,1,1] (I2 [1,1,1,1,0,1,0,0,1,1,0,0,1,1,1,1,1,1,1,1] a G7)):=by intro k d U T O P S J K M N e f g h l A H G m B C o D p q r t u v w x y z F i j I n;unfold Hx;simp only[<-b k,<-c k];kernel_rfl
def ZE:Kd (R:=R) L Q Y s (cd [1,1,1,1,0,1,0,0,1,1,0,0,1,1,1,1,1,1] G7):=by intro k a P O K M N G H I J b c d e h x D C i y z l A m n o p q r t u v w B f g F j;exact j8 (by kernel_rfl) (ZD L Q Y s (cd [1,1,1,1,0,1,0,0,1,1,0,0,1,1,1,1,1,1,1,1] G7) (Xs L Q Y s) (Xt L Q Y s) k a P O K M N G H I J b c d e h x D C i y z l A m n o p q r t u v w B f g F j)
noncomputable def Lu(a S P:Bool)(M:LL)(N O:Int)(G H I b T F c d:Bool)(g:LL)(w:By)(C B:Bool)(h:LL)(x y:By)(j:Int)(z:By)(l m n o p q r t u v:Int)(A:By)(e f D:Bool)(i:LL)(J:Kaa R)(K:Kab R):Option R:=
 cond T
 (cond F
  (X5 a S P M N O G H I b a true c d g w C B h x y j z l m n o p q r t u v A e f D i J K)
  (X5 a S P M N O G H I b a a c d g w C B h x y j z l m n o p q r t u v A e f D i J K))
 (cond F
  (X5 a S P M N O G H I b false true c d g w C B h x y j z l m n o p q r t u v A e f D i J K)
  (X5 a S P M N O G H I b false a c d g w C B h x y j z l m n o p q r t u v A e f D i J K))
abbrev Ke(b:Code):Prop:=∀(k:Out->St W->Option R) a S P M N O T I J K c d e f u w B H G x r C z D h i j l m n o p q A F g v t y,A9 (K5 L) Q Y b ⟨gp [(2,.ptr 1 0 0),(1,.ptr 3 0 0),(0,pB a),(2,.ptr 7 0 0),(1,.ptr 9 0 0),(10,.s (.sl S P 2 M)),(0,pI N),(0,pI O),(25,pB T)] 57,[.arr true 9 1 [],.box [pB I,pB J,pB K,pB c,.fl 0],.arr true 9 1 [],.box [pB d,pB e,pB f,pB u,.fl 4],.arr true 9 1 w,.arr true 9 1 [],.box [pS B,.s (.sl H G 1 x)],(bU r C z D h i j l m n o p q A F),.arr true 9 1 [],.box [pB g,pB v,.s (.sl t t 1 y)]],s⟩ k =
 Lu a S P M N O I J K c d e f u w B H G x r C z D h i j l m n o p q A F g v t y (λa S P M N O T I J K c d e f X a3 a8 a7 Z a4 r a1 a5 a2 h i j l m n o p q a6 V g U a0=>k .normal ⟨gp [(2,.ptr 1 0 0),(1,.ptr 3 0 0),(0,pB a),(15,.s (.sl S P 2 M)),(0,pI N),(0,pI O)] 83,[.arr true 9 1 [],.box [pB T,pB I,pB J,pB K,.fl 0],.arr true 9 1 [],.box [pB c,pB d,pB e,pB f,.fl 4],.arr true 9 1 X,.arr true 9 1 [],.box [pS a3,.s (.sl a8 a7 1 Z)],(bU a4 r a1 a5 a2 h i j l m n o p q a6),.arr true 9 1 [],.box [pB V,pB g,.s (.sl U U 1 a0)]],s⟩) (λa S P M N O T I J K c d e f u w B H G x r C z D h i j l m n o p q A F g v t y=>k .normal ⟨gp [(2,.ptr 1 0 0),(1,.ptr 3 0 0),(0,pB a),(2,.ptr 7 0 0),(12,.s (.sl S P 2 M)),(0,pI N),(0,pI O),(65,pB T)] 17,[.arr true 9 1 [],.box [pB I,pB J,pB K,pB c,.fl 0],.arr true 9 1 [],.box [pB d,pB e,pB f,pB u,.fl 4],.arr true 9 1 w,.arr true 9 1 [],.box [pS B,.s (.sl H G 1 x)],(bU r C z D h i j l m n o p q A F),.arr true 9 1 [],.box [pB g,pB v,.s (.sl t t 1 y)]],s⟩)
def ZF(a:Code)(c:Kb (R:=R) L Q Y s a)(b:Kc (R:=R) L Q Y s a):Ke (R:=R) L Q Y s (cd [1,1,1,1,0,1,0,0,1,1,0,0,1,1,1,1,1,1] (I2 [1,1,1,1,0,1,0,0,1,1,0,0,1,1,1,1,1,1,1,1] a G7)):=by intro k d V U P S T K M N O e f g h i m B I H n C D p F q r t u v w x y z A G j l J o;unfold Lu;simp only[<-b k];kernel_rfl
def ZG:Ke (R:=R) L Q Y s (cd [1,1,1,1,0,1,0,0,1,1,0,0,1,1,1,1,1,1] G7):=by intro k a S P M N O H I J K b c d e f i y F D j z A m B n o p q r t u v w x C g h G l;exact j8 (by kernel_rfl) (ZF L Q Y s (cd [1,1,1,1,0,1,0,0,1,1,0,0,1,1,1,1,1,1,1,1] G7) (Xs L Q Y s) (Xt L Q Y s) k a S P M N O H I J K b c d e f i y F D j z A m B n o p q r t u v w x C g h G l)
noncomputable def K4(L n:Nat)(t z1 t2:Bool)(d:LL)(n4 c:Int)(b6 b7 b8 b9 m o p q:Bool)(r:LL)(k0:Int->Blk->Bool->Bool->Bool->Bool->Blk->Blk->Blk->Blk->Blk->Blk->(List Blk)->Option R)(k1:Int->Blk->Bool->Bool->Bool->Bool->Blk->Blk->Blk->Blk->Blk->Blk->Blk->Blk->(List Blk)->Option R)(k2:Bool->Bool->Bool->Bool->Bool->Bool->Bool->Bool->LL->Option R):Option R:=match n with
 | 0=>none
 | n+1=>
  cond (ltI c n4)
   (cond (inR c d.length)
   (cond (okE ⟨true,true,[.str,.sl 1]⟩ d (j0 c) 0)
    (vl (SV.gE (gC d (j0 c) 1)) λl=>
    cond (A2 (j2 (gX d (j0 c) 0)))
     (vl (C7 (gX d (j0 c) 0)) λa=>
     cond ((uE a)!=0)
      (k0 (uE a) (Blk.arr true 9 1 []) false false false false (Blk.arr true 9 1 []) (Blk.box [(PV.s (SV.bool m)),(PV.s (SV.bool o)),(PV.s (SV.bool p)),(PV.s (SV.bool q)),(PV.fl 4)]) (Blk.arr true 9 1 r) (Blk.arr true 9 1 []) (Blk.box [(PV.s (SV.str (gX d (j0 c) 0))),(PV.s (SV.sl (SV.gZ (gC d (j0 c) 1)) (SV.gT (gC d (j0 c) 1)) 1 l))]) (bQ a) [])
      (cond (w8 l isS)
      (cond (ab3 l.length 1000)
       (vl (K8 (o5 elS l)) λb=>
       cond ((b).2 !=0)
        (k1 (b).2 (Blk.arr true 9 1 []) false false false false (Blk.arr true 9 1 []) (Blk.box [(PV.s (SV.bool m)),(PV.s (SV.bool o)),(PV.s (SV.bool p)),(PV.s (SV.bool q)),(PV.fl 4)]) (Blk.arr true 9 1 r) (Blk.arr true 9 1 []) (Blk.box [(PV.s (SV.str (gX d (j0 c) 0))),(PV.s (SV.sl (SV.gZ (gC d (j0 c) 1)) (SV.gT (gC d (j0 c) 1)) 1 l))]) (bQ a) (Blk.arr true 9 1 []) (Blk.box [(PV.s (SV.bool (R7 (b).1 OM))),(PV.s (SV.bool (R7 (b).1 CC))),(PV.s (SV.sl (p9 (b).1) (p9 (b).1) 1 (C2 (b).1)))]) [])
        (cond (not ((uS a)==[97,98,111,117,116]))
        (cond (G3 (uS a))
         (cond (smU (uS a) (uU a) (uN a) (uR a))
         (cond (ltN (uV a) 4294967296)
          (cond (okQ a)
          (cond (Qf (uP a))
           (Hx (EH (uS a) (uU a) (uK a) (uN a) (uV a) (uA a 0) (uA a 1) (uA a 2) (uA a 3) (uA a 4) (uA a 5) (uA a 6) (uA a 7) (uP a) (uR a)) z1 t2 d n4 c b6 b7 b8 b9 m o p q r (gX d (j0 c) 0) (SV.gZ (gC d (j0 c) 1)) (SV.gT (gC d (j0 c) 1)) l (uS a) (uU a) (uK a) (uN a) (uV a) (uA a 0) (uA a 1) (uA a 2) (uA a 3) (uA a 4) (uA a 5) (uA a 6) (uA a 7) (uP a) (uR a) (R7 (b).1 OM) (R7 (b).1 CC) (p9 (b).1) (C2 (b).1) (λe g4 f8 c6 d9 e1 u v w x y z A B c7 t8 z9 z0 i5 t9 u0 l1 u1 l2 l4 l5 l6 l7 l8 l9 m0 m1 m2 u2 h0 h1 z'1260 i6=>vl (A1 (e1+1)) λe4=>
           K4 L n e g4 f8 c6 d9 e4 u v w x y z A B c7 k0 k1 k2) (λf g5 f9 c8 e2 e3 h2 C D F G H I J K d0 u3 z'1279 z2 i7 u4 u5 m3 u6 m4 m5 m6 m7 m8 m9 n1 n2 n3 n6 u7 h3 h4 z'1299 i9=>vl (A1 (e3+1)) λe5=>
           K4 L n f g5 f9 c8 e2 e5 C D F G H I J K d0 k0 k1 k2)) none) none) none) none)
         (Hx false z1 t2 d n4 c b6 b7 b8 b9 m o p q r (gX d (j0 c) 0) (SV.gZ (gC d (j0 c) 1)) (SV.gT (gC d (j0 c) 1)) l (uS a) (uU a) (uK a) (uN a) (uV a) (uA a 0) (uA a 1) (uA a 2) (uA a 3) (uA a 4) (uA a 5) (uA a 6) (uA a 7) (uP a) (uR a) (R7 (b).1 OM) (R7 (b).1 CC) (p9 (b).1) (C2 (b).1) (λg g6 g0 d1 e6 e7 M N O P S T U V d2 u9 z'1319 z3 j3 v2 v3 n7 v5 n9 o1 o2 o3 o4 p0 p1 p2 p3 q0 v9 h5 h6 z'1339 k3=>vl (A1 (e7+1)) λf0=>
         K4 L n g g6 g0 d1 e6 f0 M N O P S T U V d2 k0 k1 k2) (λh g7 g1 d3 e8 e9 h7 X Z a0 a1 a2 a3 a4 a5 d4 w0 z'1358 z4 k4 w2 w3 q1 w4 q2 q3 q4 q5 q6 q7 q8 q9 r0 r1 w5 h8 h9 z'1378 k5=>vl (A1 (e9+1)) λf1=>
         K4 L n h g7 g1 d3 e8 f1 X Z a0 a1 a2 a3 a4 a5 d4 k0 k1 k2)))
        (Lu t z1 t2 d n4 c b6 b7 b8 b9 m o p q r (gX d (j0 c) 0) (SV.gZ (gC d (j0 c) 1)) (SV.gT (gC d (j0 c) 1)) l (uS a) (uU a) (uK a) (uN a) (uV a) (uA a 0) (uA a 1) (uA a 2) (uA a 3) (uA a 4) (uA a 5) (uA a 6) (uA a 7) (uP a) (uR a) (R7 (b).1 OM) (R7 (b).1 CC) (p9 (b).1) (C2 (b).1) (λi g8 g2 d5 f2 f3 a6 a7 a8 a9 b0 b1 b2 b3 d6 w7 z'1706 z5 k6 x0 x1 r2 x2 r3 r4 r5 r6 r7 r9 s0 s1 s2 s3 y0 i0 i1 z'1726 k7=>vl (A1 (f3+1)) λf6=>
         K4 L n i g8 g2 d5 f2 f6 a6 a7 a8 a9 b0 b1 b2 b3 d6 k0 k1 k2) (λj g9 g3 d7 f4 f5 i2 b4 b5 c0 c1 c2 c3 c4 c5 d8 y1 z'1745 z6 k8 y2 y3 s4 y4 s5 s6 s7 t0 t1 t3 t4 t5 t6 t7 y6 i3 i4 z'1765 l0=>vl (A1 (f5+1)) λf7=>
         K4 L n j g9 g3 d7 f4 f7 b4 b5 c0 c1 c2 c3 c4 c5 d8 k0 k1 k2)))) none) none)) none) none) none)
   (k2 b6 b7 b8 b9 m o p q r)
def ZH(b:Code)(d:Kd (R:=R) L Q Y s b)(m:Ke (R:=R) L Q Y s b)(n:Nat)(c z1 t2:Bool)(o:LL)(n4 p:Int)(b6 b7 b8 b9 q r t u:Bool)(v:LL):E0 5 ((K5 L).keep 6) (bd (K5 L) Q Y (cd [1,1,1,1,0,1,0,0] (I2 [1,1,1,1,0,1,0,0,1,1,0,0,1,1,1,1,1,1] b G7))) n ⟨gp [(2,.ptr 1 0 0),(1,.ptr 3 0 0),(0,pB c),(15,.s (.sl z1 t2 2 o)),(0,pI n4),(0,pI p)] 83,[.arr true 9 1 [],.box [pB b6,pB b7,pB b8,pB b9,.fl 0],.arr true 9 1 [],.box [pB q,pB r,pB t,pB u,.fl 4],.arr true 9 1 v],s⟩ k =
 K4 L n c z1 t2 o n4 p b6 b7 b8 b9 q r t u v (λn0 B1 b2 b3 b4 b5 B6 B7 B8 B9 h2 h3 H12=>k .ret ⟨gp [(2,.ptr 1 0 0),(0,pI n0)] 103,(B1::.box [pB b2,pB b3,pB b4,pB b5,.fl 8]::B6::B7::B8::B9::h2::h3::.arr true 9 1 []::H12),s⟩) (λn0 B1 b2 b3 b4 b5 B6 B7 B8 B9 h2 h3 B12 B13 H14=>k .ret ⟨gp [(2,.ptr 1 0 0),(0,pI n0)] 103,(B1::.box [pB b2,pB b3,pB b4,pB b5,.fl 10]::B6::B7::B8::B9::h2::h3::B12::B13::.arr true 9 1 []::H14),s⟩) (λb0 b1 b2 b3 b4 b5 b6 b7 l8=>k (.exit 0) ⟨gp [(2,.ptr 1 0 0),(1,.ptr 3 0 0)] 102,[.arr true 9 1 [],.box [pB b0,pB b1,pB b2,pB b3,.fl 0],.arr true 9 1 [],.box [pB b4,pB b5,pB b6,pB b7,.fl 4],.arr true 9 1 l8],s⟩):=by
 induction n generalizing c z1 t2 o n4 p b6 b7 b8 b9 q r t u v with
 | zero=>rfl
 | succ n ih=>rw[K4];exact let K0:=(F0 1 (F5 (K5 L) Q Y (cd [1,1,1,1,0,1,0,0,1,1,1] G7) (lpK 5 ((K5 L).keep 6) (bd (K5 L) Q Y (cd [1,1,1,1,0,1,0,0] (I2 [1,1,1,1,0,1,0,0,1,1,0,0,1,1,1,1,1,1] b G7))) n k)));(j8 (by kernel_rfl) (A0 (A0 (A0 (A5 λh4=>(A0 (A5 λa=>(A0 rfl (A0 (A0 (A5 λe=>(A0 rfl (A0 (A0 (A0 (A0 (A0 (A0 ((d K0 (EH (uS a) (uU a) (uK a) (uN a) (uV a) (uA a 0) (uA a 1) (uA a 2) (uA a 3) (uA a 4) (uA a 5) (uA a 6) (uA a 7) (uP a) (uR a)) z1 t2 o n4 p b6 b7 b8 b9 q r t u v (gX o (j0 p) 0) (SV.gZ (gC o (j0 p) 1)) (SV.gT (gC o (j0 p) 1)) h4 (uS a) (uU a) (uK a) (uN a) (uV a) (uA a 0) (uA a 1) (uA a 2) (uA a 3) (uA a 4) (uA a 5) (uA a 6) (uA a 7) (uP a) (uR a) (R7 (e).1 OM) (R7 (e).1 CC) (p9 (e).1) (C2 (e).1)).trans (congr (congr rfl (fx1 λf=>(fx1 λg6=>(fx1 λg0=>(fx1 λd5=>(fx1 λe8=>(fx1 λl4=>(fx1 λw=>(fx1 λx=>(fx1 λy=>(fx1 λz=>(fx1 λA=>(fx1 λB=>(fx1 λC=>(fx1 λD=>(fx1 λd6=>(fx1 λu7=>(fx1 λz'1240=>(fx1 λt'1241=>(fx1 λk0=>(fx1 λu9=>(fx1 λv2=>(fx1 λl5=>(fx1 λv3=>(fx1 λl6=>(fx1 λl7=>(fx1 λl9=>(fx1 λm0=>(fx1 λm1=>(fx1 λm2=>(fx1 λm3=>(fx1 λm4=>(fx1 λm5=>(fx1 λm6=>(fx1 λv5=>(fx1 λh5=>(fx1 λh6=>(fx1 λz'1260=>(fx1 λk1=>(j8 (by kernel_rfl) (A5 λf0=>(ih f g6 g0 d5 e8 f0 w x y z A B C D d6)))))))))))))))))))))))))))))))))))))))))) (fx1 λg=>(fx1 λg7=>(fx1 λg1=>(fx1 λd7=>(fx1 λe9=>(fx1 λm7=>(fx1 λh7=>(fx1 λF=>(fx1 λG=>(fx1 λH=>(fx1 λI=>(fx1 λJ=>(fx1 λK=>(fx1 λM=>(fx1 λN=>(fx1 λd8=>(fx1 λv9=>(fx1 λz'1279=>(fx1 λt'1280=>(fx1 λk2=>(fx1 λw0=>(fx1 λw2=>(fx1 λm8=>(fx1 λw3=>(fx1 λm9=>(fx1 λn1=>(fx1 λn2=>(fx1 λn3=>(fx1 λn6=>(fx1 λn7=>(fx1 λn9=>(fx1 λo1=>(fx1 λo2=>(fx1 λo3=>(fx1 λw4=>(fx1 λh8=>(fx1 λh9=>(fx1 λz'1299=>(fx1 λk3=>(j8 (by kernel_rfl) (A5 λf1=>(ih g g7 g1 d7 e9 f1 F G H I J K M N d8)))))))))))))))))))))))))))))))))))))))))))) rfl) rfl) rfl) rfl) ((d K0 false z1 t2 o n4 p b6 b7 b8 b9 q r t u v (gX o (j0 p) 0) (SV.gZ (gC o (j0 p) 1)) (SV.gT (gC o (j0 p) 1)) h4 (uS a) (uU a) (uK a) (uN a) (uV a) (uA a 0) (uA a 1) (uA a 2) (uA a 3) (uA a 4) (uA a 5) (uA a 6) (uA a 7) (uP a) (uR a) (R7 (e).1 OM) (R7 (e).1 CC) (p9 (e).1) (C2 (e).1)).trans (congr (congr rfl (fx1 λh=>(fx1 λg8=>(fx1 λg2=>(fx1 λd9=>(fx1 λf2=>(fx1 λo4=>(fx1 λO=>(fx1 λP=>(fx1 λS=>(fx1 λT=>(fx1 λU=>(fx1 λV=>(fx1 λX=>(fx1 λZ=>(fx1 λe1=>(fx1 λw5=>(fx1 λz'1319=>(fx1 λt'1320=>(fx1 λk4=>(fx1 λw7=>(fx1 λx0=>(fx1 λp0=>(fx1 λx1=>(fx1 λp1=>(fx1 λp2=>(fx1 λp3=>(fx1 λq0=>(fx1 λq1=>(fx1 λq2=>(fx1 λq3=>(fx1 λq4=>(fx1 λq5=>(fx1 λq6=>(fx1 λx2=>(fx1 λi0=>(fx1 λi1=>(fx1 λz'1339=>(fx1 λk5=>(j8 (by kernel_rfl) (A5 λf4=>(ih h g8 g2 d9 f2 f4 O P S T U V X Z e1)))))))))))))))))))))))))))))))))))))))))) (fx1 λi=>(fx1 λg9=>(fx1 λg3=>(fx1 λe2=>(fx1 λf3=>(fx1 λq7=>(fx1 λi2=>(fx1 λa0=>(fx1 λa1=>(fx1 λa2=>(fx1 λa3=>(fx1 λa4=>(fx1 λa5=>(fx1 λa6=>(fx1 λa7=>(fx1 λe3=>(fx1 λy0=>(fx1 λz'1358=>(fx1 λt'1359=>(fx1 λk6=>(fx1 λy1=>(fx1 λy2=>(fx1 λq8=>(fx1 λy3=>(fx1 λq9=>(fx1 λr0=>(fx1 λr1=>(fx1 λr2=>(fx1 λr3=>(fx1 λr4=>(fx1 λr5=>(fx1 λr6=>(fx1 λr7=>(fx1 λr9=>(fx1 λy4=>(fx1 λi3=>(fx1 λi4=>(fx1 λz'1378=>(fx1 λk7=>(j8 (by kernel_rfl) (A5 λf5=>(ih i g9 g3 e2 f3 f5 a0 a1 a2 a3 a4 a5 a6 a7 e3))))))))))))))))))))))))))))))))))))))))))))) ((m K0 c z1 t2 o n4 p (not ((uS a)==[97,98,111,117,116])) b6 b7 b8 b9 q r t u v (gX o (j0 p) 0) (SV.gZ (gC o (j0 p) 1)) (SV.gT (gC o (j0 p) 1)) h4 (uS a) (uU a) (uK a) (uN a) (uV a) (uA a 0) (uA a 1) (uA a 2) (uA a 3) (uA a 4) (uA a 5) (uA a 6) (uA a 7) (uP a) (uR a) (R7 (e).1 OM) (R7 (e).1 CC) (p9 (e).1) (C2 (e).1)).trans (congr (congr rfl (fx1 λj=>(fx1 λh0=>(fx1 λg4=>(fx1 λe4=>(fx1 λf6=>(fx1 λs0=>(fx1 λa8=>(fx1 λa9=>(fx1 λc0=>(fx1 λc1=>(fx1 λc2=>(fx1 λc3=>(fx1 λc4=>(fx1 λc5=>(fx1 λe5=>(fx1 λy6=>(fx1 λz'1706=>(fx1 λt'1707=>(fx1 λk8=>(fx1 λz0=>(fx1 λz2=>(fx1 λs1=>(fx1 λz3=>(fx1 λs2=>(fx1 λs3=>(fx1 λs4=>(fx1 λs5=>(fx1 λs6=>(fx1 λs7=>(fx1 λt0=>(fx1 λt1=>(fx1 λt3=>(fx1 λt4=>(fx1 λz4=>(fx1 λi5=>(fx1 λi6=>(fx1 λz'1726=>(fx1 λl0=>(j8 (by kernel_rfl) (A5 λf8=>(ih j h0 g4 e4 f6 f8 a8 a9 c0 c1 c2 c3 c4 c5 e5)))))))))))))))))))))))))))))))))))))))))) (fx1 λl=>(fx1 λh1=>(fx1 λg5=>(fx1 λe6=>(fx1 λf7=>(fx1 λt5=>(fx1 λi7=>(fx1 λc6=>(fx1 λc7=>(fx1 λc8=>(fx1 λd0=>(fx1 λd1=>(fx1 λd2=>(fx1 λd3=>(fx1 λd4=>(fx1 λe7=>(fx1 λz5=>(fx1 λz'1745=>(fx1 λt'1746=>(fx1 λl1=>(fx1 λz6=>(fx1 λz9=>(fx1 λt6=>(fx1 λs'1751=>(fx1 λt7=>(fx1 λt8=>(fx1 λt9=>(fx1 λu0=>(fx1 λu1=>(fx1 λu2=>(fx1 λu3=>(fx1 λu4=>(fx1 λu5=>(fx1 λu6=>(fx1 λs'1762=>(fx1 λi9=>(fx1 λj3=>(fx1 λz'1765=>(fx1 λl2=>(j8 (by kernel_rfl) (A5 λf9=>(ih l h1 g5 e6 f7 f9 c6 c7 c8 d0 d1 d2 d3 d4 e7))))))))))))))))))))))))))))))))))))))))))))))) rfl) rfl))) rfl)) rfl) rfl) rfl))
noncomputable def KZ(L:Nat)(h g:Bool)(a:LL)(V:Bool->Bool->Bool->Bool->Blk->Blk->(List Blk)->Option R)(X:Bool->Bool->Bool->Bool->Int->Blk->Blk->Blk->Blk->Blk->Blk->Blk->Blk->(List Blk)->Option R)(Z:Bool->Bool->Bool->Bool->Int->Blk->Blk->Blk->Blk->Blk->Blk->Blk->Blk->Blk->Blk->(List Blk)->Option R)(k3:Bool->Bool->Bool->Bool->Blk->Blk->Blk->Blk->LL->(List Blk)->Option R):Option R:=
 cond ((a.length:Int)==0)
 (V false false false false (Blk.arr true 9 1 []) (Blk.box [(PV.s (SV.bool false)),(PV.s (SV.bool false)),(PV.s (SV.bool false)),(PV.s (SV.bool false)),(PV.fl 2)]) [])
 (cond (ltI 16 (a.length:Int))
  (V false false false false (Blk.arr true 9 1 []) (Blk.box [(PV.s (SV.bool false)),(PV.s (SV.bool false)),(PV.s (SV.bool false)),(PV.s (SV.bool false)),(PV.fl 2)]) [])
  (K4 L L false h g a (a.length:Int) 0 false false false false true false false false [] (λN r i j l m t u v w x y J=>X i j l m N r (Blk.box [(PV.s (SV.bool i)),(PV.s (SV.bool j)),(PV.s (SV.bool l)),(PV.s (SV.bool m)),(PV.fl 8)]) t u v w x y J) (λO z n o p q A B C D F G H I K=>Z n o p q O z (Blk.box [(PV.s (SV.bool n)),(PV.s (SV.bool o)),(PV.s (SV.bool p)),(PV.s (SV.bool q)),(PV.fl 10)]) A B C D F G H I K) (λP S T U c d e f b=>cond ((w8 b isS)&&(A2 b.length))
  (cond (w8 (C2 (O9 (o5 elS b))) isS)
   (cond (A2 (j2 (C2 (O9 (o5 elS b)))))
   (vl (C2 (j1 (o5 elS (C2 (O9 (o5 elS b)))))) λM=>
    k3 c d e f (Blk.arr true 9 1 []) (Blk.box [(PV.s (SV.bool c)),(PV.s (SV.bool d)),(PV.s (SV.bool e)),(PV.s (SV.bool f)),(PV.fl 4)]) (Blk.arr true 9 1 []) (Blk.box [(PV.s (SV.bool c)),(PV.s (SV.bool d)),(PV.s (SV.bool e)),(PV.s (SV.bool f)),(PV.fl 4)]) M []) none) none) none)))
def B46(a:Code)(e:Kd (R:=PV × List Blk × W) L Q Y s a)(f:Ke (R:=PV × List Blk × W) L Q Y s a)(c b:Bool)(d:LL):A9 (K5 L) Q Y (cd [] (I2 [1,1,1,1,0,1,0,0,1,1,0,0,1,1,1,1,1,1] a G7)) ⟨[.s (.sl c b 2 d)]++tps 106,[],s⟩ (G1 (K5 L) ah5)=KZ L c b d (λl m n o u j A=>some (.tup [.agg [pB l,pB m,pB n,pB o,.fl 2],pI (3:Int)],(u::j::.arr true 9 1 []::A),s)) (λl m n o z j p q v w g h i x=>some (.tup [.agg [pB l,pB m,pB n,pB o,.fl 8],pI z],(j::p::q::v::w::g::h::i::.arr true 9 1 []::x),s)) (λl m n o z j p q v w g h i r t y=>some (.tup [.agg [pB l,pB m,pB n,pB o,.fl 10],pI z],(j::p::q::v::w::g::h::i::r::t::.arr true 9 1 []::y),s)) (λl m n o u j p q C B=>some (.tup [.agg [pB l,pB m,pB n,pB o,.fl 4],pI (0:Int)],(u::j::p::q::.arr true 9 1 C::B),s)):=by unfold KZ;exact(j8 (by kernel_rfl) (A0 rfl (A0 rfl ((ZH L Q Y s (F0 0 (F5 (K5 L) Q Y (cd [1,1,1,1,1] G7) (G1 (K5 L) ah5))) a e f L false c b d (d.length:Int) 0 false false false false true false false false []).trans (by kernel_rfl)))))
def B47(d:Nat)(frames_z0 frames_t1 frames2):evC (K5 L) (d+1) W Y 11 [.s (.sl frames_z0 frames_t1 2 frames2)] [] s=KZ L frames_z0 frames_t1 frames2 (λf g h i o e v=>some (.tup [.agg [pB f,pB g,pB h,pB i,.fl 2],pI (3:Int)],(o::e::.arr true 9 1 []::v),s)) (λf g h i u e j l p q a b c r=>some (.tup [.agg [pB f,pB g,pB h,pB i,.fl 8],pI u],(e::j::l::p::q::a::b::c::.arr true 9 1 []::r),s)) (λf g h i u e j l p q a b c m n t=>some (.tup [.agg [pB f,pB g,pB h,pB i,.fl 10],pI u],(e::j::l::p::q::a::b::c::m::n::.arr true 9 1 []::t),s)) (λf g h i o e j l x w=>some (.tup [.agg [pB f,pB g,pB h,pB i,.fl 4],pI (0:Int)],(o::e::j::l::.arr true 9 1 x::w),s)):=
 (evE (fn:=ah5) (by kernel_rfl)).trans (j8 (by kernel_rfl) (B46 L (evC (K5 L) d) Y s (cd [1,1,1,1,0,1,0,0,1,1,0,0,1,1,1,1,1,1] G7) (ZE L (evC (K5 L) d) Y s) (ZG L (evC (K5 L) d) Y s) frames_z0 frames_t1 frames2))
noncomputable abbrev Am7(b a:Bool)(c:LL):Option (PV × List Blk × Unit):=KZ LF b a c (λh i j l q g x=>some (.tup [.agg [pB h,pB i,pB j,pB l,.fl 2],pI (3:Int)],(q::g::.arr true 9 1 []::x),())) (λh i j l w g m n r t d e f u=>some (.tup [.agg [pB h,pB i,pB j,pB l,.fl 8],pI w],(g::m::n::r::t::d::e::f::.arr true 9 1 []::u),())) (λh i j l w g m n r t d e f o p v=>some (.tup [.agg [pB h,pB i,pB j,pB l,.fl 10],pI w],(g::m::n::r::t::d::e::f::o::p::.arr true 9 1 []::v),())) (λh i j l q g m n z y=>some (.tup [.agg [pB h,pB i,pB j,pB l,.fl 4],pI (0:Int)],(q::g::m::n::.arr true 9 1 z::y),()))
end
def As5{p:Y0 × Nat}(h:Aj4 p.1):ltN (uV p) 4294967296=true/\okQ p=true/\Qf (uP p)=true/\∀c b,mkQ c p b=⟨c,p.1.user,p.1.host,b,p.1.rest⟩:=by obtain⟨⟨s,u,⟨k,n,v,l⟩,q,t⟩,e⟩:=p;obtain⟨a,d⟩:=h;obtain⟨g,i,j,m,o,r,w,x,rfl⟩:=eq8 a.v6.1;have f:=a.v4;simp only at f d;refine⟨E7.2 ⟨by show(0:Int)<=(v:Int);omega,by show(v:Int)<_;omega⟩,Bz8 a.v6.2,MA.2 ⟨by show _<=q;omega,by show q<_;omega⟩,λc b=>Cv9 a.kd⟩
def At1(s:By):(C7 s).1.host.name.length<=253:=by
 by_cases h:(C7 s).2=0
 ·have b:=TF h;cases c:G3 (C7 s).1.sch with
  | false=>
   obtain⟨_,_,_,a,_,_⟩:=b.ns c;rw[a]
   decide
  | true=>
   obtain⟨_,_,_,a,_,_⟩:=b.sp c;exact Sg a
 ·rw[Be0 h]
  decide
def Cw9{s:By}(h:s.length<=10000000)(a:By)(b:a.length<=10000000):smU a (uU (C7 s)) (uN (C7 s)) (uR (C7 s))=true:=by obtain⟨c,d,e⟩:=NI s;have f:=At1 s;simp only[smU,uU,uN,uR,o7,Nat.ble_eq];refine⟨⟨⟨by omega,by omega⟩,by omega⟩,by omega⟩
end
section
open Go
def Ad7(a:List Nat)(ret:PV)(H:List Blk):Bool:=decide a.Nodup&&(a.all (λb=>Nat.blt b H.length)&&(Fl H a&&ret.nms.all λb=>a.contains b))
def Bx.pick{C:Cfg}{Γ:Ctx}{w w':World}{ret:PV}{Hc:List Blk}{V:Value}{ns:List Nat}(h:Bx C I0 Γ [] w noΦ ret Hc () V w')(hok:Ad7 ns ret Hc=true) :
  Bx C I0 Γ [] w noΦ (ret.rn (I5 ns)) (P9 Hc ns) () V w':=by
 obtain⟨Γ1,Φ1,hs,hH1,hv,hvn,hi1,hd1⟩:=h;simp only[Ad7,o7,af,v7,Nat.blt_eq,List.contains_iff_mem] at hok;obtain⟨hnd,hlt,hcl,hr⟩:=hok;have hnm:∀i g,(Γ1.lent ns).nm i=some g->∃b,Γ1.nm b=some g:=λi g h=>by
  simp only[Ctx.lent] at h;cases hi:ns[i]? with
  | none=>rw[hi] at h;simp at h
  | some b=>rw[hi] at h;exact⟨b,h⟩
 have hlen:(P9 Hc ns).length=ns.length:=by simp[P9]
 refine⟨Γ1.lent ns,Φ1,⟨hs.os,hs.tape,hs.output,hs.size,hs.sub,hs.stnew,λc g h=>?_,hs.foot,hs.frame,hs.yv,ag9 _,λc hc=>by simp at hc⟩,
  Aa7 hH1 hnd hlt hcl,?_,λc hc=>?_,hi1,λc g h=>?_⟩
 ·obtain⟨b,hb⟩:=hnm c g h;rcases hs.own b g hb with⟨q,_⟩|q
  ·simp at q
  ·exact .inr q
 ·refine VP.rn (Γ:=Γ1) (Γ':=Γ1.lent ns) rfl hv (.inr λ_ h=>h) λc hc=>?_
  obtain⟨q1,q2⟩:=Ca (hr c hc);exact⟨Ta (hr c hc),by rw[Mh hlt q1,q2]⟩
 ·rw[PV.rn_nms] at hc;obtain⟨d,hd,rfl⟩:=ai1.1 hc;rw[hlen];exact(Ca (hr d hd)).1
 ·obtain⟨b,hb⟩:=hnm c g h;exact hd1 b g hb
def QD{C₀:Cfg}{g:Nat}{pf:List PV->Tr}(z:XOK C₀)(v:Lo C₀)(B:C₀.P.follows .mixedOrders=true)
  (h:∀args ret e,L8 (pf args)=some (ret,e)->D1 args=[]/\∃d r c f,evC C₀ d Unit noY g args [] ()=some (r,c,())/\Ad7 f r c=true/\r.rn (I5 f)=ret/\P9 c f=e):C0 C₀.P C₀.G g pf:=by
 intro args ret e n C x i D w p l u t A;obtain⟨k,d,r,c,f,j,m,rfl,rfl⟩:=h args ret e n;have q:=Kt (C₀:=C₀) (g:=g) (pf:=λa=>match evC C₀ d Unit noY g a [] () with|some (r,H,_)=>cond (D1 a).isEmpty (.ret r H) .fail|none=>.fail) z v B (λa r H b=>by
  split at b
  ·rename_i G H' _ F;cases o:(D1 a).isEmpty with
   | true=>
    rw[o] at b;simp only[aa,L8,Gk,j6,ad5] at b;grind
   | false=>rw[o] at b;cases b
  ·cases b)
 exact(q args r c (by dsimp only;rw[j];dsimp only;rw[k];rfl) C x i D w p l u t A).mono λV w' y=>y.pick m
end
section
open Go Go.Op
def D62(a N M:Bool)(J:LL)(K L:Int)(F G H I o p q r:Bool)(t:LL)(y:By)(C B:Bool)(v:LL)(m z:By)(u:Int)(n:By)(d e f g h i j k l x:Int)(A:By)(b c D:Bool)(w:LL)(O:Kaa R)(P:Kab R)(h0:A2 n.length=true)(h1:ltN d 4294967296=true)(h2:ok8 e f g h i j k l=true)(h3:G0 (t.length+1)=true) :
  Hx a N M J K L F G H I o p q r t y C B v m z u n d e f g h i j k l x A b c D w O P =
  cond (b&&G3 m) (O a N M J K L F G H I (o&&a) (p||a) (q||b) (r||c) (t++[[SV.str (Y4 (mkH u n d (n8 e f g h i j k l)))]]) y C B v m z u n d e f g h i j k l x A b c D w) (P a N M J K L false F G H I (o&&a) (p||a) (q||b) (r||c) t y C B v m z u n d e f g h i j k l x A b c D w):=by
 unfold Hx;cases b<;>cases o<;>cases p<;>cases q<;>cases r<;>cases c<;>simp only[aa,ab,X5,Hw,Hv,Hu,Ht,Hs,Hr,Hq,h0,h1,h2,h3,vl,x7,ab0,ad9,ad3,ad2]<;>cases G3 m<;>rfl
def D63(a N M:Bool)(J:LL)(K L:Int)(F G H I o p q r:Bool)(t:LL)(y:By)(C B:Bool)(v:LL)(m z:By)(u:Int)(n:By)(d e f g h i j k l x:Int)(A:By)(b c D:Bool)(w:LL)(O:Kaa R)(P:Kab R)(h0:A2 n.length=true)(h1:ltN d 4294967296=true)(h2:ok8 e f g h i j k l=true)(h3:G0 (t.length+1)=true) :
  Lu a N M J K L F G H I o p q r t y C B v m z u n d e f g h i j k l x A b c D w O P =
  cond (b&&G3 m) (O a N M J K L F G H I (o&&a) (p||a) (q||b) (r||c) (t++[[SV.str (Y4 (mkH u n d (n8 e f g h i j k l)))]]) y C B v m z u n d e f g h i j k l x A b c D w) (P a N M J K L false F G H I (o&&a) (p||a) (q||b) (r||c) t y C B v m z u n d e f g h i j k l x A b c D w):=by
 unfold Lu;cases b<;>cases o<;>cases p<;>cases q<;>cases r<;>cases c<;>simp only[aa,ab,X5,Hw,Hv,Hu,Ht,Hs,Hr,Hq,h0,h1,h2,h3,vl,x7,ab0,ad9,ad3,ad2]<;>cases G3 m<;>rfl
def Cs3{l:LL}(h:l.all Yu=true){i:Nat}(c:i<l.length):∃u z t k E,(k=1\/z=true)/\l.getD i []=[.str u,.sl z t k (C2 E)]/\U7 (l.getD i [])=(u,E):=by
 have f:l.getD i []∈l:=by
  rw[o6,j7 c];exact ad7 c
 have a:=v7.1 h _ f;generalize l.getD i []=g at a ⊢;unfold Yu at a;split at a
 ·rename_i u z t k b;simp only[o7,ab8] at a;obtain⟨d,e⟩:=a;obtain⟨E,rfl⟩:∃E,b=C2 E:=⟨_,Pi e⟩
  refine⟨u,z,t,k,E,d.imp Nat.eq_of_beq_eq_true (λq=>q.1),rfl,?_⟩;show(u,(C2 E).map elS)=(u,E)
  rw[Dk]
 ·cases a
def Bx1{l:LL}{i:Nat}(b:i<l.length):(l.map U7).drop i=U7 (l.getD i [])::(l.map U7).drop (i+1):=by
 have a:i<(l.map U7).length:=by rw[x3];exact b
 rw[x8 a,List.getElem_map,o6,j7 b];rfl
def D66{l:LL}(h:l.all Ag1=true){i:Nat}(a:i<l.length):Ag1 (l.getD i [])=true:=by refine v7.1 h _ ?_;rw[o6,j7 a];exact ad7 a
def B94(z t:Bool)(l:LL){R:Type}(w:l.all Yu=true)(D:l.length<=1000000000)(d e:Unit->Option R):∀(r i n:Nat),i+r=l.length->r<n->
  Oe LF n z t l (i:Int) d e=cond (((l.map U7).drop i).all λf=>ltN f.1.length 3001&&(ab3 f.2.length 6&&Lk 5000 f.2)) (e ()) (d ()):=by
 intro r
 induction r with
 | zero=>
  intro i n x y;rcases n with _|n;omega
  rw[y7.2 (by rw[x3];omega),Oe,E4 (by omega)];rfl
 | succ r A=>
  intro i n x y;rcases n with _|n;omega
  have a:i<l.length:=by omega
  obtain⟨u,H,G,F,E,c,b,k⟩:=Cs3 w a;have o:A1 ((i:Int)+1)=((i+1:Nat):Int):=by rw[A6];rfl
  have B:okE Dr l i 0=true:=by unfold okE;rw[b];simp[a,okS,SV.has,Dr]
  have C:okE ⟨true,false,[.sl 1]⟩ l i 1=true:=by unfold okE;rw[b];rcases c with rfl|rfl<;>simp[a,okS,SV.has]
  have p:gX l i 0=u:=by unfold gX gC;rw[b];rfl
  have q:SV.gE (gC l i 1)=C2 E:=by unfold gC;rw[b];rfl
  rw[Bx1 a,k,Oe,C6 (by omega),K6 (by omega) (by omega),p4,B,C,p,q];have g:ltN u.length 3001 = !(ltI 3000 (u.length:Int)):=by
   rw[w6,E7,Cd];simp;omega
  have h:ab3 E.length 6 = !(ltI 6 (E.length:Int)):=by
   rw[w6,Cd];simp;omega
  simp only[aa,vl,C3,Jr,Dk,List.all_cons];rw[g,h];cases ltI 3000 (u.length:Int) with
  | true=>rfl
  | false=>
   cases v:ltI 6 (E.length:Int) with
   | true=>rfl
   | false=>
    have j:A2 E.length=true:=D9 (by
     rw[Cd,decide_eq_false_iff_not] at v;omega)
    rw[j];cases Lk 5000 E with
    | false=>rfl
    | true=>
     simp only[ab,aa,j9,p5,x7];rw[o];exact A (i+1) n (by omega) (by omega)
def B95{a:Bool->Option R}(z t:Bool)(l:LL)(d:l.all Yu=true):Dg2 LF z t l a=a (Pf (l.map U7)):=by
 have e:=D6;unfold Dg2 Pf;have c:ab3 (l.map U7).length 20 = !(ltI 20 (l.length:Int)):=by
  rw[x3,w6,Cd];simp;omega
 rw[c];cases b:ltI 20 (l.length:Int) with
 | true=>rfl
 | false=>
  have f:l.length<=20:=by
   rw[Cd,decide_eq_false_iff_not] at b;omega
  have:=B94 z t l d (by omega) (λ_=>a false) (λ_=>a true) l.length 0 LF (by omega) (by omega);rw[aa5] at this;simp only[ab,p5,x7];refine j8 this ?_;cases w8 (l.map U7) _<;>rfl
def B49{a:By->List Blk->Option R}(t:By):Dx0 LF t a=a t []:=rfl
def ZI(z t:Bool)(l:LL)(hf:l.all Yu=true)(q:l.all Ag1=true)(b2:l.length<=16):∀(r i n:Nat) (j h up g f:Bool) (q:List By),i+r=l.length->r<n->q.length<=i->
  (∃M K N F a,a.length<=16/\Vk ((l.map U7).drop i) j h up g f q=⟨0,M,K,N,F,j1 (O9 a)⟩/\∀b c d,K4 (R:=R) LF n f z t l (l.length:Int) (i:Int) false false false false j h up g (C2 q) b c d=d false false false false M K N F (C2 a))\/
  (∃e,e≠0/\Vk ((l.map U7).drop i) j h up g f q=OZ e/\((∃U V W X w x H,∀b c d,K4 (R:=R) LF n f z t l (l.length:Int) (i:Int) false false false false j h up g (C2 q) b c d=b e (Blk.arr true 9 1 []) false false false false U V W X w x H)\/
   (∃U V W X w x S T H,∀b c d,K4 (R:=R) LF n f z t l (l.length:Int) (i:Int) false false false false j h up g (C2 q) b c d=c e (Blk.arr true 9 1 []) false false false false U V W X w x S T H))):=by
 intro r
 induction r with
 | zero=>
  intro i n j h up g f a hi hn hh;rcases n with _|n;omega
  rw[y7.2 (by rw[x3];omega)];exact .inl ⟨j,h,up,g,a,by omega,rfl,λb c d=>by rw[K4,E4 (by omega)];rfl⟩
 | succ r ih=>
  intro i n j h up g f a hi hn hh;rcases n with _|n;omega
  have p:i<l.length:=by omega
  obtain⟨u,z',t',k',E,a0,P,e3⟩:=Cs3 hf p;have k:=D66 q p;unfold Ag1 at k;rw[P] at k;simp only[o7] at k;have J:u.length<=10000000:=v8 k.1;have hu:A2 u.length=true:=D9 (by omega);have v:=Cw9 (s:=u) J (uS (C7 u)) (ai2 (NI u).1 J);have G:A2 (j2 (uN (C7 u)))=true:=by
   obtain⟨_,_,l,_⟩:=HS v;exact R0
  obtain⟨v1,v2,v3,_⟩:=As5 (TG u);have O:ok8 (uA (C7 u) 0) (uA (C7 u) 1) (uA (C7 u) 2) (uA (C7 u) 3) (uA (C7 u) 4) (uA (C7 u) 5) (uA (C7 u) 6) (uA (C7 u) 7)=true:=v2;have I:G0 ((C2 a).length+1)=true:=by rw[C3];exact F4 (by omega)
  have hE:ab3 E.length 1000=true:=by
   have:=k.2;rw[show((([SV.str u,SV.sl z' t' k' (C2 E)]:List SV).getD 1 .nilp).gE)=C2 E from rfl,C3] at this;exact this
  have ew:A1 ((i:Int)+1)=((i+1:Nat):Int):=by rw[A6];rfl
  have o1:okE ⟨true,true,[.str,.sl 1]⟩ l i 0=true:=by unfold okE;rw[P];rcases a0 with rfl|rfl<;>simp[p,okS,SV.has]
  have g1:gX l i 0=u:=by unfold gX gC;rw[P];rfl
  have g2:SV.gE (gC l i 1)=C2 E:=by unfold gC;rw[P];rfl
  have eb:Vk ((u,E)::(l.map U7).drop (i+1)) j h up g f a=cond (uE (C7 u)!=0) (OZ (uE (C7 u))) (cond ((K8 E).2 !=0) (OZ (K8 E).2)
   (Vk ((l.map U7).drop (i+1)) (j&&trF f (C7 u)) (h||trF f (C7 u)) (up||upF E) (g||R7 (K8 E).1 CC) (trF f (C7 u))
    (cond (upF E&&G3 (uS (C7 u))) (a++[hsQ (C7 u)]) a))):=rfl
  rw[Bx1 p,e3,eb];cases o:(uE (C7 u)!=0) with
  | true=>
   refine .inr ⟨uE (C7 u),by simpa using o,by rw[aa],.inl ?_⟩;exact⟨_,_,_,_,_,_,_,λb c d=>by
    rw[K4,C6 (by omega),K6 (by omega) (by omega),p4,o1,g1,g2];simp only[aa,vl,hu,o];rfl⟩
  | false=>
   rw[ab];cases hM:((K8 E).2 !=0) with
   | true=>
    refine .inr ⟨(K8 E).2,by simpa using hM,by rw[aa],.inr ?_⟩;exact⟨_,_,_,_,_,_,_,_,_,λb c d=>by
     rw[K4,C6 (by omega),K6 (by omega) (by omega),p4,o1,g1,g2];simp only[aa,ab,vl,Jr,C3,Dk,hu,hE,o,hM];rfl⟩
   | false=>
    have ek:∀b c d,K4 (R:=R) LF (n+1) f z t l (l.length:Int) (i:Int) false false false false j h up g (C2 a) b c d =
      K4 (R:=R) LF n (trF f (C7 u)) z t l (l.length:Int) ((i+1:Nat):Int) false false false false (j&&trF f (C7 u)) (h||trF f (C7 u)) (up||upF E) (g||R7 (K8 E).1 CC) (C2 (cond (upF E&&G3 (uS (C7 u))) (a++[hsQ (C7 u)]) a)) b c d:=λb c d=>by
     rw[K4,C6 (by omega),K6 (by omega) (by omega),p4,o1,g1,g2];simp only[aa,ab,vl,Jr,C3,Dk,hu,hE,o,hM,D62 (h0:=G) (h1:=v1) (h2:=O) (h3:=I),D63 (h0:=G) (h1:=v1) (h2:=O) (h3:=I),v,v1,v2,v3,ew];unfold trF upF;have b1:(uS (C7 u)!=KF) = !(uS (C7 u)==[97,98,111,117,116]):=rfl;rw[b1];cases hA:(uS (C7 u)==[97,98,111,117,116])<;>cases hS:G3 (uS (C7 u))<;>cases hU:R7 (K8 E).1 OM<;>simp only[j9,p5,ad2,x7,ab0,Bool.and_false,af9,Bool.or_false,aa,ab,Fx]<;>rfl
    have b0:(cond (upF E&&G3 (uS (C7 u))) (a++[hsQ (C7 u)]) a).length<=i+1:=by
     cases (upF E&&G3 (uS (C7 u))) with
     | true=>simp;omega
     | false=>simp;omega
    rw[ab];rcases ih (i+1) n _ _ _ _ _ _ (by omega) (by omega) b0 with⟨y,A,B,C,D,Q,L,q3⟩|⟨e,q0,Q,⟨y,A,B,C,D,Y,Z,L⟩|⟨y,A,B,C,D,Y,Z,a8,a9,L⟩⟩
    ·exact .inl ⟨y,A,B,C,D,Q,L,λb c d=>(ek b c d).trans (q3 b c d)⟩
    ·exact .inr ⟨e,q0,Q,.inl ⟨y,A,B,C,D,Y,Z,λb c d=>(ek b c d).trans (L b c d)⟩⟩
    ·exact .inr ⟨e,q0,Q,.inr ⟨y,A,B,C,D,Y,Z,a8,a9,λb c d=>(ek b c d).trans (L b c d)⟩⟩
def B48(z t:Bool)(l:LL)(D:l.all Yu=true)(F:l.all Ag1=true)(G:A2 l.length=true) :
  ∃r H v,Am7 z t l=some (r,H,())/\Ad7 v r H=true/\r.rn (I5 v) = .tup [.agg [pB (cS (T0 (l.map U7))),pB (cP (T0 (l.map U7))),pB (cU (T0 (l.map U7))),pB (cB (T0 (l.map U7))),.fl 0],pI (cE (T0 (l.map U7)))]/\
   P9 H v=[.arr true 9 1 (C2 (cH (T0 (l.map U7))))]:=by
 have I:=D6;have M:=M5 G;unfold Am7 KZ;have c:T0 (l.map U7)=cond ((l.map U7).isEmpty||ltI 16 (((l.map U7).length:Nat):Int)) (OZ 3) (Vk (l.map U7) true false false false false []):=rfl;rw[x3] at c;by_cases u:l=[]
 ·subst u;exact⟨_,_,[2],rfl,rfl,rfl,rfl⟩
 have y:=ab9.2 u;have x:((l.length:Int)==0)=false:=by rw[beq_eq_false_iff_ne];omega
 have C:(l.map U7).isEmpty=false:=by
  cases l with
  | nil=>exact absurd rfl u
  | cons a r=>rfl
 rw[C,ad3] at c;cases q:ltI 16 (l.length:Int) with
 | true=>
  rw[q,aa] at c;rw[c,x];exact⟨_,_,[2],rfl,rfl,rfl,rfl⟩
 | false=>
  rw[q,ab] at c;have p:l.length<=16:=by
   rw[Cd,decide_eq_false_iff_not] at q;omega
  rw[c,x];rcases ZI (R:=PV × List Blk × Unit) z t l D F p l.length 0 LF true false false false false [] (by omega) (by omega) (by simp) with⟨k,m,n,o,j,i,f,J⟩|⟨e,N,i,⟨k,m,n,o,j,A,B,f⟩|⟨k,m,n,o,j,A,B,K,L,f⟩⟩
  ·have w:∀g h d,K4 (R:=PV × List Blk × Unit) LF LF false z t l (l.length:Int) 0 false false false false true false false false [] g h d=d false false false false k m n o (C2 j):=J;rw[aa5] at f;simp only[ab,w,Jr,C3,Dk,OH,D9 (show j.length<=1000000000 by omega),Bool.and_self,aa,f];exact⟨_,_,[4],rfl,rfl,rfl,rfl⟩
  ·have b:∀g h d,K4 (R:=PV × List Blk × Unit) LF LF false z t l (l.length:Int) 0 false false false false true false false false [] g h d=_:=f;rw[aa5] at i;simp only[ab,b,i];exact⟨_,_,[8],rfl,rfl,rfl,rfl⟩
  ·have b:∀g h d,K4 (R:=PV × List Blk × Unit) LF LF false z t l (l.length:Int) 0 false false false false true false false false [] g h d=_:=f;rw[aa5] at i;simp only[ab,b,i];exact⟨_,_,[10],rfl,rfl,rfl,rfl⟩
end
section
open Go Go.Proofs
section
variable {σ R : Type} (L : Nat) (Q : G4) (Y : Yh σ) (s : σ) (k : Out -> St σ -> Option R)
noncomputable abbrev Du0:Code:=D4 ai9
noncomputable def Xn(L:Nat):Cfg:=D0 L [5] (A4 [(7,[2,0,1])]) [(10,A19),(7,AZ),(11,Qj),(13,BM),(14,WL),(8,IA)]
 (A4 [(12,[2]),(8,[3,1]),(11,[2]),(10,[3,1,70]),(9,[3,1,0,0]),(7,[3,1,18]),(6,[3,1]),(5,[2]),(4,[3,14]),(3,[3,0]),(2,[2]),(1,[0,9]),(0,[0])]) [10,7,14,8] (A4 [(0,[3]),(1,[3,1])]) (some [2]) [] [] [] (nt:=[(24,4,9,1)])
abbrev Rnx(b:LL)(e f d g:Bool)(a:C1 × Nat):List Blk:=[(Blk.arr true 9 1 b),(Blk.arr true 9 1 []),(Blk.box [(PV.s (SV.bool e)),(PV.s (SV.bool f)),(PV.s (SV.bool d)),(PV.s (SV.bool g)),(PV.fl 0)]),(bH (hK a) (hN a) (hV a) (hA a 0) (hA a 1) (hA a 2) (hA a 3) (hA a 4) (hA a 5) (hA a 6) (hA a 7))]
noncomputable def Rn(L n:Nat)(c:Int)(b:LL)(e f d g:Bool)(h:(List Blk)->Option R)(i:LL->Bool->Bool->Bool->Bool->Option R):Option R:=match n with
 | 0=>none
 | n+1=>
  cond (ltI c (b.length:Int))
   (cond (inR c b.length)
   (cond (okE Dr b (j0 c) 0)
    (cond (A2 (j2 (gX b (j0 c) 0)))
    (vl (D7 (gX b (j0 c) 0)) λa=>
     cond ((↑(a).2:Int)!=0)
     (h (Rnx b e f d g a))
     (cond (A2 (j2 (hN a)))
      (cond (ltN (hV a) 4294967296)
      (cond (ok8 (hA a 0) (hA a 1) (hA a 2) (hA a 3) (hA a 4) (hA a 5) (hA a 6) (hA a 7))
       (cond (inR c b.length)
       (cond (okE Dr b (j0 c) 0)
        (cond (not ((Y4 (mkH (hK a) (hN a) (hV a) (n8 (hA a 0) (hA a 1) (hA a 2) (hA a 3) (hA a 4) (hA a 5) (hA a 6) (hA a 7))))==(gX b (j0 c) 0)))
        (h (Rnx b e f d g a))
        (cond (ltI 0 c)
         (cond (inR (A1 (c-1)) b.length)
         (cond (okE Dr b (j0 (A1 (c-1))) 0)
          (vl (gX b (j0 (A1 (c-1))) 0) λj=>
          cond (inR c b.length)
           (cond (okE Dr b (j0 c) 0)
           (cond (not (bytesLess j (gX b (j0 c) 0)))
            (h (Rnx b e f d g a))
            (cond (not d)
            (h (Rnx b e f d g a))
            (cond (w8 b isS)
             (cond (A2 b.length)
             (cond (A2 (j2 (hN a)))
              (cond (ltN (hV a) 4294967296)
              (cond (ok8 (hA a 0) (hA a 1) (hA a 2) (hA a 3) (hA a 4) (hA a 5) (hA a 6) (hA a 7))
               (cond (not (Bd2 (o5 elS b) (mkH (hK a) (hN a) (hV a) (n8 (hA a 0) (hA a 1) (hA a 2) (hA a 3) (hA a 4) (hA a 5) (hA a 6) (hA a 7)))))
               (h (Rnx b e f d g a))
               (Rn L n (A1 (c+1)) b e f d g h i)) none) none) none) none) none))) none) none) none) none)
         (cond (not d)
         (h (Rnx b e f d g a))
         (cond (w8 b isS)
          (cond (A2 b.length)
          (cond (A2 (j2 (hN a)))
           (cond (ltN (hV a) 4294967296)
           (cond (ok8 (hA a 0) (hA a 1) (hA a 2) (hA a 3) (hA a 4) (hA a 5) (hA a 6) (hA a 7))
            (cond (not (Bd2 (o5 elS b) (mkH (hK a) (hN a) (hV a) (n8 (hA a 0) (hA a 1) (hA a 2) (hA a 3) (hA a 4) (hA a 5) (hA a 6) (hA a 7)))))
            (h (Rnx b e f d g a))
            (Rn L n (A1 (c+1)) b e f d g h i)) none) none) none) none) none)))) none) none) none) none) none)) none) none) none)
   (i b e f d g)
def B99(n i0 l1 a b c b5):E0 3 ((Xn L).keep 7) (bd (Xn L) Q Y (cd [1,1,1,1,0,1,0,0] Du0)) n ⟨gp [(3,.ptr 2 0 0),(1,pI i0)] 81,[.arr true 9 1 l1,.arr true 9 1 [],.box [pB a,pB b,pB c,pB b5,.fl 0]],s⟩ k =
 Rn L n i0 l1 a b c b5 (λd=>k .ret ⟨gp [(2,pB false)] 84,d,s⟩) (λg e a b c=>k (.exit 0) ⟨gp [(3,.ptr 2 0 0)] 83,[.arr true 9 1 g,.arr true 9 1 [],.box [pB e,pB a,pB b,pB c,.fl 0]],s⟩):=by
 induction n generalizing i0 l1 a b c b5 with
 | zero=>rfl
 | succ n f=>rw[Rn];simp only[<-f];kernel_rfl
noncomputable def lcc(L:Nat)(h g:Bool)(a:LL)(j:Bool->(List Blk)->Option R):Option R:=
 cond (w8 a Yu)
 (cond (not (Pf (o5 U7 a)))
  (j true [])
  (cond (w8 a Yu)
  (cond (w8 a Ag1)
   (cond (A2 a.length)
   (vl (T0 (o5 U7 a)) λb=>
    cond ((cE b)!=0)
    (j true [(Blk.arr true 9 1 (C2 (cH b))),(Blk.arr true 9 1 []),(Blk.box [(PV.s (SV.bool (cS b))),(PV.s (SV.bool (cP b))),(PV.s (SV.bool (cU b))),(PV.s (SV.bool (cB b))),(PV.fl 0)])])
    (Rn L L 0 (C2 (cH b)) (cS b) (cP b) (cU b) (cB b) (λl=>j false l) (λi d e f c=>cond (not d)
     (j true [(Blk.arr true 9 1 i),(Blk.arr true 9 1 []),(Blk.box [(PV.s (SV.bool d)),(PV.s (SV.bool e)),(PV.s (SV.bool f)),(PV.s (SV.bool c)),(PV.fl 0)])])
     (cond e
     (j true [(Blk.arr true 9 1 i),(Blk.arr true 9 1 []),(Blk.box [(PV.s (SV.bool d)),(PV.s (SV.bool e)),(PV.s (SV.bool f)),(PV.s (SV.bool c)),(PV.fl 0)])])
     (j false [(Blk.arr true 9 1 i),(Blk.arr true 9 1 []),(Blk.box [(PV.s (SV.bool d)),(PV.s (SV.bool e)),(PV.s (SV.bool f)),(PV.s (SV.bool c)),(PV.fl 0)])]))))) none) none) none))
 none
def Dy6(d:Nat)(frames_z0 frames_t1 frames2):evC (Xn L) (d+1) σ Y 5 [.s (.sl frames_z0 frames_t1 2 frames2)] [] s=lcc L frames_z0 frames_t1 frames2 (λc b=>some (pB c,b,s)):=by refine(evE (fn:=ai9) (by kernel_rfl)).trans ?_;generalize evC (Xn L) d=Q;unfold lcc;exact(j8 (by kernel_rfl) (A0 (A0 rfl (A0 (A0 (A0 (A5 λa=>(A0 rfl ((B99 L Q Y s (F0 0 (F5 (Xn L) Q Y (cd [1,1,1,1,1] Du0) (G1 (Xn L) ai9))) L 0 (C2 (cH a)) (cS a) (cP a) (cU a) (cB a)).trans (by kernel_rfl)))) rfl) rfl) rfl)) rfl))
end
section
def UL:C0 c9 GX 171 Lp:=λargs ret a h=>by
 have:L8 (Lp args)=none:=by unfold Lp IB;split<;>rfl
 rw[this] at h;cases h
def Bs5:C0 c9 GX 110 VT:=xf [] (A58 LF) VU rfl trivial rfl follows λargs=>by
 unfold VU;split
 ·rename_i s p;exact λa=>⟨rfl,rfl,rfl,_,_,(Dh4 LF noY () 0 s p).trans (Ca7 s p a),rfl⟩
 ·trivial
def Ai4:C0 c9 GX 69 IG:=xf [] (A54 LF) VE rfl ⟨Bs5,trivial⟩ rfl follows λargs=>by
 unfold VE;split
 ·rename_i s p;exact λa=>⟨rfl,rfl,rfl,_,_,(Df0 LF noY () 0 s p).trans (B80 s p a),rfl⟩
 ·trivial
def C69:C0 c9 GX 149 A20:=xf [] (A59 LF) VW rfl trivial rfl follows λargs=>by
 unfold VW;split
 ·rename_i s p;exact λa=>⟨rfl,rfl,rfl,_,_,(Dh6 LF noY () 0 s p).trans (Ca8 s p a),rfl⟩
 ·trivial
def D27:C0 c9 GX 116 Cm3:=xf [] (A55 LF) VF rfl ⟨C69,trivial⟩ rfl follows λargs=>by
 unfold VF;split
 ·rename_i s p;exact λa=>⟨rfl,rfl,rfl,_,_,(Df2 LF noY () 0 s p).trans (B81 s p a),rfl⟩
 ·trivial
def Dr1:C0 c9 GX 168 Bu1:=xf [] (YF LF) IR rfl ⟨C69,trivial⟩ rfl follows λargs=>by
 unfold IR;split
 ·rename_i s p;exact λa=>⟨rfl,rfl,rfl,_,_,(Cv4 LF noY () 0 s p).trans (Bc6 s p a),rfl⟩
 ·trivial
def Ds5:C0 c9 GX 144 Bv3:=xf [] (YO LF) JQ rfl ⟨Dr1,trivial⟩ rfl follows λargs=>by
 unfold JQ;split
 ·rename_i s p;exact λa=>⟨rfl,rfl,rfl,_,_,(C35 LF noY () 0 s p).trans (Bp8 s p a),rfl⟩
 ·trivial
def Dq7:C0 c9 GX 105 Bt8:=xf [0,0] (YC LF) IM rfl ⟨Bs5,trivial⟩ rfl follows λargs=>by
 unfold IM;split
 ·rename_i s p;exact λa=>⟨rfl,rfl,rfl,_,_,(Cu8 LF noY () 0 s p).trans (Bb6 s p a),rfl⟩
 ·trivial
def C62:C0 c9 GX 67 A14:=xf [0,0] (A49 LF) US rfl ⟨Dq7,trivial⟩ rfl follows λargs=>by
 unfold US;split
 ·rename_i s p;exact λa=>⟨rfl,rfl,rfl,_,_,(Db3 LF noY () 0 s p).trans (B56 s p a),rfl⟩
 ·trivial
def C63:C0 c9 GX 152 Aj6:=xf [1] (Fk LF) BD rfl ⟨UL,C77,Bs6,trivial⟩ rfl follows λargs=>by
 unfold BD;split
 ·rename_i s p v n;exact λb=>λc=>λd=>λe=>(let⟨h,f,a,g⟩:=Aq2 s p v n b c d e;⟨rfl,rfl,rfl,h,f,(RY LF noY () 0 s p v n).trans a,g⟩)
 ·trivial
def OT:C0 c9 GX 125 Xg:=xf [1] (KP LF) BT rfl ⟨C63,trivial⟩ rfl follows λargs=>by
 unfold BT;split
 ·rename_i s p;exact λa=>λb=>⟨rfl,rfl,rfl,_,_,(Ch9 LF noY () 0 s p).trans (Ay6 s p a b),rfl⟩
 ·trivial
def Bs4:C0 c9 GX 66 IN:=xf [] (Vn LF) VR rfl trivial rfl follows λargs=>by
 unfold VR;split
 ·rename_i s;exact λa=>⟨rfl,rfl,rfl,_,_,(Dh2 LF noY () 0 s).trans (Ca5 s a),rfl⟩
 ·trivial
def C64:C0 c9 GX 95 A16:=xf [] (A52 LF) VC rfl ⟨Ai4,trivial⟩ rfl follows λargs=>by
 unfold VC;split
 ·rename_i s;exact λa=>⟨rfl,rfl,rfl,_,_,(De7 LF noY () 0 s).trans (B77 s a),rfl⟩
 ·trivial
def Bs0:C0 c9 GX 97 UT:=xf [0,0] (Y2 LF) UU rfl trivial rfl follows λargs=>by
 unfold UU;split
 ·rename_i s base;exact λa=>λb=>⟨rfl,rfl,rfl,_,_,(Dc4 LF noY () 0 s base).trans (B61 s base a b),rfl⟩
 ·trivial
def Dv5:C0 c9 GX 96 Cm7:=xf [0,0] (Cq2 LF) A21 rfl ⟨C64,Bs0,trivial⟩ rfl follows λargs=>by
 unfold A21;split
 ·rename_i s;exact λa=>⟨rfl,rfl,rfl,_,_,(Dz0 LF noY () 0 s).trans (Cw4 s a),rfl⟩
 ·trivial
def B31:C0 c9 GX 94 WA:=xf [1] (YH LF) IU rfl ⟨OT,trivial⟩ rfl follows λargs=>by
 unfold IU;split
 ·rename_i s;exact λa=>⟨rfl,rfl,rfl,_,_,(Cx2 LF noY () 0 s).trans (Be3 s a),rfl⟩
 ·trivial
def UN:C0 c9 GX 58 Sl:=xf [] (CL LF) Ur rfl ⟨B31,C64,Dv5,Bs0,trivial⟩ rfl follows λargs=>by
 unfold Ur;split
 ·rename_i s;exact λa=>⟨rfl,rfl,rfl,_,_,(Bd5 LF noY () 0 s).trans (Ac2 s a),rfl⟩
 ·trivial
def D33:C0 c9 GX 145 Cm9:=xf [0,0] (Vp LF) WE rfl ⟨B31,Dv5,trivial⟩ rfl follows λargs=>by
 unfold WE;split
 ·rename_i s;exact λa=>⟨rfl,rfl,rfl,_,_,(Dj6 LF noY () 0 s).trans (Cc8 s a),rfl⟩
 ·trivial
def D84:C0 c9 GX 194 Dt5:=xf [0,0] (KT LF) A33 rfl ⟨OT,Bs0,C67,trivial⟩ rfl follows λargs=>by
 unfold A33;split
 ·rename_i s;exact λa=>⟨rfl,rfl,rfl,_,_,(D10 LF noY () 0 s).trans (C50 s a),rfl⟩
 ·trivial
def D83:C0 c9 GX 36 Dt4:=xf [] (KR LF) A32 rfl ⟨C67,trivial⟩ rfl follows λargs=>by
 unfold A32;split
 ·rename_i v;exact λa=>⟨rfl,rfl,rfl,_,_,(D09 LF noY () 0 v).trans (C48 v a),rfl⟩
 ·trivial
def Ck8:C0 c9 GX 50 QH:=xf [] (Eb LF) Ut rfl trivial rfl follows λargs=>by
 unfold Ut;split
 ·rename_i s;exact λa=>⟨rfl,rfl,rfl,_,_,(Bg9 LF noY () 0 s).trans (Ae2 s a),rfl⟩
 ·trivial
def D39:C0 c9 GX 53 Cn4:=xf [] (Vt LF) WN rfl trivial rfl follows λargs=>by
 unfold WN;split
 ·rename_i s;exact λa=>⟨rfl,rfl,rfl,_,_,(Dl5 LF noY () 0 s).trans (Ce9 s a),rfl⟩
 ·trivial
def Si:C0 c9 GX 30 Lq:=xf [1] (Iv LF) BP rfl trivial rfl follows λargs=>by
 unfold BP;split
 ·rename_i s c;exact λb=>λd=>(let⟨g,e,a,f⟩:=Aw7 s c b d;⟨rfl,rfl,rfl,g,e,(Cf9 LF noY () 0 s c).trans a,f⟩)
 ·trivial
def D36:C0 c9 GX 88 Cn1:=xf [] (Kz LF) WI rfl trivial rfl follows λargs=>by
 unfold WI;split
 ·rename_i b;exact λa=>⟨rfl,rfl,rfl,_,_,(Dk5 LF noY () 0 b).trans (Cd8 b a),rfl⟩
 ·trivial
def C75:C0 c9 GX 51 A27:=xf [0,0] (Q7 LF) WQ rfl ⟨D36,trivial⟩ rfl follows λargs=>by
 unfold WQ;split
 ·rename_i s;exact λa=>⟨rfl,rfl,rfl,_,_,(Dl7 LF noY () 0 s).trans (Cf0 s a),rfl⟩
 ·trivial
def A10:C0 c9 GX 49 JF:=xf [1] (KN LF) BN rfl ⟨Si,trivial⟩ rfl follows λargs=>by
 unfold BN;split
 ·rename_i s;exact λa=>⟨rfl,rfl,rfl,_,_,(Cf3 LF noY () 0 s).trans (Av7 s a),rfl⟩
 ·trivial
def OR:C0 c9 GX 28 Uw:=xf [] (Vu LF) Qm rfl ⟨A10,Ck8,C75,trivial⟩ rfl follows λargs=>by
 unfold Qm;split
 ·rename_i s;exact λa=>⟨rfl,rfl,rfl,_,_,(Av6 LF noY () 0 s).trans (PX s a),rfl⟩
 ·trivial
def Ds1:C0 c9 GX 29 Bv0:=xf [0,0] (Nr LF) JH rfl ⟨A10,C75,trivial⟩ rfl follows λargs=>by
 unfold JH;split
 ·rename_i s;exact λa=>⟨rfl,rfl,rfl,_,_,(C08 LF noY () 0 s).trans (Bl7 s a),rfl⟩
 ·trivial
def D35:C0 c9 GX 123 Cn0:=xf [0,0] (Vq LF) WH rfl ⟨UM,trivial⟩ rfl follows λargs=>by
 unfold WH;split
 ·rename_i s;exact λa=>⟨rfl,rfl,rfl,_,_,(Dk3 LF noY () 0 s).trans (Cd7 s a),rfl⟩
 ·trivial
def D42:C0 c9 GX 86 Cn7:=xf [0,0] (Vv LF) WU rfl ⟨Si,D35,trivial⟩ rfl follows λargs=>by
 unfold WU;split
 ·rename_i s;exact λa=>⟨rfl,rfl,rfl,_,_,(Dm8 LF noY () 0 s).trans (Cg3 s a),rfl⟩
 ·trivial
def D41:C0 c9 GX 32 Cn6:=xf [] (A63 LF) WT rfl ⟨UM,trivial⟩ rfl follows λargs=>by
 unfold WT;split
 ·rename_i v;exact λa=>⟨rfl,rfl,rfl,_,_,(Dm6 LF noY () 0 v).trans (Cg1 v a),rfl⟩
 ·trivial
def Ck7:C0 c9 GX 152 BE:=by
 refine C0.fix (pf:=Uq) _ (Ba (C₀:=Fk LF) (L9.ok (l:=[(171,Lp),(172,A29),(128,JJ)]) rfl ⟨UL,C77,Bs6,trivial⟩) (I1 rfl (by kernel_rfl)) follows ?_);intro args ret f h;unfold Uq at h;split at h
 ·rename_i s p v n;obtain⟨a,h⟩:=D2 h;obtain⟨b,h⟩:=D2 h;obtain⟨c,h⟩:=D2 h;obtain⟨d,h⟩:=D2 h;obtain⟨rfl,rfl⟩:=K2 h;have e:=(RY LF noY () 0 s p v n).trans (LX s p v n a b c d);exact⟨rfl,1,_,[],e,rfl,rfl⟩
 ·cases h
def Cl2:C0 c9 GX 125 QK:=by
 refine C0.fix (pf:=Uy) _ (Ba (C₀:=CO LF) (L9.ok (l:=[(152,BE)]) rfl ⟨Ck7,trivial⟩) (I1 rfl (by kernel_rfl)) follows ?_);intro args ret c h;unfold Uy at h;split at h
 ·rename_i s p;obtain⟨a,h⟩:=D2 h;obtain⟨b,h⟩:=D2 h;obtain⟨rfl,rfl⟩:=K2 h;have e:=(Bp5 LF noY () 0 s p).trans (Ag5 s p a b);exact⟨rfl,1,_,[],e,rfl,rfl⟩
 ·cases h
def D23:C0 c9 GX 193 Cl9:=xf [0,0] (Be LF) UY rfl trivial rfl follows λargs=>by
 unfold UY;split
 ·rename_i s;exact λa=>⟨rfl,rfl,rfl,_,_,(Dd9 LF noY () 0 s).trans (B72 s a),rfl⟩
 ·trivial
def Dq1:C0 c9 GX 184 Bt4:=xf [1,0] (Nm LF) ID rfl ⟨OT,D23,D84,trivial⟩ rfl follows λargs=>by
 unfold ID;split
 ·rename_i s last;exact λb=>(let⟨e,c,a,d⟩:=A97 s last b;⟨rfl,rfl,rfl,e,c,(Ct0 LF noY () 0 s last).trans a,d⟩)
 ·trivial
def D87:C0 c9 GX 166 Dt8:=xf [0,0] (EQ LF) A36 rfl ⟨C78,Dq1,trivial⟩ rfl follows λargs=>by
 unfold A36;split
 ·rename_i s;exact λb=>(let⟨e,c,a,d⟩:=D18 s b;⟨rfl,rfl,rfl,e,c,(D17 LF noY () 0 s).trans a,d⟩)
 ·trivial
def Ds8:C0 c9 GX 62 Bv5:=xf [0,0] (Ao LF) JX rfl trivial rfl follows λargs=>by
 unfold JX;split
 ·rename_i a b c d e f g h;exact λi=>⟨rfl,rfl,rfl,_,_,(C95 LF noY () 0 a b c d e f g h).trans (Bt3 a b c d e f g h i),rfl⟩
 ·trivial
def D86:C0 c9 GX 63 Dt7:=xf [] (KV LF) A35 rfl ⟨D22,B33,trivial⟩ rfl follows λargs=>by
 unfold A35;split
 ·rename_i b a l;exact λd=>λe=>(let⟨h,f,c,g⟩:=D15 b a l d e;⟨rfl,rfl,rfl,h,f,(D14 LF noY () 0 b a l).trans c,g⟩)
 ·trivial
def D85:C0 c9 GX 37 Dt6:=xf [] (Cq3 LF) A34 rfl ⟨Ds8,D86,trivial⟩ rfl follows λargs=>by
 unfold A34;split
 ·rename_i a b c d e f g h;exact λj=>(let⟨m,k,i,l⟩:=D13 a b c d e f g h j;⟨rfl,rfl,rfl,m,k,(D12 LF noY () 0 a b c d e f g h).trans i,l⟩)
 ·trivial
def D37:C0 c9 GX 87 Cn2:=xf [0,0] (Bg LF) WK rfl trivial rfl follows λargs=>by
 unfold WK;split
 ·rename_i s;exact λa=>⟨rfl,rfl,rfl,_,_,(Dl1 LF noY () 0 s).trans (Ce2 s a),rfl⟩
 ·trivial
def Dr4:C0 c9 GX 47 Bu4:=xf [1,0] (T5 LF) IY rfl ⟨Si,D42,D37,trivial⟩ rfl follows λargs=>by
 unfold IY;split
 ·rename_i s last;exact λb=>(let⟨e,c,a,d⟩:=Bi9 s last b;⟨rfl,rfl,rfl,e,c,(Cz0 LF noY () 0 s last).trans a,d⟩)
 ·trivial
def Ck9:C0 c9 GX 46 QI:=xf [] (Ec LF) Uu rfl trivial rfl follows λargs=>by
 unfold Uu;split
 ·rename_i s;exact λa=>⟨rfl,rfl,rfl,_,_,(Bh0 LF noY () 0 s).trans (Ae4 s a),rfl⟩
 ·trivial
def D44:C0 c9 GX 26 Cn9:=xf [0,0] (Bh LF) WX rfl ⟨Ck9,Dr4,trivial⟩ rfl follows λargs=>by
 unfold WX;split
 ·rename_i s;exact λb=>(let⟨e,c,a,d⟩:=Dn3 s b;⟨rfl,rfl,rfl,e,c,(Dn2 LF noY () 0 s).trans a,d⟩)
 ·trivial
def Dr6:C0 c9 GX 57 Bu6:=xf [] (Np LF) JA rfl trivial rfl follows λargs=>by
 unfold JA;split
 ·rename_i v;exact λa=>⟨rfl,rfl,rfl,_,_,(Cz3 LF noY () 0 v).trans (Bj2 v a),rfl⟩
 ·trivial
def D43:C0 c9 GX 33 Cn8:=xf [] (Z7 LF) WW rfl ⟨Dr6,trivial⟩ rfl follows λargs=>by
 unfold WW;split
 ·rename_i a b c d e f g h;exact λi=>⟨rfl,rfl,rfl,_,_,(Dn0 LF noY () 0 a b c d e f g h).trans (Cg4 a b c d e f g h i),rfl⟩
 ·trivial
def A08:C0 c9 GX 155 Ql:=xf [] (KM LF) BK rfl trivial rfl follows λargs=>by
 unfold BK;split
 ·rename_i n;exact⟨rfl,rfl,rfl,_,_,(Cc9 LF noY () 0 n).trans (At8 n ),rfl⟩
 ·trivial
def A07:C0 c9 GX 157 Qk:=xf [] (Z5 LF) BJ rfl trivial rfl follows λargs=>by
 unfold BJ;split
 ·rename_i d c f;exact λa=>λb=>λe=>⟨rfl,rfl,rfl,_,_,(Cb7 LF noY () 0 d c f).trans (At0 d c f a b e),rfl⟩
 ·trivial
def D32:C0 c9 GX 176 A22:=xf [] (A60 LF) WC rfl trivial rfl follows λargs=>by
 unfold WC;split
 ·rename_i d;exact λa=>⟨rfl,rfl,rfl,_,_,(Dj1 LF noY () 0 d).trans (Cc5 d a),rfl⟩
 ·trivial
def D34:C0 c9 GX 187 A24:=xf [] (Ky LF) WG rfl trivial rfl follows λargs=>by
 unfold WG;split
 ·rename_i b;exact λa=>⟨rfl,rfl,rfl,_,_,(Dk1 LF noY () 0 b).trans (Cd2 b a),rfl⟩
 ·trivial
def C73:C0 c9 GX 175 IV:=by
 refine C0.fix (pf:=WF) _ (Ba (C₀:=A61 LF) (L9.ok (l:=[]) rfl trivial) (I1 rfl (by kernel_rfl)) follows ?_);intro args ret a h;unfold WF at h;split at h
 ·rename_i b;obtain⟨rfl,rfl⟩:=K2 h;have e:=(Dj8 LF noY () 0 b).trans (Cd0 b );exact⟨rfl,1,_,[],e,rfl,rfl⟩
 ·cases h
def B36:Xh c9 GX 190 Sm:=by
 refine Hn (C₀:=YI LF) (L9.ok (l:=[]) rfl trivial) (I1 rfl (by kernel_rfl)) follows ?_;intro args H ret f h;unfold Sm at h;split at h
 ·rename_i k b;obtain⟨a,h⟩:=D2 h;obtain⟨c,h⟩:=D2 h;obtain⟨rfl,rfl⟩:=K2 h;refine⟨rfl,rfl,λg d s=>?_⟩;have e:=(Cx7 LF d s 0 k b).trans (Bf6 k b a c);exact⟨1,_,e,rfl⟩
 ·cases h
def D50:Xh c9 GX 156 VZ:=by
 refine Hn (C₀:=CM LF) (Pp (lx:=[(175,IV),(176,A22)]) (ly:=[(190,Sm)]) (ls:=[]) rfl rfl rfl ⟨C73,D32,trivial⟩ ⟨B36,trivial⟩ trivial) (I1 rfl (by kernel_rfl)) follows ?_;intro args H ret f h;unfold VZ at h;split at h
 ·rename_i q b z l;obtain⟨a,h⟩:=D2 h;obtain⟨c,h⟩:=D2 h;obtain⟨d,h⟩:=D2 h;obtain⟨rfl,rfl⟩:=K2 h;obtain⟨g,i,e0⟩:=Cb9 q b z l a c d;exact⟨rfl,rfl,λj e s=>⟨1,_,(Di7 LF e s 0 q b z l).trans (e0 _ _),rfl⟩⟩
 ·cases h
def C72:C0 c9 GX 130 A23:=by
 refine C0.fix (pf:=WD) _ (J5 [0,0] (C₀:=R5 LF) (Pp (lx:=[(155,Ql),(157,Qk)]) (ly:=[(156,VZ)]) (ls:=[]) rfl rfl rfl ⟨A08,A07,trivial⟩ ⟨D50,trivial⟩ trivial) (I1 rfl (by kernel_rfl)) follows ?_);intro args ret i h;unfold WD at h;split at h
 ·rename_i b a p;obtain⟨d,h⟩:=D2 h;obtain⟨rfl,rfl⟩:=K2 h;obtain⟨g,e,c,f⟩:=Dj3 b a p d;exact⟨rfl,rfl,rfl,1,g,e,(Dj2 LF noY () 0 b a p).trans c,f⟩
 ·cases h
def D49:Xh c9 GX 173 UV:=by
 refine Hn (C₀:=CI LF) (Pp (lx:=[(175,IV),(187,A24)]) (ly:=[(190,Sm)]) (ls:=[]) rfl rfl rfl ⟨C73,D34,trivial⟩ ⟨B36,trivial⟩ trivial) (I1 rfl (by kernel_rfl)) follows ?_;intro args H ret j h;unfold UV at h;split at h
 ·rename_i a n i b c z l;obtain⟨d,h⟩:=D2 h;obtain⟨e,h⟩:=D2 h;obtain⟨f,h⟩:=D2 h;obtain⟨rfl,rfl⟩:=K2 h;obtain⟨k,e0⟩:=B63 a n i b c z l d e f;exact⟨rfl,rfl,λm g s=>⟨1,_,(Dc5 LF g s 0 a n i b c z l).trans (e0 _ _),rfl⟩⟩
 ·cases h
def C66:C0 c9 GX 141 Aj8:=xf [] (It LF) BG rfl trivial rfl follows λargs=>by
 unfold BG;split
 ·rename_i s c;exact λa=>λb=>⟨rfl,rfl,rfl,_,_,(B87 LF noY () 0 s c).trans (Aq8 s c a b),rfl⟩
 ·trivial
def B30:C0 c9 GX 111 GQ:=xf [] (YB LF) IL rfl ⟨C66,trivial⟩ rfl follows λargs=>by
 unfold IL;split
 ·rename_i s c;exact λa=>λb=>⟨rfl,rfl,rfl,_,_,(Cu6 LF noY () 0 s c).trans (Bb3 s c a b),rfl⟩
 ·trivial
end
end
section
open Go Go.Proofs Go.Sort
def OE{C:Cfg}{W:Type}{I:W->(Nat->Prop)->(Nat->Prop)->World->Prop}(J:HI I){f:Ctx}{u:Nat->Prop}{w w':World}{z v1:Bool}{E o r:Nat}{l l' m:LL}{s:W}(g cap:Nat)(H:List Value)(i:Array Value)
  (P:Ge C E=false) (j:HR f [.arr z E 1 l,.arr v1 o r m] w) (K:I s f.St u w) (M:∀b g,f.nm b=some g->¬u g)
  (d:f.nm 0=some g\/g=w.heap.size) (O:g<w'.heap.size) (e:∀k,k<w.heap.size->f.nm 0≠some k->w'.heap[k]? = w.heap[k]?) (p:w.heap.size<=w'.heap.size) (R:w'.os=w.os) (S:w'.tape=w.tape) (T:w'.output=w.output)
  (n:w'.heap[g]? = some (.cells i E (0,0))) (Y:Els f.St w' 1 l' H) (D:l'≠[]) (t:∀q,q<H.length->i[q]? = H[q]?) (Z:H.length<=i.size) (B:l'.length<=cap) (hm:cap<=maxLen) (L:i.size=cap) :
  Bx C I f [.arr z E 1 l,.arr v1 o r m] w u (.fl 0) [.arr z E 1 l',.arr v1 o r m] s (.slice (some ⟨g,0,none⟩) l'.length cap) w':=by
 have x:0<[Blk.arr z E 1 l,.arr v1 o r m].length:=by simp
 have G:(f.re 0 (some g)).nm 0=some g:=by simp[Ctx.re]
 have F:¬Je C (A3 [Blk.arr z E 1 l,.arr v1 o r m] 0):=by simp[A3,Blk.shp,Je,P]
 have a:([Blk.arr z E 1 l,.arr v1 o r m].map (Blk.kill 0)).set 0 (.arr z E 1 l')=[.arr z E 1 l',.arr v1 o r m]:=rfl;have N:¬f.St g:=by
  rcases d with h|h
  ·exact(j.lt 0 g h).2.2
  ·intro hs;have:=j.stlt g hs;omega
 obtain⟨U,V,q3⟩:=NP (C:=C) (y:=.arr z E 1 l') (ng:=some g) (w':=w') j x F (λk a=>by
   simp only[j6] at a;subst a;refine⟨O,N,λc t A=>?_⟩;rcases d with h|h
   ·exact t (j.inj c 0 _ A h)
   ·have:=(j.lt c _ A).2.1;omega)
  (λk a=>by
   simp only[j6] at a;subst a;rcases d with h|h
   ·exact .inl h
   ·exact .inr (by omega)) e p R S T
  (BR.els G n Y (by rintro⟨_,h⟩;exact D h) t Z) rfl
 rw[a] at U V;refine⟨_,u,U.lift u,V,?_,λc t=>?_,?_,λb X v=>?_⟩
 ·refine .fl 0 g z E 1 l'.length cap rfl (λ_ h=>D (p7.1 h)) G B hm ?_;simp only[ab2,n,L,s9]
 ·simp only[PV.nms,aa1] at t;subst t;simp
 ·refine J.mono s f.St u w f.St w' K (λ_ h=>h) (λk a Q=>(J.foot _ _ _ _ K k Q).2 a) (λk a=>af8 (j.stlt k a) p) (λk a=>?_) p R S T;rcases a with a|a
  ·exact e k (j.stlt k a) (λh=>(j.lt 0 k h).2.2 a)
  ·exact e k (J.foot _ _ _ _ K k a).1 (λh=>M 0 k h a)
 ·simp only[Ctx.re] at v;split at v
  ·simp only[j6] at v;subst v;rcases d with h|h
   ·exact M 0 _ h
   ·intro Q;have:=(J.foot _ _ _ _ K _ Q).1;omega
  ·exact M b X v
def Dj{w:World}{g o e:Nat}{vs:List Value}{a:Array Value}(c:w.heap[g]? = some (.cells a e (0,0)))(f:o+vs.length<=a.size)(l:∀v∈vs,v.oneCell'=true) :
  (w.setCells g o vs).heap[g]? = some (.cells (H7 a.toList o vs).toArray e (0,0))/\(∀k,k≠g->(w.setCells g o vs).heap[k]? = w.heap[k]?)/\(w.setCells g o vs).heap.size=w.heap.size/\(w.setCells g o vs).os=w.os/\(w.setCells g o vs).tape=w.tape/\(w.setCells g o vs).output=w.output:=by
 obtain⟨w',i,m,n,p,q,t,u,_⟩:=M3 (P:=c9) (o:=o) c f l;have b:∀j,j<vs.length->∃v,w.cell? ⟨g,o+0+j,none⟩=some v:=λj d=>by
  refine⟨a[o+j]'(by omega),?_⟩;simp[ad1,c,aa6 (show o+j<a.size by omega)]
 have r:=run_storeCells_cells (P:=c9) g o vs 0 w (λj d=>by obtain⟨v,h⟩:=b j d;rw[h];rfl) (λj d=>by simp[ab4,c]) l;rw[r] at i;simp only[ac1,Result.ok.injEq,true_and] at i;rw[i];exact⟨m,n,p,q,t,u⟩
def MC{St:Nat->Prop}{w:World}{l:LL}{d:List Value}{i:Nat}{n:Int}(h:Els St w 1 l d)(q:i<=l.length):Els St w 1 (Oc l i n) (d.take i++o9 .i64 n::d.drop i):=by
 have c:=h.1;rw[s9] at c;have m:Els St w 1 (l.take i) (d.take i):=by
  refine⟨by rw[o8,o8,c,s9],λj f=>?_⟩;rw[o8] at f;rw[List.getElem_take];obtain⟨a,b⟩:=h.2 j (by omega);refine⟨a,λk g=>?_⟩;obtain⟨U,e,v⟩:=b k g;exact⟨U,by rw[y8 (by omega)];exact e,v⟩
 have o:Els St w 1 [[SV.int .i64 n]] [o9 .i64 n]:=by
  refine⟨rfl,λj f=>?_⟩;have:j=0:=by simpa using f
  subst this;refine⟨rfl,λk g=>?_⟩;have:k=0:=by simpa using g
  subst this;exact⟨_,rfl,.int _ _⟩
 have p:Els St w 1 (l.drop i) (d.drop i):=by
  refine⟨by rw[j5,j5,c,s9],λj f=>?_⟩;rw[j5] at f;rw[List.getElem_drop];obtain⟨a,b⟩:=h.2 (i+j) (by omega);refine⟨a,λk g=>?_⟩;obtain⟨U,e,v⟩:=b k g;exact⟨U,by rw[List.getElem?_drop];rw[show i+(j*1+k)=(i+j)*1+k by omega];exact e,v⟩
 have:=(m.append o).append p;unfold Oc;simpa using this
def MD(l:LL)(i:Nat)(n:Int)(h:i<=l.length):(Oc l i n).length=l.length+1:=by unfold Oc;rw[k9,j4,o8,j5];omega
def Aa1(l:LL)(i:Nat)(n:Int):Oc l i n≠[]:=by unfold Oc;simp
def D51:Xh c9 GX 174 XD:=by
 intro C hP hG σ I yh yv hI hy args H s ret Hc G Γ Φ w Vs f7 hH hg hi hd hc hn;unfold XD at G;split at G
 ·rename_i i z l d;obtain⟨h0,G⟩:=D2 G;obtain⟨h1,G⟩:=D2 G;obtain⟨rfl,rfl⟩:=K2 G;obtain⟨i0,i1⟩:=E7.1 h0;obtain⟨i,rfl⟩:=aa9 i0;have hl:=v8 h1;have X:i<=l.length:=by
   have:(i:Int)<((l.length+1:Nat):Int):=i1;omega
  obtain⟨S,X0,V,rfl,hs,hx,hv⟩:=hc.arr3;obtain rfl:=hx.inv_int;have b6:Ge C 3=false:=by
   unfold Ge Cfg.sh;rw[hP];kernel_rfl
  obtain⟨g1,b9,n1,n2,n3,n4,n5⟩:=hH.arr' (b:=1) rfl (by simp);have f1:∃cap,V = .slice (some ⟨g1,0,none⟩) 1 cap:=by
   cases hv with
   | flv _ e sz h=>simp[A3,Blk.shp] at h
   | fl _ g v e sz n cap h e4 y R hm d9=>
    rw[n1] at y;simp only[j6] at y;subst y;simp only[A3,z7,p6,y5,Blk.shp,j6,Shp.arr.injEq] at h;obtain⟨_,_,_,h4⟩:=h;subst h4;exact⟨cap,rfl⟩
  obtain⟨A,rfl⟩:=f1;obtain⟨V1,p1,p2⟩:=n5 0 (by simp) 0 (by simp);have p3:V1 = .int .i64 d:=by cases p2;rfl
  subst p3;have t:∀j v,[o9 .i64 d][j]? = some v->w.cell? ⟨g1,0+j,none⟩=some v:=by
   intro j v x;have:j=0:=by
    have:=(ac6.1 x).1;simpa using this
   subst this;simp only[p6,j6] at x;subst x;simpa[ad1,n2] using p1
  have M:∀v∈[o9 .i64 d],v.oneCell'=true:=by simp[Value.oneCell']
  rw[p4];refine Bq (fn:=Tryz.f174) (by kernel_rfl) (by kernel_rfl) (by kernel_rfl) ?_;have B:∀(base:Option Addr) (c:Nat) (f:List Value),l.length<=c->c<l.length+1->f.length=l.length->(base=none->l.length=0)->(∀a,base=some a->∀j v,f[j]? = some v->w.cell? (a.add j)=some v)->Els Γ.St w 1 l f->
    Calls c9 174 #[.slice base l.length c,.int .i64 (l.length:Int),.slice (some ⟨g1,0,none⟩) 1 A] w λe w'=>∃V,e = .returned V/\Bx C I Γ [.arr z 3 1 l,.arr false 3 1 [[SV.int .i64 d]]] w Φ (.fl 0) [.arr z 3 1 (Oc l l.length d),.arr false 3 1 [[SV.int .i64 d]]] s V w':=by
   intro base c f a1 a2 a3 a4 a5 a6;refine(Any2.slices_Insert_int_end_grow Tryz.lays2_21 base l.length c g1 0 1 A f [.int .i64 d] w (by omega) a1 a2 (by omega) a3 rfl a4 a5 t M).mono ?_;rintro e w' ⟨rfl,rfl⟩;refine⟨_,rfl,?_⟩;obtain⟨T,b5⟩:=Kg (w:=w) (need:=l.length+1) (cap:=c) (e:=3) (by omega);have hE:=MC (n:=d) a6 (ad0 l.length);have c7:f.take l.length++o9 .i64 d::f.drop l.length=f++[o9 .i64 d]:=by
    rw[ae1 (by omega),x6 (by omega)]
   rw[c7] at hE;have r:=MD l l.length d (ad0 _);obtain⟨r1,r2⟩:=DB (olds:=f) (Vs:=[o9 .i64 d]) (z:=(o9 .i64 0).cells) (k:=grownCap w (l.length+1) c 3) (n:=l.length) (m:=1) (size:=1) rfl (by omega) rfl T;have b7:(f.toArray++[o9 .i64 d].toArray)=(f++[o9 .i64 d]).toArray:=by simp
   rw[b7] at r1 r2;have key:∀(row:Array Value) (O:Nat),row.size=O->(∀q,q<(f++[o9 .i64 d]).length->row[q]? = (f++[o9 .i64 d])[q]?)->l.length+1<=O->O<=maxLen->
     Bx C I Γ [.arr z 3 1 l,.arr false 3 1 [[SV.int .i64 d]]] w Φ (.fl 0) [.arr z 3 1 (Oc l l.length d),.arr false 3 1 [[SV.int .i64 d]]] s (.slice (some ⟨w.heap.size,0,none⟩) (l.length+1) O) (w.drew.alloc (.cells row 3)):=by
    intro row O b1 b2 b3 b4;have D:(w.drew.alloc (.cells row 3)).heap=w.heap.push (.cells row 3):=rfl;have:=OE (C:=C) (w':=w.drew.alloc (.cells row 3)) (l':=Oc l l.length d) hI w.heap.size O (f++[o9 .i64 d]) row b6 hH hi hd (.inr rfl) (by rw[D];simp) (λk N _=>H8 D N) (by rw[D];simp) rfl rfl rfl (G9 D) (hE.mono (λg hg=>H8 D (hH.stlt g hg)) (λ_ h=>h)) (Aa1 _ _ _) b2 (by rw[b1,k9,o0];omega) (by rw[r];exact b3) b4 b1;rw[r] at this;exact this
   exact key _ _ (r1.trans (s9 _)) r2 T b5
  have f5:∀(row:Array Value) (f:List Value),f.length=l.length->i<l.length->l.length+1<=row.size->(∀q,q<i->row[q]? = f[q]?)->
    ∀q,q<(f.take i++o9 .i64 d::f.drop i).length->(H7 (H7 row.toList i [o9 .i64 d]) (i+1) (f.drop i)).toArray[q]? = (f.take i++o9 .i64 d::f.drop i)[q]?:=by
   intro row f a1 a2 a3 a4 q hq;have e9:q<l.length+1:=by
    rw[k9,j4,o8,j5] at hq;omega
   have ht:(f.take i).length=i:=by rw[o8];omega
   have Y:row.toList.length=row.size:=y9;simp only[aa3];rw[O7 _ _ _ (by rw[E5,j5,Y];omega),O7 _ _ _ (by rw[o0,Y];omega)];by_cases h1:q<i
   ·rw[I9,I9,aa7 (by omega),y8 h1];simpa using a4 q h1
   ·by_cases h2:q=i
    ·subst h2;rw[I9,ac (by rw[o0];omega),w9 (by omega),ht,ai3];rfl
    ·rw[ac (by rw[j5];omega),w9 (by omega),ht,show q-i=(q-(i+1))+1 by omega,z7]
  have P:∀(g c:Nat) (f:List Value),i<l.length->l.length<=c->c<l.length+1->f.length=l.length->(∀j v,f[j]? = some v->w.cell? ⟨g,0+j,none⟩=some v)->(∀v∈f,v.oneCell'=true)->Els Γ.St w 1 l f->
    Calls c9 174 #[.slice (some ⟨g,0,none⟩) l.length c,.int .i64 (i:Int),.slice (some ⟨g1,0,none⟩) 1 A] w λe w'=>∃V,e = .returned V/\Bx C I Γ [.arr z 3 1 l,.arr false 3 1 [[SV.int .i64 d]]] w Φ (.fl 0) [.arr z 3 1 (Oc l i d),.arr false 3 1 [[SV.int .i64 d]]] s V w':=by
   intro g c f W a1 a2 a3 a4 a5 a6;refine(Any2.slices_Insert_int_grow Tryz.lays2_21 g 0 l.length c i g1 0 1 A f [.int .i64 d] w W (by omega) a1 a2 (by omega) a3 rfl a4 t a5 M).mono ?_;rintro e w' ⟨rfl,rfl⟩;refine⟨_,rfl,?_⟩;obtain⟨T,b5⟩:=Kg (w:=w) (need:=l.length+1) (cap:=c) (e:=3) (by omega);have hE:=MC (n:=d) a6 X;have r:=MD l i d X;have key:∀(row:Array Value) (O:Nat),row.size=O->(∀q,q<i->row[q]? = f[q]?)->l.length+1<=O->O<=maxLen->
     Bx C I Γ [.arr z 3 1 l,.arr false 3 1 [[SV.int .i64 d]]] w Φ (.fl 0) [.arr z 3 1 (Oc l i d),.arr false 3 1 [[SV.int .i64 d]]] s (.slice (some ⟨w.heap.size,0,none⟩) (l.length+1) O) (((w.alloc (.cells row 3)).drew.setCells w.heap.size i [o9 .i64 d]).drew.setCells w.heap.size (i+1) (f.drop i)):=by
    intro row O b1 b2 b3 b4;have D:(w.alloc (.cells row 3)).drew.heap=w.heap.push (.cells row 3):=rfl;obtain⟨c1,c2,c3,c4,c5,c6⟩:=Dj (w:=(w.alloc (.cells row 3)).drew) (o:=i) (vs:=[o9 .i64 d]) (G9 D) (by rw[o0];omega) M;generalize f2:(w.alloc (.cells row 3)).drew.setCells w.heap.size i [o9 .i64 d]=w1 at *;have Q:(H7 row.toList i [o9 .i64 d]).toArray.size=O:=by rw[s8,E5];simpa using b1
    obtain⟨d1,d2,d3,d4,d5,d6⟩:=Dj (w:=w1.drew) (o:=i+1) (vs:=f.drop i) c1 (by rw[Q,j5];omega) (λv hv=>a5 v (ab6 hv));have a8:∀k,k<w.heap.size->(w1.drew.setCells w.heap.size (i+1) (f.drop i)).heap[k]? = w.heap[k]?:=λk N=>by
     rw[d2 k (by omega)];exact(c2 k (by omega)).trans (H8 D N)
    have e3:(w1.drew.setCells w.heap.size (i+1) (f.drop i)).heap.size=w.heap.size+1:=by
     rw[d3];show w1.heap.size=_;rw[c3,D];simp
    have:=OE (C:=C) (w':=w1.drew.setCells w.heap.size (i+1) (f.drop i)) (l':=Oc l i d) hI w.heap.size O (f.take i++o9 .i64 d::f.drop i) _ b6 hH hi hd (.inr rfl) (by rw[e3];omega) (λk N _=>a8 k N) (by rw[e3];omega) (d4.trans c4) (d5.trans c5) (d6.trans c6) d1 (hE.mono (λg hg=>a8 g (hH.stlt g hg)) (λ_ h=>h)) (Aa1 _ _ _) (f5 row f a3 W (by omega) b2) (by rw[s8,E5,k9,j4,o8,j5];simp only[s8,E5] at Q ⊢;omega) (by rw[r];exact b3) b4 (by rw[s8,E5];simpa using Q);rw[r] at this;exact this
   have f3:(o9 .i64 0).cells.size=1:=rfl;have ht:(f.take i).length=i:=by rw[o8];omega
   refine key _ _ ?_ (λq hq=>?_) T b5
   ·simp only[ac8,s8,size_zeroCells,f3,s9,ht];have:l.length+1<=grownCap w (l.length+1) c 3:=T;show i+(l.length+1-i)+(grownCap w (l.length+1) c 3-(l.length+1))=grownCap w (l.length+1) c 3;omega
   ·rw[ac3 (by simp only[ac8,s8,ht];omega),ac3 (by simp only[s8,ht];omega),aa3,y8 hq]
  have e5:∀(row:Array Value) (f:List Value),f.length=l.length->i<l.length->l.length+1<=row.size->(∀q,q<i->row[q]? = f[q]?)->
    ∀q,q<(f.take i++o9 .i64 d::f.drop i).length->(H7 (H7 row.toList (i+1) (f.drop i)) i [o9 .i64 d]).toArray[q]? = (f.take i++o9 .i64 d::f.drop i)[q]?:=by
   intro row f a1 a2 a3 a4 q hq;have e9:q<l.length+1:=by
    rw[k9,j4,o8,j5] at hq;omega
   have ht:(f.take i).length=i:=by rw[o8];omega
   have Y:row.toList.length=row.size:=y9;simp only[aa3];rw[O7 _ _ _ (by rw[E5,o0,Y];omega),O7 _ _ _ (by rw[j5,Y];omega)];by_cases h1:q<i
   ·rw[I9,I9,aa7 (by omega),y8 h1];simpa using a4 q h1
   ·by_cases h2:q=i
    ·subst h2;rw[ac (by rw[o0];omega),w9 (by omega),ht,ai3];rfl
    ·rw[ae (by rw[o0];omega),ac (by rw[j5];omega),w9 (by omega),ht,show q-i=(q-(i+1))+1 by omega,z7]
  cases hs with
  | flv _ e2 f4 h'=>
   simp only[A3,p6,y5,Blk.shp,j6,Shp.arr.injEq] at h';obtain⟨q1,q2,q3,h4⟩:=h';obtain rfl:=p7.1 h4;obtain rfl:i=0:=by simpa using X
   exact B none 0 [] (by simp) (by simp) rfl (λ_=>rfl) (λa h=>by cases h) ⟨rfl,λj x=>by simp at x⟩
  | fl _ g z' e2 f4 n' cap h' e4 y R hm d9=>
   simp only[A3,p6,y5,Blk.shp,j6,Shp.arr.injEq] at h';obtain⟨rfl,rfl,rfl,rfl⟩:=h';have e8:¬(z=true/\l=[]):=by rintro⟨q1,q2⟩;exact e4 q1 (by rw[q2];rfl)
   obtain⟨g',p,d0,hh,b8,K,c8⟩:=hH.arr' (b:=0) rfl e8;obtain rfl:g=g':=by
    rw[y] at d0;exact ae5 d0
   have c0:p.size=cap:=by
    have:=d9;simp only[ab2,hh,j6,ad5,true_and,s9] at this;exact this
   rw[s9] at b8;have hO:Els Γ.St w 1 l (p.toList.take l.length):=by
    refine⟨by rw[o8,y9 (xs:=p)];omega,λj x=>⟨K j x,λk N=>?_⟩⟩;obtain⟨U,e1,u⟩:=c8 j x k N;refine⟨U,?_,u⟩;have f6:k<1:=by rw[<-K j x];exact N
    rw[aa8,U9];simpa using e1
   have F:(p.toList.take l.length).length=l.length:=by rw[o8,y9 (xs:=p)];omega
   have J:∀j v,(p.toList.take l.length)[j]? = some v->w.cell? ⟨g,0+j,none⟩=some v:=by
    intro j v x;have a0:j<l.length:=by
     have:=(ac6.1 x).1;omega
    rw[aa8,ac a0] at x;simpa[ad1,hh] using x
   have a9:∀v∈p.toList.take l.length,v.oneCell'=true:=by
    intro v hv;obtain⟨j,x,rfl⟩:=af3 hv;have a0:j<l.length:=by omega
    obtain⟨_,u⟩:=hO.2 j a0;obtain⟨U,e1,u2⟩:=u 0 (by rw[K j a0];exact Nat.one_pos);rw[s9,ac1,j7 x] at e1;cases e1;exact u2.oneCell
   have r:=MD l i d X;have hE:=MC (n:=d) hO X;have Z:∀j,j<cap->(w.cell? ⟨g,j,none⟩).isSome=true:=by
    intro j x;simp only[ad1,hh];rw[aa6 (by omega)];rfl
   have a7:∀j,w.frozen? ⟨g,j,none⟩=false:=λj=>by simp[ab4,hh]
   have d8:g1≠g:=λe=>by
    have:=hH.inj 1 0 g (by rw[<-e];exact n1) y;omega
   have d7:cap<=9223372036854775807:=by
    simp only[maxLen] at hm;omega
   by_cases L:l.length+1<=cap
   ·have key:∀(w':World) (row:List Value),w'.heap[g]? = some (.cells row.toArray 3 (0,0))->(∀k,k≠g->w'.heap[k]? = w.heap[k]?)->w'.heap.size=w.heap.size->w'.os=w.os->w'.tape=w.tape->w'.output=w.output->row.length=cap->
      (∀q,q<((p.toList.take l.length).take i++o9 .i64 d::(p.toList.take l.length).drop i).length->row.toArray[q]? = ((p.toList.take l.length).take i++o9 .i64 d::(p.toList.take l.length).drop i)[q]?)->
      Bx C I Γ [.arr z 3 1 l,.arr false 3 1 [[SV.int .i64 d]]] w Φ (.fl 0) [.arr z 3 1 (Oc l i d),.arr false 3 1 [[SV.int .i64 d]]] s (.slice (some ⟨g,0,none⟩) (l.length+1) cap) w':=by
     intro w' row k1 k2 k3 k4 k5 k6 k7 k8;have e6:¬ Γ.St g:=(hH.lt 0 g y).2.2;have:=OE (C:=C) (w':=w') (l':=Oc l i d) hI g cap ((p.toList.take l.length).take i++o9 .i64 d::(p.toList.take l.length).drop i) row.toArray b6 hH hi hd (.inl y) (by rw[k3];exact(hH.lt 0 g y).2.1) (λk N e7=>k2 k (λe=>e7 (e▸y))) (by omega) k4 k5 k6 k1
      (hE.mono (λk N=>k2 k (λe=>e6 (e▸N))) (λ_ h=>h)) (Aa1 _ _ _) k8
      (by rw[s8,k7,k9,j4,o8,j5,F];omega) (by rw[r];exact L) hm (by rw[s8,k7])
     rw[r] at this;exact this
    by_cases b0:i=l.length
    ·subst b0;refine(Any2.slices_Insert_int_end_room Tryz.lays2_21 g 0 l.length cap g1 0 1 A [.int .i64 d] w (by omega) L d7 rfl (λj x=>Z _ (by omega)) (λj x=>a7 _) t M).mono ?_;rintro e w' ⟨rfl,rfl⟩;refine⟨_,rfl,?_⟩;obtain⟨c1,c2,c3,c4,c5,c6⟩:=Dj (w:=w) (o:=0+l.length) (vs:=[o9 .i64 d]) hh (by rw[o0];omega) M;refine key _ _ c1 c2 c3 c4 c5 c6 (by rw[E5];simpa using c0) (λq hq=>?_);rw[ae1 (by omega),x6 (by omega)] at hq ⊢;rw[k9,F,o0] at hq;simp only[aa3];rw[O7 _ _ _ (by rw[o0,y9 (xs:=p)];omega)];by_cases f0:q<l.length
     ·rw[I9,aa7 (by omega),aa8,ac f0]
     ·obtain rfl:q=l.length:=by omega
      rw[ac (by rw[o0];omega),w9 (by omega),F];simp
    ·have W:i<l.length:=by omega
     refine(Any2.slices_Insert_int_shift Tryz.lays2_21 g 0 l.length cap i g1 0 1 A (p.toList.take l.length) [.int .i64 d] w W (by omega) L d7 d8 F rfl J (λj x=>Z _ (by omega)) (λj x=>a7 _) t a9 M 3 3 b9.size p.size (by simp[ab2,n2]) (by simp[ab2,hh]) (by omega) (by simp[ab4,n2]) (by simp[ab4,n2])).mono ?_;rintro e w' ⟨rfl,rfl⟩;refine⟨_,rfl,?_⟩;obtain⟨c1,c2,c3,c4,c5,c6⟩:=Dj (w:=w.drew) (o:=0+(i+1)) (vs:=(p.toList.take l.length).drop i) hh (by rw[j5,F];omega) (λv hv=>a9 v (ab6 hv));generalize f2:w.drew.setCells g (0+(i+1)) ((p.toList.take l.length).drop i)=w1 at *;have Q:(H7 p.toList (0+(i+1)) ((p.toList.take l.length).drop i)).toArray.size=cap:=by rw[s8,E5];simpa using c0
     obtain⟨d1,d2,d3,d4,d5,d6⟩:=Dj (w:=w1) (o:=0+i) (vs:=[o9 .i64 d]) c1 (by rw[Q,o0];omega) M;refine key _ _ d1 (λk N=>(d2 k N).trans (c2 k N)) (d3.trans c3) (d4.trans c4) (d5.trans c5) (d6.trans c6) (by rw[E5];simpa using Q) ?_;rw[ac2,ac2];exact e5 p _ F W (by omega) (λq hq=>by rw[aa8,U9];simp)
   ·by_cases b0:i=l.length
    ·subst b0;exact B (some ⟨g,0,none⟩) cap (p.toList.take l.length) R (by omega) F (λh=>by cases h) (λa h j v x=>by
      obtain rfl:=ae5 h;rw[N2];exact J j v x) hO
    ·exact P g cap _ (by omega) R (by omega) F J a9 hO
 ·cases G
end
section
open Go Go.Proofs
section
def Ds9:Xh c9 GX 154 GP:=by
 refine Hn (C₀:=XW LF) (Pp (lx:=[(157,Qk),(155,Ql)]) (ly:=[(173,UV),(174,XD)]) (ls:=[]) rfl rfl rfl ⟨A07,A08,trivial⟩ ⟨D49,D51,trivial⟩ trivial) (I1 rfl (by kernel_rfl)) follows ?_;intro args H ret o h;unfold GP at h;split at h
 ·rename_i a n i b c z l;obtain⟨d,h⟩:=D2 h;obtain⟨f,h⟩:=D2 h;obtain⟨g,h⟩:=D2 h;obtain⟨j,h⟩:=D2 h;obtain⟨k,h⟩:=D2 h;obtain⟨rfl,rfl⟩:=K2 h;refine⟨rfl,rfl,λp m s=>?_⟩;have e:=(Cr7 LF m s 0 a n i b c z l).trans (A81 a n i b c z l d f g j k);exact⟨1,_,e,rfl⟩
 ·cases h
def D31:C0 c9 GX 129 Cm8:=by
 refine C0.fix (pf:=WB) _ (J5 [1,0] (C₀:=Bf LF) (Pp (lx:=[(111,GQ)]) (ly:=[(154,GP)]) (ls:=[]) rfl rfl rfl ⟨B30,trivial⟩ ⟨Ds9,trivial⟩ trivial) (I1 rfl (by kernel_rfl)) follows ?_);intro args ret f h;unfold WB at h;split at h
 ·rename_i s;obtain⟨b,h⟩:=D2 h;obtain⟨rfl,rfl⟩:=K2 h;obtain⟨e,c,a,d⟩:=Di9 s b;exact⟨rfl,rfl,rfl,1,e,c,(Di8 LF noY () 0 s).trans a,d⟩
 ·cases h
end
end
section
open Go Go.Proofs Go.Sort
def C88:C0 c9 GX 169 Ak5:=by
 refine C0.fix (pf:=BY) _ (L1 (fn:=Tryz.f169) (by kernel_rfl) (by kernel_rfl) (by kernel_rfl) ?_);intro args ret l h;unfold BY at h;split at h
 ·rename_i s;obtain⟨b,h⟩:=D2 h;obtain⟨rfl,rfl⟩:=K2 h;refine⟨rfl,rfl,λC n a o w m c g f=>?_⟩;obtain⟨U,rfl,j⟩:=f.arr1;obtain⟨k,rfl,rfl⟩:=j.inv_str;have i:=M5 b;refine(Any.utf8_ValidString Tryz.lays196 k w (by simp at i;omega) (Dd6 c a)).mono ?_;rintro e w' ⟨rfl,d⟩;rw[<-Br6];exact⟨_,rfl,d,VP.mk_bool _⟩
 ·cases h
def C84:C0 c9 GX 170 Ak3:=by
 refine C0.fix (pf:=BU) _ (L1 (fn:=Tryz.f170) (by kernel_rfl) (by kernel_rfl) (by kernel_rfl) ?_);intro args ret j h;unfold BU at h;split at h
 ·rename_i s;obtain⟨a,h⟩:=D2 h;obtain⟨rfl,rfl⟩:=K2 h;refine⟨rfl,rfl,λC m b n w k l d c=>?_⟩;obtain⟨U,rfl,g⟩:=c.arr1;obtain⟨i,rfl,rfl⟩:=g.inv_str;have f:=M5 a;refine(Any.utf8_RuneCountInString Tryz.lays195 i w (by simp at f;omega)).mono ?_;rintro e w' ⟨rfl,pos,rfl⟩;rw[Lib.runeCountL_eq];exact⟨_,rfl,A44 _ _ _,VP.mk_int _ _⟩
 ·cases h
def Dp9:C0 c9 GX 127 Xc:=λargs ret a h=>by
 have:L8 (Xc args)=none:=by unfold Xc Aj5;split<;>rfl
 rw[this] at h;cases h
def B38:Aj3 c9 GX 126 Sp:=by
 refine FZ (C₀:=Bt LF) ((L9.ok (l:=[(127,Xc),(128,JJ)]) rfl ⟨Dp9,Bs6,trivial⟩)) (I1 rfl (by kernel_rfl)) follows ?_;intro args H L h e a s d c;unfold Sp at h;split at h
 ·rename_i p t n;simp only[j6,ad5] at h;obtain⟨b,rfl⟩:=h;obtain⟨g,f⟩:=Bp1 (R:=PV × List Blk × e) a p t n s d b c;exact⟨1,_,(C20 LF a 0 p t n s).trans (f _)⟩
 ·cases h
end
section
open Go Go.Proofs
section
def Dq8:C0 c9 GX 99 Bt9:=xf [] (Nn LF) IO rfl ⟨D31,C72,trivial⟩ rfl follows λargs=>by
 unfold IO;split
 ·rename_i s;exact λa=>⟨rfl,rfl,rfl,_,_,(Cv0 LF noY () 0 s).trans (Bc3 s a),rfl⟩
 ·trivial
def C70:C0 c9 GX 60 VX:=xf [] (Vo LF) VY rfl ⟨C62,Dq8,trivial⟩ rfl follows λargs=>by
 unfold VY;split
 ·rename_i s;exact λa=>⟨rfl,rfl,rfl,_,_,(Dh8 LF noY () 0 s).trans (Cb0 s a),rfl⟩
 ·trivial
def D30:C0 c9 GX 146 Cm6:=xf [0,0] (Qy LF) VQ rfl ⟨C88,C84,Bs4,C72,C70,trivial⟩ rfl follows λargs=>by
 unfold VQ;split
 ·rename_i s;exact λb=>(let⟨e,c,a,d⟩:=Dg6 s b;⟨rfl,rfl,rfl,e,c,(Dg5 LF noY () 0 s).trans a,d⟩)
 ·trivial
def D26:C0 c9 GX 167 Cm2:=xf [] (Kx LF) VB rfl trivial rfl follows λargs=>by
 unfold VB;split
 ·rename_i b;exact λa=>⟨rfl,rfl,rfl,_,_,(De5 LF noY () 0 b).trans (B75 b a),rfl⟩
 ·trivial
def D25:C0 c9 GX 143 Cm1:=xf [0,0] (Vl LF) VA rfl ⟨D26,trivial⟩ rfl follows λargs=>by
 unfold VA;split
 ·rename_i s;exact λb=>(let⟨e,c,a,d⟩:=De3 s b;⟨rfl,rfl,rfl,e,c,(De2 LF noY () 0 s).trans a,d⟩)
 ·trivial
def Dq2:C0 c9 GX 142 Bt5:=xf [0,0] (XX LF) IE rfl ⟨D87,trivial⟩ rfl follows λargs=>by
 unfold IE;split
 ·rename_i s;exact λb=>λc=>(let⟨f,d,a,e⟩:=Ct2 s b c;⟨rfl,rfl,rfl,f,d,(Ct1 LF noY () 0 s).trans a,e⟩)
 ·trivial
def C65:C0 c9 GX 112 Aj7:=xf [0,0] (Ir LF) BF rfl ⟨Ai4,Dq2,D25,Ds5,UN,D33,Cl2,D30,B33,trivial⟩ rfl follows λargs=>by
 unfold BF;split
 ·rename_i s;exact λb=>(let⟨e,c,a,d⟩:=B79 s b;⟨rfl,rfl,rfl,e,c,(B78 LF noY () 0 s).trans a,d⟩)
 ·trivial
def Dq9:C0 c9 GX 98 VV:=by
 refine C0.fix (pf:=IP) _ (Ba (C₀:=YD LF) (L9.ok (l:=[]) rfl trivial) (I1 rfl (by kernel_rfl)) follows ?_);intro args ret a h;unfold IP at h;split at h
 ·rename_i t p n;obtain⟨rfl,rfl⟩:=K2 h;have e:=(Cv2 LF noY () 0 t p n).trans (Bc4 t p n );exact⟨rfl,1,_,[],e,rfl,rfl⟩
 ·cases h
def C83:C0 c9 GX 59 JO:=by
 refine C0.fix (pf:=XF) _ (Ba (C₀:=A64 LF) (L9.ok (l:=[(98,VV)]) rfl ⟨Dq9,trivial⟩) (I1 rfl (by kernel_rfl)) follows ?_);intro args ret a h;unfold XF at h;split at h
 ·rename_i t p;obtain⟨rfl,rfl⟩:=K2 h;have e:=(Do0 LF noY () 0 t p).trans (Ch8 t p );exact⟨rfl,1,_,[],e,rfl,rfl⟩
 ·cases h
def Dv4:C0 c9 GX 34 Cm4:=by
 refine C0.fix (pf:=A17) _ (J5 [] (C₀:=Qx LF) (Pp (lx:=[(58,Sl),(59,JO),(60,VX)]) (ly:=[]) (ls:=[(126,Sp)]) rfl rfl rfl ⟨UN,C83,C70,trivial⟩ trivial ⟨B38,trivial⟩) (I1 rfl (by kernel_rfl)) follows ?_);intro args ret f h;unfold A17 at h;split at h
 ·rename_i s;obtain⟨b,h⟩:=D2 h;obtain⟨rfl,rfl⟩:=K2 h;obtain⟨e,c,a,d⟩:=Dy1 s b;exact⟨rfl,rfl,rfl,1,e,c,(Dy0 LF noY () 0 s).trans a,d⟩
 ·cases h
def Bs3:C0 c9 GX 15 VG:=xf [] (A56 LF) VH rfl ⟨Dv4,trivial⟩ rfl follows λargs=>by
 unfold VH;split
 ·rename_i i j v4 a b c d e f g h;exact λl=>λm=>λn=>(let⟨q,o,k,p⟩:=Bx9 i j v4 a b c d e f g h l m n;⟨rfl,rfl,rfl,q,o,(Df3 LF noY () 0 i j v4 a b c d e f g h).trans k,p⟩)
 ·trivial
def Bs2:C0 c9 GX 17 IF:=xf [] (A53 LF) VD rfl ⟨Bs3,D83,D85,trivial⟩ rfl follows λargs=>by
 unfold VD;split
 ·rename_i i j v4 a b c d e f g h;exact λl=>λm=>λn=>(let⟨q,o,k,p⟩:=Bx7 i j v4 a b c d e f g h l m n;⟨rfl,rfl,rfl,q,o,(De9 LF noY () 0 i j v4 a b c d e f g h).trans k,p⟩)
 ·trivial
def D24:C0 c9 GX 74 Cm0:=xf [] (A51 LF) UZ rfl ⟨Dv4,D27,trivial⟩ rfl follows λargs=>by
 unfold UZ;split
 ·rename_i p s;exact λa=>λb=>⟨rfl,rfl,rfl,_,_,(De1 LF noY () 0 p s).trans (B73 p s a b),rfl⟩
 ·trivial
end
end
section
open Go Go.Proofs Go.Sort
def Ai5:C0 c9 GX 104 Xe:=by
 refine C0.fix (pf:=JK) _ (L1 (fn:=Tryz.f104) (by kernel_rfl) (by kernel_rfl) (by kernel_rfl) ?_);intro args ret j h;unfold JK at h;split at h
 ·rename_i s c;obtain⟨l,h⟩:=D2 h;obtain⟨m,h⟩:=D2 h;obtain⟨rfl,rfl⟩:=K2 h;refine⟨rfl,rfl,λC o a p w k n d b=>?_⟩;obtain⟨U,V,rfl,f,g⟩:=b.arr2;obtain⟨i,rfl,rfl⟩:=f.inv_str;obtain rfl:=g.inv_int;refine(Any.strings_IndexByte Tryz.lays137 i c w).mono ?_;rintro e w' ⟨rfl,rfl⟩;exact⟨_,rfl,ag4 _ _,VP.mk_int _ _⟩
 ·cases h
def Dq6:C0 c9 GX 61 Bt7:=by
 refine C0.fix (pf:=IK) _ (L1 (fn:=Tryz.f61) (by kernel_rfl) (by kernel_rfl) (by kernel_rfl) ?_);intro args ret l h;unfold IK at h;split at h
 ·rename_i n;obtain⟨b,h⟩:=D2 h;obtain⟨rfl,rfl⟩:=K2 h;refine⟨rfl,rfl,λC o a p w m c i g=>?_⟩;obtain⟨U,rfl,j⟩:=g.arr1;obtain rfl:=j.inv_int;obtain⟨d,f⟩:=MA.1 b;refine(Any.strconv_Itoa Tryz.laysM171 n (by omega) (by omega) w (Cs6 c a)).mono ?_;rintro e w' ⟨rfl,k,os,rfl⟩;refine⟨_,rfl,(Qw w k).trans (show RowKit.Below w.heap.size _ _ from KI (w.drewN k) os),?_⟩;have:Lib.itoa n=Pv n:=by
   unfold Lib.itoa Pv;split
   ·rw[show n.natAbs=(-n).toNat by omega]
   ·rfl
  rw[this];exact VP.mk_str _
 ·cases h
def C79:C0 c9 GX 68 Ak1:=by
 refine C0.fix (pf:=Sn) _ (L1 (fn:=Tryz.f68) (by kernel_rfl) (by kernel_rfl) (by kernel_rfl) ?_);intro args ret A h;unfold Sn at h;split at h
 ·rename_i s p;obtain⟨i,h⟩:=D2 h;obtain⟨k,h⟩:=D2 h;obtain⟨l,h⟩:=D2 h;obtain⟨rfl,rfl⟩:=K2 h;refine⟨rfl,rfl,λC G m I w B F r q=>?_⟩;obtain⟨U,V,rfl,y,z⟩:=q.arr2;obtain⟨g,rfl,rfl⟩:=y.inv_str;obtain⟨d,rfl,a⟩:=z.inv_str;have H:=M5 i;have c:p=isl:=by simpa[DJ] using k
  have D:=v8 l;have f:=zero_of_info (P:=c9) (t:=Tryz.lays153_ren.t 116) (v:=.agg (Array.replicate 256 (.bool false))) (n:=256) (by kernel_rfl);subst c;have u:d.size=3:=by have:=ag8 d;rw[a] at this;exact this
  have x:=ag8 g;refine(Any.strings_IndexAny_long Tryz.lays153 f.1 f.2 g d w (by omega) (by omega) (by omega) (by omega) ?_).mono ?_
  ·rw[a];intro j b o;have:b∈isl:=List.mem_of_getElem? o
   revert b
   simp only[isl,af6,ad8,or_false];rintro b _ (rfl|rfl|rfl)<;>decide
  ·rintro e w' ⟨rfl,rfl⟩;rw[a];exact⟨_,rfl,((ag4 _ _).alloc (ad0 _) _).alloc (by simp) _,VP.mk_int _ _⟩
 ·cases h
end
section
open Go Go.Proofs
def Ag3{a:Bool->Option R}(n:Int):Ag2 LF n a=a (ltI 8 n):=rfl
def Az5{a:Bool->Option R}(r:Int):OO LF r a=a (OP r):=by
 have b:ltN r 55296=(!ltI r 0&&ltI r 55296):=by
  rw[w6,E7,o7,ac9,Yy,Tc];omega
 have c:(ltI 57343 r&&ltN r 1114112)=(ltI 57343 r&&!ltI 1114111 r):=by
  rw[w6,o7,o7,E7,ac9,Yy,Tc];omega
 unfold OO Na OP;rw[b,c];cases ltI r 0<;>cases ltI r 55296<;>cases ltI 57343 r<;>cases ltI 1114111 r<;>rfl
def Dy2(b:UInt8):af4 isl b=irn (b.toNat:Int):=by
 by_cases a:b=47
 ·subst a;rfl
 ·by_cases d:b=63
  ·subst d;rfl
  ·by_cases f:b=35
   ·subst f;rfl
   ·have n:∀c:UInt8,b≠c->(c==b)=false:=λc h=>by rw[beq_eq_false_iff_ne];exact Ne.symm h
    have e:∀c:UInt8,b≠c->¬(b.toNat:Int)=(c.toNat:Int):=λc h q=>h (UInt8.toNat_inj.1 (by omega))
    have g:¬(b.toNat:Int)=47:=e 47 a;have i:¬(b.toNat:Int)=63:=e 63 d;have j:¬(b.toNat:Int)=35:=e 35 f;unfold irn;rw[ae g,ae i,ae j];simp[isl,af4,n _ a,n _ d,n _ f]
def D72{l:By}{x:UInt8}(h:∀b∈l,b.toNat<128)(d:128<=x.toNat):af4 l x=-1:=by
 have e:=Ob x l;have c:l.contains x=false:=by
  rw[Bool.eq_false_iff];intro a;have:=h x (by simpa using a);omega
 rw[c,p5,Tc] at e;have:=Lib.indexByte_ge l x;omega
def Cr9{r:Int}(g:OP r=true)(h:128<=r):2<=(ab7 r).data.toList.length/\(ab7 r).data.toList.length<=4/\128<=((ab7 r).data.toList.getD ((ab7 r).data.toList.length-1) 0).toNat:=by
 have a:Utf8.valid r=true:=by
  rw[validRune_eq];unfold validRune;simp only[OP,ab8,o7,E7,Tc] at g;exact decide_eq_true (by omega)
 obtain⟨b,c,d⟩:=encode_facts r a h;have f:=ag8 (ab7 r);rw[<-f];refine⟨b,c,?_⟩;have e:=d (by omega);rw[o6,j7 (by omega),Option.getD_some];exact e
def Ch3(r:Int)(h:ltN r 1114112=true):∃v H,OF LF r (λk=>rv (.s (.int .i64 k)) []) (λk I=>rv (.s (.int .i64 k)) [.iter [47,63,35] I])=rv v H/\v.stab [] H = .s (.int .i64 (irn r)):=by
 obtain⟨A,M⟩:=E7.1 h;have B:=D6;unfold OF;rw[A7,p5,aa];unfold Mt;by_cases p:r<128
 ·obtain⟨n,rfl⟩:=aa9 A;have e:wu8 (n:Int)=(n:Int):=O2;have f:u8n (n:Int)=ah0 n:=by unfold u8n;simp
  have g:(((ah0 n).toNat:Nat):Int)=(n:Int):=by simp;omega
  rw[A8,aa,e,H4,f];have o:=Dy2 (ah0 n);rw[g] at o;rw[<-o];exact⟨_,_,rfl,rfl⟩
 ·rw[A7,ab,Ct8 (by omega)];by_cases t:r=65533
  ·subst t;obtain⟨m,i⟩:∃m,LF=m+1+1+1+1:=⟨LF-4,by omega⟩
   have w:ae9 ⟨ae2 ([47,63,35]:By)⟩ 0=(47,1):=rfl;have x:ae9 ⟨ae2 ([47,63,35]:By)⟩ 1=(63,1):=rfl;have y:ae9 ⟨ae2 ([47,63,35]:By)⟩ 2=(35,1):=rfl;have go:∀(R:Type) (c:Int->Nat->Option R) (a:Nat->Option R),Az LF LF 0 c a=a 3:=λR c a=>by
    have L:Az LF (m+1) 3 c a=a 3:=by rw[Fw];rfl
    have K:Az LF (m+1+1) 2 c a=a 3:=by rw[Fw];unfold Ew;rw[y];exact L
    have J:Az LF (m+1+1+1) 1 c a=a 3:=by rw[Fw];unfold Ew;rw[x];exact K
    have d:Az LF (m+1+1+1+1) 0 c a=a 3:=by rw[Fw];unfold Ew;rw[w];exact J
    rw[<-i] at d;exact d
   rw[go];exact⟨_,_,rfl,rfl⟩
  ·rw[show(r==(65533:Int))=false by simpa using t,ab];cases F:OP r with
   | false=>exact⟨_,_,rfl,rfl⟩
   | true=>
    obtain⟨O,P,G⟩:=Cr9 F (by omega);simp only[vl,j9,ab];generalize (ab7 r).data.toList=l at *;obtain⟨m,i⟩:∃m,LF=m+1:=⟨LF-1,by omega⟩
    have z:A1 ((l.length:Int)-1)=((l.length-1:Nat):Int):=by rw[A6];omega
    have go:∀(R:Type) (c:Int->Option R) (a:Unit->Option R),a ()=c (-1)->Im LF LF l ((l.length-1:Nat):Int) c a=c (-1):=λR c a C=>by
     have d:Im LF (m+1) l ((l.length-1:Nat):Int) c a=c (-1):=by
      rw[GB];unfold Pe;by_cases N:l.length=4
      ·rw[A7];exact C
      ·rw[A8,H4,H4,F6,F6];simp only[vl,aa];have D:(([47,63,35]:By).getD (l.length-1) 0).toNat<128:=by
        have:l.length=2\/l.length=3:=by omega
        rcases this with q|q<;>rw[q]<;>decide
       have j:((((([47,63,35]:By).getD (l.length-1) 0).toNat:Nat):Int)!=(((l.getD (l.length-1) 0).toNat:Nat):Int))=true:=by
        rw[bne_iff_ne];omega
       have f:A1 (((l.length-1:Nat):Int)+1)=((l.length:Nat):Int):=by rw[A6];omega
       have g:cut ([47,63,35]:By) ((l.length:Nat):Int) 3=([47,63,35]:By).drop l.length:=by
        rw[show(3:Int)=((3:Nat):Int) from rfl,Fc];rfl
       have u:=(l.getD (l.length-1) 0).toNat_lt;rw[j,aa,f,O8,aa,g,D9 (by simp;omega),aa,H4,aa,Kr,D72 (λb u=>?_) G]
       ·rfl
       ·have:=ab6 u;simp only[af6,ad8,or_false] at this;rcases this with rfl|rfl|rfl<;>decide
     rw[<-i] at d;exact d
    rw[z,go _ _ _ rfl];exact⟨_,_,rfl,rfl⟩
def Cl1:C0 c9 GX 107 BS:=by
 refine C0.fix (pf:=Ux) _ (J5 [] (C₀:=CN LF) (L9.ok (l:=[]) rfl trivial) (I1 rfl (by kernel_rfl)) follows ?_);intro args ret a h;unfold Ux at h;split at h
 ·rename_i n;obtain⟨rfl,rfl⟩:=K2 h;have e:=(Bp2 LF noY () 0 n).trans (Ag3 n);exact⟨rfl,rfl,rfl,1,_,_,e,rfl⟩
 ·cases h
def C89:C0 c9 GX 138 JV:=by
 refine C0.fix (pf:=BZ) _ (J5 [] (C₀:=Da LF) (L9.ok (l:=[]) rfl trivial) (I1 rfl (by kernel_rfl)) follows ?_);intro args ret a h;unfold BZ at h;split at h
 ·rename_i n;obtain⟨rfl,rfl⟩:=K2 h;have e:=(Cj9 LF noY () 0 n).trans (Az5 n);exact⟨rfl,rfl,rfl,1,_,_,e,rfl⟩
 ·cases h
def C82:C0 c9 GX 108 Qo:=λargs ret a h=>by
 have:L8 (Qo args)=none:=by unfold Qo QJ;split<;>rfl
 rw[this] at h;cases h
def C81:C0 c9 GX 106 JL:=by
 refine C0.fix (pf:=BQ) _ (J5 [] (C₀:=N3 LF) (L9.ok (l:=[(104,Xe),(138,JV)]) rfl ⟨Ai5,C89,trivial⟩) (I1 rfl (by kernel_rfl)) follows ?_);intro args ret f h;unfold BQ at h;split at h
 ·rename_i p r;obtain⟨a,h⟩:=D2 h;obtain⟨b,h⟩:=D2 h;obtain⟨rfl,rfl⟩:=K2 h;obtain rfl:p=isl:=by simpa[DJ] using a
  obtain⟨d,H,e,c⟩:=Ch3 r b;exact⟨rfl,rfl,rfl,1,d,H,(Ch2 LF noY () 0 r).trans e,c⟩
 ·cases h
def OJ:∀(w:Nat) (l:By),w<=l.length->(∀i,i<w->Ai (l.getD i 0)=false)->N8 l=w+N8 (l.drop w)
 | 0,l,_,_=>by simp
 | w+1,[],h,_=>by simp at h
 | w+1,b::l,h,hb=>by
  have a:=hb 0 (by omega);rw[af2] at a;have d:=OJ w l (by simpa using h) (λi c=>by have:=hb (i+1) (by omega);rwa [af1] at this);rw[Jp,a,List.drop_succ_cons];simp only[aa0,if_false];omega
def Ax4(s:By)(O:s.length<=8):∀(f m n:Nat),s.length-m<=f->m<=s.length->f<n->∃H t,∀(R:Type) (j:Int->List Blk->Option R) (k:By->Nat->Option R),
  Ms LF n s m j k=if N8 (s.drop m)<(s.drop m).length then j ((m+N8 (s.drop m):Nat):Int) H else k s t:=by
 intro f
 induction f with
 | zero=>
  intro m n G K L;rcases n with _|n;omega
  refine⟨[],m,λR j k=>?_⟩;rw[Ct];unfold Ah;rw[decide_eq_false (by omega),ab,x6 (by omega),ae (by simp)]
 | succ f z=>
  intro m n G K L;rcases n with _|n;omega
  by_cases a:m<s.length
  ·have F:=Lib.decodeL_drop ⟨s.toArray⟩ m;have h:ae9 ⟨ae2 s⟩ m=ag7 (s.drop m):=by rw[<-F]
   have p:=G2 s m a;have N:(s.drop m).length=s.length-m:=j5;generalize M:s.getD m 0=b at p;by_cases o:b.toNat<128
   ·have y:ag7 (s.drop m)=(b.toNat,1):=by rw[p];exact Lib.decodeL_ascii b _ o
    have l:=Dy3 b;cases g:Ai b with
    | true=>
     rw[g,j9] at l;have u:N8 (s.drop m)=0:=by rw[p,Jp,g];rfl
     refine⟨[Blk.iter s (m+1)],m,λR j k=>?_⟩;rw[Ct];unfold Ah;rw[decide_eq_true a,h,y,u,U9];simp only[vl,aa];rw[show DJ ([47,63,35]:By)=true from rfl,aa,E7.2 ⟨by omega,by omega⟩,aa,l];rfl
    | false=>
     rw[g,p5] at l;have u:N8 (s.drop m)=N8 (s.drop (m+1))+1:=by rw[p,Jp,g];rfl
     have v:(s.drop (m+1)).length=s.length-(m+1):=j5;obtain⟨H,t,e⟩:=z (m+1) n (by omega) (by omega) (by omega);refine⟨H,t,λR j k=>?_⟩;rw[Ct];unfold Ah;rw[decide_eq_true a,h,y];simp only[vl,aa];rw[show DJ ([47,63,35]:By)=true from rfl,aa,E7.2 ⟨by omega,by omega⟩,aa,l,j9,ab,e,u];by_cases q:N8 (s.drop (m+1))<(s.drop (m+1)).length
     ·rw[ac q,U9,show m+1+N8 (s.drop (m+1))=m+(N8 (s.drop (m+1))+1) by omega]
     ·rw[ae q,I9]
   ·obtain⟨A,B,C,D,x⟩:=Dx2 b (s.drop (m+1)) (by omega);rw[<-p] at A B C D x;have v:(s.drop (m+1)).length=s.length-(m+1):=j5;generalize ag7 (s.drop m)=d at *;obtain⟨c,w⟩:=d;simp only at A B C D x;have r:=OJ w (s.drop m) (by omega) (λi I=>C16 (x i I));rw[List.drop_drop] at r;have J:(s.drop (m+w)).length=s.length-(m+w):=j5;have l:ltI (irn (c:Int)) 0=true:=by rw[Ct8 (by omega)];rfl
    obtain⟨H,t,e⟩:=z (m+w) n (by omega) (by omega) (by omega);refine⟨H,t,λR j k=>?_⟩;rw[Ct];unfold Ah;rw[decide_eq_true a,h];simp only[vl,aa];rw[show DJ ([47,63,35]:By)=true from rfl,aa,E7.2 ⟨by omega,by omega⟩,aa,l,j9,ab,e,r];by_cases q:N8 (s.drop (m+w))<(s.drop (m+w)).length
    ·rw[ac q,U9,show m+w+N8 (s.drop (m+w))=m+(w+N8 (s.drop (m+w))) by omega]
    ·rw[ae q,I9]
  ·refine⟨[],m,λR j k=>?_⟩;rw[Ct];unfold Ah;rw[decide_eq_false a,ab,x6 (by omega),ae (by simp)]
def Ch0(s:By)(h:s.length<=8):∃r H,Af5 LF s (λc a=>rv (.s (.int .i64 c)) a)=rv r H/\r.stab [] H = .s (.int .i64 (Lib.indexAny s isl)):=by
 have b:=D6;obtain⟨H,d,e⟩:=Ax4 s h s.length 0 LF (by omega) (by omega) (by omega);unfold Af5;rw[A7,ab,e,Le,aa5,ac2];by_cases q:N8 s<s.length
 ·rw[ac q,ac q];exact⟨_,_,rfl,rfl⟩
 ·rw[ae q,ae q];exact⟨_,_,rfl,rfl⟩
def C80:C0 c9 GX 68 Ak2:=by
 refine C0.fix (pf:=So) _ (J5 [] (C₀:=Iw LF) (L9.ok (l:=[(106,JL),(107,BS),(108,Qo)]) rfl ⟨C81,Cl1,C82,trivial⟩) (I1 rfl (by kernel_rfl)) follows ?_);intro args ret f h;unfold So at h;split at h
 ·rename_i s p;obtain⟨a,h⟩:=D2 h;obtain⟨b,h⟩:=D2 h;obtain⟨rfl,rfl⟩:=K2 h;obtain rfl:p=isl:=by simpa[DJ] using a
  obtain⟨d,H,e,c⟩:=Ch0 s (v8 b);exact⟨rfl,rfl,rfl,1,d,H,(Cg9 LF noY () 0 s).trans e,c⟩
 ·cases h
def Mx{c:Bool}{t:Tr}(h:c=true):L8 (.need c t)=L8 t:=by subst h;rfl
def Ds3:C0 c9 GX 68 XC:=λargs ret c h=>by
 have a:=C79 args ret c;have b:=C80 args ret c;unfold XC at h;unfold Ak1 at a;unfold Ak2 at b;generalize D5 [[0],[0]] args=l at h a b;unfold Ak0 at h;split at h
 ·rename_i s p;obtain⟨e,h⟩:=D2 h;obtain⟨d,h⟩:=D2 h;by_cases f:s.length<=8
  ·refine b ?_;unfold So;rw[Mx d,Mx (aa4 f)];exact h
  ·refine a ?_;unfold Sn;rw[Mx e,Mx d,Mx (aa4 (by omega))];exact h
 ·cases h
section
def Dr0:C0 c9 GX 147 Bu0:=xf [] (YE LF) IQ rfl ⟨Bs5,trivial⟩ rfl follows λargs=>by
 unfold IQ;split
 ·rename_i s p;exact λa=>⟨rfl,rfl,rfl,_,_,(Cv3 LF noY () 0 s p).trans (Bc5 s p a),rfl⟩
 ·trivial
def D46:C0 c9 GX 114 Co1:=xf [] (A65 LF) XG rfl ⟨Dr0,trivial⟩ rfl follows λargs=>by
 unfold XG;split
 ·rename_i s p;exact λa=>⟨rfl,rfl,rfl,_,_,(Do5 LF noY () 0 s p).trans (Ci6 s p a),rfl⟩
 ·trivial
def B35:C0 c9 GX 41 XI:=xf [] (YP LF) JS rfl trivial rfl follows λargs=>by
 unfold JS;split
 ·rename_i s;exact⟨rfl,rfl,rfl,_,_,(C40 LF noY () 0 s).trans (Bq5 s ),rfl⟩
 ·trivial
def HY:C0 c9 GX 21 Sq:=xf [] (YR LF) JT rfl ⟨B35,trivial⟩ rfl follows λargs=>by
 unfold JT;split
 ·rename_i s;exact⟨rfl,rfl,rfl,_,_,(C43 LF noY () 0 s).trans (Br0 s ),rfl⟩
 ·trivial
def D48:C0 c9 GX 65 Co4:=xf [] (Bi LF) XK rfl ⟨Ai5,trivial⟩ rfl follows λargs=>by
 unfold XK;split
 ·rename_i s;exact λa=>⟨rfl,rfl,rfl,_,_,(Dp2 LF noY () 0 s).trans (Cj7 s a),rfl⟩
 ·trivial
def D47:C0 c9 GX 113 Co3:=xf [0,0] (Vw LF) XH rfl trivial rfl follows λargs=>by
 unfold XH;split
 ·rename_i s;exact λa=>⟨rfl,rfl,rfl,_,_,(Do8 LF noY () 0 s).trans (Ci9 s a),rfl⟩
 ·trivial
def C86:C0 c9 GX 70 Ak4:=xf [0,0] (Z8 LF) BX rfl ⟨B30,Ai4,Ai5,C65,D46,D47,B35,trivial⟩ rfl follows λargs=>by
 unfold BX;split
 ·rename_i n o j k v4 b c d e f g h i l m a;exact λq=>λr=>λt=>λu=>λv=>(let⟨y,w,p,x⟩:=Cj4 n o j k v4 b c d e f g h i l m a q r t u v;⟨rfl,rfl,rfl,y,w,(Cj3 LF noY () 0 n o j k v4 b c d e f g h i l m a).trans p,x⟩)
 ·trivial
def C87:C0 c9 GX 39 A31:=xf [0,0] (Vx LF) XJ rfl ⟨C78,D48,Bs4,HY,C62,Ds3,Ai4,C86,trivial⟩ rfl follows λargs=>by
 unfold XJ;split
 ·rename_i s;exact λb=>(let⟨e,c,a,d⟩:=Dp0 s b;⟨rfl,rfl,rfl,e,c,(Do9 LF noY () 0 s).trans a,d⟩)
 ·trivial
def C85:C0 c9 GX 19 JR:=xf [0,0] (KQ LF) BW rfl ⟨C87,trivial⟩ rfl follows λargs=>by
 unfold BW;split
 ·rename_i s;exact λb=>(let⟨e,c,a,d⟩:=Cj1 s b;⟨rfl,rfl,rfl,e,c,(Cj0 LF noY () 0 s).trans a,d⟩)
 ·trivial
def Ds6:C0 c9 GX 73 Bv4:=xf [] (YS LF) JU rfl ⟨HY,Bs2,Dq6,trivial⟩ rfl follows λargs=>by
 unfold JU;split
 ·rename_i m n i j v4 a b c d e f g h k l;exact λp=>λq=>λr=>λt=>(let⟨w,u,o,v⟩:=C45 m n i j v4 a b c d e f g h k l p q r t;⟨rfl,rfl,rfl,w,u,(C44 LF noY () 0 m n i j v4 a b c d e f g h k l).trans o,v⟩)
 ·trivial
def Cl3:C0 c9 GX 42 QL:=xf [] (CP LF) Uz rfl ⟨Ds6,C87,trivial⟩ rfl follows λargs=>by
 unfold Uz;split
 ·rename_i m n i j v4 a b c d e f g h k l;exact λp=>λq=>λr=>λt=>(let⟨w,u,o,v⟩:=Br2 m n i j v4 a b c d e f g h k l p q r t;⟨rfl,rfl,rfl,w,u,(Br1 LF noY () 0 m n i j v4 a b c d e f g h k l).trans o,v⟩)
 ·trivial
end
section
variable {Y R : Type} (L : Nat) (W : G4) (Q : Yh Y) (s : Y) (k : Out -> St Y -> Option R)
noncomputable abbrev Al6:Code:=D4 aj0
noncomputable def Iu(L:Nat):Cfg:=D0 L [6] (A4 [(2,[0,0,2,0])]) [] (A4 [(6,[4]),(3,[0,0,3]),(5,[4]),(4,[0,0,3,12]),(2,[0,0,3,3]),(1,[0,0,3]),(0,[0,0])]) [] (A4 [(0,[]),(1,[0,0,3])]) (some [4]) [] [] []
noncomputable def El(L n:Nat)(n0:Int)(d c:Bool)(b:LL)(a:Int)(e:Unit->Option R)(f:Unit->Option R):Option R:=match n with|0=>none|n+1=>cond (ltI a (b.length:Int)) (cond (inR a b.length) (cond (okE Dr b (j0 a) 0) (cond (ltI n0 (↑(j2 (gX b (j0 a) 0)):Int)) (e ()) (El L n n0 d c b (A1 (a+1)) e f)) none) none) (f ())
def Aa5(n n0 l_z1 l_t2 l3 i4):E0 0 ((Iu L).keep 2) (bd (Iu L) W Q (cd [1,0,1,0,0] Al6)) n ⟨gp [(0,pI n0),(0,.s (.sl l_z1 l_t2 1 l3)),(3,pI i4)] 13,[],s⟩ k =
 El L n n0 l_z1 l_t2 l3 i4 (λ_=>k .ret ⟨gp [(4,pB false)] 14,[],s⟩) (λ_=>k (.exit 0) ⟨gp [] 19,[],s⟩):=by
 induction n generalizing n0 l_z1 l_t2 l3 i4 with
 | zero=>rfl
 | succ n a=>rw[El];simp only[<-a];kernel_rfl
noncomputable def Aa4(L:Nat)(n0:Int)(b a:Bool)(d:LL)(c:Bool->Option R):Option R:=El L L n0 b a d 0 (λ_=>c false) (λ_=>c true)
def B93(d:Nat)(n0 l_z1 l_t2 l3):evC (Iu L) (d+1) Y Q 6 [pI n0,.s (.sl l_z1 l_t2 1 l3)] [] s=Aa4 L n0 l_z1 l_t2 l3 (λa=>some (pB a,[],s)):=by refine(evE (fn:=aj0) (by kernel_rfl)).trans ?_;generalize evC (Iu L) d=W;unfold Aa4;exact(j8 (by kernel_rfl) ((Aa5 L W Q s (F0 0 (F5 (Iu L) W Q (cd [1,1] Al6) (G1 (Iu L) aj0))) L n0 l_z1 l_t2 l3 0).trans (by kernel_rfl)))
end
end
section
open Go Go.Proofs Go.Sort
def FI(n:Int)(z t:Bool)(l:List By)(c d:Unit->Option R)(j:l.length<=1000000000):∀(r:List By) (i m:Nat),l.drop i=r->r.length<m->El LF m n z t (C2 l) (i:Int) c d=if Lk n r then d () else c ()
 | [],i,m,h,b=>by
  obtain⟨m,rfl⟩:∃q,m=q+1:=⟨m-1,by simp at b;omega⟩
  rw[El];have:l.length<=i:=y7.1 h;rw[E4 (by rw[C3];omega)];rfl
 | x::r,i,m,h,b=>by
  obtain⟨m,rfl⟩:∃q,m=q+1:=⟨m-1,by simp at b;omega⟩
  rw[El];have a:i<l.length:=ac5 λg=>by
   rw[y7.2 (by omega)] at h;cases h
  have o:l.getD i []=x:=by
   have:=x8 a;rw[h] at this;rw[o6,j7 a];exact(ai0 this).1.symm
  have k:l.drop (i+1)=r:=by
   have:=x8 a;rw[h] at this;exact(ai0 this).2.symm
  rw[C6 (by rw[C3];omega),aa,K6 (by omega) (by rw[C3];omega),aa,p4,O0 a,aa,S8,o];have e:Lk n (x::r)=(!(ltI n (x.length:Int))&&Lk n r):=rfl;rw[e];by_cases f:n<(x.length:Int)
  ·rw[C6 f];rfl
  ·rw[A7,ab,A6,p5,x7];exact FI n z t l c d j r (i+1) m k (by simp at b;omega)
def Ar3{b:Bool->Option R}(n:Int)(z t:Bool)(l:LL)(c:l.all isS=true)(d:A2 l.length=true):Aa4 LF n z t l b=b (Lk n (l.map elS)):=by
 have e:=D6;have a:=M5 d;rw[Pi c] at a ⊢;generalize l.map elS=q at a ⊢;rw[C3] at a;unfold Aa4;rw[show(0:Int)=((0:Nat):Int) from rfl,FI n z t q _ _ a q 0 LF rfl (by omega)];have:o5 elS (C2 q)=q:=by
  unfold C2;rw[ag3];exact af5 (λ_=>rfl) q
 rw[this];cases Lk n q<;>rfl
end
section
open Go Go.Proofs
section
def C68:C0 c9 GX 6 Aj9:=xf [] (Iu LF) BH rfl trivial rfl follows λargs=>by
 unfold BH;split
 ·rename_i n b a l;exact λc=>λd=>⟨rfl,rfl,rfl,_,_,(B93 LF noY () 0 n b a l).trans (Ar3 n b a l c d),rfl⟩
 ·trivial
end
def C24{a:LL}(h:∀b∈a,Ty.ofL [.str] b):a.all isS=true:=by rw[v7];intro b c;have:=h b c;simp only[Ty.ofL,Ty.of] at this;obtain⟨_,_,rfl,⟨l,rfl,_⟩,rfl⟩:=this;rfl
def Xm:∀x y:By,bytesLess x y=decide (x<y)
 | [],[]=>by simp[bytesLess]
 | _::_,[]=>by simp[bytesLess]
 | [],_::_=>by simp[bytesLess]
 | a::x,b::y=>by
  rw[bytesLess,Xm x y];simp only[List.cons_lt_cons_iff];by_cases c:a<b<;>by_cases d:a=b<;>by_cases e:x<y<;>simp[c,d,e]
def Bo5(l:List By):(O9 l).Pairwise (·<=·):=by
 have:=List.pairwise_mergeSort (le:=λ(x y:By)=>decide (x<=y)) (λa b c d e=>by
  simp only[af] at *;exact List.le_trans d e) (λa b=>by
  simp only[ab8,af];exact List.le_total a b) l
 rw[AL];exact this.imp (λh=>by simpa using h)
def B45(l:List By):(j1 (O9 l)).Pairwise (· < ·):=by
 have w:=ac7.1 (Bo5 l);have g:∀i,i<(O9 l).toArray.size->∃h,(O9 l).toArray[i]! = (O9 l)[i]'h:=λi x=>⟨by simpa using x,by rw[getElem!_pos _ i x];rfl⟩
 unfold j1;refine RE (O9 l).toArray (λ(a b:By)=>a<b) (λa b c t p=>List.lt_trans t p) (λi j m z n=>?_) (λi j k m u A e=>?_) _ (ad0 _)
 ·obtain⟨f,o⟩:=g i (by omega);obtain⟨d,r⟩:=g j z;rw[o,r] at n ⊢;have:=w i j f d m;exact ac5 λq=>n (ag6 this (List.not_lt.1 q))
 ·obtain⟨f,o⟩:=g i (by omega);obtain⟨d,r⟩:=g j (by omega);obtain⟨v,y⟩:=g k A;rw[o,y] at e;rw[o,r];have t:=w i j f d m;have p:=w j k d v u;rw[<-e] at p;exact ag6 t p
def IsQ(x:By):Prop:=∃u,(C7 u).2=0/\G3 (uS (C7 u))=true/\x=hsQ (C7 u)
def Am0:∀(l:List FrV) (e d up g c:Bool) (a:List By),(Vk l e d up g c a).e=0->
  ∃b,(Vk l e d up g c a).h=j1 (O9 b)/\(∀x∈b,x∈a\/IsQ x)/\b.length<=a.length+l.length/\((a≠[]->up=true)->b≠[]->(Vk l e d up g c a).u=true)/\
   ((l≠[]\/(e=true->d=true))->(Vk l e d up g c a).s=true->(Vk l e d up g c a).p=true)
 | [],e,d,up,g,c,a,h=>⟨a,rfl,λx h=>.inl h,by simp,λi j=>i j,λh=>by
   rcases h with h|h
   ·exact absurd rfl h
   ·exact h⟩
 | f::r,e,d,up,g,c,a,h=>by
  have t:Vk (f::r) e d up g c a=cond (uE (C7 f.1)!=0) (OZ (uE (C7 f.1))) (cond ((K8 f.2).2 !=0) (OZ (K8 f.2).2)
   (Vk r (e&&trF c (C7 f.1)) (d||trF c (C7 f.1)) (up||upF f.2) (g||R7 (K8 f.2).1 CC) (trF c (C7 f.1))
    (cond (upF f.2&&G3 (uS (C7 f.1))) (a++[hsQ (C7 f.1)]) a))):=rfl
  rw[t] at h ⊢;cases i:(uE (C7 f.1)!=0) with
  | true=>
   rw[i,aa] at h;have:uE (C7 f.1)=0:=h;rw[this] at i;cases i
  | false=>
   rw[i,ab] at h;rw[ab];cases j:((K8 f.2).2 !=0) with
   | true=>
    rw[j,aa] at h;have:(K8 f.2).2=0:=h;rw[this] at j;cases j
   | false=>
    rw[j,ab] at h;rw[ab];obtain⟨b,y,z,C,A,B⟩:=Am0 r _ _ _ _ _ _ h;refine⟨b,y,λx w=>?_,?_,λv m=>A (λo=>?_) m,λ_ n=>B (.inr λp=>?_) n⟩
    ·rcases z x w with q|q
     ·cases k:(upF f.2&&G3 (uS (C7 f.1))) with
      | false=>rw[k] at q;exact .inl q
      | true=>
       rw[k,aa,ah2,aa1] at q;rcases q with q|q
       ·exact .inl q
       ·refine .inr ⟨f.1,?_,(o7 _ _▸k).2,q⟩;have:((C7 f.1).2:Int)=0:=by simpa using i
        exact_mod_cast this
     ·exact .inr q
    ·have:(cond (upF f.2&&G3 (uS (C7 f.1))) (a++[hsQ (C7 f.1)]) a).length<=a.length+1:=by
      cases (upF f.2&&G3 (uS (C7 f.1)))<;>simp
     rw[j4];omega
    ·cases u:upF f.2 with
     | true=>rw[af9]
     | false=>
      rw[u,ab0,ab] at o;rw[v o,ad9]
    ·simp only[o7] at p;rw[p.2,af9]
def B44{l:List FrV}(h:cE (T0 l)=0):∃a,cH (T0 l)=j1 (O9 a)/\(∀x∈a,IsQ x)/\a.length<=16/\(a≠[]->cU (T0 l)=true)/\(cS (T0 l)=true->cP (T0 l)=true):=by
 have f:T0 l=cond (l.isEmpty||ltI 16 (l.length:Int)) (OZ 3) (Vk l true false false false false []):=rfl;rw[f] at h ⊢;cases b:(l.isEmpty||ltI 16 (l.length:Int)) with
 | true=>rw[b] at h;cases h
 | false=>
  rw[b,ab] at h;rw[ab];simp only[ae7] at b;have c:l≠[]:=by
   intro e;rw[e] at b;cases b.1
  have d:l.length<=16:=by
   have:=b.2;rw[Cd,decide_eq_false_iff_not] at this;omega
  obtain⟨a,i,j,k,m,n⟩:=Am0 l true false false false false [] h;exact⟨a,i,λx g=>(j x g).resolve_left (by simp),by simp at k;omega,m (λh=>absurd rfl h),n (.inl c)⟩
def Dy9{p:C1 × Nat}(ok:Ga p.1):mkH (hK p) (hN p) (hV p) (n8 (hA p 0) (hA p 1) (hA p 2) (hA p 3) (hA p 4) (hA p 5) (hA p 6) (hA p 7))=p.1/\ltN (hV p) 4294967296=true/\ok8 (hA p 0) (hA p 1) (hA p 2) (hA p 3) (hA p 4) (hA p 5) (hA p 6) (hA p 7)=true:=by obtain⟨⟨k,n,v,l⟩,e⟩:=p;obtain⟨b,c,d,f,g,h,i,j,rfl⟩:=eq8 ok.v6.1;have a:=ok.v4;simp only at a;exact⟨Cv8 ok.kd,E7.2 ⟨by show(0:Int)<=(v:Int);omega,by show(v:Int)<_;omega⟩,Bz8 ok.v6.2⟩
def Cu1{x:By}(h:IsQ x):∃a,Ga a/\N7 a=true/\x=Y4 a:=by obtain⟨u,d,e,rfl⟩:=h;obtain⟨_,_,b,c,_⟩:=(TF d).sp e;refine⟨(C7 u).1.host,b,c,?_⟩;obtain⟨_,_,_,q⟩:=As5 (TG u);show Y4 (mkH (uK (C7 u)) _ _ _)=_;rw[RS];exact congrArg (λy:Y0=>Y4 y.host) (q [] 0)
def Ar5(H:List By)(I G up A:Bool)(v:H≠[]->up=true)(t:H.Pairwise (· < ·))(d:∀x∈H,∃h,Ga h/\N7 h=true/\x=Y4 h)(Q:H.length<=16)(N:(List Blk)->Option R)(F:LL->Bool->Bool->Bool->Bool->Option R) :
  ∀r i n,i+r=H.length->r<n->Rn LF n (i:Int) (C2 H) I G up A N F=F (C2 H) I G up A:=by
 intro r
 induction r with
 | zero=>
  intro i n L M;rcases n with _|n;omega
  rw[Rn,E4 (by rw[C3];omega)];rfl
 | succ r D=>
  intro i n L M;rcases n with _|n;omega
  have a:i<H.length:=by omega
  have B:∀j,j<H.length->H.getD j []∈H:=λj C=>by
   rw[o6,j7 C];exact ad7 C
  obtain⟨h,ok,w,y⟩:=d _ (B i a);have g:D7 (Y4 h)=(h,0):=Ba4 ok w;obtain⟨z,O,P⟩:=Dy9 (p:=(h,0)) ok;have z:mkH (hK (h,0)) (hN (h,0)) (hV (h,0)) (n8 (hA (h,0) 0) (hA (h,0) 1) (hA (h,0) 2) (hA (h,0) 3) (hA (h,0) 4) (hA (h,0) 5) (hA (h,0) 6) (hA (h,0) 7))=h:=z;have l:A2 (j2 (hN (h,0)))=true:=D9 (by have:=Sg w;show h.name.length<=_;omega);have o:A2 (Y4 h).length=true:=D9 (by have:=LU ok;omega);have q:A2 H.length=true:=D9 (by omega);have u:up=true:=v (by intro e;rw[e] at a;simp at a);have f:Bd2 H h=true:=by
   unfold Bd2 R7;rw[w,x7,List.any_eq_true];exact⟨_,B i a,by rw[y];exact beq_self_eq_true _⟩
  have K:A1 ((i:Int)+1)=((i+1:Nat):Int):=by rw[A6];rfl
  have e0:(((((h,0):C1 × Nat).2:Nat):Int)!=0)=false:=rfl;have k:(Y4 h==Y4 h)=true:=beq_self_eq_true _;rw[Rn,C6 (by rw[C3];omega),K6 (by omega) (by rw[C3];omega),p4,O0 a,S8,y];simp only[aa,ab,vl,o,g,e0,l,z,O,P,k,j9,Jr,C3,Dk,q,u,f,K];cases i with
  | zero=>
   rw[E4 (by omega),ab];have:=D 1 n (by omega) (by omega);rw[u] at this;exact this
  | succ j=>
   have J:A1 (((j+1:Nat):Int)-1)=(j:Int):=by
    rw[show((j+1:Nat):Int)-1=(j:Int) by omega,A6]
   have c:j<H.length:=by omega
   have b:bytesLess (H.getD j []) (Y4 h)=true:=by
    rw[<-y,Xm,af,o6,o6,j7 c,j7 a];exact ac7.1 t j (j+1) c a (by omega)
   rw[C6 (by omega),J,K6 (by omega) (by omega),p4,O0 c,S8,b];simp only[aa,ab,j9];have:=D (j+1+1) n (by omega) (by omega);rw[u] at this;exact this
def Dn9{l:LL}(g:l.all Yu=true)(h:Pf (l.map U7)=true):l.all Ag1=true/\A2 l.length=true:=by unfold Pf at h;simp only[o7,x3] at h;obtain⟨i,j⟩:=h;refine⟨v7.2 λx b=>?_,D9 (by have:=v8 i;omega)⟩;have m:=v7.1 g x b;have a:=v7.1 j (U7 x) (ai1.2 ⟨x,b,rfl⟩);simp only[o7] at a;obtain⟨c,e,k⟩:=a;have d:=(E7.1 c).2;have f:=v8 e;unfold Ag1;rw[o7];refine⟨aa4 (show(U7 x).1.length<=10000000 by omega),aa4 ?_⟩;have:((x.getD 1 .nilp).gE).length=(U7 x).2.length:=(x3 _).symm;omega
def Cu7(z t:Bool)(l:LL)(d:l.all Yu=true):Tru (evC (Xn LF) 1 Unit noY 5 [.s (.sl z t 2 l)] [] ()):=by
 have h:=D6;refine Eq.subst (motive:=Tru) (Dy6 (σ:=Unit) LF noY () 0 z t l).symm ?_;unfold lcc;rw[d,aa];cases k:Pf (l.map U7) with
 | false=>exact⟨_,rfl⟩
 | true=>
  obtain⟨f,g⟩:=Dn9 d k;rw[f,g];simp only[j9,aa,ab,vl];cases j:(cE (T0 (l.map U7))!=0) with
  | true=>exact⟨_,rfl⟩
  | false=>
   obtain⟨a,n,o,r,p,q⟩:=B44 (l:=l.map U7) (by simpa using j);have b:(j1 (O9 a)).length<=16:=by
    have:=Bw6 (O9 a);rw[OH] at this;omega
   rw[ab,n,show(0:Int)=((0:Nat):Int) from rfl,Ar5 _ _ _ _ _ (λc=>p λe=>c (by rw[e];rfl)) (B45 a) (λx m=>Cu1 (o x (Dw9.1 m))) b _ _ (j1 (O9 a)).length 0 LF (by omega) (by omega)];cases i:cS (T0 (l.map U7)) with
   | false=>exact⟨_,rfl⟩
   | true=>
    rw[q i];exact⟨_,rfl⟩
def Dd4{b:LL}(h:∀a∈b,Ty.ofL [.str,.slice [.str]] a):b.all Yu=true:=by
 rw[v7];intro a f;have:=h a f;simp only[Ty.ofL,Ty.of] at this;obtain⟨_,_,rfl,⟨u,rfl,_⟩,x,_,rfl,e,rfl⟩:=this;simp only[j4,x9] at e;rcases e with rfl|⟨d,rfl,_,c⟩
 ·rfl
 ·have g:d.all isS=true:=C24 (λa h=>by simpa only[Ty.ofL,Ty.of] using c a h);show((Nat.beq 1 1||(false&&d.isEmpty))&&d.all isS)=true;rw[g];rfl
def A41{P:Program}{t:Nat}{v:PV}(h:QG P t v)(e:My P 20 t=some [.slice [.str,.slice [.str]]])(d:EN P t=false):∃z l,v = .s (.sl z false 2 l)/\l.all Yu=true:=by
 obtain⟨x,rfl,c⟩:=Da5 h e d;simp only[Ty.of,j4,x9] at c;rcases c with rfl|⟨b,rfl,f,a⟩
 ·exact⟨true,[],rfl,rfl⟩
 ·exact⟨false,b,rfl,Dd4 a⟩
def Dg7(args:List PV)(h:Nd c9 [33] args):∃d a,evC (Xn LF) d Unit noY 5 args [] ()=some (.s (.bool true),a,()):=by obtain⟨v1,f,rfl,b,rfl⟩:=h;obtain⟨z,l,rfl,c⟩:=A41 b (by kernel_rfl) (by kernel_rfl);obtain⟨H,e⟩:=Cu7 z false l c;exact⟨1,H,e⟩
end
section
open Go Go.Proofs Go.Sort
def TL{w:World}{a e:Nat}{b:Array Value}{c:Nat × Nat}(h:w.heap[a]? = some (.cells b e c))(d:Array By) :
  (putRow encStr w a 0 d).heap[a]? = some (.cells (putCells encStr 0 d b) e c)/\(∀k,k≠a->(putRow encStr w a 0 d).heap[k]? = w.heap[k]?):=by
 unfold putRow mapBlock;constructor
 ·simp only[ae6,if_true,h,y5,onCells]
 ·intro k f;simp only[ae6];rw[ae (λe=>f e.symm)]
def Au1{a:Array Value}{d:Array By}{i:Nat}(c:i<d.size)(e:d.size<=a.size):(putCells encStr 0 d a)[i]? = some (encStr d[i]!):=by
 have b:i<a.size:=by omega
 unfold putCells;rw[Array.getElem?_mapIdx,aa6 b];simp only[y5,ag9,true_and,ac2,c,if_true,Nat.sub_zero]
def DU(a:Array Value)(d:Array By):(putCells encStr 0 d a).size=a.size:=by simp[putCells]
def SE{St:Nat->Prop}{w:World}{g e:Nat}{b:Array Value}{E:List By}{f:Nat}(l:w.heap[g]? = some (.cells b e (0,0)))(d:∀i (h:i<(C2 E).length),((C2 E)[i]).length=f)
  (q:∀i (h:i<(C2 E).length) j (t:j<((C2 E)[i]).length),∃V,b[i*f+j]? = some V/\VS St w ((C2 E)[i][j]) V):Holds encStr w g 0 E.toArray:=by
 intro i m;have c:i<E.length:=by simpa using m
 have n:i<(C2 E).length:=by rw[C3];exact c
 have a:(C2 E)[i]=[SV.str E[i]]:=by simp[C2]
 have p:f=1:=by rw[<-d i n,a];rfl
 subst p;constructor
 ·obtain⟨V,k,o⟩:=q i n 0 (by rw[a];exact Nat.one_pos);rw[s9,ac1] at k;simp only[a,ae0] at o;obtain⟨s,rfl,r⟩:=o.inv_str;simp only[ad1,l,ac2];rw[k,getElem!_pos E.toArray i m];simp only[List.getElem_toArray,encStr,Option.isSome_none,aa0,if_false];rw[<-r]
 ·simp[ab4,l]
def C97:Ak6 c9 23 Xf:=by
 intro St w x X o S h;generalize z:Xf x o=pr at h ⊢;obtain⟨b,L⟩:=pr;dsimp only at h ⊢;unfold Xf at z;split at z
 case h_2=>
  obtain⟨rfl,_⟩:=ai6 z;cases h
 obtain⟨B,M⟩:=ai6 z;rw[<-B] at h;simp only[o7] at h;obtain⟨T,U⟩:=h;have d:∀(p:Option Addr) cap,Q6 c9 ((callFunc 23 #[.slice p 0 cap]).run c9 w) λV w'=>V=undef/\w'=w:=λp cap=>
  Bq (fn:=Tryz.f23) (by kernel_rfl) (by kernel_rfl) (by kernel_rfl) ((Any.slices_Sort_string_none Tryz.lays190 p cap w).mono λe w' ⟨D,m⟩=>⟨_,D,rfl,m⟩)
 obtain⟨E,rfl⟩:∃E,o=C2 E:=⟨_,Pi T⟩
 rw[Dk] at M;subst M;have c:=OH E;refine⟨λy=>?_,?_⟩
 ·have A:E=[]:=by
   cases E with
   | nil=>rfl
   | cons a r=>cases y
  subst A;refine(d none 0).mono λV w' ⟨J,m⟩=>⟨J,?_,m▸N9.refl _⟩
  have:O9 []=[]:=p7.1 c;rw[this];rfl
 intro u k e sz cap v C G N a0 Z t f;by_cases y:E=[]
 ·subst y;have H:O9 []=[]:=p7.1 c;refine(d _ cap).mono λV w' ⟨J,m⟩=>?_
  rw[m,H];exact⟨J,rfl,w,k,v,rfl,λ_ _=>rfl,rfl,rfl,rfl,rfl,λi h=>absurd h (ah4 _),λi h=>absurd h (ah4 _),N9.refl _⟩
 have A:0<E.length:=ab9.2 y;have I:sz=1:=by
  rw[<-t 0 (by rw[C3];exact A)];simp[C2]
 have W:=SE v t f;subst I;have q:u<w.heap.size:=(ac4.1 v).1;have B:E.length<4611686018427387904:=by
  have:=M5 U;rw[C3] at this;omega
 have P:=Any.slices_Sort_string Tryz.lays190 u 0 cap E w W q B;rw[<-AL] at P;rw[C3];refine Bq (fn:=Tryz.f23) (by kernel_rfl) (by kernel_rfl) (by kernel_rfl) (P.mono λe' w' ⟨D,n,os,m⟩=>⟨_,D,rfl,by rw[C3,c],?_⟩);obtain⟨p1,p2⟩:=TL v (O9 E).toArray;have O:k.size=cap:=by rw[C,s9]
 have R:E.length<=cap:=by rw[<-C3];exact G
 have l:∀i (h:i<(C2 (O9 E)).length),(C2 (O9 E))[i]=[SV.str ((O9 E)[i]'(by rw[C3] at h;exact h))]:=λi h=>by simp[C2]
 refine⟨putRow encStr w u 0 (O9 E).toArray,putCells encStr 0 (O9 E).toArray k,p1,DU _ _,p2,by simp[putRow,mapBlock],rfl,rfl,rfl,λi h=>by rw[l];rfl,λi h j K=>?_,?_⟩
 ·have Y:j=0:=by
   have:j<1:=by rw[l] at K;exact K
   omega
  subst Y;have Q:i<(O9 E).length:=by rw[C3] at h;exact h
  refine⟨_,by rw[s9,ac1];exact Au1 (by simpa using Q) (by simp;omega),?_⟩;have S:(C2 (O9 E))[i][0] = .str (O9 E)[i]:=by simp only[l];rfl
  rw[S,getElem!_pos (O9 E).toArray i (by simpa using Q)];have:=VS.str (St:=St) (w:=putRow encStr w u 0 (O9 E).toArray) ⟨((O9 E)[i]).toArray⟩;simpa using this
 ·rw[m];refine⟨⟨λg F=>heap_grow_old _ _ F,by simp only[grow,ac8];exact Nat.le_add_right _ _⟩,rfl,rfl,rfl⟩
def C04{C:Cfg}{R:Type}{I:R->(Nat->Prop)->(Nat->Prop)->World->Prop}(D:HI I){f:Ctx}{p:Nat->Prop}{w w':World}{z:Bool}{E:Nat}{l l':LL}{s:R}(g cap:Nat)(B:List Value)(i:Array Value)
  (L:Ge C E=false) (n:HR f [.arr z E 1 l] w) (K:I s f.St p w) (H:∀b g,f.nm b=some g->¬p g)
  (d:f.nm 0=some g) (J:g<w'.heap.size) (e:∀k,k<w.heap.size->f.nm 0≠some k->w'.heap[k]? = w.heap[k]?) (m:w.heap.size<=w'.heap.size) (M:w'.os=w.os) (N:w'.tape=w.tape) (O:w'.output=w.output)
  (j:w'.heap[g]? = some (.cells i E (0,0))) (T:Els f.St w' 1 l' B) (v:l'≠[]) (o:∀q,q<B.length->i[q]? = B[q]?) (U:B.length<=i.size) (u:l'.length<=cap) (V:cap<=maxLen) (G:i.size=cap) :
  Bx C I f [.arr z E 1 l] w p (.fl 0) [.arr z E 1 l'] s (.slice (some ⟨g,0,none⟩) l'.length cap) w':=by
 have t:0<[Blk.arr z E 1 l].length:=by simp
 have A:(f.re 0 (some g)).nm 0=some g:=by simp[Ctx.re]
 have x:¬Je C (A3 [Blk.arr z E 1 l] 0):=by simp[A3,Blk.shp,Je,L]
 have a:([Blk.arr z E 1 l].map (Blk.kill 0)).set 0 (.arr z E 1 l')=[.arr z E 1 l']:=rfl;obtain⟨P,Q,X⟩:=NP (C:=C) (y:=.arr z E 1 l') (ng:=some g) (w':=w') n t x (λk a=>by
   simp only[j6] at a;subst a;exact⟨J,(n.lt 0 g d).2.2,λc o F=>o (n.inj c 0 _ F d)⟩)
  (λk a=>by
   simp only[j6] at a;subst a;exact .inl d) e m M N O
  (BR.els A j T (by rintro⟨_,h⟩;exact v h) o U) rfl
 rw[a] at P Q;refine⟨_,p,P.lift p,Q,?_,λc o=>?_,?_,λb S r=>?_⟩
 ·refine .fl 0 g z E 1 l'.length cap rfl (λ_ h=>v (p7.1 h)) A u V ?_;simp only[ab2,j,G,s9]
 ·simp only[PV.nms,aa1] at o;subst o;simp
 ·refine D.mono s f.St p w f.St w' K (λ_ h=>h) (λk a W=>(D.foot _ _ _ _ K k W).2 a) (λk a=>af8 (n.stlt k a) m) (λk a=>?_) m M N O;rcases a with a|a
  ·exact e k (n.stlt k a) (λh=>(n.lt 0 k h).2.2 a)
  ·exact e k (D.foot _ _ _ _ K k a).1 (λh=>H 0 k h a)
 ·simp only[Ctx.re] at r;split at r
  ·simp only[j6] at r;subst r;exact H 0 _ d
  ·exact H b S r
def Bs9:Xh c9 GX 24 Ng:=by
 intro C hP hG σ I yh yv hI hy args H s ret Hc c W Φ w Vs a2 y hg f Y hc hn;unfold Ng at c;split at c
 ·rename_i z l;obtain⟨h0,c⟩:=D2 c;obtain⟨h1,c⟩:=D2 c;obtain⟨rfl,rfl⟩:=K2 c;obtain⟨S,rfl,Z⟩:=hc.arr1;obtain⟨E,rfl⟩:∃E,l=C2 E:=⟨_,Pi h0⟩
  rw[Dk];have P:Ge C 9=false:=by
   unfold Ge Cfg.sh;rw[hP];kernel_rfl
  refine Bq (fn:=Tryz.f24) (by kernel_rfl) (by kernel_rfl) (by kernel_rfl) ?_;have empty:∀a cap,E=[]->S = .slice a 0 cap->Calls c9 24 #[S] w λe w'=>∃V,e = .returned V/\Bx C I W [.arr z 9 1 (C2 E)] w Φ (.fl 0) [.arr z 9 1 (C2 (j1 E))] s V w':=by
   rintro a cap rfl rfl;refine(Any.slices_Compact_string_empty Tryz.lays194 a cap w).mono ?_;rintro e w' ⟨rfl,rfl⟩;exact⟨_,rfl,W,Φ,Stp.refl y,y,Z,by simp[PV.nms],f,Y⟩
  cases Z with
  | flv _ e2 U r=>
   simp only[A3,p6,y5,Blk.shp,j6,Shp.arr.injEq] at r;obtain⟨q1,q2,q3,X⟩:=r;rw[C3] at X;exact empty none 0 (p7.1 X) rfl
  | fl _ g z' e2 U n' cap r a1 o h hm Q=>
   simp only[A3,p6,y5,Blk.shp,j6,Shp.arr.injEq] at r;obtain⟨rfl,rfl,rfl,rfl⟩:=r;by_cases d:E=[]
   ·subst d;exact empty _ cap rfl rfl
   have O:¬(z=true/\C2 E=[]):=by
    rintro⟨q1,q2⟩;exact d (p7.1 (by rw[<-C3,q2];rfl))
   obtain⟨g',j,u,A,R,p,t⟩:=y.arr' (b:=0) rfl O;obtain rfl:g=g':=by
    rw[o] at u;exact ae5 u
   have G:j.size=cap:=by
    have:=Q;simp only[ab2,A,j6,ad5,true_and,s9] at this;exact this
   have F:=SE A p t;rw[C3] at h ⊢;have hb:=M5 h1;rw[C3] at hb;refine(Any.slices_Compact_string Tryz.lays194 g 0 cap E w F (by omega) h).mono ?_;rintro e w' ⟨rfl,q,rfl⟩;have a0:=Bw6 E;have B:(j1 E++ae8 (E.length-(j1 E).length) []).toArray.size=E.length:=by simp;omega
   generalize hD:(j1 E++ae8 (E.length-(j1 E).length) ([]:By)).toArray=D at B ⊢;have v:∀i,i<(j1 E).length->D[i]! = (j1 E)[i]!:=λi f=>by
    rw[<-hD,getElem!_pos ((j1 E++ae8 (E.length-(j1 E).length) ([]:By)).toArray) i (by simp;omega),getElem!_pos (j1 E) i f];simp[List.getElem_append_left f]
   obtain⟨p1,p2⟩:=TL (w:=ae3 w q) (show(ae3 w q).heap[g]? = some (.cells j 9 (0,0)) from A) D;have J:g<w.heap.size:=(ac4.1 A).1;have T:(putRow encStr (ae3 w q) g 0 D).heap.size=w.heap.size:=by simp[putRow,mapBlock]
   have m:((j1 E).map encStr).length=(j1 E).length:=x3 _;have:=C04 (C:=C) (w':=putRow encStr (ae3 w q) g 0 D) (l':=C2 (j1 E)) (s:=s) hI g cap ((j1 E).map encStr) (putCells encStr 0 D j) P y f Y o (by rw[T];exact J) (λk L N=>p2 k (λe=>N (e▸o))) (by omega) rfl rfl rfl p1
    ⟨by rw[m,C3,s9],λi x=>by
     have K:i<(j1 E).length:=by rw[C3] at x;exact x
     have n:(C2 (j1 E))[i]=[SV.str (j1 E)[i]]:=by simp[C2]
     refine⟨by rw[n];rfl,λk L=>?_⟩;have M:k=0:=by
      have:k<1:=by rw[n] at L;exact L
      omega
     subst M;refine⟨encStr (j1 E)[i],by rw[s9,ac1,ag2,j7 K];rfl,?_⟩;simp only[n,ae0];have:=VS.str (St:=W.St) (w:=putRow encStr (ae3 w q) g 0 D) ⟨((j1 E)[i]).toArray⟩;simpa using this⟩
    (λe=>Dx1 d (p7.1 (by rw[<-C3,e];rfl)))
    (λi f=>by
     rw[m] at f;rw[Au1 (by omega) (by omega),v i f,ag2,j7 f,getElem!_pos (j1 E) i f];rfl)
    (by rw[m,DU];omega) (by rw[C3];omega) hm (by rw[DU];exact G)
   rw[C3] at this;exact⟨_,rfl,this⟩
 ·cases c
end
section
open Go Go.Proofs
section
variable {Q R : Type} (L : Nat) (W : G4) (Y : Yh Q) (s : Q) (k : Out -> St Q -> Option R)
noncomputable def YG(L:Nat):Cfg:=D0 L [43] (A4 []) [(15,VG),(74,Cm0)] (A4 [(8,[2]),(5,[2]),(7,[2]),(6,[1,12]),(4,[1,5,0]),(3,[1,5]),(2,[2]),(1,[1,3]),(0,[1])]) [15,74] (A4 [(0,[1])]) (some [2]) [] [] []
noncomputable def Bz9(L:Nat)(c:Int)(b:By)(d e f g h i j l a:Int)(m:Bool->(List Blk)->Option R):Option R:=cond (A2 b.length) (cond (ltN d 4294967296) (cond (ok8 e f g h i j l a) (cond (not (N7 (mkH c b d (n8 e f g h i j l a)))) (m false [(bH c b d e f g h i j l a)]) (cond (c==2) (vl (Sa .u32 d (24:Int)) λn=>m (n==127) [(bH c b d e f g h i j l a)]) (cond (c==3) (m ((e==0)&&((f==0)&&((g==0)&&((h==0)&&((i==0)&&((j==0)&&((l==0)&&((a==1)&&true)))))))) [(bH c b d e f g h i j l a)]) (cond (A2 b.length) (m (Nw ([108,111,99,97,108,104,111,115,116]:By) b) [(bH c b d e f g h i j l a)]) none)))) none) none) none
def Cw7(d:Nat)(h0 h1 h2 h3 h4 h5 h6 h7 h8 h9 h10):evC (YG L) (d+1) Q Y 43 [(gH h0 h1 h2 h3 h4 h5 h6 h7 h8 h9 h10)] [] s=Bz9 L h0 h1 h2 h3 h4 h5 h6 h7 h8 h9 h10 (λb a=>some (pB b,a,s)):=by refine(evE (fn:=Tryz.f43) (by kernel_rfl)).trans ?_;generalize evC (YG L) d=W;unfold Bz9;kernel_rfl
noncomputable abbrev Qr:Code:=D4 ah7
noncomputable def Z4(L:Nat):Cfg:=D0 L [22] (A4 []) [(42,QL),(21,Sq),(43,Bu2)] (A4 [(10,[2]),(7,[2]),(9,[2]),(8,[1,10]),(6,[1,5,0]),(5,[1,5,0]),(4,[1,5,0]),(3,[1,5]),(2,[2]),(1,[1,3]),(0,[1])]) [42,21,43] (A4 [(0,[1])]) (some [2]) [] [] []
noncomputable def Ie(h:By)(r:Bool)(o:By)(i:Int)(p:By)(j l m g n b c d e f:Int)(a:By)(q:Bool->(List Blk)->Option R)(t:Bool->By->By->Int->By->Int->Int->Int->Int->Int->Int->Int->Int->Int->Int->By->Option R):Option R:=cond r (q true [(bU h o i p j l m g n b c d e f a)]) (cond (h==[97,98,111,117,116]) (cond (a==[98,108,97,110,107]) (q true [(bU h o i p j l m g n b c d e f a)]) (q (a==[115,114,99,100,111,99]) [(bU h o i p j l m g n b c d e f a)])) (t (h==[97,98,111,117,116]) h o i p j l m g n b c d e f a))
abbrev FN(b:Code):Prop:=∀(k:Out->St Q->Option R) s0 b1 o i p j l m g n a c d e f h,A9 (Z4 L) W Y b ⟨gp [(1,.ptr 0 0 0),(5,pS s0),(0,pB b1)] 21,[(bU s0 o i p j l m g n a c d e f h)],s⟩ k=Ie s0 b1 o i p j l m g n a c d e f h (λq r=>k .ret ⟨gp [(2,pB q)] 27,r,s⟩) (λq t o i p j l m g n a c d e f h=>k .normal ⟨gp [(1,.ptr 0 0 0),(10,pB q)] 17,[(bU t o i p j l m g n a c d e f h)],s⟩)
def Ac9:FN (R:=R) L W Y s (cd [1,1,0,1,0,1] Qr):=by intro k o h p i q j l m f n a b c d e g;unfold Ie;kernel_rfl
noncomputable def Ig(o q:By)(n:Int)(m:By)(h i j e l a b c d f:Int)(g:By)(p:Bool->(List Blk)->Option R):Option R:=cond (G3 o) (cond (A2 m.length) (cond (ltN h 4294967296) (cond (ok8 i j e l a b c d) (p (Ar7 n m h i j e l a b c d) [(bU o q n m h i j e l a b c d f g)]) none) none) none) (p false [(bU o q n m h i j e l a b c d f g)])
abbrev FO(b:Code):Prop:=∀(k:Out->St Q->Option R) a s1 s2 n3 s4 n5 n6 n7 n8v n9 n10 n11 n12 n13 n14 s15,A9 (Z4 L) W Y b ⟨gp [(1,.ptr 0 0 0),(10,pB a)] 17,[(bU s1 s2 n3 s4 n5 n6 n7 n8v n9 n10 n11 n12 n13 n14 s15)],s⟩ k=Ig s1 s2 n3 s4 n5 n6 n7 n8v n9 n10 n11 n12 n13 n14 s15 (λa c=>k .ret ⟨gp [(2,pB a)] 27,c,s⟩)
def Ad0:FO (R:=R) L W Y s (cd [1,1,1] Qr):=by intro k h o p i q j l m f n a b c d e g;unfold Ig;kernel_rfl
noncomputable def NG(L:Nat)(f h:By)(u2:Int)(i:By)(j l m n u8 o a b c d:Int)(e:By)(g:Bool->(List Blk)->Option R):Option R:=cond (smU f h i e) (cond (ltN j 4294967296) (cond (ok8 l m n u8 o a b c) (cond (Qf d) (cond (not (Wy (mkU f h u2 i j (n8 l m n u8 o a b c) d e))) (g false [(bU f h u2 i j l m n u8 o a b c d e)]) (cond (f==[104,116,116,112,115]) (Ie f (f==[104,116,116,112,115]) h u2 i j l m n u8 o a b c d e g (λb7 b2 b3 a8 b4 a9 b0 b1 p q r t u v w Z=>Ig b2 b3 a8 b4 a9 b0 b1 p q r t u v w Z g)) (cond (f==[119,115,115]) (Ie f (f==[119,115,115]) h u2 i j l m n u8 o a b c d e g (λb5 a0 a1 x a2 y z A B C D F G H I a3=>Ig a0 a1 x a2 y z A B C D F G H I a3 g)) (Ie f (f==[102,105,108,101]) h u2 i j l m n u8 o a b c d e g (λb6 a4 a5 J a6 K M N O P S T U V X a7=>Ig a4 a5 J a6 K M N O P S T U V X a7 g))))) none) none) none) none
def Cb3(c:Code)(a:FN (R:=PV × List Blk × Q) L W Y s c)(d:Code)(b:FO (R:=PV × List Blk × Q) L W Y s d)(j u1:By)(u2:Int)(u3:By)(u4 u5 u6 u7 u8 u9 e f g h:Int)(i:By):A9 (Z4 L) W Y (cd [] (I2 [1,1,1] d (I2 [1,1,0,1,0,1] c Qr))) ⟨[(gU j u1 u2 u3 u4 u5 u6 u7 u8 u9 e f g h i)]++tps 29,[],s⟩ (G1 (Z4 L) ah7)=NG L j u1 u2 u3 u4 u5 u6 u7 u8 u9 e f g h i (λr0 H1=>some (pB r0,H1,s)):=by unfold NG;exact let K0:=(G1 (Z4 L) ah7);let K1:=(F0 0 (F5 (Z4 L) W Y d K0));(j8 (by kernel_rfl) (A0 (A0 (A0 (A0 (A0 rfl (A0 ((a K1 j (j==[104,116,116,112,115]) u1 u2 u3 u4 u5 u6 u7 u8 u9 e f g h i).trans (congr (congr rfl (by kernel_rfl)) (fx1 λa6=>(fx1 λb1=>(fx1 λb2=>(fx1 λa7=>(fx1 λb3=>(fx1 λa8=>(fx1 λa9=>(fx1 λb0=>(fx1 λn=>(fx1 λo=>(fx1 λp=>(fx1 λq=>(fx1 λr=>(fx1 λt=>(fx1 λu=>(fx1 λV=>(j8 (by kernel_rfl) ((b K0 a6 b1 b2 a7 b3 a8 a9 b0 n o p q r t u V).trans (by kernel_rfl))))))))))))))))))))) (A0 ((a K1 j (j==[119,115,115]) u1 u2 u3 u4 u5 u6 u7 u8 u9 e f g h i).trans (congr (congr rfl (by kernel_rfl)) (fx1 λl=>(fx1 λX=>(fx1 λZ=>(fx1 λv=>(fx1 λa0=>(fx1 λw=>(fx1 λx=>(fx1 λy=>(fx1 λz=>(fx1 λA=>(fx1 λB=>(fx1 λC=>(fx1 λD=>(fx1 λF=>(fx1 λG=>(fx1 λa1=>(j8 (by kernel_rfl) ((b K0 l X Z v a0 w x y z A B C D F G a1).trans (by kernel_rfl))))))))))))))))))))) ((a K1 j (j==[102,105,108,101]) u1 u2 u3 u4 u5 u6 u7 u8 u9 e f g h i).trans (congr (congr rfl (by kernel_rfl)) (fx1 λm=>(fx1 λa2=>(fx1 λa3=>(fx1 λH=>(fx1 λa4=>(fx1 λI=>(fx1 λJ=>(fx1 λK=>(fx1 λM=>(fx1 λN=>(fx1 λO=>(fx1 λP=>(fx1 λS=>(fx1 λT=>(fx1 λU=>(fx1 λa5=>(j8 (by kernel_rfl) ((b K0 m a2 a3 H a4 I J K M N O P S T U a5).trans (by kernel_rfl)))))))))))))))))))))))) rfl) rfl) rfl) rfl))
def Cb4(d:Nat)(u0 u1 u2 u3 u4 u5 u6 u7 u8 u9 u10 u11 u12 u13 u14):evC (Z4 L) (d+1) Q Y 22 [(gU u0 u1 u2 u3 u4 u5 u6 u7 u8 u9 u10 u11 u12 u13 u14)] [] s=NG L u0 u1 u2 u3 u4 u5 u6 u7 u8 u9 u10 u11 u12 u13 u14 (λb a=>some (pB b,a,s)):=
 (evE (fn:=ah7) (by kernel_rfl)).trans (j8 (by kernel_rfl) (Cb3 L (evC (Z4 L) d) Y s (cd [1,1,0,1,0,1] Qr) (Ac9 L (evC (Z4 L) d) Y s) (cd [1,1,1] Qr) (Ad0 L (evC (Z4 L) d) Y s) u0 u1 u2 u3 u4 u5 u6 u7 u8 u9 u10 u11 u12 u13 u14))
end
abbrev D73(f:Int->By->Int->Int->Int->Int->Int->Int->Int->Int->Int->(Bool->List Blk->Option (PV × List Blk × Unit))->Option (PV × List Blk × Unit))(k:Int)(j:By)(v4 a b c d e g h i:Int):Prop:=
 A2 j.length=true->ltN v4 4294967296=true->ok8 a b c d e g h i=true->∃r H,f k j v4 a b c d e g h i (λm l=>rv (.s (.bool m)) l)=rv r H/\r.stab [] H = .s (.bool (Ar7 k j v4 a b c d e g h i))
def Cw8(a:Int)(j:By)(v4 b c d e f g h i:Int):D73 (Bz9 LF) a j v4 b c d e f g h i:=λk l m=>by
 unfold Bz9 Ar7;rw[k,l,m];cases N7 (mkH a j v4 (n8 b c d e f g h i))<;>cases a==2<;>cases a==3<;>exact⟨_,_,rfl,rfl⟩
def Cb5(a m:By)(n:Int)(b:By)(v4 d e f g h i j k l:Int)(c:By)(o:smU a m b c=true)(q:ltN v4 4294967296=true)(t:ok8 d e f g h i j k=true)(u:Qf l=true) :
  ∃r H,NG LF a m n b v4 d e f g h i j k l c (λv p=>rv (.s (.bool v)) p)=rv r H/\r.stab [] H = .s (.bool (EH a m n b v4 d e f g h i j k l c)):=by
 obtain⟨x,y,z,A⟩:=HS o;have w:A2 b.length=true:=R0;unfold NG Ie Ig EH;simp only[o,q,t,u,w,show(a==([104,116,116,112,115]:By))=(a==Qq) from rfl,show(a==([119,115,115]:By))=(a==Al2) from rfl,show(a==([102,105,108,101]:By))=(a==Co7) from rfl,show(a==([97,98,111,117,116]:By))=(a==KF) from rfl];cases Wy (mkU a m n b v4 (n8 d e f g h i j k) l c)<;>cases a==Qq<;>cases a==Al2<;>cases a==Co7<;>cases a==KF<;>cases G3 a<;>cases c==([98,108,97,110,107]:By)<;>exact⟨_,_,rfl,rfl⟩
section
def Dr2:C0 c9 GX 43 Bu2:=xf [] (YG LF) IS rfl ⟨Bs3,D24,trivial⟩ rfl follows λargs=>by
 unfold IS;split
 ·rename_i i j v4 a b c d e f g h;exact λl=>λm=>λn=>(let⟨q,o,k,p⟩:=Cw8 i j v4 a b c d e f g h l m n;⟨rfl,rfl,rfl,q,o,(Cw7 LF noY () 0 i j v4 a b c d e f g h).trans k,p⟩)
 ·trivial
def C71:C0 c9 GX 22 IT:=xf [] (Z4 LF) BI rfl ⟨Cl3,HY,Dr2,trivial⟩ rfl follows λargs=>by
 unfold BI;split
 ·rename_i m n i j v4 a b c d e f g h k l;exact λp=>λq=>λr=>λt=>(let⟨w,u,o,v⟩:=Cb5 m n i j v4 a b c d e f g h k l p q r t;⟨rfl,rfl,rfl,w,u,(Cb4 LF noY () 0 m n i j v4 a b c d e f g h k l).trans o,v⟩)
 ·trivial
end
end
end Go.Proofs.YtddlcgjamdbinaaGreatDoor.E
