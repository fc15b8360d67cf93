/-
  ContextNavigableMatchesSpec, as its tied card says. Conditions: what the card itself names (the package-level variables that are listed, tied to the program's text).
-/
import Derived.Test.YtddlcgjamdbinaaGreatDoorKXN6
import Derived.Test.YtddlcgjamdbinaaGreatDoorCards
import Derived.Test.YtddlcgjamdbinaaGreatDoorTie
open Go.Proofs.Tryz renaming prog->c9,f3->x9,func3->aa0,f38->aa7
open List renaming drop_of_length_le->j0,length_drop->j1,getD_eq_getElem?_getD->j4,replicate->j8,drop_zero->o0,length_take->o7,getElem?_eq_getElem->o8,length_eq_zero_iff->p4,length_singleton->p5,length->p6,map->p7,length_append->p9,append_assoc->v7,getElem_cons_drop->w8,nil_append->w9,any_cons->x7,all->x8,all_cons->aa2,take->aa3
open Bool renaming eq_false_iff->j2,not_false->o5,and_eq_true->o6,and_true->x4,not_true->x5,true_and->x6,or_eq_true->y7,false_or->aa1
open Nat renaming ble_eq->j5,ble->j9,div_le_self->y8,strongRecOn->y9,sub_zero->aa5
open Go.Lib renaming decodeL->j6,decodeN->o9,compact->y5
open Eq renaming trans->j7
open Int renaming toNat_natCast->k9,toNat->x3,mul_comm->aa4
open Option.some renaming injEq->v8,inj->z7
open Option renaming getD_some->w6
namespace Go.Proofs.YtddlcgjamdbinaaGreatDoor.E
set_option linter.all false
section
open Go Go.Proofs
theorem A33{R:Type}{k0:Unit->Option R}{k1:By->Int->Option R}(s:By)(k:s.length<=1000000):∀(r i n cut:Nat),i+r=s.length->r<n->
  Ef LF n s (cut:Int) (i:Int) k0 k1=if (s.drop i).any (λb=>j9 128 b.toNat) then k0 () else k1 s ((if 45∈s.drop i then i+H4 (s.drop i) else cut:Nat):Int):=by
 intro r
 induction r with
 | zero=>
  intro i n cut g j;obtain⟨n,rfl⟩:∃m,n=m+1:=⟨n-1,by omega⟩
  rw[Ef];rw[A6,j0 (by omega)];rfl
 | succ r d=>
  intro i n cut g j;obtain⟨n,rfl⟩:∃m,n=m+1:=⟨n-1,by omega⟩
  rw[Ef];have e:A1 ((i:Int)+1)=((i+1:Nat):Int):=by rw[A5];rfl
  rw[A8,J1,G8,I8 s i (by omega),e,x7];simp only[cond_true];generalize s.getD i 0=b;by_cases h:128<=b.toNat
  ·rw[A6,Nat.ble_eq_true_of_le h];rfl
  ·have:j9 128 b.toNat=false:=by rw[j2,ne_eq,j5];exact h
   rw[A8,this,aa1,x5,cond_false];have f:((b.toNat:Int)==45)=(b==45):=Y6 b 45 (by omega);rw[f];by_cases a:b=45
   ·subst a;rw[show((45:UInt8)==45)=true from rfl,cond_true];refine(d (i+1) n i (by omega) (by omega)).trans ?_;have c:(45:UInt8)∈45::s.drop (i+1):=by simp
    rw[if_pos c];have:(if (45:UInt8)∈s.drop (i+1) then i+1+H4 (s.drop (i+1)) else i)=i+H4 (45::s.drop (i+1)):=by
     rw[H4];grind
    rw[this]
   ·rw[show(b==45)=false from beq_eq_false_iff_ne.2 a,cond_false];refine(d (i+1) n cut (by omega) (by omega)).trans ?_;have c:((45:UInt8)∈b::s.drop (i+1))↔((45:UInt8)∈s.drop (i+1)):=by simp[Ne.symm a]
    have:(if (45:UInt8)∈s.drop (i+1) then i+1+H4 (s.drop (i+1)) else cut)=(if (45:UInt8)∈b::s.drop (i+1) then i+H4 (b::s.drop (i+1)) else cut):=by
     by_cases q:(45:UInt8)∈s.drop (i+1)
     ·rw[if_pos q,if_pos (c.2 q),H4,if_pos q];omega
     grind
    rw[this]
theorem A28{R:Type}{k0:By->Int->LL->Option R}(s:By)(q:s.length<=1000000)(k:Nat)(p:k<=s.length):∀(r i n:Nat) (l:List Nat),i+r=k->r<n->l.length=i->
  Hr LF n s (k:Int) (i:Int) (C2 l) k0=k0 s (k:Int) (C2 (l++((s.take k).drop i).map (·.toNat))):=by
 intro r
 induction r with
 | zero=>
  intro i n l f h g;obtain⟨n,rfl⟩:∃m,n=m+1:=⟨n-1,by omega⟩
  rw[Hr];rw[A6,j0 (by rw[o7];omega)];simp
 | succ r j=>
  intro i n l f h g;obtain⟨n,rfl⟩:∃m,n=m+1:=⟨n-1,by omega⟩
  rw[Hr];have c:A1 ((i:Int)+1)=((i+1:Nat):Int):=by rw[A5];rfl
  have e:(s.take k).drop i=s.getD i 0::(s.take k).drop (i+1):=by
   rw[I8 (s.take k) i (by rw[o7];omega)]
   congr 1
   rw[j4,j4,List.getElem?_take_of_lt (by omega)]
  rw[A8,J1,G8,e,D7,F3 (by omega),c];simp only[cond_true];generalize s.getD i 0=b;have o:=b.toNat_lt;have d:A1 (b.toNat:Int)=(b.toNat:Int):=A5;have a:C2 l++[[SV.int .i64 (A1 (b.toNat:Int))]]=C2 (l++[b.toNat]):=by rw[d,Kt];rfl
  rw[a];refine(j (i+1) n _ (by omega) (by omega) (by simp;omega)).trans ?_;simp
theorem A31(s:By)(hs:s.length<=1000000)(out:LL)(f b e:Int)(l:LL)(P:0<=b)(Q:b<1000000):∀(r p n k:Nat) (i w:Int),p+r=s.length->r<n->0<=i->i<=1099511627776->0<=w->w<=1099511627776->k+r<=10000000->
  ((T1 b (s.drop p) i w ((36*k:Nat):Int)).1=0->∃o,p<o/\o<=s.length/\(T1 b (s.drop p) i w ((36*k:Nat):Int)).2.1=s.drop o/\∀(R:Type) (a:Int->LL->Option R) (d:By->LL->Int->Int->Int->Int->LL->Option R),U8 LF n s out (p:Int) f i b e w (k:Int) l a d=d s out (o:Int) f (T1 b (s.drop p) i w ((36*k:Nat):Int)).2.2 e l)/\
  ((T1 b (s.drop p) i w ((36*k:Nat):Int)).1≠0->∀(R:Type) (a:Int->LL->Option R) (d:By->LL->Int->Int->Int->Int->LL->Option R),U8 LF n s out (p:Int) f i b e w (k:Int) l a d=a (T1 b (s.drop p) i w ((36*k:Nat):Int)).1 l):=by
 intro r
 induction r with
 | zero=>
  intro p n k i w X W U D G g V;obtain⟨n,rfl⟩:∃m,n=m+1:=⟨n-1,by omega⟩
  rw[j0 (by omega)];refine⟨λh=>by simp[T1] at h,λ_ R a d=>?_⟩;rw[U8];rw[A6];rfl
 | succ r Z=>
  intro p n k i w X W U D G g V;obtain⟨n,rfl⟩:∃m,n=m+1:=⟨n-1,by omega⟩
  have S:=I8 s p (by omega);have C:=G8 s p;rw[S];generalize s.getD p 0=c at *;have Y:=Fs c;have ht:=Mv ((36*k:Nat):Int) b;have e0:Int.mul 36 (k:Int)=((36*k:Nat):Int):=rfl;have J:A1 ((p:Int)+1)=((p+1:Nat):Int):=by rw[A5];rfl
  have K:A1 ((k:Int)+1)=((k+1:Nat):Int):=by rw[A5];rfl
  have start:∀(R:Type) (a:Int->LL->Option R) (d:By->LL->Int->Int->Int->Int->LL->Option R),U8 LF (n+1) s out (p:Int) f i b e w (k:Int) l a d =
    cond (ltI (E3 c) 0) (a 4 l)
     (vl (A1 (i+(A1 (E3 c*w)))) λj=>cond (ltI 1099511627776 j) (a 19 l)
      (cond (ltI (E3 c) (L6 ((36*k:Nat):Int) b)) (d s out ((p+1:Nat):Int) f j e l)
       (vl (A1 (36-(L6 ((36*k:Nat):Int) b))) λq=>cond (ltI 1099511627776 (A1 (w*q))) (a 19 l) (U8 LF n s out ((p+1:Nat):Int) f j b e (A1 (w*q)) ((k+1:Nat):Int) l a d)))):=by
   intro R a d;rw[U8];have T:=c.toNat_lt;rw[A8,J1,C,J1,Mw,M0,M0,e0,J,K];rfl
  unfold T1;by_cases y:E3 c<0
  ·rw[if_pos y];refine⟨λh=>by simp at h,λ_ R a d=>?_⟩;rw[start,D1 y];rfl
  ·rw[if_neg y];have hm:=Df (by omega) Y.2 G g;have u:A1 (E3 c*w)=E3 c*w:=A5;have v:A1 (i+E3 c*w)=i+E3 c*w:=A5;by_cases z:1099511627776<i+E3 c*w
   ·rw[if_pos z];refine⟨λh=>by simp at h,λ_ R a d=>?_⟩;rw[start,A6,u,v];simp only[vl,cond_false];rw[D1 z];rfl
   ·rw[if_neg z];by_cases A:E3 c<L6 ((36*k:Nat):Int) b
    ·rw[if_pos A];refine⟨λ_=>⟨p+1,by omega,by omega,rfl,λR a d=>?_⟩,λh=>absurd rfl h⟩;rw[start,A6,u,v];simp only[vl,cond_false];rw[A6,D1 A];rfl
    ·rw[if_neg A];have H:A1 (36-L6 ((36*k:Nat):Int) b)=36-L6 ((36*k:Nat):Int) b:=A5;have F:=Df (x:=36-L6 ((36*k:Nat):Int) b) (by omega) (by omega) G g;rw[aa4] at F;have I:A1 (w*(36-L6 ((36*k:Nat):Int) b))=w*(36-L6 ((36*k:Nat):Int) b):=A5;by_cases B:1099511627776<w*(36-L6 ((36*k:Nat):Int) b)
     ·rw[if_pos B];refine⟨λh=>by simp at h,λ_ R a d=>?_⟩;rw[start,A6,u,v];simp only[vl,cond_false];rw[A6,A6,H,I,D1 B];rfl
     ·rw[if_neg B];have L:((36*k:Nat):Int)+36=((36*(k+1):Nat):Int):=by omega
      rw[L];obtain⟨q1,q2⟩:=Z (p+1) n (k+1) (i+E3 c*w) (w*(36-L6 ((36*k:Nat):Int) b)) (by omega) (by omega) (by omega) (by omega) (by omega) (by omega) (by omega);have t:∀(R:Type) (a:Int->LL->Option R) (d:By->LL->Int->Int->Int->Int->LL->Option R),U8 LF (n+1) s out (p:Int) f i b e w (k:Int) l a d=U8 LF n s out ((p+1:Nat):Int) f (i+E3 c*w) b e (w*(36-L6 ((36*k:Nat):Int) b)) ((k+1:Nat):Int) l a d:=by simp_all
      refine⟨λh=>?_,λh R a d=>by rw[t];exact q2 h R a d⟩;obtain⟨o,g1,M,N,O⟩:=q1 h;exact⟨o,by omega,M,N,λR a d=>by rw[t];exact O R a d⟩
theorem A32(s:By)(Z:s.length<=1000000)(l:LL):∀(r p n k:Nat) (i w:Int),p+r=s.length->r<n->0<=i->i<=1099511627776->0<=w->w<=1099511627776->k+r<=10000000->
  ((T1 72 (s.drop p) i w ((36*k:Nat):Int)).1=0->∃f,p<f/\f<=s.length/\(T1 72 (s.drop p) i w ((36*k:Nat):Int)).2.1=s.drop f/\∀(R:Type) (a:Int->LL->Option R) (b:By->Int->Int->LL->Option R),U9 LF n s (p:Int) i w (k:Int) l a b=b s (f:Int) (T1 72 (s.drop p) i w ((36*k:Nat):Int)).2.2 l)/\
  ((T1 72 (s.drop p) i w ((36*k:Nat):Int)).1≠0->∀(R:Type) (a:Int->LL->Option R) (b:By->Int->Int->LL->Option R),U9 LF n s (p:Int) i w (k:Int) l a b=a (T1 72 (s.drop p) i w ((36*k:Nat):Int)).1 l):=by
 intro r
 induction r with
 | zero=>
  intro p n k i w S Q O A C d P;obtain⟨n,rfl⟩:∃m,n=m+1:=⟨n-1,by omega⟩
  rw[j0 (by omega)];refine⟨λh=>by simp[T1] at h,λ_ R a b=>?_⟩;rw[U9];rw[A6];rfl
 | succ r U=>
  intro p n k i w S Q O A C d P;obtain⟨n,rfl⟩:∃m,n=m+1:=⟨n-1,by omega⟩
  have M:=I8 s p (by omega);have z:=G8 s p;rw[M];generalize s.getD p 0=c at *;have T:=Fs c;have ht:=Mv ((36*k:Nat):Int) 72;have e0:Int.mul 36 (k:Int)=((36*k:Nat):Int):=rfl;have G:A1 ((p:Int)+1)=((p+1:Nat):Int):=by rw[A5];rfl
  have H:A1 ((k:Int)+1)=((k+1:Nat):Int):=by rw[A5];rfl
  have start:∀(R:Type) (a:Int->LL->Option R) (b:By->Int->Int->LL->Option R),U9 LF (n+1) s (p:Int) i w (k:Int) l a b =
    cond (ltI (E3 c) 0) (a 4 l)
     (vl (A1 (i+(A1 (E3 c*w)))) λe=>cond (ltI 1099511627776 e) (a 19 l)
      (cond (ltI (E3 c) (L6 ((36*k:Nat):Int) 72)) (b s ((p+1:Nat):Int) e l)
       (vl (A1 (36-(L6 ((36*k:Nat):Int) 72))) λg=>cond (ltI 1099511627776 (A1 (w*g))) (a 19 l) (U9 LF n s ((p+1:Nat):Int) e (A1 (w*g)) ((k+1:Nat):Int) l a b)))):=by
   intro R a b;rw[U9];have N:=c.toNat_lt;rw[A8,J1,z,J1,Mw,M0,M0,e0,G,H];rfl
  unfold T1;by_cases t:E3 c<0
  ·rw[if_pos t];refine⟨λh=>by simp at h,λ_ R a b=>?_⟩;rw[start,D1 t];rfl
  ·rw[if_neg t];have Y:=Df (by omega) T.2 C d;have o:A1 (E3 c*w)=E3 c*w:=A5;have q:A1 (i+E3 c*w)=i+E3 c*w:=A5;by_cases u:1099511627776<i+E3 c*w
   ·rw[if_pos u];refine⟨λh=>by simp at h,λ_ R a b=>?_⟩;rw[start,A6,o,q];simp only[vl,cond_false];rw[D1 u];rfl
   ·rw[if_neg u];by_cases v:E3 c<L6 ((36*k:Nat):Int) 72
    ·rw[if_pos v];refine⟨λ_=>⟨p+1,by omega,by omega,rfl,λR a b=>?_⟩,λh=>absurd rfl h⟩;rw[start,A6,o,q];simp only[vl,cond_false];rw[A6,D1 v];rfl
    ·rw[if_neg v];have D:A1 (36-L6 ((36*k:Nat):Int) 72)=36-L6 ((36*k:Nat):Int) 72:=A5;have B:=Df (x:=36-L6 ((36*k:Nat):Int) 72) (by omega) (by omega) C d;rw[aa4] at B;have F:A1 (w*(36-L6 ((36*k:Nat):Int) 72))=w*(36-L6 ((36*k:Nat):Int) 72):=A5;by_cases y:1099511627776<w*(36-L6 ((36*k:Nat):Int) 72)
     ·rw[if_pos y];refine⟨λh=>by simp at h,λ_ R a b=>?_⟩;rw[start,A6,o,q];simp only[vl,cond_false];rw[A6,A6,D,F,D1 y];rfl
     ·rw[if_neg y];have I:((36*k:Nat):Int)+36=((36*(k+1):Nat):Int):=by omega
      rw[I];obtain⟨V,W⟩:=U (p+1) n (k+1) (i+E3 c*w) (w*(36-L6 ((36*k:Nat):Int) 72)) (by omega) (by omega) (by omega) (by omega) (by omega) (by omega) (by omega);have j:∀(R:Type) (a:Int->LL->Option R) (b:By->Int->Int->LL->Option R),U9 LF (n+1) s (p:Int) i w (k:Int) l a b=U9 LF n s ((p+1:Nat):Int) (i+E3 c*w) (w*(36-L6 ((36*k:Nat):Int) 72)) ((k+1:Nat):Int) l a b:=by simp_all
      refine⟨λh=>?_,λh R a b=>by rw[j];exact W h R a b⟩;obtain⟨f,X,J,K,L⟩:=V h;exact⟨f,by omega,J,K,λR a b=>by rw[j];exact L R a b⟩
theorem NH(l:List Nat)(k:Nat):(C2 l).take k=C2 (l.take k):=by unfold C2;rw[List.map_take]
theorem NG(l:List Nat)(k:Nat):(C2 l).drop k=C2 (l.drop k):=by unfold C2;rw[List.map_drop]
theorem A30(s:By)(hs:s.length<=1000000)(l:LL):∀(r p f:Nat) (a:List Nat) (n i b:Nat),p+r=s.length->r<f->a.length<=256->n<=1114111->i<=1000->b<=500->
  ((I5 (s.drop p) a n i b false).2=0->∀(R:Type) (c:Int->LL->Option R) (d e:LL->LL->Option R),O7 LF f s (C2 a) (p:Int) (n:Int) (i:Int) (b:Int) l c d e=e (C2 (I5 (s.drop p) a n i b false).1) l)/\
  ((I5 (s.drop p) a n i b false).2≠0->(I5 (s.drop p) a n i b false).1=[]/\((∀(R:Type) (c:Int->LL->Option R) (d e:LL->LL->Option R),O7 LF f s (C2 a) (p:Int) (n:Int) (i:Int) (b:Int) l c d e=c ((I5 (s.drop p) a n i b false).2:Nat) l)\/
   ((I5 (s.drop p) a n i b false).2=3/\∃D,∀(R:Type) (c:Int->LL->Option R) (d e:LL->LL->Option R),O7 LF f s (C2 a) (p:Int) (n:Int) (i:Int) (b:Int) l c d e=d l D))):=by
 have a0:=E2;intro r
 induction r using y9 with
 | _ r ih=>
  intro p f a n i b hp hf h2 h3 h4 h5;obtain⟨f,rfl⟩:∃m,f=m+1:=⟨f-1,by omega⟩
  by_cases hr:r=0
  ·rw[j0 (by omega),Cw];refine⟨λ_ R c d e=>?_,λh=>absurd rfl h⟩;rw[O7];rw[A6];rfl
  ·have q:s.drop p≠[]:=λh=>by
    have:=congrArg p6 h;rw[j1] at this;simp at this;omega
   obtain⟨z,H⟩:=A31 s hs (C2 a) (n:Int) (b:Int) (i:Int) l (by omega) (by omega) r p LF 0 (i:Int) 1 hp (by omega) (by omega) (by omega) (by omega) (by omega) (by omega);obtain⟨F,G⟩:=Ux b (s.drop p) i 1 0;have y:T1 (b:Int) (s.drop p) (i:Int) 1 ((36*0:Nat):Int)=T1 (b:Int) (s.drop p) (i:Int) ((1:Nat):Int) ((36*0:Nat):Int):=rfl;rw[y] at z H;by_cases o:(E1 b (s.drop p) i 1 0).2.2=0
   ·rw[Dy q a n i b false o];have T:=G o;have K:(T1 (b:Int) (s.drop p) (i:Int) ((1:Nat):Int) ((36*0:Nat):Int)).1=0:=by rw[F,o];rfl
    obtain⟨v,a1,a2,w,x⟩:=z K;obtain⟨L,O,_⟩:=Uw (b:Int) (s.drop p) (i:Int) ((1:Nat):Int) ((36*0:Nat):Int) (by omega) (by omega) (by omega) K;rw[T] at L O w x;simp only at L O w x;rw[w];generalize (E1 b (s.drop p) i 1 0).1=X at *;have el:A1 (((C2 a).length:Int)+1)=((a.length+1:Nat):Int):=by rw[D7,A5];rfl
    have U:A1 ((X:Int)-(i:Int))=((X-i:Nat):Int):=by rw[A5];omega
    have Z:Int.tdiv (X:Int) ((a.length+1:Nat):Int)=((X / (a.length+1):Nat):Int):=M3 _ _;have em:Int.tmod (X:Int) ((a.length+1:Nat):Int)=((X % (a.length+1):Nat):Int):=Cl _ _;have a5:X / (a.length+1)<=X:=y8 _ _;have J:=Nat.mod_lt X (show 0<a.length+1 by omega);have A:=Nw (X-i) (a.length+1) false (by omega);generalize hQ:X / (a.length+1)=Q at *;generalize hM:X % (a.length+1)=M at *;have V:A1 (Q:Int)=(Q:Int):=A5;have W:A1 ((n:Int)+(Q:Int))=((n+Q:Nat):Int):=by rw[A5];rfl
    have Y:A1 ((M:Int)+1)=((M+1:Nat):Int):=by rw[A5];rfl
    have C:(((a.length+1:Nat):Int)!=0)=true:=by rw[bne_iff_ne];omega
    have P:cut (C2 a) 0 (M:Int)=C2 (a.take M):=by rw[X6,k9,NH]
    have S:cut (C2 a) (M:Int) ((C2 a).length:Int)=C2 (a.drop M):=by rw[Z2,k9,NG]
    have t:∀N:Nat,C2 (a.take M)++[[SV.int .i64 (N:Int)]]++C2 (a.drop M)=C2 (U6 a M N):=λN=>by
     unfold U6;rw[Kt,v7];rfl
    have start:∀(R:Type) (c:Int->LL->Option R) (d e:LL->LL->Option R),O7 LF (f+1) s (C2 a) (p:Int) (n:Int) (i:Int) (b:Int) l c d e =
      cond (not (U7 (n+Q))) (c 2 l) (cond (ltI 256 ((a.length+1:Nat):Int)) (d l (C2 (U6 a M (n+Q))))
       (O7 LF f s (C2 (U6 a M (n+Q))) (v:Int) ((n+Q:Nat):Int) ((M+1:Nat):Int) ((P9 (X-i) (a.length+1) false:Nat):Int) l c d e)):=by
     intro R c d e;rw[O7];rw[A8,cond_true];refine(x R _ _).trans ?_;have s1:K5 (0:Int) (M:Int) (C2 a).length=true:=W0 (by omega) (by omega) (by rw[D7];omega);have s2:K5 (M:Int) ((C2 a).length:Int) (C2 a).length=true:=W0 (by omega) (by rw[D7];omega) (by omega);have t1:ltN ((X-i:Nat):Int) 1152921504606846976=true:=M0;have t2:ltN ((a.length+1:Nat):Int) 1000000=true:=M0;have t3:ltI 0 ((a.length+1:Nat):Int)=true:=A8;have l1:(C2 (a.take M)).length=M:=by rw[D7,o7];omega
     have l2:(C2 (a.drop M)).length=a.length-M:=by rw[D7,j1]
     have r1:F8 (0+(C2 (a.take M)).length)=true:=F3 (by omega);have r2:F8 ((C2 (a.take M)).length+1)=true:=F3 (by omega);have r3:F8 ((C2 (a.take M)++[[SV.int .i64 ((n+Q:Nat):Int)]]).length+(C2 (a.drop M)).length)=true:=F3 (by rw[p9,p5];omega);have l3:(C2 (U6 a M (n+Q))).length=a.length+1:=by rw[D7,Bi]
     simp only[vl,el,U,Z,em,V,W,Y,C,s1,s2,t1,t2,t3,P,S,r1,r2,r3,t,l3,cond_true,k9,Mn]
    cases g:U7 (n+Q) with
    | false=>
     rw[if_neg (by simp)];refine⟨λh=>by simp at h,λ_=>⟨rfl,.inl λR c d e=>?_⟩⟩;rw[start,g];rfl
    | true=>
     rw[if_pos rfl];by_cases I:256<a.length+1
     ·rw[if_pos I];refine⟨λh=>by simp at h,λ_=>⟨rfl,.inr ⟨rfl,C2 (U6 a M (n+Q)),λR c d e=>?_⟩⟩⟩;rw[start,g,A8];rfl
     ·rw[if_neg I];have B:n+Q<=1114111:=by
       unfold U7 at g;simp only[o6,j5] at g;exact g.1
      have k:∀(R:Type) (c:Int->LL->Option R) (d e:LL->LL->Option R),O7 LF (f+1) s (C2 a) (p:Int) (n:Int) (i:Int) (b:Int) l c d e=O7 LF f s (C2 (U6 a M (n+Q))) (v:Int) ((n+Q:Nat):Int) ((M+1:Nat):Int) ((P9 (X-i) (a.length+1) false:Nat):Int) l c d e:=by
       intro R c d e;rw[start,g,A6];rfl
      obtain⟨z1,z2⟩:=ih (s.length-v) (by omega) v f (U6 a M (n+Q)) (n+Q) (M+1) (P9 (X-i) (a.length+1) false) (by omega) (by omega) (by rw[Bi];omega) B (by omega) A;refine⟨λh R c d e=>by rw[k];exact z1 h R c d e,λh=>?_⟩;obtain⟨y1,u⟩:=z2 h;refine⟨y1,?_⟩;rcases u with u|⟨u,D,y3⟩
      ·exact .inl λR c d e=>by rw[k];exact u R c d e
      ·exact .inr ⟨u,D,λR c d e=>by rw[k];exact y3 R c d e⟩
   ·rw[Hd q a n i b false o];clear z G;refine⟨λh=>absurd h o,λ_=>⟨rfl,.inl λR c d e=>?_⟩⟩;rw[O7];rw[A8,cond_true];have j:=congrArg Prod.fst F;simp only at j;refine(H (by rw[j];omega) R _ _).trans ?_;rw[j]
theorem Bk5:∀(r:Nat) (s:By) (a:List Nat) (n i b:Nat) (f:Bool),s.length<=r->0<a.length->(I5 s a n i b f).2=0->(I5 s a n i b f).1≠[]:=by
 intro r
 induction r with
 | zero=>
  intro s a n i b f d l h;obtain rfl:=p4.1 (Nat.le_zero.1 d);rw[Cw];grind
 | succ r m=>
  intro s a n i b f d l h;by_cases e:s=[]
  ·grind
  ·by_cases c:(E1 b s i 1 0).2.2=0
   ·rw[Dy e a n i b f c] at h ⊢;split at h
    ·rename_i g;rw[if_pos g];split at h
     ·omega
     ·rename_i j;rw[if_neg j];have k:=Qf b s i 1 0 c;exact m _ _ _ _ _ _ (by omega) (by rw[Bi];omega) h
    omega
   ·rw[Hd e a n i b f c] at h;omega
theorem A29(s:By)(K:s.length<=1000000)(p:Nat)(a:List Nat)(h2:a.length<=256)(hp:p<=s.length) :
  (s.drop p=[]/\∀(R:Type) (b:Int->LL->Option R) (c d:LL->LL->Option R) (g:LL->Option R),L3 LF LF s (p:Int) (C2 a) b c d g=g (C2 a))\/
  ((I5 (s.drop p) a 128 0 72 true).2=0/\(I5 (s.drop p) a 128 0 72 true).1≠[]/\∀(R:Type) (b:Int->LL->Option R) (c d:LL->LL->Option R) (g:LL->Option R),L3 LF LF s (p:Int) (C2 a) b c d g=d (C2 (I5 (s.drop p) a 128 0 72 true).1) (C2 a))\/
  ((I5 (s.drop p) a 128 0 72 true).1=[]/\((∀(R:Type) (b:Int->LL->Option R) (c d:LL->LL->Option R) (g:LL->Option R),L3 LF LF s (p:Int) (C2 a) b c d g=b ((I5 (s.drop p) a 128 0 72 true).2:Nat) (C2 a))\/
   ((I5 (s.drop p) a 128 0 72 true).2=3/\∃F,∀(R:Type) (b:Int->LL->Option R) (c d:LL->LL->Option R) (g:LL->Option R),L3 LF LF s (p:Int) (C2 a) b c d g=c (C2 a) F))):=by
 have a0:=E2;obtain⟨f,B⟩:∃m,LF=m+1:=⟨LF-1,by omega⟩
 by_cases hr:s.length<=p
 ·refine .inl ⟨j0 hr,λR b c d g=>?_⟩;have e:L3 LF LF s (p:Int) (C2 a) b c d g=L3 LF (f+1) s (p:Int) (C2 a) b c d g:=by rw[<-B]
  rw[e,L3];rw[A6];rfl
 ·right
  have o:s.drop p≠[]:=λh=>by
   have:=congrArg p6 h;grind
  obtain⟨u,y⟩:=A32 s K (C2 a) (s.length-p) p LF 0 0 1 (by omega) (by omega) (by omega) (by omega) (by omega) (by omega) (by omega);obtain⟨G,x⟩:=Ux 72 (s.drop p) 0 1 0;have n:T1 72 (s.drop p) 0 1 ((36*0:Nat):Int)=T1 ((72:Nat):Int) (s.drop p) ((0:Nat):Int) ((1:Nat):Int) ((36*0:Nat):Int):=rfl;rw[n] at u y;by_cases A:(E1 72 (s.drop p) 0 1 0).2.2=0
  ·rw[Dy o a 128 0 72 true A];have H:=x A;have k:(T1 ((72:Nat):Int) (s.drop p) ((0:Nat):Int) ((1:Nat):Int) ((36*0:Nat):Int)).1=0:=by grind
   obtain⟨r,a1,a2,v,w⟩:=u k;obtain⟨L,O,_⟩:=Uw ((72:Nat):Int) (s.drop p) ((0:Nat):Int) ((1:Nat):Int) ((36*0:Nat):Int) (by omega) (by omega) (by omega) k;rw[H] at L O v w;simp only at L O v w;clear u y G x H k n;rw[v];generalize (E1 72 (s.drop p) 0 1 0).1=X at *;have Z:A1 (((C2 a).length:Int)+1)=((a.length+1:Nat):Int):=by rw[D7,A5];rfl
   have T:A1 ((X:Int)-0)=(X:Int):=by rw[A5];omega
   have Y:Int.tdiv (X:Int) ((a.length+1:Nat):Int)=((X / (a.length+1):Nat):Int):=M3 _ _;have em:Int.tmod (X:Int) ((a.length+1:Nat):Int)=((X % (a.length+1):Nat):Int):=Cl _ _;have a5:X / (a.length+1)<=X:=y8 _ _;have J:=Nat.mod_lt X (show 0<a.length+1 by omega);have z:=Nw X (a.length+1) true (by omega);generalize hQ:X / (a.length+1)=Q at *;generalize hM:X % (a.length+1)=M at *;have U:A1 (Q:Int)=(Q:Int):=A5;have V:A1 ((128:Int)+(Q:Int))=((128+Q:Nat):Int):=by rw[A5];rfl
   have W:A1 ((M:Int)+1)=((M+1:Nat):Int):=by rw[A5];rfl
   have D:(((a.length+1:Nat):Int)!=0)=true:=by rw[bne_iff_ne];omega
   have P:aa3 (M-0) (List.drop 0 (C2 a))=C2 (a.take M):=by rw[aa5,o0,NH]
   have S:aa3 ((C2 a).length-M) (List.drop M (C2 a))=C2 (a.drop M):=by
    rw[List.take_of_length_le (by rw[j1];omega),NG]
   have q:∀N:Nat,C2 (a.take M)++[[SV.int .i64 (N:Int)]]++C2 (a.drop M)=C2 (U6 a M N):=λN=>by
    unfold U6;rw[Kt,v7];rfl
   have start:∀(R:Type) (b:Int->LL->Option R) (c d:LL->LL->Option R) (g:LL->Option R),L3 LF LF s (p:Int) (C2 a) b c d g =
     cond (not (U7 (128+Q))) (b 2 (C2 a)) (cond (ltI 256 ((a.length+1:Nat):Int)) (c (C2 a) (C2 (U6 a M (128+Q))))
      (O7 LF f s (C2 (U6 a M (128+Q))) (r:Int) ((128+Q:Nat):Int) ((M+1:Nat):Int) ((P9 X (a.length+1) true:Nat):Int) (C2 a) b c d)):=by
    intro R b c d g;have e:L3 LF LF s (p:Int) (C2 a) b c d g=L3 LF (f+1) s (p:Int) (C2 a) b c d g:=by rw[<-B]
    rw[e,L3];rw[A8,cond_true];refine(w R _ _).trans ?_;have s1:K5 (0:Int) (M:Int) (C2 a).length=true:=W0 (by omega) (by omega) (by rw[D7];omega);have s2:K5 (M:Int) ((C2 a).length:Int) (C2 a).length=true:=W0 (by omega) (by rw[D7];omega) (by omega);have t1:ltN (X:Int) 1152921504606846976=true:=M0;have t2:ltN ((a.length+1:Nat):Int) 1000000=true:=M0;have t3:ltI 0 ((a.length+1:Nat):Int)=true:=A8;have l1:(C2 (a.take M)).length=M:=by rw[D7,o7];omega
    have l2:(C2 (a.drop M)).length=a.length-M:=by rw[D7,j1]
    have r1:F8 (0+(C2 (a.take M)).length)=true:=F3 (by omega);have r2:F8 ((C2 (a.take M)).length+1)=true:=F3 (by omega);have r3:F8 ((C2 (a.take M)++[[SV.int .i64 ((128+Q:Nat):Int)]]).length+(C2 (a.drop M)).length)=true:=F3 (by rw[p9,p5];omega);have l3:(C2 (U6 a M (128+Q))).length=a.length+1:=by rw[D7,Bi]
    simp only[vl,Z,T,Y,em,U,V,W,D,s1,s2,t1,t2,t3,k9,P,S,r1,r2,r3,q,l3,cond_true,Mn]
   cases j:U7 (128+Q) with
   | false=>
    rw[if_neg (by simp)];refine .inr ⟨rfl,.inl λR b c d g=>?_⟩;rw[start,j];rfl
   | true=>
    rw[if_pos rfl];by_cases I:256<a.length+1
    ·rw[if_pos I];refine .inr ⟨rfl,.inr ⟨rfl,C2 (U6 a M (128+Q)),λR b c d g=>?_⟩⟩;rw[start,j,A8];rfl
    ·rw[if_neg I];have C:128+Q<=1114111:=by
      unfold U7 at j;simp_all
     have l:∀(R:Type) (b:Int->LL->Option R) (c d:LL->LL->Option R) (g:LL->Option R),L3 LF LF s (p:Int) (C2 a) b c d g=O7 LF f s (C2 (U6 a M (128+Q))) (r:Int) ((128+Q:Nat):Int) ((M+1:Nat):Int) ((P9 X (a.length+1) true:Nat):Int) (C2 a) b c d:=by
      intro R b c d g;rw[start,j,A6];rfl
     obtain⟨z1,z2⟩:=A30 s K (C2 a) (s.length-r) r f (U6 a M (128+Q)) (128+Q) (M+1) (P9 X (a.length+1) true) (by omega) (by omega) (by rw[Bi];omega) C (by omega) z;have hX:X-0=X:=aa5 X;rw[hX];by_cases k:(I5 (s.drop r) (U6 a M (128+Q)) (128+Q) (M+1) (P9 X (a.length+1) true) false).2=0
     ·refine .inl ⟨k,?_,λR b c d g=>by rw[l];exact z1 k R b c d⟩;exact Bk5 _ _ _ _ _ _ _ (Nat.le_refl _) (by rw[Bi];omega) k
     ·obtain⟨y1,t⟩:=z2 k;refine .inr ⟨y1,?_⟩;rcases t with t|⟨t,F,y3⟩
      ·exact .inl λR b c d g=>by rw[l];exact t R b c d
      ·exact .inr ⟨t,F,λR b c d g=>by rw[l];exact y3 R b c d⟩
  ·rw[Hd o a 128 0 72 true A];clear u x;refine .inr ⟨rfl,.inl λR b c d g=>?_⟩;have e:L3 LF LF s (p:Int) (C2 a) b c d g=L3 LF (f+1) s (p:Int) (C2 a) b c d g:=by rw[<-B]
   rw[e,L3];rw[A8,cond_true];have i:=congrArg Prod.fst G;simp only at i;refine(y (by rw[i];omega) R _ _).trans ?_;rw[i]
theorem Cc7(s:By)(M:A3 s.length=true):∃r H,Bg5 LF s (λi f=>rv (.tup [.fl 0,.s (.int .i64 i)]) [.arr true 3 1 f]) (λi f=>rv (.tup [.fl 1,.s (.int .i64 i)]) [.arr true 3 1 f,.arr true 3 1 []]) (λx f=>rv (.tup [.fl 2,.s (.int .i64 (3:Int))]) [.arr true 3 1 x,.arr false 3 1 f,.arr true 3 1 []]) (λi f=>rv (.tup [.s (.sl false false 1 i),.s (.int .i64 (0:Int))]) [.arr true 3 1 f])=rv r H/\
  r.stab [1,0] H = .tup [.s (.sl (N4 s).1.isEmpty (N4 s).1.isEmpty 1 (Zt (N4 s).1)),.s (.int .i64 ((N4 s).2:Nat))]:=by
 have G:=E2;unfold Bg5 N4;by_cases z:1024<s.length
 ·rw[if_pos z,A8];exact⟨_,_,rfl,rfl⟩
 ·rw[if_neg z,A6,cond_false];have e:=λ(R:Type) (C:Unit->Option R) (D:By->Int->Option R)=>A33 (k0:=C) (k1:=D) s (by omega) s.length 0 LF 0 (by omega) (by omega)
  rw[o0] at e;cases y:s.any (λb=>j9 128 b.toNat) with
  | true=>
   rw[if_pos rfl];refine⟨.tup [.fl 0,.s (.int .i64 4)],[.arr true 3 1 []],(e _ _ _).trans ?_,rfl⟩;rw[y,if_pos rfl]
  | false=>
   rw[if_neg (by simp)];obtain⟨L,F⟩:=Ow s;have I:=Ox s;have q:(if (45:UInt8)∈s then 0+H4 s else 0)=H4 s:=by
    split
    ·omega
    ·rename_i h;exact(F h).2.symm
   rw[y,q] at e;have c:=λ(R:Type) (K:By->Int->LL->Option R)=>A28 (k0:=K) s (by omega) (H4 s) (by omega) (H4 s) 0 LF [] (by omega) (by omega) rfl
   rw[o0] at c;have g:((s.take (H4 s)).map (·.toNat)).length=H4 s:=by rw[List.length_map,o7];omega
   generalize N:H4 s=m at *;generalize A:(s.take m).map (·.toNat)=d at *;by_cases k:256<m
   ·rw[if_pos k];refine⟨.tup [.fl 1,.s (.int .i64 3)],[.arr true 3 1 (C2 d),.arr true 3 1 []],(e _ _ _).trans ?_,rfl⟩;rw[if_neg (by simp)];refine(c _ _).trans ?_;rw[w9,D7,g,A8];rfl
   ·rw[if_neg k];have o:∀p:Nat,p<=s.length->∀(X:Option (PV × List Blk × Unit)),X=L3 LF LF s (p:Int) (C2 d) (λi f=>rv (.tup [.fl 1,.s (.int .i64 i)]) [.arr true 3 1 f,.arr true 3 1 []]) (λx f=>rv (.tup [.fl 2,.s (.int .i64 (3:Int))]) [.arr true 3 1 x,.arr false 3 1 f,.arr true 3 1 []]) (λi f=>rv (.tup [.s (.sl false false 1 i),.s (.int .i64 (0:Int))]) [.arr true 3 1 f]) (λl=>rv (.tup [.fl 0,.s (.int .i64 0)]) [.arr true 3 1 l])->
      ∃r H,X=rv r H/\r.stab [1,0] H = .tup [.s (.sl (I5 (s.drop p) d 128 0 72 true).1.isEmpty (I5 (s.drop p) d 128 0 72 true).1.isEmpty 1 (Zt (I5 (s.drop p) d 128 0 72 true).1)),.s (.int .i64 ((I5 (s.drop p) d 128 0 72 true).2:Nat))]:=by
     intro p J X t;rcases A29 s (by omega) p d (by omega) J with⟨j,n⟩|⟨j,u,n⟩|⟨j,n|⟨u,O,n⟩⟩
     ·refine⟨_,_,t.trans (n _ _ _ _ _),?_⟩;rw[j,Cw,Ku];simp[PV.stab,Ri,Rh,PV.snap,M8,Vx]
     ·refine⟨_,_,t.trans (n _ _ _ _ _),?_⟩;rw[j,Ku];have:(I5 (s.drop p) d 128 0 72 true).1.isEmpty=false:=by
       cases h:(I5 (s.drop p) d 128 0 72 true).1 with
       | nil=>exact absurd h u
       | cons a r=>rfl
      rw[this];rfl
     ·refine⟨_,_,t.trans (n _ _ _ _ _),?_⟩;rw[j];rfl
     ·refine⟨_,_,t.trans (n _ _ _ _ _),?_⟩;rw[j,u];rfl
    by_cases B:m=0
    ·subst B;rw[if_pos rfl];have:=o 0 (by omega) _ rfl;rw[o0] at this;obtain⟨r,H,v,w⟩:=this;refine⟨r,H,(e _ _ _).trans ?_,w⟩;rw[if_neg (by simp)];refine(c _ _).trans ?_;rw[w9,D7,g,A6,cond_false,A6,cond_false];exact v
    ·rw[if_neg B];obtain⟨r,H,v,w⟩:=o (m+1) (by omega) _ rfl;refine⟨r,H,(e _ _ _).trans ?_,w⟩;rw[if_neg (by simp)];refine(c _ _).trans ?_;have j:A1 ((m:Int)+1)=((m+1:Nat):Int):=by rw[A5];rfl
     rw[w9,D7,g,A6,cond_false,A8,cond_true,j];exact v
theorem Z3{R:Type}{d:LL->Option R}{e:By->Int->Int->Int->Int->LL->Option R}(s:By)(u:s.length<=1000000000)(n i m v c a:Nat)(l:LL)(q:a<m)(r:m<=4)(p:i+a<s.length)(w:v<=100000)(t:0<n) :
  Mq LF n s i m v c a l d e=if 128<=(s.getD (i+a) 0).toNat/\(s.getD (i+a) 0).toNat<=191 then Mq LF (n-1) s i m ((v*64+(s.getD (i+a) 0).toNat-128:Nat):Int) c ((a+1:Nat):Int) l d e else d l:=by
 have o:=(s.getD (i+a) 0).toNat_lt;obtain⟨n,rfl⟩:∃m,n=m+1:=⟨n-1,by omega⟩
 rw[Mq];have f:A1 ((i:Int)+a)=((i+a:Nat):Int):=by rw[A5];rfl
 have g:A1 ((a:Int)+1)=((a+1:Nat):Int):=by rw[A5];rfl
 rw[A8,f,g,J1,G8];generalize (s.getD (i+a) 0).toNat=b at *;simp only[cond_true,vl];rw[F5 (n:=(b:Int)) (by omega) (by omega),Nat.add_sub_cancel];by_cases j:b<128
 ·rw[A8,J4];rfl
 ·rw[A6,cond_false];by_cases k:191<b
  ·rw[A8,J4];rfl
  ·rw[A6,cond_false,Aj];have h:A1 (A1 (A1 ((v:Int)*64)+(b:Int))-128)=((v*64+b-128:Nat):Int):=by
    rw[F5 (n:=(v:Int)*64) (by omega) (by omega),F5 (n:=(v:Int)*64+b) (by omega) (by omega),A5];omega
   rw[h]
theorem Pi{R:Type}{c:LL->Option R}{b:By->Int->Int->Int->Int->LL->Option R}(s:By)(n i m v a:Nat)(l:LL)(d:0<n) :
  Mq LF n s i m v a m l c b=b s i m v a l:=by
 obtain⟨n,rfl⟩:∃m,n=m+1:=⟨n-1,by omega⟩
 rw[Mq];rw[A6];rfl
theorem Rc{R:Type}{b:LL->Option R}{c:By->Int->LL->Option R}(s:By)(k:s.length<=1000000000)(i m v a:Nat)(P:List Nat)(e:P.length<=1000000000)(f:i+m<=s.length)(l:v<=10000000)(g:m<=4) :
  cond (ltI (v:Int) (a:Int)) (b (C2 P)) (cond (not (ptI v)) (b (C2 P)) (cond (F8 ((C2 P).length+1)) (c s (A1 ((i:Int)+m)) (C2 P++[[SV.int .i64 (v:Int)]])) none)) =
   if a<=v/\U7 v=true then c s ((i+m:Nat):Int) (C2 (P++[v])) else b (C2 P):=by
 have d:A1 ((i:Int)+m)=((i+m:Nat):Int):=by rw[A5];rfl
 rw[d,D7,F3 (by omega),Kt,show ptI (v:Int)=U7 v from rfl];by_cases h:v<a
 ·rw[A8,J4];rfl
 ·rw[A6,cond_false];cases j:U7 v with
  | false=>rw[if_neg (by simp)];rfl
  | true=>rw[if_pos ⟨by omega,rfl⟩];rfl
theorem Bt0{R:Type}{d:LL->Option R}{f:By->Int->LL->Option R}(s:By)(e:s.length<=1000000000)(i v a:Nat)(P:List Nat)(k:P.length<=1000000000)(m:i<s.length)(n:v<=32) :
  Ja LF s i 2 v a (C2 P) d f=if 2<=s.length-i/\128<=(s.getD (i+1) 0).toNat/\(s.getD (i+1) 0).toNat<=191 then
   (if a<=v*64+(s.getD (i+1) 0).toNat-128/\U7 (v*64+(s.getD (i+1) 0).toNat-128)=true then f s ((i+2:Nat):Int) (C2 (P++[v*64+(s.getD (i+1) 0).toNat-128])) else d (C2 P)) else d (C2 P):=by
 have l:=(s.getD (i+1) 0).toNat_lt;have j:=E2;unfold Ja;have g:A1 ((s.length:Int)-i)=((s.length-i:Nat):Int):=by rw[A5];omega
 rw[g];simp only[vl];by_cases h:s.length-i<2
 ·rw[A8,J4];rfl
 ·rw[A6,cond_false];refine j7 (Z3 s e LF i 2 v a 1 (C2 P) (by omega) (by omega) (by omega) (by omega) (by omega)) ?_;generalize (s.getD (i+1) 0).toNat=b at *;by_cases c:128<=b/\b<=191
  ·rw[if_pos c,if_pos ⟨by omega,c⟩];refine j7 (Pi s (LF-1) i 2 _ a (C2 P) (by omega)) ?_;exact Rc s e i 2 _ a P k (by omega) (by omega) (by omega)
  ·rw[if_neg c,if_neg (λh=>c h.2)]
theorem Bt1{R:Type}{e:LL->Option R}{f:By->Int->LL->Option R}(s:By)(d:s.length<=1000000000)(i v a:Nat)(P:List Nat)(k:P.length<=1000000000)(n:i<s.length)(o:v<=32) :
  Ja LF s i 3 v a (C2 P) e f=if 3<=s.length-i/\(128<=(s.getD (i+1) 0).toNat/\(s.getD (i+1) 0).toNat<=191)/\(128<=(s.getD (i+2) 0).toNat/\(s.getD (i+2) 0).toNat<=191) then
   (if a<=(v*64+(s.getD (i+1) 0).toNat-128)*64+(s.getD (i+2) 0).toNat-128/\U7 ((v*64+(s.getD (i+1) 0).toNat-128)*64+(s.getD (i+2) 0).toNat-128)=true then f s ((i+3:Nat):Int) (C2 (P++[(v*64+(s.getD (i+1) 0).toNat-128)*64+(s.getD (i+2) 0).toNat-128])) else e (C2 P)) else e (C2 P):=by
 have m:=(s.getD (i+1) 0).toNat_lt;have l:=(s.getD (i+2) 0).toNat_lt;have j:=E2;unfold Ja;have g:A1 ((s.length:Int)-i)=((s.length-i:Nat):Int):=by rw[A5];omega
 rw[g];simp only[vl];by_cases h:s.length-i<3
 ·rw[A8,J4];rfl
 ·rw[A6,cond_false];refine j7 (Z3 s d LF i 3 v a 1 (C2 P) (by omega) (by omega) (by omega) (by omega) (by omega)) ?_;by_cases b:128<=(s.getD (i+1) 0).toNat/\(s.getD (i+1) 0).toNat<=191
  ·rw[if_pos b];refine j7 (Z3 s d (LF-1) i 3 _ a 2 (C2 P) (by omega) (by omega) (by omega) (by omega) (by omega)) ?_;by_cases c:128<=(s.getD (i+2) 0).toNat/\(s.getD (i+2) 0).toNat<=191
   ·rw[if_pos c,if_pos ⟨by omega,b,c⟩];refine j7 (Pi s (LF-2) i 3 _ a (C2 P) (by omega)) ?_;exact Rc s d i 3 _ a P k (by omega) (by omega) (by omega)
   ·rw[if_neg c,if_neg (λh=>c h.2.2)]
  ·rw[if_neg b,if_neg (λh=>b h.2.1)]
theorem Bt2{R:Type}{f:LL->Option R}{g:By->Int->LL->Option R}(s:By)(e:s.length<=1000000000)(i v a:Nat)(P:List Nat)(l:P.length<=1000000000)(p:i<s.length)(q:v<=20) :
  Ja LF s i 4 v a (C2 P) f g=if 4<=s.length-i/\(128<=(s.getD (i+1) 0).toNat/\(s.getD (i+1) 0).toNat<=191)/\(128<=(s.getD (i+2) 0).toNat/\(s.getD (i+2) 0).toNat<=191)/\(128<=(s.getD (i+3) 0).toNat/\(s.getD (i+3) 0).toNat<=191) then
   (if a<=((v*64+(s.getD (i+1) 0).toNat-128)*64+(s.getD (i+2) 0).toNat-128)*64+(s.getD (i+3) 0).toNat-128/\U7 (((v*64+(s.getD (i+1) 0).toNat-128)*64+(s.getD (i+2) 0).toNat-128)*64+(s.getD (i+3) 0).toNat-128)=true then g s ((i+4:Nat):Int) (C2 (P++[((v*64+(s.getD (i+1) 0).toNat-128)*64+(s.getD (i+2) 0).toNat-128)*64+(s.getD (i+3) 0).toNat-128])) else f (C2 P)) else f (C2 P):=by
 have o:=(s.getD (i+1) 0).toNat_lt;have m:=(s.getD (i+2) 0).toNat_lt;have n:=(s.getD (i+3) 0).toNat_lt;have k:=E2;unfold Ja;have j:A1 ((s.length:Int)-i)=((s.length-i:Nat):Int):=by rw[A5];omega
 rw[j];simp only[vl];by_cases h:s.length-i<4
 ·rw[A8,J4];rfl
 ·rw[A6,cond_false];refine j7 (Z3 s e LF i 4 v a 1 (C2 P) (by omega) (by omega) (by omega) (by omega) (by omega)) ?_;by_cases b:128<=(s.getD (i+1) 0).toNat/\(s.getD (i+1) 0).toNat<=191
  ·rw[if_pos b];refine j7 (Z3 s e (LF-1) i 4 _ a 2 (C2 P) (by omega) (by omega) (by omega) (by omega) (by omega)) ?_;by_cases c:128<=(s.getD (i+2) 0).toNat/\(s.getD (i+2) 0).toNat<=191
   ·rw[if_pos c];refine j7 (Z3 s e (LF-2) i 4 _ a 3 (C2 P) (by omega) (by omega) (by omega) (by omega) (by omega)) ?_;by_cases d:128<=(s.getD (i+3) 0).toNat/\(s.getD (i+3) 0).toNat<=191
    ·rw[if_pos d,if_pos ⟨by omega,b,c,d⟩];refine j7 (Pi s (LF-3) i 4 _ a (C2 P) (by omega)) ?_;exact Rc s e i 4 _ a P l (by omega) (by omega) (by omega)
    ·rw[if_neg d,if_neg (λh=>d h.2.2.2)]
   ·rw[if_neg c,if_neg (λh=>c h.2.2.1)]
  ·rw[if_neg b,if_neg (λh=>b h.2.1)]
theorem A37{R:Type}{a:By->Int->Int->LL->Option R}(n:Nat)(b:0<n)(s:By)(i v:Int)(l:LL):WB LF n s i v l a=a s i v l:=by
 obtain⟨n,rfl⟩:∃m,n=m+1:=⟨n-1,by omega⟩
 rw[WB]
theorem A36{R:Type}{a:LL->Option R}{b:By->Int->LL->Option R}(s:By)(e:s.length<=1000000000)(i v:Nat)(P:List Nat)(d:P.length<=1000000000)(f:i<s.length)(g:v<128) :
  WA LF s i v (C2 P) a b=b s ((i+1:Nat):Int) (C2 (P++[v])):=by
 unfold WA;have c:A1 ((s.length:Int)-i)=((s.length-i:Nat):Int):=by rw[A5];omega
 rw[c];simp only[vl];rw[A6,cond_false];refine j7 (show _=cond (ltI (v:Int) ((0:Nat):Int)) (a (C2 P)) (cond (not (ptI v)) (a (C2 P)) (cond (F8 ((C2 P).length+1)) (b s (A1 ((i:Int)+(1:Nat))) (C2 P++[[SV.int .i64 (v:Int)]])) none)) from A37 LF (by have:=E2;omega) _ _ _ _) ?_;rw[Rc s e i 1 v 0 P d (by omega) (by omega) (by omega),if_pos];refine⟨Nat.zero_le _,?_⟩;simp only[U7,o6,y7,j5,Nat.blt_eq];omega
theorem B70{v:Nat}(h:v<2048):U7 v=true:=by simp only[U7,o6,y7,j5,Nat.blt_eq];omega
theorem A38{R:Type}{k0 k1:LL->Option R}(s:By)(h:s.length<=1000000000)(n i:Nat)(P:List Nat)(d:P.length<=1000000000)(f:i<s.length) :
  Cg LF (n+1) s i (C2 P) k0 k1=if (j6 (s.drop i)).1=65533/\(j6 (s.drop i)).2=1 then k0 (C2 P) else Cg LF n s ((i+(j6 (s.drop i)).2:Nat):Int) (C2 (P++[(j6 (s.drop i)).1])) k0 k1:=by
 have g:∀k,(s.drop i).getD k 0=s.getD (i+k) 0:=λk=>by grind
 have r:j6 (s.drop i)=o9 (s.length-i) (s.getD i 0).toNat (s.getD (i+1) 0).toNat (s.getD (i+2) 0).toNat (s.getD (i+3) 0).toNat:=by
  rw[Lib.decodeL_N,g,g,g,g,j1];rfl
 have v:=(s.getD i 0).toNat_lt;have j:=(s.getD (i+1) 0).toNat_lt;have m:=(s.getD (i+2) 0).toNat_lt;have t:=(s.getD (i+3) 0).toNat_lt;rw[r];rw[Cg,A8,J1,G8,F5 (n:=((s.getD i 0).toNat:Int)) (by omega) (by omega)];simp only[cond_true];generalize (s.getD i 0).toNat=b at *;by_cases l:b<128
 ·rw[A8,cond_true];have e:o9 (s.length-i) b (s.getD (i+1) 0).toNat (s.getD (i+2) 0).toNat (s.getD (i+3) 0).toNat=(b,1):=by unfold o9;rw[if_pos l]
  rw[e];simp only;rw[J4];exact A36 s h i b P d f l
 ·rw[F1 (show(128:Int)<=b by omega),cond_false];by_cases u:b<194
  ·rw[D1 (show(b:Int)<194 by omega)];have e:o9 (s.length-i) b (s.getD (i+1) 0).toNat (s.getD (i+2) 0).toNat (s.getD (i+3) 0).toNat=(65533,1):=by
    unfold o9;grind
   rw[e,if_pos ⟨rfl,rfl⟩];simp only[x5,cond_false];unfold Wp;unfold Wo;rw[cond_false,D1 (show(b:Int)<224 by omega),D1 (show(b:Int)<240 by omega)];rfl
  ·rw[F1 (show(194:Int)<=b by omega)];simp only[o5,cond_true];by_cases o:b<224
   ·rw[D1 (show(b:Int)<224 by omega)];unfold Wp;have c:A1 ((b:Int)-192)=((b-192:Nat):Int):=by rw[A5];omega
    rw[cond_true,c,Dh5 _ _ _ _ _ ⟨by omega,o⟩ j];simp only[vl];refine j7 (Bt0 s h i (b-192) 128 P d f (by omega)) ?_;by_cases a:2<=s.length-i/\128<=(s.getD (i+1) 0).toNat/\(s.getD (i+1) 0).toNat<=191
    ·rw[if_pos a,if_pos a];simp only;rw[if_pos ⟨by omega,B70 (by omega)⟩,J4]
    ·rw[if_neg a,if_neg a,if_pos ⟨rfl,rfl⟩]
   ·rw[F1 (show(224:Int)<=b by omega)];unfold Wp;rw[cond_false,F1 (show(224:Int)<=b by omega)];simp only[o5,cond_true];by_cases p:b<240
    ·rw[D1 (show(b:Int)<240 by omega)];unfold Wo;have c:A1 ((b:Int)-224)=((b-224:Nat):Int):=by rw[A5];omega
     rw[cond_true,c,Dh6 _ _ _ _ _ ⟨by omega,p⟩ j m];simp only[vl];refine j7 (Bt1 s h i (b-224) 2048 P d f (by omega)) ?_;by_cases a:3<=s.length-i/\(128<=(s.getD (i+1) 0).toNat/\(s.getD (i+1) 0).toNat<=191)/\(128<=(s.getD (i+2) 0).toNat/\(s.getD (i+2) 0).toNat<=191)
     ·rw[if_pos a,if_pos a];split
      ·simp only;rw[J4]
      ·rw[if_pos ⟨rfl,rfl⟩]
     ·rw[if_neg a,if_neg a,if_pos ⟨rfl,rfl⟩]
    ·rw[F1 (show(240:Int)<=b by omega)];unfold Wo;rw[cond_false,F1 (show(240:Int)<=b by omega)];simp only[o5,cond_true];by_cases q:b<245
     ·rw[D1 (show(b:Int)<245 by omega),cond_true];have c:A1 ((b:Int)-240)=((b-240:Nat):Int):=by rw[A5];omega
      rw[c,Dh7 _ _ _ _ _ ⟨by omega,q⟩ j m t];simp only[vl];refine j7 (Bt2 s h i (b-240) 65536 P d f (by omega)) ?_;by_cases a:4<=s.length-i/\(128<=(s.getD (i+1) 0).toNat/\(s.getD (i+1) 0).toNat<=191)/\(128<=(s.getD (i+2) 0).toNat/\(s.getD (i+2) 0).toNat<=191)/\(128<=(s.getD (i+3) 0).toNat/\(s.getD (i+3) 0).toNat<=191)
      ·rw[if_pos a,if_pos a];split
       ·simp only;rw[J4]
       ·rw[if_pos ⟨rfl,rfl⟩]
      ·rw[if_neg a,if_neg a,if_pos ⟨rfl,rfl⟩]
     ·rw[F1 (show(245:Int)<=b by omega),cond_false];have e:o9 (s.length-i) b (s.getD (i+1) 0).toNat (s.getD (i+2) 0).toNat (s.getD (i+3) 0).toNat=(65533,1):=by
       unfold o9;grind
      rw[e,if_pos ⟨rfl,rfl⟩]
theorem Bt3(s:By)(k:s.length<=1000000000):∀(r i n:Nat) (P:List Nat),i+r=s.length->r<n->P.length<=i->
  (Hn (s.drop i)=none->∃l,∀(R:Type) (k0 k1:LL->Option R),Cg LF n s i (C2 P) k0 k1=k0 l)/\
  (∀q,Hn (s.drop i)=some q->∀(R:Type) (k0 k1:LL->Option R),Cg LF n s i (C2 P) k0 k1=k1 (C2 (P++q))):=by
 intro r
 induction r using y9 with
 | _ r o=>
  intro i n P v w u;obtain⟨n,rfl⟩:∃m,n=m+1:=⟨n-1,by omega⟩
  by_cases j:i<s.length
  ·have d:s.drop i≠[]:=by rw[ne_eq,<-p4,j1];omega
   have c:=λ(R:Type) (k0 k1:LL->Option R)=>A38 (k0:=k0) (k1:=k1) s k n i P (by omega) j
   have x:=Lib.decodeL_width (s.drop i);have g:=Lib.decodeL_le (s.drop i) d;rw[j1] at g;rw[Br5 _ d];by_cases a:(j6 (s.drop i)).1=65533/\(j6 (s.drop i)).2=1
   ·rw[if_pos a];refine⟨λ_=>⟨C2 P,λR k0 k1=>?_⟩,λq b=>by cases b⟩;refine(c R k0 k1).trans ?_;rw[if_pos a]
   ·rw[if_neg a,List.drop_drop];obtain⟨w1,t⟩:=o (r-(j6 (s.drop i)).2) (by omega) (i+(j6 (s.drop i)).2) n (P++[(j6 (s.drop i)).1]) (by omega) (by omega) (by rw[p9,p5];omega);constructor
    ·intro h;cases b:Hn (s.drop (i+(j6 (s.drop i)).2)) with
     | some q=>rw[b] at h;cases h
     | none=>
      obtain⟨l,e⟩:=w1 b;refine⟨l,λR k0 k1=>?_⟩;refine(c R k0 k1).trans ?_;rw[if_neg a];exact e R k0 k1
    ·intro q h R k0 k1;cases b:Hn (s.drop (i+(j6 (s.drop i)).2)) with
     | none=>rw[b] at h;cases h
     | some p=>
      rw[b] at h;simp only[Option.map_some,v8] at h;subst h;refine(c R k0 k1).trans ?_;rw[if_neg a];refine(t p b R k0 k1).trans ?_;rw[v7];rfl
  ·have f:s.drop i=[]:=by rw[<-p4,j1];omega
   have e:∀(R:Type) (k0 k1:LL->Option R),Cg LF (n+1) s i (C2 P) k0 k1=k1 (C2 P):=λR k0 k1=>by
    rw[Cg];rw[A6];rfl
   rw[f,show Hn []=some [] from rfl];refine⟨λh=>(by cases h),λq b R k0 k1=>?_⟩;simp only[v8] at b;subst b;rw[List.append_nil];exact e R k0 k1
theorem Dh1(s:By)(d:A3 s.length=true):∃r H,Di0 LF s (λa=>rv (.tup [.fl 1,.s (.bool false)]) [.arr true 3 1 a,.arr true 3 1 []]) (λa=>rv (.tup [.fl 0,.s (.bool true)]) [.arr true 3 1 a])=rv r H/\
  r.stab [1,0] H = .tup [.s (.sl (Cu7 s).isEmpty (Cu7 s).isEmpty 1 (Zt (Cu7 s))),.s (.bool (Hn s).isSome)]:=by
 have f:=N5 d;obtain⟨w1,c⟩:=Bt3 s f s.length 0 LF [] (by omega) (by have:=E2;omega) (Nat.zero_le _);rw[o0] at w1 c;unfold Cu7;cases b:Hn s with
 | none=>
  obtain⟨l,e⟩:=w1 b;exact⟨_,_,e _ _ _,rfl⟩
 | some q=>
  refine⟨_,_,c q b _ _ _,?_⟩;cases q<;>rfl
theorem A34{R:Type}{a:Unit->Option R}{d:By->Bool->LL->Bool->Option R}(s:By)(z:Bool)(p:List Nat)(t:p.length<=1000000000):∀(r i n:Nat) (b:Bool),i+r=p.length->r<n->
  Y3 LF n s z (C2 p) b (i:Int) a d=if (p.drop i).any (λp=>j9 65 p&&j9 p 90) then a () else d s z (C2 p) (b||((p.drop i).any λp=>j9 128 p)):=by
 intro r
 induction r with
 | zero=>
  intro i n b h j;obtain⟨n,rfl⟩:∃m,n=m+1:=⟨n-1,by omega⟩
  rw[Y3];rw[D7,A6,j0 (by omega)];simp
 | succ r k=>
  intro i n b h j;obtain⟨n,rfl⟩:∃m,n=m+1:=⟨n-1,by omega⟩
  rw[Y3];have f:A1 ((i:Int)+1)=((i+1:Nat):Int):=by rw[A5];rfl
  have g:p.drop i=p.getD i 0::p.drop (i+1):=by
   rw[j4,o8 (by omega),w6,w8]
  rw[D7,A8,J1,k9,Qt (by omega),Zf _ _ (by omega),g,x7,x7,f];simp only[cond_true];generalize p.getD i 0=q;have go:∀c:Bool,Y3 LF n s z (C2 p) c ((i+1:Nat):Int) a d=_:=λc=>k (i+1) n c (by omega) (by omega)
  simp only[go];by_cases l:q<65
  ·rw[show ltI (q:Int) (65:Int)=true from A8,show j9 65 q=false by rw[j2,ne_eq,j5];omega];have e:j9 128 q=false:=by rw[j2,ne_eq,j5];omega
   rw[show ltI (q:Int) (128:Int)=true from A8,e];cases b<;>simp
  ·rw[show ltI (q:Int) (65:Int)=false from A6,show j9 65 q=true by rw[j5];omega];by_cases e:90<q
   ·rw[show ltI (90:Int) (q:Int)=true from A8,show j9 q 90=false by rw[j2,ne_eq,j5];omega];by_cases o:q<128
    ·rw[show ltI (q:Int) (128:Int)=true from A8,show j9 128 q=false by rw[j2,ne_eq,j5];omega];cases b<;>simp
    ·rw[show ltI (q:Int) (128:Int)=false from A6,show j9 128 q=true by rw[j5];omega];cases b<;>simp
   ·rw[show ltI (90:Int) (q:Int)=false from A6,show j9 q 90=true by rw[j5];omega];cases b<;>simp
theorem A35{R:Type}{a:Bool->Option R}(s:By)(b:A3 s.length=true):Bg6 LF s a=a (Dn s):=by
 have c:=E2;unfold Bg6 Dn;rw[b,cond_true];simp only[vl];by_cases h:(N4 s).2=0
 ·have e:(((N4 s).2:Int)!=(0:Int))=false:=by rw[h];rfl
  rw[e,cond_false,Ku,h];have g:=ZM s;refine j7 (A34 s _ (N4 s).1 (by omega) (N4 s).1.length 0 LF false (by omega) (by omega)) ?_;rw[o0];cases d:(N4 s).1.any (λp=>j9 65 p&&j9 p 90) with
  | true=>simp
  | false=>
   rw[if_neg (by simp),Jk,GY,GZ];simp only[cond_true,vl,aa1,o5];by_cases f:(Fc (N4 s).1).2=0;all_goals grind
 grind
theorem A17{R:Type}{g:Unit->Option R}{j:By->Option R}(s:By)(v:s.length<=1000000000):∀(r i n:Nat),i+r=s.length->r<n->
  N8 LF n s (i:Int) g j=if (s.drop i).all T8 then j s else g ():=by
 intro r
 induction r with
 | zero=>
  intro i n l c;obtain⟨n,rfl⟩:∃m,n=m+1:=⟨n-1,by omega⟩
  rw[N8];rw[A6,j0 (by omega)];rfl
 | succ r o=>
  intro i n l c;obtain⟨n,rfl⟩:∃m,n=m+1:=⟨n-1,by omega⟩
  rw[N8];have k:A1 ((i:Int)+1)=((i+1:Nat):Int):=by rw[A5];rfl
  rw[A8,J1,G8,I8 s i (by omega),k,aa2];simp only[cond_true];rw[o (i+1) n (by omega) (by omega)];generalize s.getD i 0=b;have f:=Oy b;have t:((b.toNat:Int)==45)=(b==45):=Y6 b 45 (by omega);have u:((b.toNat:Int)==95)=(b==95):=Y6 b 95 (by omega);rw[t,u];cases a:T8 b with
  | true=>
   rw[f] at a;simp only[x6];by_cases d:b=45
   ·subst d;simp (disch:=decide) [ltI]
   ·by_cases e:b=95
    ·subst e;simp (disch:=decide) [ltI]
    ·rcases a with a|a|a|a
     ·rw[show ltI (b.toNat:Int) 97=false from A6,show ltI (122:Int) b.toNat=false from A6];rfl
     ·rw[show ltI (b.toNat:Int) 97=true from A8,show ltI (b.toNat:Int) 48=false from A6,show ltI (57:Int) b.toNat=false from A6];rfl
     ·exact absurd a d
     ·exact absurd a e
  | false=>
   have c:¬((97<=b.toNat/\b.toNat<=122)\/(48<=b.toNat/\b.toNat<=57)\/b=45\/b=95):=λh=>by rw[f.2 h] at a;cases a
   have p:(b==45)=false:=by simpa using λh=>c (.inr (.inr (.inl h)))
   have q:(b==95)=false:=by simpa using λh=>c (.inr (.inr (.inr h)))
   rw[p,q];simp only[o5,cond_true,cond_false,Bool.false_and,Bool.false_eq_true,if_false];by_cases d:b.toNat<48
   ·rw[show ltI (b.toNat:Int) 97=true from A8,show ltI (b.toNat:Int) 48=true from A8];rfl
   ·by_cases e:b.toNat<97
    ·rw[show ltI (b.toNat:Int) 97=true from A8,show ltI (b.toNat:Int) 48=false from A6,show ltI (57:Int) b.toNat=true from A8];rfl
    ·rw[show ltI (b.toNat:Int) 97=false from A6,show ltI (122:Int) b.toNat=true from A8,show ltI (b.toNat:Int) 48=false from A6,show ltI (57:Int) b.toNat=true from A8];rfl
theorem Ce3(s:By)(h:4<=s.length):(s.take 4==([120,110,45,45]:List UInt8))=xnB.isPrefixOf s:=by
 match s,h with
 | a::b::c::d::t,_=>
  simp only[List.take_succ_cons,List.take_zero,xnB,List.isPrefixOf,x4];rw[show((a::b::c::d::[])==([120,110,45,45]:List UInt8))=(a==120&&(b==110&&(c==45&&(d==45&&true)))) from rfl,x4];rw[Bool.eq_iff_iff];simp only[o6,beq_iff_eq];exact⟨λh=>⟨h.1.symm,h.2.1.symm,h.2.2.1.symm,h.2.2.2.symm⟩,λh=>⟨h.1.symm,h.2.1.symm,h.2.2.1.symm,h.2.2.2.symm⟩⟩
theorem A18{R:Type}{c:Bool->Option R}(s:By)(e:A3 s.length=true):Bg3 LF s c=c (N9 s):=by
 have k:=N5 e;have i:=E2;unfold Bg3 N9;by_cases a:s=[]
 ·grind
 ·have r:0<s.length:=List.length_pos_iff.2 a;have j:s.isEmpty=false:=by simpa using a
  have b:(s==([]:List UInt8))=false:=by simpa using a
  rw[b,cond_false,j];by_cases n:63<s.length
  ·rw[A8,show j9 s.length 63=false by rw[j2,ne_eq,j5];omega];rfl
  ·rw[A6,cond_false,show j9 s.length 63=true by rw[j5];omega,J1];have m:(bAt s 0==(45:Int))=(s.getD 0 0==45):=by rw[Kb];exact Y6 _ 45 (by omega)
   have d:A1 ((s.length:Int)-1)=((s.length-1:Nat):Int):=by rw[A5];omega
   rw[m,d];simp only[cond_true,vl];rw[J1,G8,show((((s.getD (s.length-1) 0).toNat:Nat):Int)==45)=(s.getD (s.length-1) 0==45) from Y6 _ 45 (by omega)];cases f:(s.getD 0 0==45) with
   | true=>
    grind
   | false=>
    rw[show(s.getD 0 0 !=45)=true by unfold bne;rw[f];rfl];simp only[cond_true,cond_false];cases g:(s.getD (s.length-1) 0==45) with
    | true=>
     grind
    | false=>
     rw[show(s.getD (s.length-1) 0 !=45)=true by unfold bne;rw[g];rfl];simp only[cond_false];refine j7 (A17 s k s.length 0 LF (by omega) (by omega)) ?_;rw[o0];cases o:s.all T8 with
     | false=>simp
     | true=>
      rw[if_pos rfl];simp only[o5,x6,x4];by_cases p:s.length<4
      ·rw[A8];have:xnB.isPrefixOf s=false:=by
        rw[j2,ne_eq,List.isPrefixOf_iff_prefix];intro h;have:=h.length_le;simp only[xnB,List.length_cons,List.length_nil] at this;omega
       grind
      ·rw[A6,cond_false,Q3,cond_true,X6];have l:(aa3 (x3 4) s==([120,110,45,45]:List UInt8))=xnB.isPrefixOf s:=Ce3 s (by omega);rw[l];cases q:xnB.isPrefixOf s with
       | false=>rfl
       | true=>
        rw[Q3,Z2];simp only[x5,cond_false,cond_true];rw[E5 (by rw[j1];omega)];rfl
set_option maxRecDepth 100000
section
variable {Q R : Type} (L : Nat) (W : F4) (Y : Yh Q) (s : Q) (k : Out -> St Q -> Option R)
noncomputable def Af0{R:Type}(L n:Nat)(b:By)(a:Int)(c:LL)(d:LL->Option R)(j:LL->Option R):Option R:=match n with|0=>none|n+1=>cond (ltI a (b.length:Int)) (cond (inR a b.length) (cond ((bAt b a)!=37) (cond (inR a b.length) (cond (F8 (c.length+1)) (Af0 L n b (A1 (a+1)) (c++[[(SV.int .u8 (bAt b a))]]) d j) none) none) (vl (A1 ((b.length:Int)-a)) λl=>cond (ltI l 3) (d c) (cond (inR (A1 (a+1)) b.length) (vl (bAt b (A1 (a+1))) λf=>cond (inR f 256) (cond (ltI (Om (u8n f)) (0:Int)) (d c) (cond (inR (A1 (a+2)) b.length) (vl (bAt b (A1 (a+2))) λg=>cond (inR g 256) (cond (ltI (Om (u8n g)) (0:Int)) (d c) (cond (inR (A1 (a+1)) b.length) (vl (bAt b (A1 (a+1))) λh=>cond (inR h 256) (vl (A1 ((16:Int)*(Om (u8n h)))) λm=>cond (inR (A1 (a+2)) b.length) (vl (bAt b (A1 (a+2))) λi=>cond (inR i 256) (vl (A1 (m+(Om (u8n i)))) λo=>cond (F8 (c.length+1)) (vl (A1 ((A1 (a+2))+1)) λe=>Af0 L n b e (c++[[(SV.int .u8 (wu8 o))]]) d j) none) none) none) none) none)) none) none)) none) none))) none) (j c)
noncomputable abbrev B24:Code:=E0 aa7
noncomputable def Sr(L:Nat):Cfg:=C8 L [38] (A4 [(5,[2,0,0])]) [(28,EW),(30,FC),(55,Ba7)] (A4 [(9,[2]),(6,[3,0]),(8,[2]),(7,[3,0,24]),(5,[3,0,16]),(4,[3,0]),(3,[3]),(2,[2]),(1,[0,14]),(0,[0])]) [28,55] (A4 [(0,[]),(1,[3,0])]) (some [2]) [] [] []
noncomputable def Mo{R:Type}(L n:Nat)(b:LL)(a:Int)(c:Unit->Option R)(d:Unit->Option R):Option R:=match n with|0=>none|n+1=>cond (ltI a (b.length:Int)) (cond (inR a b.length) (cond (okE Ia b (x3 a) 0) (cond (A3 (p6 (gX b (x3 a) 0))) (cond (not (N9 (gX b (x3 a) 0))) (c ()) (Mo L n b (A1 (a+1)) c d)) none) none) none) (d ())
theorem A16(n p0 i1):E7 0 ((Sr L).keep 5) (bd (Sr L) W Y (cd [1,1,1,0,1,0,0] B24)) n ⟨gp [(3,.s (.sl false false 1 p0)),(0,pI i1)] 25,[],s⟩ k =
 Mo L n p0 i1 (λ_=>k .ret ⟨gp [(2,pB false)] 27,[],s⟩) (λ_=>k (.exit 0) ⟨gp [] 30,[],s⟩):=by
 induction n generalizing p0 i1 with
 | zero=>rfl
 | succ n a=>rw[Mo];simp only[<-a];kernel_rfl
noncomputable def Cv7{R:Type}(L:Nat)(a:By)(b:Bool->Option R):Option R:=cond (a==[]) (b false) (cond (ltI 253 (a.length:Int)) (b false) (cond (A3 a.length) (cond (L2 a) (b false) (cond (A3 a.length) (vl (C1 (pcs (u8n (46:Int)) a)) λc=>Mo L L c 0 (λ_=>b false) (λ_=>b true)) none)) none))
theorem Cv8(d:Nat)(name0):evC (Sr L) (d+1) Q Y 38 [pS name0] [] s=Cv7 L name0 (λb=>some (pB b,[],s)):=by refine(evE (fn:=aa7) (by kernel_rfl)).trans ?_;generalize evC (Sr L) d=W;unfold Cv7;exact(j7 (by kernel_rfl) (A0 rfl (A0 rfl (A0 (A0 rfl (A0 (A7 λa=>((A16 L W Y s (F9 0 (G6 (Sr L) W Y (cd [1,1,1,1] B24) (I1 (Sr L) aa7))) L a 0).trans (by kernel_rfl))) rfl)) rfl))))
noncomputable def SK(L:Nat):Cfg:=C8 L [18] (A4 []) [(38,B02)] (A4 [(9,[2]),(4,[2]),(6,[2]),(8,[2]),(7,[1,32]),(5,[1,1,2,16]),(3,[1,1,2,0]),(2,[1,1,2]),(1,[1,1]),(0,[1])]) [38] (A4 [(0,[])]) (some [2]) [] [] []
noncomputable def Cb9{R:Type}(L:Nat)(c:Int)(b:By)(d e f g h i j l a:Int)(m:Bool->Int->By->Int->Int->Int->Int->Int->Int->Int->Int->Int->LL->Option R):Option R:=cond (c==1) (cond (A3 b.length) (cond (Af b) (cond (d==0) (m ((e==0)&&((f==0)&&((g==0)&&((h==0)&&((i==0)&&((j==0)&&((l==0)&&((a==0)&&true)))))))) c b d e f g h i j l a (j8 8 [(SV.int .u16 (0:Int))])) (m false c b d e f g h i j l a (j8 8 [(SV.int .u16 (0:Int))]))) (m false c b d e f g h i j l a (j8 8 [(SV.int .u16 (0:Int))]))) none) (cond (c==2) (cond (b==[]) (m ((e==0)&&((f==0)&&((g==0)&&((h==0)&&((i==0)&&((j==0)&&((l==0)&&((a==0)&&true)))))))) c b d e f g h i j l a (j8 8 [(SV.int .u16 (0:Int))])) (m false c b d e f g h i j l a (j8 8 [(SV.int .u16 (0:Int))]))) (cond (c==3) (cond (b==[]) (m (d==0) c b d e f g h i j l a (j8 8 [(SV.int .u16 (0:Int))])) (m false c b d e f g h i j l a (j8 8 [(SV.int .u16 (0:Int))]))) (m false c b d e f g h i j l a (j8 8 [(SV.int .u16 (0:Int))]))))
theorem Cc0(d:Nat)(h0 h1 h2 h3 h4 h5 h6 h7 h8 h9 h10):evC (SK L) (d+1) Q Y 18 [.agg [pI h0,pS h1,p32 h2,p16 h3,p16 h4,p16 h5,p16 h6,p16 h7,p16 h8,p16 h9,p16 h10]] [] s=Cb9 L h0 h1 h2 h3 h4 h5 h6 h7 h8 h9 h10 (λn f o g h i j l e m b c a=>some (pB n,[.box [pI f,pS o,p32 g,p16 h,p16 i,p16 j,p16 l,p16 e,p16 m,p16 b,p16 c],.arr false 27 1 a],s)):=by refine(evE (fn:=Tryz.f18) (by kernel_rfl)).trans ?_;generalize evC (SK L) d=W;unfold Cb9;kernel_rfl
noncomputable def SJ(L:Nat):Cfg:=C8 L [14] (A4 []) [(18,QH),(32,B04),(33,B05)] (A4 [(8,[2]),(5,[2]),(7,[2]),(6,[1,10]),(4,[1,5,0]),(3,[1,5]),(2,[2]),(1,[1,3]),(0,[1])]) [18,32,33] (A4 [(0,[1])]) (some [2]) [] [] []
noncomputable def Cb6{R:Type}(L:Nat)(j:Int)(l:By)(b c d e f g h i a:Int)(o:By->Int->By->Int->Int->Int->Int->Int->Int->Int->Int->Int->Option R):Option R:=cond (A3 l.length) (cond (ltN b 4294967296) (cond (ok8 c d e f g h i a) (cond (not (N2 (mkH j l b (n8 c d e f g h i a)))) (o ([]:List UInt8) j l b c d e f g h i a) (cond (j==1) (o l j l b c d e f g h i a) (cond (j==2) (cond (ltN b 4294967296) (o (Hx (x3 b)) j l b c d e f g h i a) none) (cond (ok8 c d e f g h i a) (vl (Nl (n8 c d e f g h i a)) λm=>cond (J7 1 m.length) (vl (([91]:List UInt8)++m) λn=>cond (J7 n.length 1) (vl (n++[93]) λp=>o p j l b c d e f g h i a) none) none) none)))) none) none) none
theorem Cb7(d:Nat)(h0 h1 h2 h3 h4 h5 h6 h7 h8 h9 h10):evC (SJ L) (d+1) Q Y 14 [.agg [pI h0,pS h1,p32 h2,p16 h3,p16 h4,p16 h5,p16 h6,p16 h7,p16 h8,p16 h9,p16 h10]] [] s=Cb6 L h0 h1 h2 h3 h4 h5 h6 h7 h8 h9 h10 (λm e n f g h i j c l a b=>some (pS m,[.box [pI e,pS n,p32 f,p16 g,p16 h,p16 i,p16 j,p16 c,p16 l,p16 a,p16 b]],s)):=by refine(evE (fn:=Tryz.f14) (by kernel_rfl)).trans ?_;generalize evC (SJ L) d=W;unfold Cb6;kernel_rfl
end
theorem Bs3{R:Type}{a b:Unit->Option R}(l:List By)(k:l.length<=1000000001)(h:∀x∈l,x.length<=1000000000):∀(r i n:Nat),i+r=l.length->r<n->
  Mo LF n (C1 l) (i:Int) a b=if (l.drop i).all N9 then b () else a ():=by
 intro r
 induction r with
 | zero=>
  intro i n e f;obtain⟨n,rfl⟩:∃m,n=m+1:=⟨n-1,by omega⟩
  rw[Mo];rw[C4,A6,j0 (by omega)];rfl
 | succ r j=>
  intro i n e f;obtain⟨n,rfl⟩:∃m,n=m+1:=⟨n-1,by omega⟩
  rw[Mo];have c:A1 ((i:Int)+1)=((i+1:Nat):Int):=by rw[A5];rfl
  have d:l.drop i=l.getD i []::l.drop (i+1):=by
   rw[j4,o8 (by omega),w6,w8]
  have g:(l.getD i []).length<=1000000000:=h _ (by
   rw[j4,o8 (by omega),w6];exact List.getElem_mem _)
  rw[C4,A8,J1,k9,R1 (by omega),W4,E5 g,d,aa2,c];simp only[cond_true];rw[j (i+1) n (by omega) (by omega)];cases N9 (l.getD i []) with
  | true=>rw[x6];rfl
  | false=>rfl
theorem Bs4{R:Type}{c:Bool->Option R}(s:By)(b:A3 s.length=true):Cv7 LF s c=c (Af s):=by
 have k:=N5 b;have d:=E2;unfold Cv7;by_cases a:s=[]
 ·subst a;rfl
 ·have f:(s==([]:By))=false:=by simpa using a
  rw[f,cond_false];unfold Af;by_cases i:253<s.length
  ·rw[A8,show j9 s.length 253=false by rw[j2,ne_eq,j5];omega];rfl
  ·rw[A6,cond_false,b,cond_true,show j9 s.length 253=true by rw[j5];omega];cases j:L2 s with
   | true=>rfl
   | false=>
    rw[cond_false,cond_true];have g:=Iu 46 s;have e:=Gz 46 s;refine j7 (Bs3 (pcs 46 s) (by omega) (λx h=>by have:=(Fj h).2;omega) (pcs 46 s).length 0 LF (by omega) (by omega)) ?_;grind
theorem Cc1(j:Int)(i:By)(v4 a b c d e f g h:Int)(n:A3 i.length=true)(o:ltN v4 4294967296=true)(p:ok8 a b c d e f g h=true) :
  ∃r H,Cb9 LF j i v4 a b c d e f g h (λz q A t u v w x n8 y l m k=>rv (.s (.bool z)) [.box (CE q A t u v w x n8 y l m),.arr false 27 1 k])=rv r H/\
   r.stab [] H = .s (.bool (N2 (mkH j i v4 (n8 a b c d e f g h)))):=Bd5 j i v4 a b c d e f g h n o p
theorem Cb8(j:Int)(i:By)(v4 a b c d e f g h:Int)(m:A3 i.length=true)(n:ltN v4 4294967296=true)(o:ok8 a b c d e f g h=true) :
  ∃r H,Cb6 LF j i v4 a b c d e f g h (λy p z q t u v w n8 x k l=>rv (.s (.str y)) [.box (CE p z q t u v w n8 x k l)])=rv r H/\
   r.stab [] H = .s (.str (Ai (mkH j i v4 (n8 a b c d e f g h)))):=Bd3 j i v4 a b c d e f g h m n o
section
theorem Ak7:C0 c9 GX 89 EY:=xf [] (GH LF) Xz rfl trivial rfl (by kernel_rfl) follows λargs=>by
 unfold Xz;split
 ·rename_i n;exact⟨rfl,rfl,rfl,_,_,(Bs9 LF noY () 0 n).trans (Ag1 n ),rfl⟩
 ·trivial
theorem Ak6:C0 c9 GX 92 EP:=xf [] (X2 LF) Xx rfl trivial rfl (by kernel_rfl) follows λargs=>by
 unfold Xx;split
 ·rename_i d c f;exact λa=>λb=>λe=>⟨rfl,rfl,rfl,_,_,(Br8 LF noY () 0 d c f).trans (Ae6 d c f a b e),rfl⟩
 ·trivial
theorem Cj2:C0 c9 GX 90 Am2:=xf [] (Ap7 LF) QK rfl trivial rfl (by kernel_rfl) follows λargs=>by
 unfold QK;split
 ·rename_i k b;exact λa=>λc=>⟨rfl,rfl,rfl,_,_,(Cw3 LF noY () 0 k b).trans (Bt5 k b a c),rfl⟩
 ·trivial
theorem C07:C0 c9 GX 91 Ba4:=xf [] (SH LF) ER rfl trivial rfl (by kernel_rfl) follows λargs=>by
 unfold ER;split
 ·rename_i d;exact λa=>⟨rfl,rfl,rfl,_,_,(Ca7 LF noY () 0 d).trans (Az8 d a),rfl⟩
 ·trivial
theorem Dc3:C0 c9 GX 151 B06:=xf [] (Jo LF) QN rfl trivial rfl (by kernel_rfl) follows λargs=>by
 unfold QN;split
 ·rename_i b;exact λa=>⟨rfl,rfl,rfl,_,_,(Cx0 LF noY () 0 b).trans (Bt9 b a),rfl⟩
 ·trivial
theorem Db8:C0 c9 GX 54 B01:=xf [0,0] (N0 LF) QG rfl ⟨Ak7,Cj2,C07,Ak6,trivial⟩ rfl (by kernel_rfl) follows λargs=>by
 unfold QG;split
 ·rename_i b a p;exact λd=>(let⟨g,e,c,f⟩:=Cv6 b a p d;⟨rfl,rfl,rfl,g,e,(Cv4 LF noY () 0 b a p).trans c,f⟩)
 ·trivial
theorem C11:C0 c9 GX 124 Ba8:=xf [1,0] (K3 LF) EX rfl ⟨Dc3,Cj2,Ak6,Ak7,trivial⟩ rfl (by kernel_rfl) follows λargs=>by
 unfold EX;split
 ·rename_i s;exact λb=>(let⟨e,c,a,d⟩:=Cc7 s b;⟨rfl,rfl,rfl,e,c,(Cc6 LF noY () 0 s).trans a,d⟩)
 ·trivial
theorem C12:C0 c9 GX 93 Ba9:=xf [] (Lw LF) EZ rfl ⟨C11,Db8,trivial⟩ rfl (by kernel_rfl) follows λargs=>by
 unfold EZ;split
 ·rename_i s;exact λa=>⟨rfl,rfl,rfl,_,_,(Cc8 LF noY () 0 s).trans (A35 s a),rfl⟩
 ·trivial
theorem C10:C0 c9 GX 55 Ba7:=xf [] (Lv LF) EV rfl ⟨C12,trivial⟩ rfl (by kernel_rfl) follows λargs=>by
 unfold EV;split
 ·rename_i s;exact λa=>⟨rfl,rfl,rfl,_,_,(Cc2 LF noY () 0 s).trans (A18 s a),rfl⟩
 ·trivial
theorem Db9:C0 c9 GX 38 B02:=xf [] (Sr LF) QI rfl ⟨A87,Ak8,C10,trivial⟩ rfl (by kernel_rfl) follows λargs=>by
 unfold QI;split
 ·rename_i s;exact λa=>⟨rfl,rfl,rfl,_,_,(Cv8 LF noY () 0 s).trans (Bs4 s a),rfl⟩
 ·trivial
theorem Bi2:C0 c9 GX 18 QH:=xf [] (SK LF) EU rfl ⟨Db9,trivial⟩ rfl (by kernel_rfl) follows λargs=>by
 unfold EU;split
 ·rename_i i j v4 a b c d e f g h;exact λl=>λm=>λn=>(let⟨q,o,k,p⟩:=Cc1 i j v4 a b c d e f g h l m n;⟨rfl,rfl,rfl,q,o,(Cc0 LF noY () 0 i j v4 a b c d e f g h).trans k,p⟩)
 ·trivial
theorem C09:C0 c9 GX 14 Ba6:=xf [] (SJ LF) ET rfl ⟨Bi2,Dc1,Dc2,trivial⟩ rfl (by kernel_rfl) follows λargs=>by
 unfold ET;split
 ·rename_i i j v4 a b c d e f g h;exact λl=>λm=>λn=>(let⟨q,o,k,p⟩:=Cb8 i j v4 a b c d e f g h l m n;⟨rfl,rfl,rfl,q,o,(Cb7 LF noY () 0 i j v4 a b c d e f g h).trans k,p⟩)
 ·trivial
end
section
theorem C14:C0 c9 GX 35 Bb0:=xf [] (Lx LF) FJ rfl trivial rfl (by kernel_rfl) follows λargs=>by
 unfold FJ;split
 ·rename_i b a l s;exact λc=>λd=>⟨rfl,rfl,rfl,_,_,(Cd7 LF noY () 0 b a l s).trans (A57 b a l s c d),rfl⟩
 ·trivial
theorem Bi4:C0 c9 GX 16 CQ:=xf [] (SL LF) FH rfl ⟨C14,trivial⟩ rfl (by kernel_rfl) follows λargs=>by
 unfold FH;split
 ·rename_i b a l s;exact λc=>λd=>⟨rfl,rfl,rfl,_,_,(Cd5 LF noY () 0 b a l s).trans (A52 b a l s c d),rfl⟩
 ·trivial
theorem Ch8:C0 c9 GX 8 DQ:=xf [] (Ao3 LF) OO rfl ⟨A84,A83,Bi4,trivial⟩ rfl (by kernel_rfl) follows λargs=>by
 unfold OO;split
 ·rename_i p o up k b a l m n v4 c d e f g h i j;exact λr=>λt=>λu=>λv=>λw=>(let⟨z,x,q,y⟩:=Cm7 p o up k b a l m n v4 c d e f g h i j r t u v w;⟨rfl,rfl,rfl,z,x,(Cm6 LF noY () 0 p o up k b a l m n v4 c d e f g h i j).trans q,y⟩)
 ·trivial
theorem C06:C0 c9 GX 9 QD:=xf [] (Lt LF) EQ rfl ⟨Bi2,C09,trivial⟩ rfl (by kernel_rfl) follows λargs=>by
 unfold EQ;split
 ·rename_i p o up k b a l m n v4 c d e f g h i j;exact λr=>λt=>λu=>λv=>λw=>(let⟨z,x,q,y⟩:=Ca6 p o up k b a l m n v4 c d e f g h i j r t u v w;⟨rfl,rfl,rfl,z,x,(Ca5 LF noY () 0 p o up k b a l m n v4 c d e f g h i j).trans q,y⟩)
 ·trivial
end
section
theorem Db1:C0 c9 GX 148 Bz5:=xf [] (Ap2 LF) PI rfl trivial rfl (by kernel_rfl) follows λargs=>by
 unfold PI;split
 ·rename_i c;exact⟨rfl,rfl,rfl,_,_,(Cr0 LF noY () 0 c).trans (Bn7 c ),rfl⟩
 ·trivial
theorem Cz8:C0 c9 GX 115 A97:=xf [] (RV LF) EB rfl ⟨Db1,trivial⟩ rfl (by kernel_rfl) follows λargs=>by
 unfold EB;split
 ·rename_i c;exact⟨rfl,rfl,rfl,_,_,(B72 LF noY () 0 c).trans (Au1 c ),rfl⟩
 ·trivial
theorem C17:C0 c9 GX 72 RC:=xf [1] (W3 LF) FQ rfl ⟨Cz8,trivial⟩ rfl (by kernel_rfl) follows λargs=>by
 unfold FQ;split
 ·rename_i s;exact λb=>(let⟨e,c,a,d⟩:=Ch3 s b;⟨rfl,rfl,rfl,e,c,(Ch1 LF noY () 0 s).trans a,d⟩)
 ·trivial
theorem Da4:C0 c9 GX 40 Al1:=by
 refine C0.fix (pf:=ON) _ (Z6 (C₀:=Ao2 LF) (K8.ok (l:=[]) rfl trivial) (G5 rfl (by kernel_rfl)) follows ?_);intro args ret a h;unfold ON at h;split at h
 ·rename_i t;obtain⟨rfl,rfl⟩:=I9 h;have e:=(Cm3 LF noY () 0 t).trans (Bj7 t );exact⟨rfl,1,_,[],e,rfl,rfl⟩
 ·cases h
end
theorem C20:XS c9 GX 71 CN:=by
 refine BT (C₀:=T4 LF) (Na (lx:=[(59,FI),(72,RC),(66,EG)]) (ly:=[]) (ls:=[(126,Py)]) rfl rfl rfl ⟨Cj9,C17,A85,trivial⟩ trivial ⟨Bi8,trivial⟩) (G5 rfl (by kernel_rfl)) follows ?_;intro args H L h e a s d c;unfold CN at h;split at h
 ·rename_i t;simp only[v8,Prod.mk.injEq] at h;obtain⟨b,rfl⟩:=h;exact⟨1,_,(B34 LF a 0 t s).trans (Aq4 a t s d b c _)⟩
 ·cases h
theorem Ch7:C0 c9 GX 20 DP:=by
 refine C0.fix (pf:=Xo) _ (I4 [0,0] (C₀:=O6 LF) (Na (lx:=[(40,Al1),(16,CQ)]) (ly:=[]) (ls:=[(71,CN)]) rfl rfl rfl ⟨Da4,Bi4,trivial⟩ trivial ⟨C20,trivial⟩) (G5 rfl (by kernel_rfl)) follows ?_);intro args ret j h;unfold Xo at h;split at h
 ·rename_i b a l;obtain⟨d,h⟩:=C9 h;obtain⟨e,h⟩:=C9 h;obtain⟨rfl,rfl⟩:=I9 h;obtain⟨i,f,c,g⟩:=Bk3 b a l d e;exact⟨rfl,rfl,rfl,1,i,f,(Bk2 LF noY () 0 b a l).trans c,g⟩
 ·cases h
theorem Ch6:C0 c9 GX 11 DO:=by
 refine C0.fix (pf:=Xn) _ (KV (C₀:=J3 LF) (Dg8 (lx:=[(19,FL),(20,DP),(21,Pz),(22,EM),(17,DW)]) (ly:=[(24,Ll)]) (ls:=[]) (lz:=[(23,Ub)]) rfl rfl rfl rfl ⟨Ck1,Ch7,DN,Ci8,A83,trivial⟩ ⟨A91,trivial⟩ trivial ⟨Cl3,trivial⟩) (G5 rfl (by kernel_rfl)) follows ?_);intro args ret o h;unfold Xn at h;split at h
 ·rename_i b a l;obtain⟨d,h⟩:=C9 h;obtain⟨e,h⟩:=C9 h;obtain⟨f,h⟩:=C9 h;obtain⟨rfl,rfl⟩:=I9 h;obtain⟨n,g,i,c,j,k,m⟩:=Bj6 b a l d e f;exact⟨rfl,1,n,g,i,(Bj5 LF noY () 0 b a l).trans c,j,k,m⟩
 ·cases h
section
variable {σ R : Type} (L : Nat) (Q : F4) (Y : Yh σ) (s : σ) (k : Out -> St σ -> Option R)
noncomputable def Qc(L:Nat):Cfg:=C8 L [7] (A4 []) [(11,DO),(8,DQ)]
 (A4 [(3,[0]),(2,[1,0,0,0]),(1,[1,0]),(0,[])]) [8] (A4 []) (some [0]) [] [] [] (nt:=[(24,4,9,1)]) (j:=[22])
noncomputable def RJ{R:Type}(L:Nat)(c:Bool->(List Blk)->Option R):Option R:=
 cond (x8 [[(SV.str ([104,116,116,112,115,58,47,47,97,47]:List UInt8)),(SV.sl true true 0 [])],[(SV.str ([104,116,116,112,58,47,47,98,47]:List UInt8)),(SV.sl true true 0 [])]] UF)
 (cond (x8 [[(SV.str ([104,116,116,112,115,58,47,47,97,47]:List UInt8)),(SV.sl true true 0 [])],[(SV.str ([104,116,116,112,58,47,47,98,47]:List UInt8)),(SV.sl true true 0 [])]] Ah8)
  (vl (R3 (p7 U4 [[(SV.str ([104,116,116,112,115,58,47,47,97,47]:List UInt8)),(SV.sl true true 0 [])],[(SV.str ([104,116,116,112,58,47,47,98,47]:List UInt8)),(SV.sl true true 0 [])]])) λb=>
  cond ((plE (C1 (cH b)))&&true)
   (cond (x8 [[(SV.str ([104,116,116,112,58,47,47,97,47]:List UInt8)),(SV.sl false true 1 [[(SV.str ([117,112,103,114,97,100,101,45,105,110,115,101,99,117,114,101,45,114,101,113,117,101,115,116,115]:List UInt8))]])],[(SV.str ([97,98,111,117,116,58,98,108,97,110,107]:List UInt8)),(SV.sl true true 0 [])]] UF)
   (cond (x8 [[(SV.str ([104,116,116,112,58,47,47,97,47]:List UInt8)),(SV.sl false true 1 [[(SV.str ([117,112,103,114,97,100,101,45,105,110,115,101,99,117,114,101,45,114,101,113,117,101,115,116,115]:List UInt8))]])],[(SV.str ([97,98,111,117,116,58,98,108,97,110,107]:List UInt8)),(SV.sl true true 0 [])]] Ah8)
    (vl (R3 (p7 U4 [[(SV.str ([104,116,116,112,58,47,47,97,47]:List UInt8)),(SV.sl false true 1 [[(SV.str ([117,112,103,114,97,100,101,45,105,110,115,101,99,117,114,101,45,114,101,113,117,101,115,116,115]:List UInt8))]])],[(SV.str ([97,98,111,117,116,58,98,108,97,110,107]:List UInt8)),(SV.sl true true 0 [])]])) λa=>
    cond ((plE (C1 (cH a)))&&true)
     (cond ((cE b)==0)
     (cond (not (cS b))
      (cond (cP b)
      (cond ((cE a)==0)
       (cond (cU a)
       (cond ((↑(p6 (C1 (cH a))):Int)==1)
        (cond (inR 0 (p6 (C1 (cH a))))
        (cond (okE Ia (C1 (cH a)) 0 0)
         (cond ((gX (C1 (cH a)) 0 0)==[97])
         (cond (x8 (C1 (cH a)) isS)
          (cond (A3 (p6 (C1 (cH a))))
          (cond (ltN 0 4294967296)
           (cond (ok8 (0:Int) (0:Int) (0:Int) (0:Int) (0:Int) (0:Int) (0:Int) (0:Int))
           (c (II (p7 elS (C1 (cH a))) (mkH (1:Int) ([97]:List UInt8) (0:Int) (n8 (0:Int) (0:Int) (0:Int) (0:Int) (0:Int) (0:Int) (0:Int) (0:Int)))) [(Blk.arr false 35 2 [[(SV.str ([104,116,116,112,115,58,47,47,97,47]:List UInt8)),(SV.sl true true 0 [])],[(SV.str ([104,116,116,112,58,47,47,98,47]:List UInt8)),(SV.sl true true 0 [])]]),(Blk.arr true 9 1 (C1 (cH b))),(Blk.arr true 9 1 []),(Blk.box [(PV.s (SV.bool (cS b))),(PV.s (SV.bool (cP b))),(PV.s (SV.bool (cU b))),(PV.s (SV.bool (cB b))),(PV.fl 1)]),(Blk.arr false 35 2 [[(SV.str ([104,116,116,112,58,47,47,97,47]:List UInt8)),(SV.sl false true 1 [[(SV.str ([117,112,103,114,97,100,101,45,105,110,115,101,99,117,114,101,45,114,101,113,117,101,115,116,115]:List UInt8))]])],[(SV.str ([97,98,111,117,116,58,98,108,97,110,107]:List UInt8)),(SV.sl true true 0 [])]]),(Blk.arr true 9 1 (C1 (cH a))),(Blk.arr true 9 1 []),(Blk.box [(PV.s (SV.bool (cS a))),(PV.s (SV.bool (cP a))),(PV.s (SV.bool (cU a))),(PV.s (SV.bool (cB a))),(PV.fl 5)])])
           none)
           none)
          none)
          none)
         (c false [(Blk.arr false 35 2 [[(SV.str ([104,116,116,112,115,58,47,47,97,47]:List UInt8)),(SV.sl true true 0 [])],[(SV.str ([104,116,116,112,58,47,47,98,47]:List UInt8)),(SV.sl true true 0 [])]]),(Blk.arr true 9 1 (C1 (cH b))),(Blk.arr true 9 1 []),(Blk.box [(PV.s (SV.bool (cS b))),(PV.s (SV.bool (cP b))),(PV.s (SV.bool (cU b))),(PV.s (SV.bool (cB b))),(PV.fl 1)]),(Blk.arr false 35 2 [[(SV.str ([104,116,116,112,58,47,47,97,47]:List UInt8)),(SV.sl false true 1 [[(SV.str ([117,112,103,114,97,100,101,45,105,110,115,101,99,117,114,101,45,114,101,113,117,101,115,116,115]:List UInt8))]])],[(SV.str ([97,98,111,117,116,58,98,108,97,110,107]:List UInt8)),(SV.sl true true 0 [])]]),(Blk.arr true 9 1 (C1 (cH a))),(Blk.arr true 9 1 []),(Blk.box [(PV.s (SV.bool (cS a))),(PV.s (SV.bool (cP a))),(PV.s (SV.bool (cU a))),(PV.s (SV.bool (cB a))),(PV.fl 5)])]))
         none)
        none)
        (c false [(Blk.arr false 35 2 [[(SV.str ([104,116,116,112,115,58,47,47,97,47]:List UInt8)),(SV.sl true true 0 [])],[(SV.str ([104,116,116,112,58,47,47,98,47]:List UInt8)),(SV.sl true true 0 [])]]),(Blk.arr true 9 1 (C1 (cH b))),(Blk.arr true 9 1 []),(Blk.box [(PV.s (SV.bool (cS b))),(PV.s (SV.bool (cP b))),(PV.s (SV.bool (cU b))),(PV.s (SV.bool (cB b))),(PV.fl 1)]),(Blk.arr false 35 2 [[(SV.str ([104,116,116,112,58,47,47,97,47]:List UInt8)),(SV.sl false true 1 [[(SV.str ([117,112,103,114,97,100,101,45,105,110,115,101,99,117,114,101,45,114,101,113,117,101,115,116,115]:List UInt8))]])],[(SV.str ([97,98,111,117,116,58,98,108,97,110,107]:List UInt8)),(SV.sl true true 0 [])]]),(Blk.arr true 9 1 (C1 (cH a))),(Blk.arr true 9 1 []),(Blk.box [(PV.s (SV.bool (cS a))),(PV.s (SV.bool (cP a))),(PV.s (SV.bool (cU a))),(PV.s (SV.bool (cB a))),(PV.fl 5)])]))
       (c false [(Blk.arr false 35 2 [[(SV.str ([104,116,116,112,115,58,47,47,97,47]:List UInt8)),(SV.sl true true 0 [])],[(SV.str ([104,116,116,112,58,47,47,98,47]:List UInt8)),(SV.sl true true 0 [])]]),(Blk.arr true 9 1 (C1 (cH b))),(Blk.arr true 9 1 []),(Blk.box [(PV.s (SV.bool (cS b))),(PV.s (SV.bool (cP b))),(PV.s (SV.bool (cU b))),(PV.s (SV.bool (cB b))),(PV.fl 1)]),(Blk.arr false 35 2 [[(SV.str ([104,116,116,112,58,47,47,97,47]:List UInt8)),(SV.sl false true 1 [[(SV.str ([117,112,103,114,97,100,101,45,105,110,115,101,99,117,114,101,45,114,101,113,117,101,115,116,115]:List UInt8))]])],[(SV.str ([97,98,111,117,116,58,98,108,97,110,107]:List UInt8)),(SV.sl true true 0 [])]]),(Blk.arr true 9 1 (C1 (cH a))),(Blk.arr true 9 1 []),(Blk.box [(PV.s (SV.bool (cS a))),(PV.s (SV.bool (cP a))),(PV.s (SV.bool (cU a))),(PV.s (SV.bool (cB a))),(PV.fl 5)])]))
       (c false [(Blk.arr false 35 2 [[(SV.str ([104,116,116,112,115,58,47,47,97,47]:List UInt8)),(SV.sl true true 0 [])],[(SV.str ([104,116,116,112,58,47,47,98,47]:List UInt8)),(SV.sl true true 0 [])]]),(Blk.arr true 9 1 (C1 (cH b))),(Blk.arr true 9 1 []),(Blk.box [(PV.s (SV.bool (cS b))),(PV.s (SV.bool (cP b))),(PV.s (SV.bool (cU b))),(PV.s (SV.bool (cB b))),(PV.fl 1)]),(Blk.arr false 35 2 [[(SV.str ([104,116,116,112,58,47,47,97,47]:List UInt8)),(SV.sl false true 1 [[(SV.str ([117,112,103,114,97,100,101,45,105,110,115,101,99,117,114,101,45,114,101,113,117,101,115,116,115]:List UInt8))]])],[(SV.str ([97,98,111,117,116,58,98,108,97,110,107]:List UInt8)),(SV.sl true true 0 [])]]),(Blk.arr true 9 1 (C1 (cH a))),(Blk.arr true 9 1 []),(Blk.box [(PV.s (SV.bool (cS a))),(PV.s (SV.bool (cP a))),(PV.s (SV.bool (cU a))),(PV.s (SV.bool (cB a))),(PV.fl 5)])]))
      (c false [(Blk.arr false 35 2 [[(SV.str ([104,116,116,112,115,58,47,47,97,47]:List UInt8)),(SV.sl true true 0 [])],[(SV.str ([104,116,116,112,58,47,47,98,47]:List UInt8)),(SV.sl true true 0 [])]]),(Blk.arr true 9 1 (C1 (cH b))),(Blk.arr true 9 1 []),(Blk.box [(PV.s (SV.bool (cS b))),(PV.s (SV.bool (cP b))),(PV.s (SV.bool (cU b))),(PV.s (SV.bool (cB b))),(PV.fl 1)]),(Blk.arr false 35 2 [[(SV.str ([104,116,116,112,58,47,47,97,47]:List UInt8)),(SV.sl false true 1 [[(SV.str ([117,112,103,114,97,100,101,45,105,110,115,101,99,117,114,101,45,114,101,113,117,101,115,116,115]:List UInt8))]])],[(SV.str ([97,98,111,117,116,58,98,108,97,110,107]:List UInt8)),(SV.sl true true 0 [])]]),(Blk.arr true 9 1 (C1 (cH a))),(Blk.arr true 9 1 []),(Blk.box [(PV.s (SV.bool (cS a))),(PV.s (SV.bool (cP a))),(PV.s (SV.bool (cU a))),(PV.s (SV.bool (cB a))),(PV.fl 5)])]))
      (c false [(Blk.arr false 35 2 [[(SV.str ([104,116,116,112,115,58,47,47,97,47]:List UInt8)),(SV.sl true true 0 [])],[(SV.str ([104,116,116,112,58,47,47,98,47]:List UInt8)),(SV.sl true true 0 [])]]),(Blk.arr true 9 1 (C1 (cH b))),(Blk.arr true 9 1 []),(Blk.box [(PV.s (SV.bool (cS b))),(PV.s (SV.bool (cP b))),(PV.s (SV.bool (cU b))),(PV.s (SV.bool (cB b))),(PV.fl 1)]),(Blk.arr false 35 2 [[(SV.str ([104,116,116,112,58,47,47,97,47]:List UInt8)),(SV.sl false true 1 [[(SV.str ([117,112,103,114,97,100,101,45,105,110,115,101,99,117,114,101,45,114,101,113,117,101,115,116,115]:List UInt8))]])],[(SV.str ([97,98,111,117,116,58,98,108,97,110,107]:List UInt8)),(SV.sl true true 0 [])]]),(Blk.arr true 9 1 (C1 (cH a))),(Blk.arr true 9 1 []),(Blk.box [(PV.s (SV.bool (cS a))),(PV.s (SV.bool (cP a))),(PV.s (SV.bool (cU a))),(PV.s (SV.bool (cB a))),(PV.fl 5)])]))
     (c false [(Blk.arr false 35 2 [[(SV.str ([104,116,116,112,115,58,47,47,97,47]:List UInt8)),(SV.sl true true 0 [])],[(SV.str ([104,116,116,112,58,47,47,98,47]:List UInt8)),(SV.sl true true 0 [])]]),(Blk.arr true 9 1 (C1 (cH b))),(Blk.arr true 9 1 []),(Blk.box [(PV.s (SV.bool (cS b))),(PV.s (SV.bool (cP b))),(PV.s (SV.bool (cU b))),(PV.s (SV.bool (cB b))),(PV.fl 1)]),(Blk.arr false 35 2 [[(SV.str ([104,116,116,112,58,47,47,97,47]:List UInt8)),(SV.sl false true 1 [[(SV.str ([117,112,103,114,97,100,101,45,105,110,115,101,99,117,114,101,45,114,101,113,117,101,115,116,115]:List UInt8))]])],[(SV.str ([97,98,111,117,116,58,98,108,97,110,107]:List UInt8)),(SV.sl true true 0 [])]]),(Blk.arr true 9 1 (C1 (cH a))),(Blk.arr true 9 1 []),(Blk.box [(PV.s (SV.bool (cS a))),(PV.s (SV.bool (cP a))),(PV.s (SV.bool (cU a))),(PV.s (SV.bool (cB a))),(PV.fl 5)])]))
     none)
    none)
   none)
   none)
  none)
 none
theorem An5(d:Nat):evC (Qc L) (d+1) σ Y 7 [] [] s=RJ L  (λb a=>some (pB b,a,s)):=by refine(evE (fn:=Tryz.f7) (by kernel_rfl)).trans ?_;generalize evC (Qc L) d=Q;unfold RJ;kernel_rfl
end
abbrev C49:LL:=[[.str [104,116,116,112,115,58,47,47,97,47],.sl true true 0 []],[.str [104,116,116,112,58,47,47,98,47],.sl true true 0 []]]
abbrev C50:LL:=[[.str [104,116,116,112,58,47,47,97,47],.sl false true 1 [[.str [117,112,103,114,97,100,101,45,105,110,115,101,99,117,114,101,45,114,101,113,117,101,115,116,115]]]],[.str [97,98,111,117,116,58,98,108,97,110,107],.sl true true 0 []]]
theorem Df9:R6 []=[]:=by unfold R6;simp
theorem Dg0(a:By):R6 [a]=[a]:=by unfold R6;simp
theorem aw1:R3 (p7 U4 C49)=⟨0,false,true,false,false,[]⟩:=by
 have h:R3 (p7 U4 C49)=⟨0,false,true,false,false,y5 (R6 [])⟩:=by kernel_rfl
 rw[h,Df9];rfl
theorem aw2:R3 (p7 U4 C50)=⟨0,false,false,true,false,[[97]]⟩:=by
 have h:R3 (p7 U4 C50)=⟨0,false,false,true,false,y5 (R6 [[97]])⟩:=by kernel_rfl
 rw[h,Dg0];have e:y5 [([97]:By)]=[[97]]:=by kernel_rfl
 rw[e]
theorem YK:Wl (evC (Qc LF) 1 Unit noY 7 [] [] ())=true:=by refine Eq.subst (motive:=λx=>Wl x=true) (An5 (σ:=Unit) LF noY () 0).symm ?_;unfold RJ;rw[show R3 (p7 U4 C49)=_ from aw1,show R3 (p7 U4 C50)=_ from aw2];kernel_rfl
theorem Bx7:C0 c9 GX 7 Xm:=
 C0.fix (pf:=Rx) _ (by
  have h:=A90 (C₀:=Qc LF) (K8.ok (l:=[(11,DO),(8,DQ)]) rfl ⟨Ch6,Ch8,trivial⟩) (G5 rfl (by kernel_rfl)) follows YK;have e:(λargs:List PV=>match args with|[]=>Tr.ret (.s (.bool true)) []|_=>.fail)=Rx:=by
   funext args
   cases args<;>rfl
  rw[<-e];exact h)
end
section
open Go Go.ChangeAt Go.ChangeShapes Go.Proofs Go.RowKit Go.WideShapes
set_option maxRecDepth 100000
section
theorem Av0(os:Os)(a:os.Started)(H:Type)(enc:TypeId × Value->H) :
  ReturnsInHanded {} Tryz.checked os 3 .any (λw args=>(Rows.contextNavigableMatchesSpecSpec.pre enc c9 x9 Rows.contextNavigableMatchesSpecRow.domain false w args/\laidMetH c9 Eu w)/\sizedMet enc c9 x9 (OpenSpec.ofChange Rows.contextNavigableMatchesSpecSpec) false w args) (Rows.contextNavigableMatchesSpecSpec.post enc c9 x9 false true false false):=
 Au7 a (C:=YW LF) (tb:=4) rfl rfl (K8.ok (l:=[(6,ED),(7,Xm),(8,DQ),(9,QD)]) rfl ⟨Ci5,Bx7,Ch8,C06,trivial⟩) (G5 rfl (by kernel_rfl)) (by kernel_rfl) aa0 (c:=E0 x9) rfl (by kernel_rfl)
  (by
   intro t d;have:t=24\/t=29:=by simpa only[List.mem_cons,List.mem_nil_iff,or_false] using(show t∈[24,29] from d)
   rcases this with rfl|rfl
   all_goals exact⟨⟨by kernel_rfl,of_decide_eq_true (by kernel_rfl)⟩,by kernel_rfl⟩) rfl (by kernel_rfl) rfl
  (λds b=>by
   match ds,b with
   | [e,f],_=>rfl)
  #[(.agg #[(.bool false),(.bool false),(.bool false),(.bool false),(.slice none 0 0)]),(.agg #[(.int .i64 0),(.string ⟨#[]⟩),(.int .u32 0),(.int .u16 0),(.int .u16 0),(.int .u16 0),(.int .u16 0),(.int .u16 0),(.int .u16 0),(.int .u16 0),(.int .u16 0)])] 8 (by kernel_rfl) (by kernel_rfl) (by kernel_rfl)
  (λargs h=>Cr6 args h)
set_option maxHeartbeats 4000000 in theorem Bo2:Rows.ContextNavigableMatchesSpecSaid:=
 OpenClaim.holds_of_wide 3 x9 rfl rfl rfl rfl rfl rfl rfl ⟨rfl,rfl,rfl,rfl,rfl⟩ rfl rfl rfl rfl rfl (by kernel_rfl) aa0 (by unfold joinedFacts;simp only[o6];(repeat' apply And.intro)<;>as_aux_lemma=>kernel_rfl)
  (of_decide_eq_true (by as_aux_lemma=>kernel_rfl)) (by unfold Func.isWrapper;first|(rw[if_pos (by decide +kernel)];kernel_rfl)|(rw[if_neg (by decide +kernel)];exact⟨rfl,rfl⟩))
  (λos a H enc _=>Av0 os a H enc)
theorem lcv_card:Rows.ContextNavigableMatchesSpecCardSaid:=
 Claim7.holds_tied_plain_at .later [] [.data,.data,.data,.data,.pinned] true (true, "9cec0529224ec3275767089afc0c2a40804020b933dcbe6f919a6268834e85fc") false Bo2 (λ_ h=>by cases h) (by as_aux_lemma=>kernel_rfl) (λ_ h=>by cases h) contextNavigableMatchesSpec_row_tie rfl ⟨rfl,rfl⟩ (by as_aux_lemma=>kernel_rfl) rfl
  (λf fn c b=>by
   obtain rfl:f=3:=z7 ((show c9.funcNamed "hstsstore/hstsstorelaw28.ContextNavigableMatchesSpec" = some 3 by as_aux_lemma=>kernel_rfl).symm.trans c) |>.symm
   obtain rfl:fn=x9:=(z7 (aa0.symm.trans b)).symm;exact⟨by as_aux_lemma=>kernel_rfl,λj t e=>by
    have d:t∈[24,29]:=Array.mem_toList_iff.2 (Array.mem_of_getElem? e);have a:([24,29].all λu=>!c9.wantsStandIn u)=true:=by as_aux_lemma=>kernel_rfl
    exact(show c9.wantsStandIn t=false by simpa using List.all_eq_true.1 a t d)⟩)
  (by as_aux_lemma=>kernel_rfl)
end
end
#print axioms lcv_card
end Go.Proofs.YtddlcgjamdbinaaGreatDoor.E
