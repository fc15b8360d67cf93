/-
  Parts of the proof, merged by a program of the prover's own; no condition.
-/
import Derived.Test.YtkegcjamihlmmaaGreatDoorKMQ3
import Derived.Lib.IndexAny
import Derived.Lib.MapLaws
import Derived.Lib.TrimAscii
import Derived.Lib.TrimUEq
import Derived.Lib.ValidLaws
open List renaming getD->a8,length->b8,length_drop->b9,length_cons->j5,length_take->j7,length_eq_zero_iff->k9,length_singleton->o5,drop_of_length_le->o6,length_append->o7,mem_cons->p6,drop_zero->v7,length_map->w6,getD_eq_getElem?_getD->w8,size_toArray->x5,isPrefixOf->x6,mem_append->x7,replicate->x8,length_nil->y5,mem_singleton->y9,mem_of_mem_drop->z7,getElem?_append_right->aa2,length_pos_iff->aa3,nil_append->aa4,countP_le_length->aa6,getElem?_take_of_lt->aa7,toArray->aa8,append_assoc->ab1,all_cons->ab3,map_cons->ab4,all_eq_true->ab7,cons_append->ab8,append_nil->ab9,mem_of_mem_take->ac0,getElem?_eq_getElem->ac2,map_congr_left->ac3,getElem?_cons_zero->ac4,getElem?_toArray->ac8,map->ad2,take_left->ad3,getElem?_append_left->ad4,getElem?_take->ad8,drop->ad9,getElem?_cons_succ->ae0,take_of_length_le->ae3,map_append->ae5,drop_succ_cons->ae7,takeWhile_cons->ae8,isSuffixOf_iff_suffix->af3,getElem?_eq_some_iff->af6,getLastD_eq_getLast?->af7,countP_cons_of_neg->ag4,not_mem_nil->ag5,all_map->ag8,map_map->ag9,drop_left'->ah2,singleton_append->ah3,take_append_drop->ah4,drop_drop->ah6,drop_left->ah7,getLast?_append->ah8,take->ai2,countP_pos_iff->ai4,getD_cons_zero->ai5,any_cons->ai7,all->aj2,isEmpty->aj3,map_nil->aj4,mem_of_head?->aj5,isEmpty_iff->aj9,take_length->ak0,map_id->ak5,mem_map->am5
open Eq renaming trans->j2
open Option.some renaming injEq->j4,inj->y8
open Int renaming toNat_natCast->j6,eq_ofNat_of_zero_le->aa9,toNat->ab0,add->ag7,mul_nonneg->ak8,tdiv->ak9,tmod->am7
open Bool renaming not_true->j8,not_false->j9,and_eq_true->o0,false_eq_true->o9,eq_false_iff->w9,eq_iff_iff->ac5,or_eq_true->ac6,and_true->ad5,true_and->ad6,false_or->ae4,not_eq_true'->af8,not_eq_true->aj7,false_and->ak7,or_self->am2
open UInt8 renaming ofNat->o8,toNat_inj->ae6
open Go.Proofs.Tryz renaming prog->p4,f164->ai3,f123->ak2,f162->ak3,f47->al0,f53->al1,f74->al2,f87->al3,f99->al4,f102->al6,f104->al7,f109->al8,f117->al9,f143->am0,f177->am1,f26->am9,f51->an0,f80->an1,f81->an2
open Go.Value renaming int->p5
open Nat renaming ble->p7,ble_eq->x4,le_refl->aa0,mul_one->ab5,zero_le->ac1,strongRecOn->ac7,ble_eq_true_of_le->ac9,le_of_ble_eq_true->ad0,zero_add->ah0,mul_le_mul->ah9,mul_le_mul_right->ai0,lt_of_lt_of_le->ai8,sub_self->aj6,div_le_self->ak6,add_zero->am6
open Go.Lib renaming decodeL->p9,decDigits->v8,indexByte->x3,cut->x9,join->aa1,index->ab6,decDigits_one->ad1,decodeL_width->ae1,indexAny->ae2,join_one->af0,runeCountL->af2,decodeL_ascii->af9,decodeL_drop->ag3,decodeL_le->ah5,decodeL_N->ai6,runeCountFrom->aj1,decodeL_rune->aj8,decodeN->ak4,join_nil->am3,validGoD->am4
open Option renaming map_some->y7,isSome->ad7,isSome_map->ag1,bind_some->ag6,getD_some->ak1
open Go.Utf8 renaming decode->aa5
open Array renaming length_toList->ab2,getElem?_append_left->af1,getElem?_eq_getElem->af4,size_append->ai9
open Go.Fn renaming func->ae9
open Classical renaming byContradiction->af5
open Ne renaming symm->ag0
open Go.World renaming frozen?->ag2,shape?->ah1,cell?->ai1
open Function renaming comp_def->aj0
open Prod.mk renaming injEq->al5
namespace Go.Proofs.YtkegcjamihlmmaaGreatDoor.E
set_option linter.all false
section
open Go Go.Proofs
def Bk(l:List Int):LL:=l.map λx=>[SV.int .i64 x]
def B7(l:List Nat):LL:=l.map λx:Nat=>[SV.int .i64 (x:Int)]
theorem Sf(l:List Nat):Bk (l.map λn:Nat=>(n:Int))=B7 l:=by simp[Bk,B7,aj0]
theorem W0(l:List Int):(Bk l).length=l.length:=by simp[Bk]
theorem D5(l:List Nat):(B7 l).length=l.length:=by simp[B7]
theorem Lr(a b:List Nat):B7 (a++b)=B7 a++B7 b:=by simp[B7]
theorem Aa0{l:List Int}{i:Nat}(h:i<l.length):okE Mh (Bk l) i 0=true:=by unfold okE Bk Mh;simp[w8,h,okS,SV.has]
theorem A90(l:List Int)(i:Nat)(h:i<l.length):gE (Bk l) i 0=l.getD i 0:=by unfold gE gC Bk;simp[w8,ac2 h,SV.gI]
theorem Si{l:List Nat}{i:Nat}(h:i<l.length):okE Mh (B7 l) i 0=true:=by rw[<-Sf];exact Aa0 (by simpa using h)
theorem CV(l:List Nat)(i:Nat)(h:i<l.length):gE (B7 l) i 0=(l.getD i 0:Int):=by rw[<-Sf,A90 _ _ (by simpa using h)];grind
theorem Bz2{l:LL}(h:l.all Pc=true):∃P:List Int,l=Bk P:=by
 induction l with
 | nil=>exact⟨[],rfl⟩
 | cons x r b=>
  simp only[ab3,o0] at h;obtain⟨P,rfl⟩:=b h.2;have a:=h.1;unfold Pc at a;split at a
  ·rename_i n;exact⟨n::P,rfl⟩
  ·cases a
theorem Al2(P:List Int):(Bk P).map elI=P:=by
 unfold Bk;rw[ag9]
 conv=>rhs;rw[<-ak5 P]
 apply ac3;intro x _;simp[elI,SV.gI]
theorem Al0(l:List Int)(i:Nat)(h:i<l.length):l.drop i=l.getD i 0::l.drop (i+1):=by simp_all
theorem Xi(l:List Nat)(i:Nat)(h:i<l.length):l.drop i=l.getD i 0::l.drop (i+1):=by simp_all
theorem Dc6:∀(r d k:Nat),d<456*35 ^ r->BQ d k<=k+36*r+36:=by
 intro r
 induction r with
 | zero=>
  intro d k h;rw[Uh (by simp at h;omega)];have:36*d / (d+38)<=36:=by
   apply Nat.div_le_of_le_mul;omega
  omega
 | succ r b=>
  intro d k h;by_cases a:455<d
  ·rw[KI a];grind
  grind
theorem Pu(d c:Nat)(f:Bool)(h:d<1152921504606846976):R5 d c f<=500:=by
 unfold R5;have a:∀x:Nat,x<=d->BQ (x+x / c) 0<=500:=by
  intro x a;have:=ak6 x c;have:=Dc6 11 (x+x / c) 0 (by omega);omega
 grind
theorem RT{q k b:Nat}(h:q<1152921504606846976):(Q7 q k b).length<=20:=A83 b 19 q k (by omega)
theorem B13(z t:Bool)(c:List Nat)(a m:Nat)(Q:m<=1114112)(P:c.length<=256):∀(r i n:Nat) (s:UI),i+r=c.length->r<n->s.delta+r<=1000000000000->s.bias<=500->s.out.length+20*r<=90000->s.done+r<=1000->a<=256->
  (∀(R:Type) (d:Bool->Bool->LL->Int->Int->Int->Int->Int->LL->Option R),Cs LF n z t (B7 c) (a:Int) (m:Int) (s.delta:Int) (s.bias:Int) (s.done:Int) (c.length:Int) (i:Int) (s.out.map E4) d =
   d z t (B7 c) (a:Int) (m:Int) ((I5 m a (c.drop i) s).delta:Int) ((I5 m a (c.drop i) s).bias:Int) ((I5 m a (c.drop i) s).done:Int) ((I5 m a (c.drop i) s).out.map E4))/\
  (I5 m a (c.drop i) s).bias<=500/\(I5 m a (c.drop i) s).out.length<=s.out.length+20*(c.drop i).countP (· == m)/\(I5 m a (c.drop i) s).done=s.done+(c.drop i).countP (· == m)/\
  (I5 m a (c.drop i) s).delta<=(if 0<(c.drop i).countP (· == m) then r else s.delta+r):=by
 intro r
 induction r with
 | zero=>
  intro i n s N O K x L M y;obtain⟨n,rfl⟩:∃m,n=m+1:=⟨n-1,by omega⟩
  rw[o6 (by omega)];refine⟨λR d=>?_,x,by simp[I5],by simp[I5],by simp[I5]⟩;rw[Cs];rw[A6];rfl
 | succ r F=>
  intro i n s N O K x L M y;obtain⟨n,rfl⟩:∃m,n=m+1:=⟨n-1,by omega⟩
  rw[Xi c i (by omega)];have C:=CV c i (by omega);have ok:=Si (l:=c) (i:=i) (by omega);generalize c.getD i 0=p at *;have A:A1 ((i:Int)+1)=((i+1:Nat):Int):=by rw[A7];rfl
  have I:A1 ((s.delta:Int)+1)=((s.delta+1:Nat):Int):=by rw[A7];rfl
  have J:A1 ((s.done:Int)+1)=((s.done+1:Nat):Int):=by rw[A7];rfl
  by_cases D:p<m
  ·have e:(p==m)=false:=by rw[beq_eq_false_iff_ne];omega
   have j:I5 m a (p::c.drop (i+1)) s=I5 m a (c.drop (i+1)) { s with delta:=s.delta+1 }:=by rw[I5,if_pos D]
   obtain⟨o,u,v,w,f⟩:=F (i+1) n { s with delta:=s.delta+1 } (by omega) (by omega) (by simp only;omega) x (by simp only;omega) (by simp only;omega) y;rw[j,ag4 (by rw[e];simp)];refine⟨λR d=>?_,u,v,w,?_⟩
   ·rw[Cs];rw[A9,D5,F2,j6,ok];simp only[cond_true,vl,C,A,I];rw[A9,cond_true];exact o R d
   ·simp only at f;split at f<;>split<;>omega
  ·by_cases H:p=m
   ·subst H;have G:=RT (q:=s.delta) (k:=0) (b:=s.bias) (by omega);have B:=Pu s.delta (s.done+1) (s.done==a) (by omega);have j:I5 p a (p::c.drop (i+1)) s=I5 p a (c.drop (i+1)) { delta:=0,bias:=R5 s.delta (s.done+1) (s.done==a),done:=s.done+1,out:=s.out++Q7 s.delta 0 s.bias }:=by rw[I5,if_neg D,if_pos rfl]
    obtain⟨o,u,v,w,f⟩:=F (i+1) n { delta:=0,bias:=R5 s.delta (s.done+1) (s.done==a),done:=s.done+1,out:=s.out++Q7 s.delta 0 s.bias } (by omega) (by omega) (by simp only;omega) B (by simp only[o7];omega) (by simp only;omega) y;rw[j,List.countP_cons_of_pos (by simp)];refine⟨λR d=>?_,u,?_,?_,?_⟩
    ·rw[Cs];have g:((s.done:Int)==(a:Int))=(s.done==a):=by grind
     rw[A9,D5,F2,j6,ok];simp only[cond_true,vl,C,A,J];rw[A6,cond_false,beq_self_eq_true,cond_true,N0,N0,w6,ac9 (show s.out.length<=100000 by omega),N0,A9,g];simp only[cond_true,j6];have h:List.append (s.out.map E4) ((Q7 s.delta 0 s.bias).map E4)=(s.out++Q7 s.delta 0 s.bias).map E4:=by rw[ae5];rfl
     rw[h];exact o R d
    ·simp only[o7] at v;omega
    ·simp only at w;omega
    ·simp only at f;rw[R0];split at f<;>omega
   ·have e:(p==m)=false:=by rw[beq_eq_false_iff_ne];omega
    have j:I5 m a (p::c.drop (i+1)) s=I5 m a (c.drop (i+1)) s:=by rw[I5,if_neg D,if_neg H]
    obtain⟨o,u,v,w,f⟩:=F (i+1) n s (by omega) (by omega) (by omega) x (by omega) (by omega) y;rw[j,ag4 (by rw[e];simp)];refine⟨λR d=>?_,u,v,w,?_⟩
    ·rw[Cs];rw[A9,D5,F2,j6,ok];simp only[cond_true,vl,C,A];rw[A6,cond_false,show((p:Int)==(m:Int))=false by rw[beq_eq_false_iff_ne];omega,cond_false];exact o R d
    ·split at f<;>split<;>omega
theorem Bf2{R:Type}{k0:Bool->Bool->LL->Int->Int->Int->Int->Int->Int->LL->Option R}(z t:Bool)(a:List Nat)(k:a.length<=256)(n0:Nat)(b delta c done:Int)(l:LL):∀(r i n m:Nat),i+r=a.length->r<n->
  Jx LF n z t (B7 a) b (n0:Int) delta c done (m:Int) (a.length:Int) (i:Int) l k0=k0 z t (B7 a) b (n0:Int) delta c done ((I3 n0 (a.drop i) m:Nat):Int) l:=by
 intro r
 induction r with
 | zero=>
  intro i n m g j;obtain⟨n,rfl⟩:∃m,n=m+1:=⟨n-1,by omega⟩
  rw[Jx];rw[A6,o6 (by omega)];rfl
 | succ r d=>
  intro i n m g j;obtain⟨n,rfl⟩:∃m,n=m+1:=⟨n-1,by omega⟩
  have f:=CV a i (by omega);have ok:=Si (l:=a) (i:=i) (by omega);rw[Jx,Xi a i (by omega)];generalize a.getD i 0=p at *;have e:A1 ((i:Int)+1)=((i+1:Nat):Int):=by rw[A7];rfl
  rw[A9,D5,F2,j6,ok];simp only[cond_true,vl,f,e,I3];by_cases h:n0<=p
  ·rw[if_pos h,A6,j9,cond_true];have:(if (p:Int)<(m:Int) then (p:Int) else (m:Int))=((min m p:Nat):Int):=by split<;>omega
   rw[this];exact d (i+1) n (min m p) (by omega) (by omega)
  ·rw[if_neg h,A9,j8,cond_false];exact d (i+1) n m (by omega) (by omega)
theorem Fc(n:Nat):∀(l:List Nat) (m:Nat),(I3 n l m=m\/(I3 n l m∈l/\n<=I3 n l m))/\I3 n l m<=m/\∀p∈l,n<=p->I3 n l m<=p
 | [],m=>⟨.inl rfl,aa0 _,λp h=>by cases h⟩
 | q::r,m=>by
  obtain⟨a,b,c⟩:=Fc n r (if n<=q then min m q else m);simp only[I3];grind
theorem Xb{n m:Nat}(a:n<=m):∀l:List Nat,(∀p∈l,n<=p->m<=p)->l.countP (λp=>decide (p<m+1))=l.countP (λp=>decide (p<n))+l.countP (· == m)
 | [],_=>rfl
 | p::l,h=>by
  have d:=Xb a l (λq b=>h q (List.mem_cons_of_mem _ b));have c:=h p List.mem_cons_self;grind
theorem A71{n:Nat}{l:List Nat}(h:l.countP (λp=>decide (p<n))<l.length):∃p∈l,n<=p:=by
 apply af5;intro a;have:l.countP (λp=>decide (p<n))=l.length:=by simp_all
 omega
theorem Cz2(z t:Bool)(a:List Nat)(b:Nat)(x:a.length<=256)(N:b<=256)(g:∀p∈a,p<=1114111):∀(f n d:Nat) (s:UI),s.done=a.countP (λp=>decide (p<n))->a.length<=s.done+f->f<d->s.delta<=300->s.bias<=500->s.out.length+20*(a.length-s.done)<=80000->n<=1114112->
  ∀(R:Type) (k0:LL->Option R),Gi LF d z t (B7 a) (b:Int) (n:Int) (s.delta:Int) (s.bias:Int) (s.done:Int) (s.out.map E4) k0=k0 ((T0 a b f n s).out.map E4):=by
 intro f;have M:=C5
 induction f with
 | zero=>
  intro n d s P S T I v J L R k0;obtain⟨d,rfl⟩:∃m,d=m+1:=⟨d-1,by omega⟩
  rw[Gi];rw[D5,A6];rfl
 | succ f U=>
  intro n d s P S T I v J L R k0;obtain⟨d,rfl⟩:∃m,d=m+1:=⟨d-1,by omega⟩
  rw[Gi];rw[D5];have O:a.countP (λp=>decide (p<n))<=a.length:=aa6;by_cases j:s.done<a.length
  ·obtain⟨A,k,q⟩:=A71 (n:=n) (l:=a) (by omega);obtain⟨g1,g2,u⟩:=Fc n a 1114112;have g4:=u A k q;have g5:=g A k;have e:I3 n a 1114112∈a/\n<=I3 n a 1114112:=by grind
   have Q:T0 a b (f+1) n s=T0 a b f (I3 n a 1114112+1) { I5 (I3 n a 1114112) b a { s with delta:=s.delta+(I3 n a 1114112-n)*(s.done+1) } with delta:=(I5 (I3 n a 1114112) b a { s with delta:=s.delta+(I3 n a 1114112-n)*(s.done+1) }).delta+1 }:=by
    rw[T0,if_pos j]
   rw[Q,A9,cond_true];have c:=λ(K:Bool->Bool->LL->Int->Int->Int->Int->Int->Int->LL->Option R)=>Bf2 (k0:=K) z t a x n (b:Int) (s.delta:Int) (s.bias:Int) (s.done:Int) (s.out.map E4) a.length 0 LF 1114112 (by omega) (by omega)
   rw[v7] at c;refine j2 (c _) ?_;generalize I3 n a 1114112=m at *;have y:(m-n)*(s.done+1)<=1114112*256:=ah9 (by omega) (by omega);have B:A1 ((s.done:Int)+1)=((s.done+1:Nat):Int):=by rw[A7];rfl
   have C:A1 ((m:Int)-(n:Int))=((m-n:Nat):Int):=by rw[A7];omega
   have D:A1 (((m-n:Nat):Int)*((s.done+1:Nat):Int))=(((m-n)*(s.done+1):Nat):Int):=by
    rw[<-Int.natCast_mul];exact A7
   have F:A1 ((s.delta:Int)+(((m-n)*(s.done+1):Nat):Int))=((s.delta+(m-n)*(s.done+1):Nat):Int):=by
    rw[A7];rfl
   simp only[vl,B,C,D,F];have i:=B13 z t a b m (by omega) x a.length 0 LF { s with delta:=s.delta+(m-n)*(s.done+1) } (by omega) (by omega) (by simp only;omega) v (by simp only;omega) (by simp only;omega) N;rw[v7] at i;obtain⟨V,W,X,Y,Z⟩:=i;rw[D5];refine j2 (V R _) ?_;have h:0<a.countP (· == m):=ai4.2 ⟨m,e.1,by simp⟩;rw[if_pos h] at Z;have r:=Xb e.2 a u;generalize I5 m b a { s with delta:=s.delta+(m-n)*(s.done+1) } = o at *;simp only at X Y;have G:A1 ((o.delta:Int)+1)=((o.delta+1:Nat):Int):=by rw[A7];rfl
   have H:A1 ((m:Int)+1)=((m+1:Nat):Int):=by rw[A7];rfl
   have w:a.countP (λp=>decide (p<m+1))<=a.length:=aa6;simp only[G,H];exact U (m+1) d { o with delta:=o.delta+1 } (by simp only;omega) (by simp only;omega) (by omega) (by simp only;omega) W (by simp only;omega) (by omega) R k0
  ·rw[A6];rw[T0,if_neg j];rfl
def X6(l:List Int):By:=(l.filter λx=>decide (x<128)).map λx=>o8 x.toNat
theorem C67(x:Int)(a:0<=x)(h:x<128):[SV.int .u8 (wu8 x)]=E4 (o8 x.toNat):=by
 unfold E4;have e:wu8 x=x:=by unfold wu8;exact Int.emod_eq_of_lt a (show x<256 by omega)
 rw[e];have:((o8 x.toNat).toNat:Int)=x:=by simp;omega
 rw[this]
theorem Vq{x:Int}(h:ptI x=true):0<=x/\x<=1114111:=by
 cases x with
 | negSucc m=>cases h
 | ofNat m=>
  have:W4 m=true:=h;unfold W4 at this;simp only[o0,x4] at this;grind
theorem Be7(z t:Bool)(P:List Int)(A:P.length<=256):∀(r i n:Nat) (out:By),i+r=P.length->r<n->out.length+r<=1000->
  ((P.drop i).all ptI=true->∀(R:Type) (a:LL->Option R) (b:Bool->Bool->LL->LL->Option R),V7 LF n z t (Bk P) (P.length:Int) (i:Int) (out.map E4) a b=b z t (Bk P) ((out++X6 (P.drop i)).map E4))/\
  ((P.drop i).all ptI=false->∃l,∀(R:Type) (a:LL->Option R) (b:Bool->Bool->LL->LL->Option R),V7 LF n z t (Bk P) (P.length:Int) (i:Int) (out.map E4) a b=a l):=by
 intro r
 induction r with
 | zero=>
  intro i n out u v w;obtain⟨n,rfl⟩:∃m,n=m+1:=⟨n-1,by omega⟩
  rw[o6 (by omega)];refine⟨λ_ R a b=>?_,λh=>(by cases h)⟩;rw[V7];rw[A6];simp[X6]
 | succ r q=>
  intro i n out u v w;obtain⟨n,rfl⟩:∃m,n=m+1:=⟨n-1,by omega⟩
  have j:=A90 P i (by omega);have ok:=Aa0 (l:=P) (i:=i) (by omega);rw[Al0 P i (by omega)];generalize P.getD i 0=x at *;have p:A1 ((i:Int)+1)=((i+1:Nat):Int):=by rw[A7];rfl
  cases f:ptI x with
  | false=>
   refine⟨λh=>?_,λ_=>⟨out.map E4,λR a b=>?_⟩⟩
   ·rw[ab3,f] at h;cases h
   ·rw[V7];rw[A9,W0,F2,j6,ok];simp only[cond_true,vl,j,f,j9]
  | true=>
   obtain⟨y,B⟩:=Vq f;rw[ab3,f,ad6];by_cases c:x<128
   ·have d:X6 (x::P.drop (i+1))=o8 x.toNat::X6 (P.drop (i+1)):=by
     unfold X6;rw[List.filter_cons_of_pos (by simpa using c)];rfl
    have g:out.map E4++[[SV.int .u8 (wu8 x)]]=(out++[o8 x.toNat]).map E4:=by rw[C67 x y c];simp
    obtain⟨k,o⟩:=q (i+1) n (out++[o8 x.toNat]) (by omega) (by omega) (by simp;omega);have step:∀(R:Type) (a:LL->Option R) (b:Bool->Bool->LL->LL->Option R),V7 LF (n+1) z t (Bk P) (P.length:Int) (i:Int) (out.map E4) a b=V7 LF n z t (Bk P) (P.length:Int) ((i+1:Nat):Int) ((out++[o8 x.toNat]).map E4) a b:=by
     intro R a b;rw[V7];rw[A9,W0,F2,j6,ok];simp only[cond_true,vl,j,f,j8,cond_false,p];rw[B9 c,w6,F9 (by omega),g];rfl
    refine⟨λh R a b=>?_,λh=>?_⟩
    ·rw[step,k h,d];simp
    ·obtain⟨l,e⟩:=o h;exact⟨l,λR a b=>by rw[step];exact e R a b⟩
   ·have d:X6 (x::P.drop (i+1))=X6 (P.drop (i+1)):=by
     unfold X6;rw[List.filter_cons_of_neg (by simpa using c)]
    obtain⟨k,o⟩:=q (i+1) n out (by omega) (by omega) (by omega);have step:∀(R:Type) (a:LL->Option R) (b:Bool->Bool->LL->LL->Option R),V7 LF (n+1) z t (Bk P) (P.length:Int) (i:Int) (out.map E4) a b=V7 LF n z t (Bk P) (P.length:Int) ((i+1:Nat):Int) (out.map E4) a b:=by
     intro R a b;rw[V7];rw[A9,W0,F2,j6,ok];simp only[cond_true,vl,j,f,j8,cond_false,p];rw[A6];rfl
    refine⟨λh R a b=>?_,λh=>?_⟩
    ·rw[step,k h,d]
    ·obtain⟨l,e⟩:=o h;exact⟨l,λR a b=>by rw[step];exact e R a b⟩
theorem B16{P:List Int}(h:P.all ptI=true):∃a:List Nat,P=a.map (λn:Nat=>(n:Int))/\a.all W4=true/\∀p∈a,p<=1114111:=by
 induction P with
 | nil=>exact⟨[],rfl,rfl,by simp⟩
 | cons x P c=>
  rw[ab3,o0] at h;obtain⟨a,rfl,b,e⟩:=c h.2;obtain⟨d,f⟩:=Vq h.1;obtain⟨m,rfl⟩:=aa9 d;refine⟨m::a,rfl,?_,?_⟩
  ·rw[ab3,b,ad5];exact h.1
  grind
theorem KO(a:List Nat):X6 (a.map λn:Nat=>(n:Int))=J0 a:=by
 unfold X6 J0
 induction a with
 | nil=>rfl
 | cons p r b=>
  grind
theorem Ur(a:List Nat):(J0 a).length=a.countP (λp=>decide (p<128)):=by unfold J0;grind
theorem Be8(z t:Bool)(P:List Int):(X8 P=([],3)/\∀(R:Type) (b:Unit->Option R) (f:By->Int->LL->Option R),Aq7 LF z t (Bk P) b f=b ())\/
  (∃l,∀(R:Type) (b:Unit->Option R) (f:By->Int->LL->Option R),Aq7 LF z t (Bk P) b f=f (X8 P).1 ((X8 P).2:Nat) l):=by
 have x:=C5;by_cases j:256<P.length
 ·refine .inl ⟨by unfold X8;rw[if_pos j],λR b f=>?_⟩;unfold Aq7;rw[W0,A9];rfl
 ·right
  obtain⟨v,w⟩:=Be7 z t P (by omega) P.length 0 LF [] (by omega) (by omega) (by simp;omega);rw[v7] at v w;cases g:P.all ptI with
  | false=>
   obtain⟨l,e⟩:=w g;refine⟨l,λR b f=>?_⟩;unfold Aq7;rw[W0,A6,cond_false];refine j2 (e R _ _) ?_;unfold X8;rw[if_neg j,g];rfl
  | true=>
   obtain⟨a,rfl,A,q⟩:=B16 g;rw[w6] at j;have m:X8 (a.map λn:Nat=>(n:Int))=Dr a:=by
    unfold X8;rw[w6,if_neg j,g];simp[aj0]
   have k:=Ur a;have y:a.countP (λp=>decide (p<128))<=a.length:=aa6;have main:∀(o:By),o.length<=300->∀(R:Type) (b:LL->Option R),Gi LF LF z t (B7 a) ((J0 a).length:Int) 128 0 72 ((J0 a).length:Int) (o.map E4) b=b ((T0 a (J0 a).length 256 128 { delta:=0,bias:=72,done:=(J0 a).length,out:=o }).out.map E4):=by
    intro o B R b;exact Cz2 z t a (J0 a).length (by omega) (by omega) q 256 128 LF { delta:=0,bias:=72,done:=(J0 a).length,out:=o } k (by simp only;omega) (by omega) (by simp) (by simp) (by simp only;omega) (by omega) R b
   have d:Dr a=((T0 a (J0 a).length 256 128 { delta:=0,bias:=72,done:=(J0 a).length,out:=if (J0 a).isEmpty then [] else J0 a++[45] }).out,0):=by
    unfold Dr;grind
   refine⟨(Dr a).1.map E4,λR b f=>?_⟩;unfold Aq7;rw[W0,w6,A6,cond_false,m];have i:=v g R;rw[w6] at i;refine j2 (i _ _) ?_;rw[aa4,KO,Sf];simp only[vl,w6];by_cases c:J0 a=[]
   ·rw[c,y5,A6,cond_false];have r:=main [] (by simp) R;rw[c,y5] at r;rw[aj4] at r;refine j2 (r _) ?_;rw[c] at d;rw[d];simp only[List.isEmpty_nil,if_true,y5];rw[Y4,Z3];rfl
   ·have u:0<(J0 a).length:=aa3.2 c;rw[A9,cond_true,F9 (by omega),cond_true];have h:(J0 a).map E4++[[SV.int .u8 (45:Int)]]=(J0 a++[45]).map E4:=by rw[ae5];rfl
    rw[h];refine j2 (main (J0 a++[45]) (by simp;omega) R _) ?_;rw[d,if_neg (by simpa using c)];rw[Y4,Z3];rfl
theorem Dl1(z t:Bool)(p:LL)(b:p.all Pc=true):∃r H,Aq7 LF z t p (λ_=>rv (.tup [.s (.str []),.s (.int .i64 3)]) []) (λd e l=>rv (.tup [.s (.str d),.s (.int .i64 e)]) [.arr true 5 1 l])=rv r H/\
  r.stab [0,0] H = .tup [.s (.str (X8 (p.map elI)).1),.s (.int .i64 ((X8 (p.map elI)).2:Nat))]:=by
 obtain⟨P,rfl⟩:=Bz2 b;rw[Al2];rcases Be8 z t P with⟨c,a⟩|⟨l,a⟩
 ·exact⟨_,_,a _ _ _,by rw[c];rfl⟩
 ·exact⟨_,_,a _ _ _,rfl⟩
set_option maxRecDepth 100000
section
theorem Da0:B4 p4 GX 168 IY:=by
 refine B4.fix (pf:=VY) _ (Cz (C₀:=A60 LF) (N7.ok (l:=[]) rfl trivial) (J1 rfl (by kernel_rfl)) follows ?_);intro args ret a h;unfold VY at h;split at h
 ·rename_i b;obtain⟨rfl,rfl⟩:=J6 h;have e:=(Dl7 LF noY () 0 b).trans (Cd5 b );exact⟨rfl,1,_,[],e,rfl,rfl⟩
 ·cases h
theorem B50:EK p4 GX 176 Rq:=by
 refine Gv (C₀:=YG LF) (N7.ok (l:=[]) rfl trivial) (J1 rfl (by kernel_rfl)) follows ?_;intro args H ret f h;unfold Rq at h;split at h
 ·rename_i k b;obtain⟨a,h⟩:=C7 h;obtain⟨c,h⟩:=C7 h;obtain⟨rfl,rfl⟩:=J6 h;refine⟨rfl,rfl,λg d s=>?_⟩;have e:=(Cz5 LF d s 0 k b).trans (Bf5 k b a c);exact⟨1,_,e,rfl⟩
 ·cases h
theorem D82:EK p4 GX 152 VR:=by
 refine Gv (C₀:=CC LF) (Wo (lx:=[(168,IY),(169,A19)]) (ly:=[(176,Rq)]) (ls:=[]) rfl rfl rfl ⟨Da0,D61,trivial⟩ ⟨B50,trivial⟩ trivial) (J1 rfl (by kernel_rfl)) follows ?_;intro args H ret f h;unfold VR at h;split at h
 ·rename_i q b z l;obtain⟨a,h⟩:=C7 h;obtain⟨c,h⟩:=C7 h;obtain⟨d,h⟩:=C7 h;obtain⟨rfl,rfl⟩:=J6 h;obtain⟨g,i,e0⟩:=Cc2 q b z l a c d;exact⟨rfl,rfl,λj e s=>⟨1,_,(Dk5 LF e s 0 q b z l).trans (e0 _ _),rfl⟩⟩
 ·cases h
theorem C99:B4 p4 GX 132 A20:=by
 refine B4.fix (pf:=VW) _ (J3 [0,0] (C₀:=R6 LF) (Wo (lx:=[(151,Pp),(153,Po)]) (ly:=[(152,VR)]) (ls:=[]) rfl rfl rfl ⟨A04,A03,trivial⟩ ⟨D82,trivial⟩ trivial) (J1 rfl (by kernel_rfl)) follows ?_);intro args ret i h;unfold VW at h;split at h
 ·rename_i b a p;obtain⟨d,h⟩:=C7 h;obtain⟨rfl,rfl⟩:=J6 h;obtain⟨g,e,c,f⟩:=Dl1 b a p d;exact⟨rfl,rfl,rfl,1,g,e,(Dl0 LF noY () 0 b a p).trans c,f⟩
 ·cases h
end
section
variable {W R : Type} (L : Nat) (Y : F6) (Q : Yh W) (s : W) (k : Out -> St W -> Option R)
noncomputable abbrev Dy9:Code:=C6 am1
noncomputable def BZ(L:Nat):Cfg:=B8 L [177] (A2 [(3,[0,1,0,0])]) [(168,IY),(179,A21)] (A2 [(17,[2]),(16,[0,2,0,53]),(15,[0,2,0]),(14,[2]),(13,[0,2,0,1,45]),(12,[0,2,0,0,0]),(11,[2]),(10,[0,2,0,0,41]),(9,[0,2,0,0]),(8,[0,2,0,0]),(7,[2]),(6,[0,2,0,0,18]),(5,[0,2,0,0]),(4,[2]),(3,[0,2,0,11]),(2,[0,2,0]),(1,[0,2]),(0,[0])]) [179] (A2 [(0,[2]),(1,[0,2,0])]) (some [2]) [(176,Rq)] [] [176]
noncomputable def Gb{R:Type}(L n:Nat)(p:Int)(c:By)(j o d:Int)(g l:Bool)(i:LL)(a:Int)(h:Int->By->Int->Int->Int->Bool->Bool->LL->Int->Option R):Option R:=match n with|0=>none|n+1=>cond (c==[]) (h 4 c j o d g l i a) (cond (inR 0 c.length) (cond (inR (bAt c (0:Int)) 256) (vl (E5 (u8n (bAt c (0:Int)))) λf=>cond (ltI f 0) (h 4 c j o d g l i a) (cond (I9 1 (c.length:Int) c.length) (vl (cut c 1 (c.length:Int)) λe=>vl (A1 (o+(A1 (f*p)))) λb=>cond (ltI 1099511627776 b) (h 19 e j b d g l i a) (cond (ltN a 1000000000000) (cond (ltN d 1000000) (cond (ltI f (M0 a d)) (h 0 e j b d g l i (ag7 a (36:Int))) (vl (A1 ((36:Int)-(M0 a d))) λm=>cond (ltI 1099511627776 (A1 (p*m))) (h 19 e j b d g l i (ag7 a (36:Int))) (Gb L n (A1 (p*m)) e j b d g l i (ag7 a (36:Int)) h))) none) none)) none)) none) none)
theorem A81(n w0 g e f b c h d a):D0 4 ((BZ L).keep 3) (bd (BZ L) Y Q (cd [1,1,1,0,0] Dy9)) n ⟨gp [(0,.ptr 0 0 0),(2,.fnr (ae9 176) [] [.ptr 3 0 0,.ptr 2 0 0]),(0,pI w0)] 54,[.box [pS g,.fl 1,pI e,pI f,pI b,pB c],.arr h 3 1 d,.box [pI b],.box [pI a]],s⟩ k =
 Gb L n w0 g e f b c h d a (λn0 g e f b c h d a=>k .ret ⟨gp [(2,pI n0)] 56,[.box [pS g,.fl 1,pI e,pI f,pI b,pB c],.arr h 3 1 d,.box [pI b],.box [pI a]],s⟩):=by
 induction n generalizing w0 g e f b c h d a with
 | zero=>rfl
 | succ n i=>rw[Gb];simp only[<-i];kernel_rfl
noncomputable def Dz9{R:Type}(L:Nat)(g:By)(n i b:Int)(q z:Bool)(l:LL)(p:Int->By->Int->Int->Int->Bool->Bool->LL->Int->Option R):Option R:=Gb L L 1 g n i b q z l 0 (λj o m d e a h c f=>p j o m d e a h c f)
theorem De9(d:Nat)(rest n i b st z l):evC (BZ L) (d+1) W Q 177 [.ptr 0 0 0] [.box [pS rest,.fl 1,pI n,pI i,pI b,pB st],.arr z 3 1 l] s=Dz9 L rest n i b st z l (λj m g h c e o f a=>some (pI j,[.box [pS m,.fl 1,pI g,pI h,pI c,pB e],.arr o 3 1 f,.box [pI c],.box [pI a]],s)):=by refine(evE (fn:=am1) (by kernel_rfl)).trans ?_;generalize evC (BZ L) d=Y;unfold Dz9;exact(j2 (by kernel_rfl) ((A81 L Y Q s (E1 0 (F3 (BZ L) am1)) L 1 rest n i b st z l 0).trans (by kernel_rfl)))
noncomputable def XU(L:Nat):Cfg:=B8 L [175] (A2 []) [(153,Po),(151,Pp)] (A2 [(16,[2]),(15,[]),(14,[0]),(13,[2]),(12,[0,67]),(11,[2]),(10,[0,4,60]),(9,[0,4]),(8,[0,4]),(7,[0,4]),(6,[0,4]),(5,[0,2,1]),(4,[2]),(3,[0,2,0,8]),(2,[0,2,0]),(1,[0,2]),(0,[0])]) [153,151] (A2 []) (some [2]) [(177,UO),(178,WZ)] [] [177,178]
noncomputable def By3{R:Type}(L:Nat)(a:By)(n i b:Int)(m z:Bool)(l:LL)(j:Int->By->Int->Int->Int->Bool->Bool->LL->Option R):Option R:=cond (A3 a.length) (cond (ltN b 1000000) (cond (ltN i 1099511627777) (cond ((NA b a i)!=0) (j (NA b a i) (NC b a i) n (Vo b a i) b m z l) (vl (A1 ((l.length:Int)+1)) λc=>vl (A1 ((Vo b a i)-i)) λh=>cond (ltN h 1152921504606846976) (cond (ltN c 1000000) (cond (ltI 0 c) (vl (↑(R5 (ab0 h) (ab0 c) (not m)):Int) λf=>cond (c !=0) (vl (A1 (ak9 (Vo b a i) c)) λd=>cond (c !=0) (vl (am7 (Vo b a i) c) λe=>cond (not (ptI (A1 (n+d)))) (j 2 (NC b a i) (A1 (n+d)) e f true z l) (cond (ltI 256 c) (j 3 (NC b a i) (A1 (n+d)) e f true z l) (cond (ltN e (Nat.add l.length 1)) (cond (p7 l.length 100000) (vl (Ni l (ab0 e) (A1 (n+d))) λg=>j 0 (NC b a i) (A1 (n+d)) (A1 (e+1)) f true z g) none) none))) none) none) none) none) none)) none) none) none
theorem Cs9(d:Nat)(rest n i b st z l):evC (XU L) (d+1) W Q 175 [.ptr 0 0 0] [.box [pS rest,.fl 1,pI n,pI i,pI b,pB st],.arr z 3 1 l] s=By3 L rest n i b st z l (λh j e f g a m c=>some (pI h,[.box [pS j,.fl 1,pI e,pI f,pI g,pB a],.arr m 3 1 c],s)):=by refine(evE (fn:=Tryz.f175) (by kernel_rfl)).trans ?_;generalize evC (XU L) d=Y;unfold By3;kernel_rfl
noncomputable abbrev Um:Code:=C6 ai3
noncomputable def Ap(L:Nat):Cfg:=B8 L [164] (A2 [(20,[2,0,1]),(13,[0,1,0,1,0,22,0]),(4,[0,1,0,9,0])]) [(79,GO)] (A2 [(24,[2,0]),(23,[2,0]),(22,[5,2,59]),(21,[5,2]),(20,[5,58]),(19,[2,0]),(18,[5,53]),(17,[5]),(16,[0,4,0,22,0]),(15,[0,4,0,22,0]),(14,[0,4,0,0,21,0]),(13,[0,4,0,22,0,0]),(12,[0,4,0,22,0]),(11,[0,4,0,21]),(10,[0,4,0]),(9,[0,4]),(8,[0,12,0]),(7,[2,0]),(6,[0,12,0,5]),(5,[0,3,8,0]),(4,[0,12,0,0]),(3,[0,12,0]),(2,[2,0]),(1,[0,10]),(0,[0])]) [79] (A2 [(4,[5]),(5,[5]),(2,[0,4,0]),(3,[0,4,0,22,0]),(0,[0]),(1,[0,12,0])]) (some [2,0]) [(175,GN)] [] [175] (nt:=[(165,1,3,1)])
noncomputable def Ns{R:Type}(L n:Nat)(b:By)(e a:Int)(c:Unit->Option R)(d:By->Option R):Option R:=match n with|0=>none|n+1=>cond (ltI a e) (cond (inR a b.length) (cond (not (ltI (bAt b a) (128:Int))) (c ()) (Ns L n b e (A1 (a+1)) c d)) none) (d b)
theorem Be5(n a n1 n2):D0 0 ((Ap L).keep 4) (bd (Ap L) Y Q (cd [1,1,0,1,0,0] Um)) n ⟨gp [(0,pS a),(12,pI n1),(0,pI n2)] 59,[],s⟩ k =
 Ns L n a n1 n2 (λ_=>k .ret ⟨gp [(2,.fl 0),(0,pI (4:Int))] 70,[.arr true 3 1 []],s⟩) (λa=>k (.exit 0) ⟨gp [(0,pS a)] 73,[],s⟩):=by
 induction n generalizing a n1 n2 with
 | zero=>rfl
 | succ n b=>rw[Ns];simp only[<-b];kernel_rfl
noncomputable def Jw{R:Type}(L n:Nat)(c:By)(a b:Int)(d:LL)(e:By->Int->LL->Option R):Option R:=match n with|0=>none|n+1=>cond (ltI b a) (cond (inR b c.length) (cond (G2 (d.length+1)) (Jw L n c a (A1 (b+1)) (d++[[(SV.int .i64 (A1 (bAt c b)))]]) e) none) none) (e c a d)
theorem Be6(n b a n2 l3):D0 2 ((Ap L).keep 13) (bd (Ap L) Y Q (cd [1,1,1,1,0,1,1,0,0,1,0,0] Um)) n ⟨gp [(0,pS b),(4,.ptr 1 0 0),(0,pI a),(22,pI a),(0,pI n2)] 43,[.arr true 3 1 l3,.box [pS b,.fl 0,pI (128:Int),pI (0:Int),pI (72:Int),pB false]],s⟩ k =
 Jw L n b a n2 l3 (λb a d=>k (.exit 2) ⟨gp [(0,pS b),(4,.ptr 1 0 0),(0,pI a)] 67,[.arr true 3 1 d,.box [pS b,.fl 0,pI (128:Int),pI (0:Int),pI (72:Int),pB false]],s⟩):=by
 induction n generalizing b a n2 l3 with
 | zero=>rfl
 | succ n c=>rw[Jw];simp only[<-c];kernel_rfl
noncomputable def U3{R:Type}(L n:Nat)(b:LL)(a:By)(c d e:Int)(f:Bool)(i:Int->LL->By->Int->Int->Int->Bool->Option R)(j:LL->By->Int->Int->Int->Bool->Option R):Option R:=match n with|0=>none|n+1=>cond (not (a==[])) (cond (A3 a.length) (cond (ltN e 1000000) (cond (ltN d 1099511627777) (cond (ltN c 1152921504606846976) (cond (p7 b.length 100000) (vl ((F8 (DS.mk a c d e f b))).1 λh=>vl (DS.l ((F8 (DS.mk a c d e f b))).2) λg=>cond (h !=0) (i h g (DS.rest ((F8 (DS.mk a c d e f b))).2) (DS.n ((F8 (DS.mk a c d e f b))).2) (DS.i ((F8 (DS.mk a c d e f b))).2) (DS.b ((F8 (DS.mk a c d e f b))).2) (DS.st ((F8 (DS.mk a c d e f b))).2)) (U3 L n g (DS.rest ((F8 (DS.mk a c d e f b))).2) (DS.n ((F8 (DS.mk a c d e f b))).2) (DS.i ((F8 (DS.mk a c d e f b))).2) (DS.b ((F8 (DS.mk a c d e f b))).2) (DS.st ((F8 (DS.mk a c d e f b))).2) i j)) none) none) none) none) none) (j b a c d e f)
theorem NM(n d f e a b c):D0 2 ((Ap L).keep 20) (bd (Ap L) Y Q (cd [1,1,1,1,1,1,0,0,0] Um)) n ⟨gp [(5,.ptr 1 0 0)] 68,[.arr true 3 1 d,.box [pS f,.fl 0,pI e,pI a,pI b,pB c]],s⟩ k =
 U3 L n d f e a b c (λn0 i l a b j g=>k .ret ⟨gp [(2,.fl 2),(0,pI n0)] 70,[.arr true 3 1 i,.box [pS l,.fl 0,pI a,pI b,pI j,pB g],.arr true 3 1 []],s⟩) (λd f e a b c=>k (.exit 4) ⟨gp [(5,.ptr 1 0 0)] 68,[.arr true 3 1 d,.box [pS f,.fl 0,pI e,pI a,pI b,pB c]],s⟩):=by
 induction n generalizing d f e a b c with
 | zero=>rfl
 | succ n h=>rw[U3];simp only[<-h];kernel_rfl
noncomputable def Yw{R:Type}(L:Nat)(M:By)(N:Int->Option R)(K:Int->LL->By->Int->Int->Int->Bool->Option R)(O:LL->By->Int->Int->Int->Bool->Option R):Option R:=cond (ltI 1024 (M.length:Int)) (N 3) (Ns L L M (M.length:Int) 0 (λ_=>N 4) (λa=>cond (A3 a.length) (vl (L3 (u8n (45:Int)) a) λC=>cond (ltI 0 C) (Jw L L a C 0 [] (λb h c=>vl (A1 (h+1)) λD=>cond (I9 D (b.length:Int) b.length) (vl (cut b D (b.length:Int)) λJ=>cond (ltI 256 (c.length:Int)) (K 3 c J 128 0 72 false) (U3 L L c J 128 0 72 false (λn i F o p q d=>K n i F o p q d) (λj G r t u e=>O j G r t u e))) none)) (U3 L L [] a 128 0 72 false (λv l H w x y f=>K v l H w x y f) (λm I z A B g=>O m I z A B g))) none))
theorem Dk6(d:Nat)(s0):evC (Ap L) (d+1) W Q 164 [pS s0] [] s=Yw L s0 (λg=>some (.tup [.fl 0,pI g],[.arr true 3 1 []],s)) (λg o v e f r m=>some (.tup [.fl 2,pI g],[.arr true 3 1 o,.box [pS v,.fl 0,pI e,pI f,pI r,pB m],.arr true 3 1 []],s)) (λn u q e f l=>some (.tup [.fl 0,pI (0:Int)],[.arr true 3 1 n,.box [pS u,.fl 0,pI q,pI e,pI f,pB l]],s)):=by refine(evE (fn:=ai3) (by kernel_rfl)).trans ?_;generalize evC (Ap L) d=Y;unfold Yw;exact let i:=(E1 4 (E0 (Ap L) Y Q (cd [1,1,1,1,1,1,1] Um) (F3 (Ap L) ai3)));(j2 (by kernel_rfl) (A0 rfl ((Be5 L Y Q s (E1 0 (E0 (Ap L) Y Q (cd [1,1,1] Um) (F3 (Ap L) ai3))) L s0 (s0.length:Int) 0).trans (congr (congr rfl (by kernel_rfl)) (fx1 λa=>(j2 (by kernel_rfl) (A0 (A4 λc=>(A0 ((Be6 L Y Q s (E1 2 (E0 (Ap L) Y Q (cd [1,1,1,1,0,1,1,0,1] Um) (E0 (Ap L) Y Q (cd [1,1,1,1,1] Um) (F3 (Ap L) ai3)))) L a c 0 []).trans (congr rfl (fx3 λt j b=>(j2 (by kernel_rfl) (A4 λp=>(A0 (A4 λh=>(A0 rfl ((NM L Y Q s i L b h 128 0 72 false).trans (by kernel_rfl)))) rfl)))))) ((NM L Y Q s i L [] a 128 0 72 false).trans (by kernel_rfl)))) rfl)))))))
noncomputable abbrev Ai9:Code:=C6 al6
noncomputable def Hp(L:Nat):Cfg:=B8 L [102] (A2 [(2,[0,0,2,0])]) [] (A2 [(6,[4]),(3,[0,0,3]),(5,[4]),(4,[0,0,3,11]),(2,[0,0,3,4]),(1,[0,0,3]),(0,[0,0])]) [] (A2 [(0,[]),(1,[0,0,3])]) (some [4]) [] [] []
noncomputable def Du{R:Type}(L n:Nat)(b:By)(c a:Int)(d:Int->Option R)(e:Unit->Option R):Option R:=match n with|0=>none|n+1=>cond (not (ltI a 0)) (cond (inR a b.length) (cond ((bAt b a)==c) (d a) (Du L n b c (A1 (a-1)) d e)) none) (e ())
theorem ZJ(n s0 c1 i2):D0 0 ((Hp L).keep 2) (bd (Hp L) Y Q (cd [1,0,1,0,0] Ai9)) n ⟨gp [(0,pS s0),(0,p8 c1),(3,pI i2)] 13,[],s⟩ k =
 Du L n s0 c1 i2 (λn0=>k .ret ⟨gp [(4,pI n0)] 14,[],s⟩) (λ_=>k (.exit 0) ⟨gp [] 19,[],s⟩):=by
 induction n generalizing s0 c1 i2 with
 | zero=>rfl
 | succ n a=>rw[Du];simp only[<-a];kernel_rfl
noncomputable def ZI{R:Type}(L:Nat)(d:By)(e:Int)(c:Int->Option R):Option R:=vl (A1 ((d.length:Int)-1)) λa=>Du L L d e a (λb=>c b) (λ_=>c (-1))
theorem B92(d:Nat)(s0 c1):evC (Hp L) (d+1) W Q 102 [pS s0,p8 c1] [] s=ZI L s0 c1 (λb=>some (pI b,[],s)):=by refine(evE (fn:=al6) (by kernel_rfl)).trans ?_;generalize evC (Hp L) d=Y;unfold ZI;exact(j2 (by kernel_rfl) (A4 λa=>((ZJ L Y Q s (E1 0 (E0 (Hp L) Y Q (cd [1,1] Ai9) (F3 (Hp L) al6))) L s0 c1 a).trans (by kernel_rfl))))
noncomputable def XY(L:Nat):Cfg:=B8 L [79] (A2 []) [(102,Ah2)] (A2 [(1,[4]),(0,[0,0])]) [102] (A2 []) (some [4]) [] [] []
noncomputable def Bz6{R:Type}(L:Nat)(b:By)(a:Int)(c:Int->Option R):Option R:=cond (A3 b.length) (cond (inR a 256) (c (L3 (u8n a) b)) none) none
theorem Cw0(d:Nat)(s0 c1):evC (XY L) (d+1) W Q 79 [pS s0,p8 c1] [] s=Bz6 L s0 c1 (λa=>some (pI a,[],s)):=by refine(evE (fn:=Tryz.f79) (by kernel_rfl)).trans ?_;generalize evC (XY L) d=Y;unfold Bz6;kernel_rfl
end
theorem Gu(c:UInt8):-1<=E5 c/\E5 c<=35:=by unfold E5 Pi;grind
theorem Om(k b:Int):1<=M0 k b/\M0 k b<=26:=by unfold M0;omega
theorem Eb{x w:Int}(b:0<=x)(c:x<=35)(a:0<=w)(w1:w<=1099511627776):0<=x*w/\x*w<=38482906972160:=by refine⟨ak8 b a,?_⟩;have:=Int.mul_le_mul c w1 a (show(0:Int)<=35 by omega);omega
theorem Xg(b:Int):∀(s:By) (i w k:Int),0<=i->0<=w->w<=1099511627776->(V0 b s i w k).1=0->i<=(V0 b s i w k).2.2/\(V0 b s i w k).2.2<=1099511627776/\(V0 b s i w k).2.1.length<s.length
 | [],i,w,k,_,_,_,h=>by simp[V0] at h
 | c::r,i,w,k,m,d,a,h=>by
  have l:=Gu c;have o:=Om k b;unfold V0 at h ⊢;split at h
  ·simp at h
  ·rename_i e;rw[if_neg e];have n:=Eb (by omega) l.2 d a;split at h
   ·simp at h
   ·rename_i f;rw[if_neg f];split at h
    ·grind
    ·rename_i g;rw[if_neg g];split at h
     ·omega
     ·rename_i j;rw[if_neg j];obtain⟨p,q,t⟩:=Xg b r (i+E5 c*w) (w*(36-M0 k b)) (k+36) (by omega) (ak8 d (by omega)) (by omega) h;grind
theorem B66(f:Int)(b:Int)(g z:Bool)(l:LL)(M:0<=b)(N:b<1000000):∀(s:By) (n:Nat) (i w k:Int),s.length<n->s.length<=1000000000->0<=i->i<=1099511627776->0<=w->w<=1099511627776->0<=k->k+36*s.length<=100000000000->
  ∃H,∀(R:Type) (a:Int->By->Int->Int->Int->Bool->Bool->LL->Int->Option R),Gb LF n w s f i b g z l k a=a (V0 b s i w k).1 (V0 b s i w k).2.1 f (V0 b s i w k).2.2 b g z l H:=by
 intro s
 induction s with
 | nil=>
  intro n i w k K L O B G h P o;obtain⟨n,rfl⟩:∃m,n=m+1:=⟨n-1,by omega⟩
  refine⟨k,λR a=>?_⟩;rw[Gb];rfl
 | cons c r T=>
  intro n i w k K L O B G h P o;obtain⟨n,rfl⟩:∃m,n=m+1:=⟨n-1,by omega⟩
  rw[j5] at K L o;have S:=Gu c;have V:=Om k b;have Q:u8n (bAt (c::r) 0)=c:=by unfold u8n bAt;simp
  have C:inR (bAt (c::r) 0) 256=true:=by rw[Ay];have:=c.toNat_lt;exact K7 (by omega) (by simp;omega)
  have j:cut (c::r) 1 ((c::r).length:Int)=r:=by
   have:=Fz (c::r) 1 (c::r).length;grind
  have F:((c::r)==([]:By))=false:=rfl;have start:∀(R:Type) (a:Int->By->Int->Int->Int->Bool->Bool->LL->Int->Option R),Gb LF (n+1) w (c::r) f i b g z l k a =
    cond (ltI (E5 c) 0) (a 4 (c::r) f i b g z l k)
     (vl (A1 (i+(A1 (E5 c*w)))) λd=>cond (ltI 1099511627776 d) (a 19 r f d b g z l k)
      (cond (ltI (E5 c) (M0 k b)) (a 0 r f d b g z l (ag7 k 36))
       (vl (A1 (36-(M0 k b))) λp=>cond (ltI 1099511627776 (A1 (w*p))) (a 19 r f d b g z l (ag7 k 36)) (Gb LF n (A1 (w*p)) r f d b g z l (ag7 k 36) a)))):=by
   intro R a;rw[Gb];rw[F,C,K7 (by omega) (by rw[j5];omega),Aw (by omega) (by rw[j5];omega) (by omega),j,Q,N0,N0];rfl
  unfold V0;by_cases u:E5 c<0
  ·rw[if_pos u];refine⟨k,λR a=>?_⟩;rw[start,B9 u];rfl
  ·rw[if_neg u];have U:=Eb (by omega) S.2 G h;have q:A1 (E5 c*w)=E5 c*w:=A7;have t:A1 (i+E5 c*w)=i+E5 c*w:=A7;by_cases v:1099511627776<i+E5 c*w
   ·rw[if_pos v];refine⟨k,λR a=>?_⟩;rw[start,A6,q,t];simp only[vl,cond_false];rw[B9 v];rfl
   ·rw[if_neg v];by_cases y:E5 c<M0 k b
    ·rw[if_pos y];refine⟨ag7 k 36,λR a=>?_⟩;rw[start,A6,q,t];simp only[vl,cond_false];rw[A6,B9 y];rfl
    ·rw[if_neg y];have I:A1 (36-M0 k b)=36-M0 k b:=A7;have D:=Eb (x:=36-M0 k b) (by omega) (by omega) G h;rw[Int.mul_comm] at D;have J:A1 (w*(36-M0 k b))=w*(36-M0 k b):=A7;by_cases A:1099511627776<w*(36-M0 k b)
     ·rw[if_pos A];refine⟨ag7 k 36,λR a=>?_⟩;rw[start,A6,q,t];simp only[vl,cond_false];rw[A6,A6,I,J,B9 A];rfl
     ·rw[if_neg A];obtain⟨H,e⟩:=T n (i+E5 c*w) (w*(36-M0 k b)) (k+36) (by omega) (by omega) (by omega) (by omega) (by omega) (by omega) (by omega) (by omega);refine⟨H,λR a=>?_⟩;rw[start,A6,q,t];simp only[vl,cond_false];rw[A6,A6,I,J,A6];exact e R a
theorem B67(a:By)(n i b:Int)(f z:Bool)(l:LL)(h:A3 a.length=true)(j:ltN b 1000000=true)(k:ltN i 1099511627777=true) :
  ∃c,∀(R:Type) (d:Int->By->Int->Int->Int->Bool->Bool->LL->Int->Option R),Dz9 LF a n i b f z l d=d (NA b a i) (NC b a i) n (Vo b a i) b f z l c:=by
 have q:=L4 h;obtain⟨g,p⟩:=E2.1 j;obtain⟨o,r⟩:=E2.1 k;have m:=C5;obtain⟨c,e⟩:=B66 n b f z l g (by omega) a LF i 1 0 (by omega) (by omega) o (by omega) (by omega) (by omega) (by omega) (by omega);exact⟨c,λR d=>e R _⟩
theorem A82{R:Type}{j:Int->By->Int->Int->Int->Bool->Bool->LL->Option R}(a:By)(n i b:Int)(d z:Bool)(l:LL)(y:A3 a.length=true)(C:ltN b 1000000=true)(g:ltN i 1099511627777=true)(D:ltN n 1152921504606846976=true)(h:p7 l.length 100000=true) :
  By3 LF a n i b d z l j=j (F8 ⟨a,n,i,b,d,l⟩).1 (F8 ⟨a,n,i,b,d,l⟩).2.rest (F8 ⟨a,n,i,b,d,l⟩).2.n (F8 ⟨a,n,i,b,d,l⟩).2.i (F8 ⟨a,n,i,b,d,l⟩).2.b (F8 ⟨a,n,i,b,d,l⟩).2.st z (F8 ⟨a,n,i,b,d,l⟩).2.l:=by
 obtain⟨F,P⟩:=E2.1 g;obtain⟨n0,Q⟩:=E2.1 D;have M:=ad0 h;unfold By3 F8;rw[y,C,g];simp only[cond_true];by_cases e:NA b a i=0
 ·rw[if_pos e,e];obtain⟨G,I,S⟩:=Xg b a i 1 0 F (by omega) (by omega) e;have H:i<=Vo b a i:=G;have J:Vo b a i<=1099511627776:=I;have o:A1 ((l.length:Int)+1)=(l.length:Int)+1:=A7;simp only[vl];rw[o];generalize Vo b a i=x at *;have f:0<=x:=by omega
  obtain⟨X,rfl⟩:=aa9 f;have p:A1 ((X:Int)-i)=(X:Int)-i:=A7;have u:((l.length:Int)+1)=((l.length+1:Nat):Int):=rfl;have v:ak9 (X:Int) ((l.length+1:Nat):Int)=((X / (l.length+1):Nat):Int):=N4 _ _;have w:am7 (X:Int) ((l.length+1:Nat):Int)=((X % (l.length+1):Nat):Int):=Cx _ _;have L:=ak6 X (l.length+1);have N:=Nat.mod_lt X (show 0<l.length+1 by omega);rw[p,u,v,w];generalize hA:X / (l.length+1)=A at *;generalize K:X % (l.length+1)=B at *;have q:A1 (A:Int)=(A:Int):=A7;have r:A1 (n+(A:Int))=n+(A:Int):=A7;have t:A1 ((B:Int)+1)=(B:Int)+1:=A7;have k:((0:Int)!=0)=false:=rfl;have m:((((l.length+1:Nat):Int))!=0)=true:=by rw[bne_iff_ne];omega
  rw[q,r,t,k,N0,N0,A9,m];simp only[cond_true,cond_false];cases O:ptI (n+(A:Int)) with
  | false=>simp
  | true=>
   simp only[j8,cond_false,if_true];by_cases c:(256:Int)<((l.length+1:Nat):Int)
   ·rw[if_pos c,B9 c];rfl
   ·rw[if_neg c,A6,cond_false,Tj (by omega) (by show(B:Int)<((l.length+1:Nat):Int);omega),h];rfl
 ·rw[if_neg e,show(NA b a i !=0)=true from bne_iff_ne.2 e];rfl
theorem ML(c:UInt8):∀l:By,-1<=L3 c l
 | []=>by simp[L3]
 | b::r=>by
  have:=ML c r;unfold L3;omega
theorem MM(c b:UInt8):∀l:By,L3 c (l++[b])=if b=c then (l.length:Int) else L3 c l
 | []=>by
  by_cases h:b=c<;>simp[L3,h]
 | a::l=>by
  have d:=MM c b l;rw[ab8,L3,d];by_cases h:b=c
  ·grind
  ·rw[if_neg h,if_neg h];rfl
theorem An5{R:Type}{b:Int->Option R}{d:Unit->Option R}(s:By)(c:UInt8)(l:s.length<=1000000000):∀(m n:Nat),m<=s.length->m<n->
  Du LF n s (c.toNat:Int) ((m:Int)-1) b d=if L3 c (s.take m)<0 then d () else b (L3 c (s.take m)):=by
 intro m
 induction m with
 | zero=>
  intro n g i;obtain⟨n,rfl⟩:∃m,n=m+1:=⟨n-1,by omega⟩
  rw[Du];rw[A9];rfl
 | succ m k=>
  intro n g i;obtain⟨n,rfl⟩:∃m,n=m+1:=⟨n-1,by omega⟩
  rw[Du];have e0:(((m+1:Nat):Int)-1)=(m:Int):=by omega
  have e:A1 ((m:Int)-1)=(m:Int)-1:=A7;have j:s.take (m+1)=s.take m++[s.getD m 0]:=by
   rw[List.take_add_one,w8,ac2 (by omega)];rfl
  rw[e0,e,A6,F2,D4,j,MM];simp only[j9,cond_true];by_cases h:s.getD m 0=c
  ·rw[if_pos h,h,beq_self_eq_true,cond_true,j7,Nat.min_eq_left (by omega),G1]
  ·have a:(((s.getD m 0).toNat:Int)==(c.toNat:Int))=false:=by
    rw[beq_eq_false_iff_ne];intro f;exact h (UInt8.toNat.inj (Int.ofNat.inj f))
   rw[if_neg h,a,cond_false];exact k n (by omega) (by omega)
theorem C69{c:Int}(h:inR c 256=true):c=((u8n c).toNat:Int):=by simp only[inR,o0,decide_eq_true_eq] at h;unfold u8n;simp;omega
theorem An6{R:Type}{a:Int->Option R}(s:By)(c:Int)(e:A3 s.length=true)(f:inR c 256=true):ZI LF s c a=a (L3 (u8n c) s):=by
 have j:=L4 e;have g:=C5;have i:=C69 f;generalize u8n c=d at *;subst i;unfold ZI;have b:A1 ((s.length:Int)-1)=(s.length:Int)-1:=A7;simp only[vl];rw[b];refine j2 (An5 s d (by omega) s.length LF (by omega) (by omega)) ?_;rw[ak0];have:=ML d s;by_cases h:L3 d s<0
 ·rw[if_pos h,show L3 d s=-1 by omega]
 ·rw[if_neg h]
theorem Bb1{R:Type}{a:Int->Option R}(s:By)(c:Int)(b:A3 s.length=true)(d:inR c 256=true):Bz6 LF s c a=a (L3 (u8n c) s):=by unfold Bz6;grind
theorem Qq:∀s:By,(45∈s->L3 45 s=(H5 s:Int))/\(45∉s->L3 45 s=-1/\H5 s=0)
 | []=>⟨λh=>(by cases h),λ_=>⟨rfl,rfl⟩⟩
 | b::r=>by
  obtain⟨a,c⟩:=Qq r;unfold L3 H5;grind
theorem Az6{c:UInt8}(h:Pi c=none):E5 c=-1:=by unfold E5;rw[h]
theorem Az7{c:UInt8}{x:Nat}(h:Pi c=some x):E5 c=x:=by unfold E5;rw[h]
theorem Xh(b:Nat):∀(s:By) (i w k:Nat),V0 (b:Int) s (i:Int) (w:Int) ((36*k:Nat):Int)=((((D9 b s i w k).2.2:Nat):Int),(V0 (b:Int) s (i:Int) (w:Int) ((36*k:Nat):Int)).2)/\
  ((D9 b s i w k).2.2=0->(V0 (b:Int) s (i:Int) (w:Int) ((36*k:Nat):Int)).2=((D9 b s i w k).2.1,((D9 b s i w k).1:Int)))
 | [],i,w,k=>⟨rfl,λh=>by simp[D9] at h⟩
 | c::r,i,w,k=>by
  unfold V0 D9;cases d:Pi c with
  | none=>
   rw[Az6 d,R0];grind
  | some x=>
   rw[Az7 d,G1,AE];have e:(i:Int)+(x:Int)*(w:Int)=((i+x*w:Nat):Int):=by push_cast;rfl
   have n:=X4 k b;have f:(w:Int)*(36-(thr k b:Int))=((w*(36-thr k b):Nat):Int):=by grind
   have g:((36*k:Nat):Int)+36=((36*(k+1):Nat):Int):=by omega
   have a:W8=1099511627776:=by decide
   rw[e,f,g,a];simp only;generalize i+x*w=I;generalize w*(36-thr k b)=W;by_cases j:1099511627776<I
   ·grind
   ·rw[G1,if_neg j];by_cases l:x<thr k b
    ·grind
    ·rw[G1,if_neg l];by_cases m:1099511627776<W
     ·grind
     ·rw[G1,if_neg m];exact Xh b r I W (k+1)
theorem Cv2(l:List Nat)(i n:Nat):Ni (B7 l) i (n:Int)=B7 (W3 l i n):=by unfold Ni W3 B7;simp_all
theorem ZX(b:Nat)(s:By)(i:Nat):NA (b:Int) s (i:Int)=((D9 b s i 1 0).2.2:Int)/\((D9 b s i 1 0).2.2=0->NC (b:Int) s (i:Int)=(D9 b s i 1 0).2.1/\Vo (b:Int) s (i:Int)=((D9 b s i 1 0).1:Int)):=by obtain⟨a,c⟩:=Xh b s i 1 0;have e:V0 (b:Int) s (i:Int) 1 0=V0 (b:Int) s (i:Int) ((1:Nat):Int) ((36*0:Nat):Int):=rfl;unfold NA NC Vo;rw[e];refine⟨by rw[a],λh=>?_⟩;have:=c h;rw[this];exact⟨rfl,rfl⟩
theorem D94(s:By)(a:List Nat)(n i b:Nat)(c:Bool)(h:(D9 b s i 1 0).2.2=0)(q:i<=(D9 b s i 1 0).1)(o:W4 (n+(D9 b s i 1 0).1 / (a.length+1))=true)(p:¬ 256<a.length+1) :
  F8 ⟨s,(n:Int),(i:Int),(b:Int),c,B7 a⟩=(0,⟨(D9 b s i 1 0).2.1,((n+(D9 b s i 1 0).1 / (a.length+1):Nat):Int),(((D9 b s i 1 0).1 % (a.length+1)+1:Nat):Int),((R5 ((D9 b s i 1 0).1-i) (a.length+1) (!c):Nat):Int),true,B7 (W3 a ((D9 b s i 1 0).1 % (a.length+1)) (n+(D9 b s i 1 0).1 / (a.length+1)))⟩):=by
 obtain⟨j,k⟩:=ZX b s i;obtain⟨l,m⟩:=k h;unfold F8;simp only;rw[j,h,if_pos (show((0:Nat):Int)=0 from rfl),l,m,D5];generalize (D9 b s i 1 0).1=X at *;have d:((a.length:Int)+1)=((a.length+1:Nat):Int):=rfl;have e:ak9 (X:Int) ((a.length+1:Nat):Int)=((X / (a.length+1):Nat):Int):=N4 _ _;have f:am7 (X:Int) ((a.length+1:Nat):Int)=((X % (a.length+1):Nat):Int):=Cx _ _;have g:(n:Int)+((X / (a.length+1):Nat):Int)=((n+X / (a.length+1):Nat):Int):=rfl;rw[d,e,f,g,Nt,o,if_pos rfl,G1,j6,Cv2,j6,show((X:Int)-(i:Int)).toNat=X-i by omega];rfl
theorem D00(s:By)(a:List Nat)(n i b:Nat)(f:Bool):((D9 b s i 1 0).2.2≠0->(F8 ⟨s,(n:Int),(i:Int),(b:Int),f,B7 a⟩).1=((D9 b s i 1 0).2.2:Int))/\
  ((D9 b s i 1 0).2.2=0->W4 (n+(D9 b s i 1 0).1 / (a.length+1))=false->(F8 ⟨s,(n:Int),(i:Int),(b:Int),f,B7 a⟩).1=2)/\
  ((D9 b s i 1 0).2.2=0->W4 (n+(D9 b s i 1 0).1 / (a.length+1))=true->256<a.length+1->(F8 ⟨s,(n:Int),(i:Int),(b:Int),f,B7 a⟩).1=3):=by
 obtain⟨c,l⟩:=ZX b s i;have g:(((B7 a).length:Int)+1)=((a.length+1:Nat):Int):=by rw[D5];rfl
 have j:∀X:Nat,ak9 (X:Int) ((a.length+1:Nat):Int)=((X / (a.length+1):Nat):Int):=λX=>N4 _ _
 have k:∀A:Nat,(n:Int)+(A:Int)=((n+A:Nat):Int):=λA=>rfl
 refine⟨λh=>?_,λh e=>?_,λh e o=>?_⟩
 ·unfold F8;simp only;rw[c,G1]
 ·obtain⟨m,d⟩:=l h;unfold F8;simp only;rw[c,h,if_pos (show((0:Nat):Int)=0 from rfl),d,g,j,k,Nt,e,if_neg (by simp)]
 ·obtain⟨m,d⟩:=l h;unfold F8;simp only;rw[c,h,if_pos (show((0:Nat):Int)=0 from rfl),d,g,j,k,Nt,e,if_pos rfl,R0]
theorem Dp(a:List Nat)(n i b:Nat)(f:Bool):I2 [] a n i b f=(a,0):=by rw[I2];rfl
theorem Hy{s:By}(c:s≠[])(a:List Nat)(n i b:Nat)(f:Bool)(h:(D9 b s i 1 0).2.2≠0):I2 s a n i b f=([],(D9 b s i 1 0).2.2):=by rw[I2,dif_neg c];grind
theorem Ex{s:By}(c:s≠[])(a:List Nat)(n i b:Nat)(f:Bool)(h:(D9 b s i 1 0).2.2=0):I2 s a n i b f =
  if W4 (n+(D9 b s i 1 0).1 / (a.length+1)) then (if 256<a.length+1 then ([],3) else I2 (D9 b s i 1 0).2.1 (W3 a ((D9 b s i 1 0).1 % (a.length+1)) (n+(D9 b s i 1 0).1 / (a.length+1))) (n+(D9 b s i 1 0).1 / (a.length+1)) ((D9 b s i 1 0).1 % (a.length+1)+1) (R5 ((D9 b s i 1 0).1-i) (a.length+1) f) false) else ([],2):=by
 rw[I2,dif_neg c];simp only;rw[dif_pos h]
theorem Bu(l:List Nat)(i n:Nat):(W3 l i n).length=l.length+1:=by unfold W3;grind
theorem Cc8:∀(r:Nat) (s:By) (a:List Nat) (n i b f:Nat) (c:Bool),s.length<=r->r<f->s.length<=1000000->a.length<=256->n<=1114111->i<=1000->b<=500->
  ((I2 s a n i b (!c)).2=0->∃u t q p j,∀(R:Type) (d:Int->LL->By->Int->Int->Int->Bool->Option R) (g:LL->By->Int->Int->Int->Bool->Option R),U3 LF f (B7 a) s (n:Int) (i:Int) (b:Int) c d g=g (B7 (I2 s a n i b (!c)).1) u t q p j)/\
  ((I2 s a n i b (!c)).2≠0->(I2 s a n i b (!c)).1=[]/\∃l u t q p j,∀(R:Type) (d:Int->LL->By->Int->Int->Int->Bool->Option R) (g:LL->By->Int->Int->Int->Bool->Option R),U3 LF f (B7 a) s (n:Int) (i:Int) (b:Int) c d g=d ((I2 s a n i b (!c)).2:Nat) l u t q p j):=by
 intro r
 induction r with
 | zero=>
  intro s a n i b f c h K _ _ _ _ _;obtain⟨f,rfl⟩:∃m,f=m+1:=⟨f-1,by omega⟩
  have v:s=[]:=k9.1 (by omega);subst v;rw[Dp];refine⟨λ_=>⟨[],n,i,b,c,λR d g=>?_⟩,λh=>absurd rfl h⟩;rw[U3];rfl
 | succ r L=>
  intro s a n i b f c h K X Y Z h4 h5;obtain⟨f,rfl⟩:∃m,f=m+1:=⟨f-1,by omega⟩
  by_cases v:s=[]
  ·subst v;rw[Dp];refine⟨λ_=>⟨[],n,i,b,c,λR d g=>?_⟩,λh=>absurd rfl h⟩;rw[U3];rfl
  ·have start:∀(R:Type) (d:Int->LL->By->Int->Int->Int->Bool->Option R) (g:LL->By->Int->Int->Int->Bool->Option R),U3 LF (f+1) (B7 a) s (n:Int) (i:Int) (b:Int) c d g =
     cond ((F8 ⟨s,n,i,b,c,B7 a⟩).1 !=0) (d (F8 ⟨s,n,i,b,c,B7 a⟩).1 (F8 ⟨s,n,i,b,c,B7 a⟩).2.l (F8 ⟨s,n,i,b,c,B7 a⟩).2.rest (F8 ⟨s,n,i,b,c,B7 a⟩).2.n (F8 ⟨s,n,i,b,c,B7 a⟩).2.i (F8 ⟨s,n,i,b,c,B7 a⟩).2.b (F8 ⟨s,n,i,b,c,B7 a⟩).2.st)
      (U3 LF f (F8 ⟨s,n,i,b,c,B7 a⟩).2.l (F8 ⟨s,n,i,b,c,B7 a⟩).2.rest (F8 ⟨s,n,i,b,c,B7 a⟩).2.n (F8 ⟨s,n,i,b,c,B7 a⟩).2.i (F8 ⟨s,n,i,b,c,B7 a⟩).2.b (F8 ⟨s,n,i,b,c,B7 a⟩).2.st d g):=by
    intro R d g;rw[U3];rw[show(s==([]:By))=false from beq_eq_false_iff_ne.2 v,J9,N0,N0,N0,D5,ac9 (show a.length<=100000 by omega)];rfl
   obtain⟨G,H,I⟩:=D00 s a n i b c;have o:=D94 s a n i b c;generalize F8 ⟨s,n,i,b,c,B7 a⟩=D at *;by_cases k:(D9 b s i 1 0).2.2=0
   ·rw[Ex v a n i b (!c) k];obtain⟨M,N⟩:=ZX b s i;obtain⟨O,P⟩:=N k;have J:NA (b:Int) s (i:Int)=0:=by rw[M,k];rfl
    obtain⟨U,V,W⟩:=Xg b s i 1 0 (by omega) (by omega) (by omega) J;have A:(i:Int)<=Vo (b:Int) s (i:Int):=U;have B:Vo (b:Int) s (i:Int)<=1099511627776:=V;have C:(NC (b:Int) s (i:Int)).length<s.length:=W;rw[P] at A B;rw[O] at C;cases x:W4 (n+(D9 b s i 1 0).1 / (a.length+1)) with
    | false=>
     rw[if_neg (by simp)];refine⟨λh=>by simp at h,λ_=>⟨rfl,D.2.l,D.2.rest,D.2.n,D.2.i,D.2.b,D.2.st,λR d g=>?_⟩⟩
     ·rw[start,H k x];rfl
    | true=>
     rw[if_pos rfl];by_cases w:256<a.length+1
     ·rw[if_pos w];refine⟨λh=>by simp at h,λ_=>⟨rfl,D.2.l,D.2.rest,D.2.n,D.2.i,D.2.b,D.2.st,λR d g=>?_⟩⟩;rw[start,I k x w];rfl
     ·rw[if_neg w];have o:=o k (by omega) x w;have z:n+(D9 b s i 1 0).1 / (a.length+1)<=1114111:=by
       unfold W4 at x;simp_all
      have F:=Nat.mod_lt (D9 b s i 1 0).1 (show 0<a.length+1 by omega);have y:=Pu ((D9 b s i 1 0).1-i) (a.length+1) (!c) (by omega);have:=L (D9 b s i 1 0).2.1 (W3 a ((D9 b s i 1 0).1 % (a.length+1)) (n+(D9 b s i 1 0).1 / (a.length+1))) (n+(D9 b s i 1 0).1 / (a.length+1)) ((D9 b s i 1 0).1 % (a.length+1)+1) (R5 ((D9 b s i 1 0).1-i) (a.length+1) (!c)) f true (by omega) (by omega) (by omega) (by rw[Bu];omega) z (by omega) y;obtain⟨Q,S⟩:=this;refine⟨λh=>?_,λh=>?_⟩
      ·obtain⟨u,t,q,p,j,e⟩:=Q h;refine⟨u,t,q,p,j,λR d g=>?_⟩;rw[start,o];exact e R d g
      ·obtain⟨T,l,u,t,q,p,j,e⟩:=S h;refine⟨T,l,u,t,q,p,j,λR d g=>?_⟩;rw[start,o];exact e R d g
   ·rw[Hy v a n i b (!c) k];refine⟨λh=>absurd h k,λ_=>⟨rfl,D.2.l,D.2.rest,D.2.n,D.2.i,D.2.b,D.2.st,λR d g=>?_⟩⟩;rw[start,G k,show(((D9 b s i 1 0).2.2:Int)!=0)=true by rw[bne_iff_ne];omega];rfl
theorem Ec(l:List Nat):No l=B7 l:=rfl
theorem Be3{R:Type}{k0:Unit->Option R}{k1:By->Option R}(s:By)(f:s.length<=1000000):∀(r i n:Nat),i+r=s.length->r<n->
  Ns LF n s (s.length:Int) (i:Int) k0 k1=if (s.drop i).any (λb=>p7 128 b.toNat) then k0 () else k1 s:=by
 intro r
 induction r with
 | zero=>
  intro i n c d;obtain⟨n,rfl⟩:∃m,n=m+1:=⟨n-1,by omega⟩
  rw[Ns];rw[A6,o6 (by omega)];rfl
 | succ r e=>
  intro i n c d;obtain⟨n,rfl⟩:∃m,n=m+1:=⟨n-1,by omega⟩
  rw[Ns];have a:A1 ((i:Int)+1)=((i+1:Nat):Int):=by rw[A7];rfl
  rw[A9,F2,D4,D6 s i (by omega),a,ai7];simp only[cond_true];generalize s.getD i 0=b;by_cases h:128<=b.toNat
  ·rw[A6,ac9 h];rfl
  ·have:p7 128 b.toNat=false:=by rw[w9,ne_eq,x4];exact h
   rw[A9,this,ae4];exact e (i+1) n (by omega) (by omega)
theorem Cc7{R:Type}{k0:By->Int->LL->Option R}(s:By)(q:s.length<=1000000)(k:Nat)(p:k<=s.length):∀(r i n:Nat) (l:List Nat),i+r=k->r<n->l.length=i->
  Jw LF n s (k:Int) (i:Int) (B7 l) k0=k0 s (k:Int) (B7 (l++((s.take k).drop i).map (·.toNat))):=by
 intro r
 induction r with
 | zero=>
  intro i n l f h g;obtain⟨n,rfl⟩:∃m,n=m+1:=⟨n-1,by omega⟩
  rw[Jw];rw[A6,o6 (by rw[j7];omega)];simp
 | succ r j=>
  intro i n l f h g;obtain⟨n,rfl⟩:∃m,n=m+1:=⟨n-1,by omega⟩
  rw[Jw];have c:A1 ((i:Int)+1)=((i+1:Nat):Int):=by rw[A7];rfl
  have e:(s.take k).drop i=s.getD i 0::(s.take k).drop (i+1):=by
   rw[D6 (s.take k) i (by rw[j7];omega)]
   congr 1
   rw[w8,w8,aa7 (by omega)]
  rw[A9,F2,D4,e,D5,F9 (by omega),c];simp only[cond_true];generalize s.getD i 0=b;have o:=b.toNat_lt;have d:A1 (b.toNat:Int)=(b.toNat:Int):=A7;have a:B7 l++[[SV.int .i64 (A1 (b.toNat:Int))]]=B7 (l++[b.toNat]):=by rw[d,Lr];rfl
  rw[a,j (i+1) n _ (by omega) (by omega) (by simp;omega)];simp
theorem Qr:∀s:By,H5 s<=s.length-1
 | []=>by simp[H5]
 | b::r=>by
  have:=Qr r;unfold H5;grind
theorem Be4(s:By)(M:A3 s.length=true):(∃e,O8 s=([],e)/\∀(R:Type) (k0:Int->Option R) (k1:Int->LL->By->Int->Int->Int->Bool->Option R) (a:LL->By->Int->Int->Int->Bool->Option R),Yw LF s k0 k1 a=k0 (e:Nat))\/
  (∃e l k j i f c,O8 s=([],e)/\∀(R:Type) (k0:Int->Option R) (k1:Int->LL->By->Int->Int->Int->Bool->Option R) (a:LL->By->Int->Int->Int->Bool->Option R),Yw LF s k0 k1 a=k1 (e:Nat) l k j i f c)\/
  ((O8 s).2=0/\∃k j i f c,∀(R:Type) (k0:Int->Option R) (k1:Int->LL->By->Int->Int->Int->Bool->Option R) (a:LL->By->Int->Int->Int->Bool->Option R),Yw LF s k0 k1 a=a (B7 (O8 s).1) k j i f c):=by
 have N:=C5;unfold O8;by_cases C:1024<s.length
 ·rw[if_pos C];refine .inl ⟨3,rfl,λR k0 k1 a=>?_⟩;unfold Yw;rw[A9];rfl
 ·rw[if_neg C];have r:=λ(R:Type) (G:Unit->Option R) (H:By->Option R)=>Be3 (k0:=G) (k1:=H) s (by omega) s.length 0 LF (by omega) (by omega)
  rw[v7] at r;cases A:s.any (λb=>p7 128 b.toNat) with
  | true=>
   rw[if_pos rfl];refine .inl ⟨4,rfl,λR k0 k1 a=>?_⟩;unfold Yw;rw[A6,cond_false];refine j2 (r R _ _) ?_;rw[A,if_pos rfl];rfl
  | false=>
   rw[if_neg (by simp)];obtain⟨I,J⟩:=Qq s;have O:=Qr s;have key:∀(d:List Nat) (t:By),d.length<=256->t.length<=1024->(∀(R:Type) (k0:Int->Option R) (k1:Int->LL->By->Int->Int->Int->Bool->Option R) (a:LL->By->Int->Int->Int->Bool->Option R),Yw LF s k0 k1 a=U3 LF LF (B7 d) t 128 0 72 false k1 a)->
     (∃e l k j i f c,I2 t d 128 0 72 true=([],e)/\∀(R:Type) (k0:Int->Option R) (k1:Int->LL->By->Int->Int->Int->Bool->Option R) (a:LL->By->Int->Int->Int->Bool->Option R),Yw LF s k0 k1 a=k1 (e:Nat) l k j i f c)\/
     ((I2 t d 128 0 72 true).2=0/\∃k j i f c,∀(R:Type) (k0:Int->Option R) (k1:Int->LL->By->Int->Int->Int->Bool->Option R) (a:LL->By->Int->Int->Int->Bool->Option R),Yw LF s k0 k1 a=a (B7 (I2 t d 128 0 72 true).1) k j i f c):=by
    intro d t P V B;obtain⟨D,F⟩:=Cc8 t.length t d 128 0 72 LF false (aa0 _) (by omega) (by omega) P (by omega) (by omega) (by omega);rw[j9] at D F;by_cases w:(I2 t d 128 0 72 true).2=0
    ·obtain⟨k,j,i,f,c,e⟩:=D w;exact .inr ⟨w,k,j,i,f,c,λR k0 k1 a=>by rw[B];exact e R k1 a⟩
    ·obtain⟨S,l,k,j,i,f,c,e⟩:=F w;exact .inl ⟨_,l,k,j,i,f,c,Prod.ext S rfl,λR k0 k1 a=>by rw[B];exact e R k1 a⟩
   have Q:u8n 45=45:=rfl;have top:∀(R:Type) (k0:Int->Option R) (k1:Int->LL->By->Int->Int->Int->Bool->Option R) (a:LL->By->Int->Int->Int->Bool->Option R),Yw LF s k0 k1 a =
     cond (ltI 0 (L3 45 s)) (Jw LF LF s (L3 45 s) 0 [] (λn x u=>cond (I9 (A1 (x+1)) (n.length:Int) n.length)
      (vl (cut n (A1 (x+1)) (n.length:Int)) λy=>cond (ltI 256 (u.length:Int)) (k1 3 u y 128 0 72 false) (U3 LF LF u y 128 0 72 false k1 a)) none))
      (U3 LF LF [] s 128 0 72 false k1 a):=by
    intro R k0 k1 a;unfold Yw;rw[A6,cond_false];refine j2 (r R _ _) ?_;rw[A,if_neg (by simp),M,Q];rfl
   by_cases T:0<H5 s
   ·have v:45∈s:=by
     apply af5;intro h;have:=(J h).2;omega
    have z:=I v;generalize H5 s=m at *;have g:=λ(R:Type) (K:By->Int->LL->Option R)=>Cc7 (k0:=K) s (by omega) m (by omega) m 0 LF [] (by omega) (by omega) rfl
    rw[v7] at g;have L:A1 ((m:Int)+1)=((m+1:Nat):Int):=by rw[A7];rfl
    have p:((s.take m).map (·.toNat)).length=m:=by rw[w6,j7];omega
    have q:∀(R:Type) (k0:Int->Option R) (k1:Int->LL->By->Int->Int->Int->Bool->Option R) (a:LL->By->Int->Int->Int->Bool->Option R),Yw LF s k0 k1 a =
      cond (ltI 256 (m:Int)) (k1 3 (B7 ((s.take m).map (·.toNat))) (s.drop (m+1)) 128 0 72 false) (U3 LF LF (B7 ((s.take m).map (·.toNat))) (s.drop (m+1)) 128 0 72 false k1 a):=by
     intro R k0 k1 a;rw[top,z,A9,cond_true];refine j2 (g R _) ?_;rw[L,I4,Fz,ak0,aa4,D5,p];rfl
    by_cases o:256<m
    ·rw[if_pos o];refine .inr (.inl ⟨3,B7 ((s.take m).map (·.toNat)),s.drop (m+1),128,0,72,false,rfl,λR k0 k1 a=>?_⟩);rw[q,A9];rfl
    ·rw[if_neg o,if_neg (show ¬m=0 by omega)];exact .inr (key _ (s.drop (m+1)) (by rw[p];omega) (by rw[b9];omega) (λR k0 k1 a=>by rw[q,A6];rfl))
   ·have w:H5 s=0:=by omega
    have z:¬ 0<L3 45 s:=by
     by_cases U:45∈s;all_goals grind
    rw[w,G1,if_pos rfl];refine .inr (key [] s (by simp) (by omega) (λR k0 k1 a=>?_));rw[top,A6];rfl
theorem Yp(l:List Nat):(B7 l).isEmpty=l.isEmpty:=by cases l<;>rfl
theorem Dk7(s:By)(k:A3 s.length=true):∃r H,Yw LF s (λf=>rv (.tup [.fl 0,.s (.int .i64 f)]) [.arr true 3 1 []]) (λf o w c d t j=>rv (.tup [.fl 2,.s (.int .i64 f)]) [.arr true 3 1 o,.box [.s (.str w),.fl 0,.s (.int .i64 c),.s (.int .i64 d),.s (.int .i64 t),.s (.bool j)],.arr true 3 1 []]) (λn v q c d i=>rv (.tup [.fl 0,.s (.int .i64 (0:Int))]) [.arr true 3 1 n,.box [.s (.str v),.fl 0,.s (.int .i64 q),.s (.int .i64 c),.s (.int .i64 d),.s (.bool i)]])=rv r H/\
  r.stab [1,0] H = .tup [.s (.sl (O8 s).1.isEmpty (O8 s).1.isEmpty 1 (No (O8 s).1)),.s (.int .i64 ((O8 s).2:Nat))]:=by
 rcases Be4 s k with⟨e,a,b⟩|⟨e,l,u,p,m,h,g,a,b⟩|⟨a,u,p,m,h,g,b⟩
 ·refine⟨_,_,b _ _ _ _,?_⟩;rw[a];rfl
 ·refine⟨_,_,b _ _ _ _,?_⟩;rw[a];rfl
 ·refine⟨_,_,b _ _ _ _,?_⟩;rw[a,Ec];simp[PV.stab,Qi,Sz,PV.snap,N5,Yp]
section
theorem D81:EK p4 GX 177 UO:=by
 refine Gv (C₀:=BZ LF) (Wo (lx:=[(168,IY),(179,A21)]) (ly:=[(176,Rq)]) (ls:=[]) rfl rfl rfl ⟨Da0,D63,trivial⟩ ⟨B50,trivial⟩ trivial) (J1 rfl (by kernel_rfl)) follows ?_;intro args H ret j h;unfold UO at h;split at h
 ·rename_i a n i b c z l;obtain⟨d,h⟩:=C7 h;obtain⟨e,h⟩:=C7 h;obtain⟨f,h⟩:=C7 h;obtain⟨rfl,rfl⟩:=J6 h;obtain⟨k,e0⟩:=B67 a n i b c z l d e f;exact⟨rfl,rfl,λm g s=>⟨1,_,(De9 LF g s 0 a n i b c z l).trans (e0 _ _),rfl⟩⟩
 ·cases h
theorem C91:B4 p4 GX 102 Ah2:=xf [] (Hp LF) AU rfl trivial rfl (by kernel_rfl) follows λargs=>by
 unfold AU;split
 ·rename_i s c;exact λa=>λb=>⟨rfl,rfl,rfl,_,_,(B92 LF noY () 0 s c).trans (An6 s c a b),rfl⟩
 ·trivial
theorem B43:B4 p4 GX 79 GO:=xf [] (XY LF) IN rfl ⟨C91,trivial⟩ rfl (by kernel_rfl) follows λargs=>by
 unfold IN;split
 ·rename_i s c;exact λa=>λb=>⟨rfl,rfl,rfl,_,_,(Cw0 LF noY () 0 s c).trans (Bb1 s c a b),rfl⟩
 ·trivial
end
end
section
open Go Go.Proofs Go.Sort
set_option maxRecDepth 100000
theorem OL{C:Cfg}{W:Type}{I:W->(Nat->Prop)->(Nat->Prop)->World->Prop}(J:HI I){f:Ctx}{u:Nat->Prop}{w w':World}{z v1:Bool}{E o r:Nat}{l l' m:LL}{s:W}(g cap:Nat)(H:List Value)(i:Array Value)
  (P:Nc C E=false) (j:HR f [.arr z E 1 l,.arr v1 o r m] w) (K:I s f.St u w) (M:∀b g,f.nm b=some g->¬u g)
  (d:f.nm 0=some g\/g=w.heap.size) (O:g<w'.heap.size) (e:∀k,k<w.heap.size->f.nm 0≠some k->w'.heap[k]? = w.heap[k]?) (p:w.heap.size<=w'.heap.size) (R:w'.os=w.os) (S:w'.tape=w.tape) (T:w'.output=w.output)
  (n:w'.heap[g]? = some (.cells i E (0,0))) (Y:Els f.St w' 1 l' H) (D:l'≠[]) (t:∀q,q<H.length->i[q]? = H[q]?) (Z:H.length<=i.size) (B:l'.length<=cap) (hm:cap<=maxLen) (L:i.size=cap) :
  Ev C I f [.arr z E 1 l,.arr v1 o r m] w u (.fl 0) [.arr z E 1 l',.arr v1 o r m] s (.slice (some ⟨g,0,none⟩) l'.length cap) w':=by
 have x:0<[Blk.arr z E 1 l,.arr v1 o r m].length:=by simp
 have G:(f.re 0 (some g)).nm 0=some g:=by simp[Ctx.re]
 have F:¬Kn C (A5 [Blk.arr z E 1 l,.arr v1 o r m] 0):=by simp[A5,Blk.shp,Kn,P]
 have a:([Blk.arr z E 1 l,.arr v1 o r m].map (Blk.kill 0)).set 0 (.arr z E 1 l')=[.arr z E 1 l',.arr v1 o r m]:=rfl;have N:¬f.St g:=by
  rcases d with h|h
  ·exact(j.lt 0 g h).2.2
  ·intro hs;have:=j.stlt g hs;omega
 obtain⟨U,V,q3⟩:=Ac0 (C:=C) (y:=.arr z E 1 l') (ng:=some g) (w':=w') j x F (λk a=>by
   simp only[j4] at a;subst a;refine⟨O,N,λc t A=>?_⟩;rcases d with h|h
   ·exact t (j.inj c 0 _ A h)
   ·have:=(j.lt c _ A).2.1;omega)
  (λk a=>by
   simp only[j4] at a;subst a;rcases d with h|h
   ·exact .inl h
   ·exact .inr (by omega)) e p R S T
  (BR.els G n Y (by rintro⟨_,h⟩;exact D h) t Z) rfl
 rw[a] at U V;refine⟨_,u,U.lift u,V,?_,λc t=>?_,?_,λb X v=>?_⟩
 ·refine .fl 0 g z E 1 l'.length cap rfl (λ_ h=>D (k9.1 h)) G B hm ?_;simp only[ah1,n,L,ab5]
 ·simp only[PV.nms,y9] at t;subst t;simp
 ·refine J.mono s f.St u w f.St w' K (λ_ h=>h) (λk a Q=>(J.foot _ _ _ _ K k Q).2 a) (λk a=>ai8 (j.stlt k a) p) (λk a=>?_) p R S T;rcases a with a|a
  ·exact e k (j.stlt k a) (λh=>(j.lt 0 k h).2.2 a)
  ·exact e k (J.foot _ _ _ _ K k a).1 (λh=>M 0 k h a)
 ·simp only[Ctx.re] at v;split at v
  ·simp only[j4] at v;subst v;rcases d with h|h
   ·exact M 0 _ h
   ·intro Q;have:=(J.foot _ _ _ _ K _ Q).1;omega
  ·exact M b X v
theorem Cw{w:World}{g o e:Nat}{vs:List Value}{a:Array Value}(c:w.heap[g]? = some (.cells a e (0,0)))(f:o+vs.length<=a.size)(l:∀v∈vs,v.oneCell'=true) :
  (w.setCells g o vs).heap[g]? = some (.cells (G4 a.toList o vs).toArray e (0,0))/\(∀k,k≠g->(w.setCells g o vs).heap[k]? = w.heap[k]?)/\(w.setCells g o vs).heap.size=w.heap.size/\(w.setCells g o vs).os=w.os/\(w.setCells g o vs).tape=w.tape/\(w.setCells g o vs).output=w.output:=by
 obtain⟨w',i,m,n,p,q,t,u,_⟩:=L0 (P:=p4) (o:=o) c f l;have b:∀j,j<vs.length->∃v,w.cell? ⟨g,o+0+j,none⟩=some v:=λj d=>by
  refine⟨a[o+j]'(by omega),?_⟩;simp[ai1,c,af4 (show o+j<a.size by omega)]
 have r:=run_storeCells_cells (P:=p4) g o vs 0 w (λj d=>by obtain⟨v,h⟩:=b j d;rw[h];rfl) (λj d=>by simp[ag2,c]) l;rw[r] at i;simp only[am6,Result.ok.injEq,true_and] at i;rw[i];exact⟨m,n,p,q,t,u⟩
theorem MH{St:Nat->Prop}{w:World}{l:LL}{d:List Value}{i:Nat}{n:Int}(h:Els St w 1 l d)(q:i<=l.length):Els St w 1 (Ni l i n) (d.take i++p5 .i64 n::d.drop i):=by
 have c:=h.1;rw[ab5] at c;have m:Els St w 1 (l.take i) (d.take i):=by
  refine⟨by rw[j7,j7,c,ab5],λj f=>?_⟩;rw[j7] at f;rw[List.getElem_take];obtain⟨a,b⟩:=h.2 j (by omega);refine⟨a,λk g=>?_⟩;obtain⟨U,e,v⟩:=b k g;exact⟨U,by rw[aa7 (by omega)];exact e,v⟩
 have o:Els St w 1 [[SV.int .i64 n]] [p5 .i64 n]:=by
  refine⟨rfl,λj f=>?_⟩;have:j=0:=by simpa using f
  subst this;refine⟨rfl,λk g=>?_⟩;have:k=0:=by simpa using g
  subst this;exact⟨_,rfl,.int _ _⟩
 have p:Els St w 1 (l.drop i) (d.drop i):=by
  refine⟨by rw[b9,b9,c,ab5],λj f=>?_⟩;rw[b9] at f;rw[List.getElem_drop];obtain⟨a,b⟩:=h.2 (i+j) (by omega);refine⟨a,λk g=>?_⟩;obtain⟨U,e,v⟩:=b k g;exact⟨U,by rw[List.getElem?_drop];rw[show i+(j*1+k)=(i+j)*1+k by omega];exact e,v⟩
 have:=(m.append o).append p;unfold Ni;simpa using this
theorem MI(l:LL)(i:Nat)(n:Int)(h:i<=l.length):(Ni l i n).length=l.length+1:=by unfold Ni;rw[o7,j5,j7,b9];omega
theorem ZL(l:LL)(i:Nat)(n:Int):Ni l i n≠[]:=by unfold Ni;simp
theorem D83:EK p4 GX 178 WZ:=by
 intro C hP hG σ I yh yv hI hy args H s ret Hc G Γ Φ w Vs f9 hH hg hi hd hc hn;unfold WZ at G;split at G
 ·rename_i i z l d;obtain⟨h0,G⟩:=C7 G;obtain⟨h1,G⟩:=C7 G;obtain⟨rfl,rfl⟩:=J6 G;obtain⟨i0,i1⟩:=E2.1 h0;obtain⟨i,rfl⟩:=aa9 i0;have hl:=ad0 h1;have X:i<=l.length:=by
   have:(i:Int)<((l.length+1:Nat):Int):=i1;omega
  obtain⟨S,X0,V,rfl,hs,hx,hv⟩:=hc.arr3;obtain rfl:=hx.inv_int;have b7:Nc C 3=false:=by
   unfold Nc Cfg.sh;rw[hP];kernel_rfl
  obtain⟨g1,c8,n1,n2,n3,n4,n5⟩:=hH.arr' (b:=1) rfl (by simp);have f3:∃cap,V = .slice (some ⟨g1,0,none⟩) 1 cap:=by
   cases hv with
   | flv _ e sz h=>simp[A5,Blk.shp] at h
   | fl _ g v e sz n cap h e6 y R hm e4=>
    rw[n1] at y;simp only[j4] at y;subst y;simp only[A5,ae0,ac4,y7,Blk.shp,j4,Shp.arr.injEq] at h;obtain⟨_,_,_,h4⟩:=h;subst h4;exact⟨cap,rfl⟩
  obtain⟨A,rfl⟩:=f3;obtain⟨V1,p1,p2⟩:=n5 0 (by simp) 0 (by simp);have p3:V1 = .int .i64 d:=by cases p2;rfl
  subst p3;have t:∀j v,[p5 .i64 d][j]? = some v->w.cell? ⟨g1,0+j,none⟩=some v:=by
   intro j v x;have:j=0:=by
    have:=(af6.1 x).1;simpa using this
   subst this;simp only[ac4,j4] at x;subst x;simpa[ai1,n2] using p1
  have M:∀v∈[p5 .i64 d],v.oneCell'=true:=by simp[Value.oneCell']
  rw[j6];refine Tp (fn:=Tryz.f178) (by kernel_rfl) (by kernel_rfl) (by kernel_rfl) ?_;have B:∀(base:Option Addr) (c:Nat) (f:List Value),l.length<=c->c<l.length+1->f.length=l.length->(base=none->l.length=0)->(∀a,base=some a->∀j v,f[j]? = some v->w.cell? (a.add j)=some v)->Els Γ.St w 1 l f->
    Calls p4 178 #[.slice base l.length c,.int .i64 (l.length:Int),.slice (some ⟨g1,0,none⟩) 1 A] w λe w'=>∃V,e = .returned V/\Ev C I Γ [.arr z 3 1 l,.arr false 3 1 [[SV.int .i64 d]]] w Φ (.fl 0) [.arr z 3 1 (Ni l l.length d),.arr false 3 1 [[SV.int .i64 d]]] s V w':=by
   intro base c f a1 a2 a3 a4 a5 a6;refine(Any2.slices_Insert_int_end_grow Tryz.lays2_21 base l.length c g1 0 1 A f [.int .i64 d] w (by omega) a1 a2 (by omega) a3 rfl a4 a5 t M).mono ?_;rintro e w' ⟨rfl,rfl⟩;refine⟨_,rfl,?_⟩;obtain⟨T,b6⟩:=Js (w:=w) (need:=l.length+1) (cap:=c) (e:=3) (by omega);have hE:=MH (n:=d) a6 (aa0 l.length);have d0:f.take l.length++p5 .i64 d::f.drop l.length=f++[p5 .i64 d]:=by
    rw[ae3 (by omega),o6 (by omega)]
   rw[d0] at hE;have r:=MI l l.length d (aa0 _);obtain⟨r1,r2⟩:=CW (olds:=f) (Vs:=[p5 .i64 d]) (z:=(p5 .i64 0).cells) (k:=grownCap w (l.length+1) c 3) (n:=l.length) (m:=1) (size:=1) rfl (by omega) rfl T;have c0:(f.toArray++[p5 .i64 d].toArray)=(f++[p5 .i64 d]).toArray:=by simp
   rw[c0] at r1 r2;have key:∀(row:Array Value) (O:Nat),row.size=O->(∀q,q<(f++[p5 .i64 d]).length->row[q]? = (f++[p5 .i64 d])[q]?)->l.length+1<=O->O<=maxLen->
     Ev C I Γ [.arr z 3 1 l,.arr false 3 1 [[SV.int .i64 d]]] w Φ (.fl 0) [.arr z 3 1 (Ni l l.length d),.arr false 3 1 [[SV.int .i64 d]]] s (.slice (some ⟨w.heap.size,0,none⟩) (l.length+1) O) (w.drew.alloc (.cells row 3)):=by
    intro row O b1 b2 b3 b4;have D:(w.drew.alloc (.cells row 3)).heap=w.heap.push (.cells row 3):=rfl;have:=OL (C:=C) (w':=w.drew.alloc (.cells row 3)) (l':=Ni l l.length d) hI w.heap.size O (f++[p5 .i64 d]) row b7 hH hi hd (.inr rfl) (by rw[D];simp) (λk N _=>I8 D N) (by rw[D];simp) rfl rfl rfl (I7 D) (hE.mono (λg hg=>I8 D (hH.stlt g hg)) (λ_ h=>h)) (ZL _ _ _) b2 (by rw[b1,o7,o5];omega) (by rw[r];exact b3) b4 b1;rw[r] at this;exact this
   exact key _ _ (r1.trans (ab5 _)) r2 T b6
  have f7:∀(row:Array Value) (f:List Value),f.length=l.length->i<l.length->l.length+1<=row.size->(∀q,q<i->row[q]? = f[q]?)->
    ∀q,q<(f.take i++p5 .i64 d::f.drop i).length->(G4 (G4 row.toList i [p5 .i64 d]) (i+1) (f.drop i)).toArray[q]? = (f.take i++p5 .i64 d::f.drop i)[q]?:=by
   intro row f a1 a2 a3 a4 q hq;have f1:q<l.length+1:=by
    rw[o7,j5,j7,b9] at hq;omega
   have ht:(f.take i).length=i:=by rw[j7];omega
   have Y:row.toList.length=row.size:=ab2;simp only[ac8];rw[O5 _ _ _ (by rw[D8,b9,Y];omega),O5 _ _ _ (by rw[o5,Y];omega)];by_cases h1:q<i
   ·rw[G1,G1,ad4 (by omega),aa7 h1];simpa using a4 q h1
   ·by_cases h2:q=i
    ·subst h2;rw[G1,if_pos (by rw[o5];omega),aa2 (by omega),ht,aj6];rfl
    ·rw[if_pos (by rw[b9];omega),aa2 (by omega),ht,show q-i=(q-(i+1))+1 by omega,ae0]
  have P:∀(g c:Nat) (f:List Value),i<l.length->l.length<=c->c<l.length+1->f.length=l.length->(∀j v,f[j]? = some v->w.cell? ⟨g,0+j,none⟩=some v)->(∀v∈f,v.oneCell'=true)->Els Γ.St w 1 l f->
    Calls p4 178 #[.slice (some ⟨g,0,none⟩) l.length c,.int .i64 (i:Int),.slice (some ⟨g1,0,none⟩) 1 A] w λe w'=>∃V,e = .returned V/\Ev C I Γ [.arr z 3 1 l,.arr false 3 1 [[SV.int .i64 d]]] w Φ (.fl 0) [.arr z 3 1 (Ni l i d),.arr false 3 1 [[SV.int .i64 d]]] s V w':=by
   intro g c f W a1 a2 a3 a4 a5 a6;refine(Any2.slices_Insert_int_grow Tryz.lays2_21 g 0 l.length c i g1 0 1 A f [.int .i64 d] w W (by omega) a1 a2 (by omega) a3 rfl a4 t a5 M).mono ?_;rintro e w' ⟨rfl,rfl⟩;refine⟨_,rfl,?_⟩;obtain⟨T,b6⟩:=Js (w:=w) (need:=l.length+1) (cap:=c) (e:=3) (by omega);have hE:=MH (n:=d) a6 X;have r:=MI l i d X;have key:∀(row:Array Value) (O:Nat),row.size=O->(∀q,q<i->row[q]? = f[q]?)->l.length+1<=O->O<=maxLen->
     Ev C I Γ [.arr z 3 1 l,.arr false 3 1 [[SV.int .i64 d]]] w Φ (.fl 0) [.arr z 3 1 (Ni l i d),.arr false 3 1 [[SV.int .i64 d]]] s (.slice (some ⟨w.heap.size,0,none⟩) (l.length+1) O) (((w.alloc (.cells row 3)).drew.setCells w.heap.size i [p5 .i64 d]).drew.setCells w.heap.size (i+1) (f.drop i)):=by
    intro row O b1 b2 b3 b4;have D:(w.alloc (.cells row 3)).drew.heap=w.heap.push (.cells row 3):=rfl;obtain⟨c1,c2,c3,c4,c5,c6⟩:=Cw (w:=(w.alloc (.cells row 3)).drew) (o:=i) (vs:=[p5 .i64 d]) (I7 D) (by rw[o5];omega) M;generalize f4:(w.alloc (.cells row 3)).drew.setCells w.heap.size i [p5 .i64 d]=w1 at *;have Q:(G4 row.toList i [p5 .i64 d]).toArray.size=O:=by rw[x5,D8];simpa using b1
    obtain⟨d1,d2,d3,d4,d5,d6⟩:=Cw (w:=w1.drew) (o:=i+1) (vs:=f.drop i) c1 (by rw[Q,b9];omega) (λv hv=>a5 v (z7 hv));have a9:∀k,k<w.heap.size->(w1.drew.setCells w.heap.size (i+1) (f.drop i)).heap[k]? = w.heap[k]?:=λk N=>by
     rw[d2 k (by omega)];exact(c2 k (by omega)).trans (I8 D N)
    have e5:(w1.drew.setCells w.heap.size (i+1) (f.drop i)).heap.size=w.heap.size+1:=by
     rw[d3];show w1.heap.size=_;rw[c3,D];simp
    have:=OL (C:=C) (w':=w1.drew.setCells w.heap.size (i+1) (f.drop i)) (l':=Ni l i d) hI w.heap.size O (f.take i++p5 .i64 d::f.drop i) _ b7 hH hi hd (.inr rfl) (by rw[e5];omega) (λk N _=>a9 k N) (by rw[e5];omega) (d4.trans c4) (d5.trans c5) (d6.trans c6) d1 (hE.mono (λg hg=>a9 g (hH.stlt g hg)) (λ_ h=>h)) (ZL _ _ _) (f7 row f a3 W (by omega) b2) (by rw[x5,D8,o7,j5,j7,b9];simp only[x5,D8] at Q ⊢;omega) (by rw[r];exact b3) b4 (by rw[x5,D8];simpa using Q);rw[r] at this;exact this
   have f5:(p5 .i64 0).cells.size=1:=rfl;have ht:(f.take i).length=i:=by rw[j7];omega
   refine key _ _ ?_ (λq hq=>?_) T b6
   ·simp only[ai9,x5,size_zeroCells,f5,ab5,ht];have:l.length+1<=grownCap w (l.length+1) c 3:=T;show i+(l.length+1-i)+(grownCap w (l.length+1) c 3-(l.length+1))=grownCap w (l.length+1) c 3;omega
   ·rw[af1 (by simp only[ai9,x5,ht];omega),af1 (by simp only[x5,ht];omega),ac8,aa7 hq]
  have e7:∀(row:Array Value) (f:List Value),f.length=l.length->i<l.length->l.length+1<=row.size->(∀q,q<i->row[q]? = f[q]?)->
    ∀q,q<(f.take i++p5 .i64 d::f.drop i).length->(G4 (G4 row.toList (i+1) (f.drop i)) i [p5 .i64 d]).toArray[q]? = (f.take i++p5 .i64 d::f.drop i)[q]?:=by
   intro row f a1 a2 a3 a4 q hq;have f1:q<l.length+1:=by
    rw[o7,j5,j7,b9] at hq;omega
   have ht:(f.take i).length=i:=by rw[j7];omega
   have Y:row.toList.length=row.size:=ab2;simp only[ac8];rw[O5 _ _ _ (by rw[D8,o5,Y];omega),O5 _ _ _ (by rw[b9,Y];omega)];by_cases h1:q<i
   ·rw[G1,G1,ad4 (by omega),aa7 h1];simpa using a4 q h1
   ·by_cases h2:q=i
    ·subst h2;rw[if_pos (by rw[o5];omega),aa2 (by omega),ht,aj6];rfl
    ·rw[if_neg (by rw[o5];omega),if_pos (by rw[b9];omega),aa2 (by omega),ht,show q-i=(q-(i+1))+1 by omega,ae0]
  cases hs with
  | flv _ e2 f6 h'=>
   simp only[A5,ac4,y7,Blk.shp,j4,Shp.arr.injEq] at h';obtain⟨q1,q2,q3,h4⟩:=h';obtain rfl:=k9.1 h4;obtain rfl:i=0:=by simpa using X
   exact B none 0 [] (by simp) (by simp) rfl (λ_=>rfl) (λa h=>by cases h) ⟨rfl,λj x=>by simp at x⟩
  | fl _ g z' e2 f6 n' cap h' e6 y R hm e4=>
   simp only[A5,ac4,y7,Blk.shp,j4,Shp.arr.injEq] at h';obtain⟨rfl,rfl,rfl,rfl⟩:=h';have f0:¬(z=true/\l=[]):=by rintro⟨q1,q2⟩;exact e6 q1 (by rw[q2];rfl)
   obtain⟨g',p,d8,hh,c7,K,d7⟩:=hH.arr' (b:=0) rfl f0;obtain rfl:g=g':=by
    rw[y] at d8;exact y8 d8
   have c9:p.size=cap:=by
    have:=e4;simp only[ah1,hh,j4,al5,true_and,ab5] at this;exact this
   rw[ab5] at c7;have hO:Els Γ.St w 1 l (p.toList.take l.length):=by
    refine⟨by rw[j7,ab2 (xs:=p)];omega,λj x=>⟨K j x,λk N=>?_⟩⟩;obtain⟨U,e1,u⟩:=d7 j x k N;refine⟨U,?_,u⟩;have f8:k<1:=by rw[<-K j x];exact N
    rw[ad8,R0];simpa using e1
   have F:(p.toList.take l.length).length=l.length:=by rw[j7,ab2 (xs:=p)];omega
   have J:∀j v,(p.toList.take l.length)[j]? = some v->w.cell? ⟨g,0+j,none⟩=some v:=by
    intro j v x;have a0:j<l.length:=by
     have:=(af6.1 x).1;omega
    rw[ad8,if_pos a0] at x;simpa[ai1,hh] using x
   have b0:∀v∈p.toList.take l.length,v.oneCell'=true:=by
    intro v hv;obtain⟨j,x,rfl⟩:=List.getElem_of_mem hv;have a0:j<l.length:=by omega
    obtain⟨_,u⟩:=hO.2 j a0;obtain⟨U,e1,u2⟩:=u 0 (by rw[K j a0];exact Nat.one_pos);rw[ab5,am6,ac2 x] at e1;cases e1;exact u2.oneCell
   have r:=MI l i d X;have hE:=MH (n:=d) hO X;have Z:∀j,j<cap->(w.cell? ⟨g,j,none⟩).isSome=true:=by
    intro j x;simp only[ai1,hh];rw[af4 (by omega)];rfl
   have a7:∀j,w.frozen? ⟨g,j,none⟩=false:=λj=>by simp[ag2,hh]
   have e3:g1≠g:=λe=>by
    have:=hH.inj 1 0 g (by rw[<-e];exact n1) y;omega
   have d9:cap<=9223372036854775807:=by
    simp only[maxLen] at hm;omega
   by_cases L:l.length+1<=cap
   ·have key:∀(w':World) (row:List Value),w'.heap[g]? = some (.cells row.toArray 3 (0,0))->(∀k,k≠g->w'.heap[k]? = w.heap[k]?)->w'.heap.size=w.heap.size->w'.os=w.os->w'.tape=w.tape->w'.output=w.output->row.length=cap->
      (∀q,q<((p.toList.take l.length).take i++p5 .i64 d::(p.toList.take l.length).drop i).length->row.toArray[q]? = ((p.toList.take l.length).take i++p5 .i64 d::(p.toList.take l.length).drop i)[q]?)->
      Ev C I Γ [.arr z 3 1 l,.arr false 3 1 [[SV.int .i64 d]]] w Φ (.fl 0) [.arr z 3 1 (Ni l i d),.arr false 3 1 [[SV.int .i64 d]]] s (.slice (some ⟨g,0,none⟩) (l.length+1) cap) w':=by
     intro w' row k1 k2 k3 k4 k5 k6 k7 k8;have e8:¬ Γ.St g:=(hH.lt 0 g y).2.2;have:=OL (C:=C) (w':=w') (l':=Ni l i d) hI g cap ((p.toList.take l.length).take i++p5 .i64 d::(p.toList.take l.length).drop i) row.toArray b7 hH hi hd (.inl y) (by rw[k3];exact(hH.lt 0 g y).2.1) (λk N e9=>k2 k (λe=>e9 (e▸y))) (by omega) k4 k5 k6 k1
      (hE.mono (λk N=>k2 k (λe=>e8 (e▸N))) (λ_ h=>h)) (ZL _ _ _) k8
      (by rw[x5,k7,o7,j5,j7,b9,F];omega) (by rw[r];exact L) hm (by rw[x5,k7])
     rw[r] at this;exact this
    by_cases b5:i=l.length
    ·subst b5;refine(Any2.slices_Insert_int_end_room Tryz.lays2_21 g 0 l.length cap g1 0 1 A [.int .i64 d] w (by omega) L d9 rfl (λj x=>Z _ (by omega)) (λj x=>a7 _) t M).mono ?_;rintro e w' ⟨rfl,rfl⟩;refine⟨_,rfl,?_⟩;obtain⟨c1,c2,c3,c4,c5,c6⟩:=Cw (w:=w) (o:=0+l.length) (vs:=[p5 .i64 d]) hh (by rw[o5];omega) M;refine key _ _ c1 c2 c3 c4 c5 c6 (by rw[D8];simpa using c9) (λq hq=>?_);rw[ae3 (by omega),o6 (by omega)] at hq ⊢;rw[o7,F,o5] at hq;simp only[ac8];rw[O5 _ _ _ (by rw[o5,ab2 (xs:=p)];omega)];by_cases f2:q<l.length
     ·rw[G1,ad4 (by omega),ad8,if_pos f2]
     ·obtain rfl:q=l.length:=by omega
      rw[if_pos (by rw[o5];omega),aa2 (by omega),F];simp
    ·have W:i<l.length:=by omega
     refine(Any2.slices_Insert_int_shift Tryz.lays2_21 g 0 l.length cap i g1 0 1 A (p.toList.take l.length) [.int .i64 d] w W (by omega) L d9 e3 F rfl J (λj x=>Z _ (by omega)) (λj x=>a7 _) t b0 M 3 3 c8.size p.size (by simp[ah1,n2]) (by simp[ah1,hh]) (by omega) (by simp[ag2,n2]) (by simp[ag2,n2])).mono ?_;rintro e w' ⟨rfl,rfl⟩;refine⟨_,rfl,?_⟩;obtain⟨c1,c2,c3,c4,c5,c6⟩:=Cw (w:=w.drew) (o:=0+(i+1)) (vs:=(p.toList.take l.length).drop i) hh (by rw[b9,F];omega) (λv hv=>b0 v (z7 hv));generalize f4:w.drew.setCells g (0+(i+1)) ((p.toList.take l.length).drop i)=w1 at *;have Q:(G4 p.toList (0+(i+1)) ((p.toList.take l.length).drop i)).toArray.size=cap:=by rw[x5,D8];simpa using c9
     obtain⟨d1,d2,d3,d4,d5,d6⟩:=Cw (w:=w1) (o:=0+i) (vs:=[p5 .i64 d]) c1 (by rw[Q,o5];omega) M;refine key _ _ d1 (λk N=>(d2 k N).trans (c2 k N)) (d3.trans c3) (d4.trans c4) (d5.trans c5) (d6.trans c6) (by rw[D8];simpa using Q) ?_;rw[ah0,ah0];exact e7 p _ F W (by omega) (λq hq=>by rw[ad8,R0];simp)
   ·by_cases b5:i=l.length
    ·subst b5;exact B (some ⟨g,0,none⟩) cap (p.toList.take l.length) R (by omega) F (λh=>by cases h) (λa h j v x=>by
      obtain rfl:=y8 h;rw[M4];exact J j v x) hO
    ·exact P g cap _ (by omega) R (by omega) F J b0 hO
 ·cases G
end
section
open Go Go.Proofs
set_option maxRecDepth 100000
section
theorem Dv7:EK p4 GX 175 GN:=by
 refine Gv (C₀:=XU LF) (Wo (lx:=[(153,Po),(151,Pp)]) (ly:=[(177,UO),(178,WZ)]) (ls:=[]) rfl rfl rfl ⟨A03,A04,trivial⟩ ⟨D81,D83,trivial⟩ trivial) (J1 rfl (by kernel_rfl)) follows ?_;intro args H ret o h;unfold GN at h;split at h
 ·rename_i a n i b c z l;obtain⟨d,h⟩:=C7 h;obtain⟨f,h⟩:=C7 h;obtain⟨g,h⟩:=C7 h;obtain⟨j,h⟩:=C7 h;obtain⟨k,h⟩:=C7 h;obtain⟨rfl,rfl⟩:=J6 h;refine⟨rfl,rfl,λp m s=>?_⟩;have e:=(Cs9 LF m s 0 a n i b c z l).trans (A82 a n i b c z l d f g j k);exact⟨1,_,e,rfl⟩
 ·cases h
theorem D60:B4 p4 GX 164 Co1:=by
 refine B4.fix (pf:=VU) _ (J3 [1,0] (C₀:=Ap LF) (Wo (lx:=[(79,GO)]) (ly:=[(175,GN)]) (ls:=[]) rfl rfl rfl ⟨B43,trivial⟩ ⟨Dv7,trivial⟩ trivial) (J1 rfl (by kernel_rfl)) follows ?_);intro args ret f h;unfold VU at h;split at h
 ·rename_i s;obtain⟨b,h⟩:=C7 h;obtain⟨rfl,rfl⟩:=J6 h;obtain⟨e,c,a,d⟩:=Dk7 s b;exact⟨rfl,rfl,rfl,1,e,c,(Dk6 LF noY () 0 s).trans a,d⟩
 ·cases h
end
section
variable {W R : Type} (Y : Nat) (J : F6) (Q : Yh W) (s : W) (k : Out -> St W -> Option R)
noncomputable def YB(Y:Nat):Cfg:=B8 Y [142] (A2 []) [] (A2 [(1,[6]),(0,[3,0,0])]) [] (A2 []) (some [6]) [] [] []
noncomputable def Cw6{R:Type}(Y:Nat)(d b:By)(a:Int)(c:By->By->Int->Option R):Option R:=c d b a
theorem Cw7(d:Nat)(a sep1 sepSave2):evC (YB Y) (d+1) W Q 142 [pS a,pS sep1,pI sepSave2] [] s=Cw6 Y a sep1 sepSave2 (λa c b=>some (.fnr (ae9 162) [] [.ptr 1 0 0,.ptr 0 0 0,.ptr 2 0 0],[.box [pS a],.box [pS c],.box [pI b]],s)):=by refine(evE (fn:=Tryz.f142) (by kernel_rfl)).trans ?_;generalize evC (YB Y) d=J;unfold Cw6;kernel_rfl
noncomputable def A63(Y:Nat):Cfg:=B8 Y [116] (A2 []) [(142,VJ)] (A2 [(1,[4]),(0,[0,0])]) [] (A2 []) (some [4]) [] [] []
noncomputable def D31{R:Type}(Y:Nat)(c a:By)(b:By->By->Option R):Option R:=b c a
theorem Dp6(d:Nat)(a sep1):evC (A63 Y) (d+1) W Q 116 [pS a,pS sep1] [] s=D31 Y a sep1 (λa b=>some (.fnr (ae9 162) [] [.ptr 1 0 0,.ptr 0 0 0,.ptr 2 0 0],[.box [pS a],.box [pS b],.box [pI (0:Int)]],s)):=by refine(evE (fn:=Tryz.f116) (by kernel_rfl)).trans ?_;generalize evC (A63 Y) d=J;unfold D31;kernel_rfl
noncomputable abbrev QY:Code:=C6 al3
noncomputable def Qc(Y:Nat):Cfg:=B8 Y [87] (A2 []) [(106,Rp),(116,A30),(117,VM)] (A2 [(7,[2]),(6,[2]),(5,[2,13]),(4,[2,0]),(3,[2,9]),(2,[2]),(1,[0,1,7]),(0,[0,1])]) [106,117] (A2 [(0,[2]),(1,[2])]) (some [2]) [] [(162,GQ)] []
noncomputable def HC{R:Type}(Y:Nat)(a:By)(xs:List By)(self:Unit->Option R)(c:Unit->Option R)(b:Unit->Option R):Option R:=cond (A3 a.length) (cond (not (K6 a)) (b ()) (self ())) none
noncomputable def MF{R:Type}(Y:Nat)(L:List By)(b:Unit->Option R)(c:Unit->Option R):Option R:=Ea6 (α:=Unit->Option R) (λ_=>b ()) (λa xs self _=>HC Y a xs self  b c) L ()
theorem An3{R:Type}(Y:Nat)(a:By)(xs:List By)(b:Unit->Option R)(c:Unit->Option R):MF Y (a::xs)  b c=HC Y a xs (λ_=>MF Y xs  b c)  b c:=rfl
theorem B89(L:List By):Bi #[13] (gp [(2,.ptr 0 0 0),(9,.fnr (ae9 162) [] [.bad,.bad,.bad])] 4) (bd (Qc Y) J Q (cd [1,1,0,1,0,0] QY)) (bd (Qc Y) J Q (cd [1,1,0,1,0,1] QY)) (L.map (λ(a:By)=>([pS a]:List PV))) [.box [pB false],.dead,.dead,.dead] s (rgK (gp [(2,.ptr 0 0 0),(9,.fnr (ae9 162) [] [.bad,.bad,.bad])] 4) (λH=>Bo H [2,1,3] [.box [.bad],.box [.bad],.box [.bad]]) k) =
 MF Y L  (λ_=>k .normal ⟨gp [(2,.ptr 0 0 0),(9,.fnr (ae9 162) [] [.bad,.bad,.bad])] 4,[.box [pB false],.box [.bad],.box [.bad],.box [.bad]],s⟩) (λ_=>k .ret ⟨gp [(2,.ptr 0 0 0),(9,.fnr (ae9 162) [] [.bad,.bad,.bad])] 4,[.box [pB false],.box [.bad],.box [.bad],.box [.bad]],s⟩):=by
 induction L with
 | nil=>rfl
 | cons a xs b=>rw[An3];unfold HC;exact(j2 (by kernel_rfl) (A0 (A0 rfl b) rfl))
noncomputable def ZF{R:Type}(Y:Nat)(a:By)(b:Unit->Option R)(c:Unit->Option R):Option R:=cond ((A3 a.length)&&((1==1)&&((0:Int)==0))) (MF Y (pcs (a8 ([46]:List UInt8) 0 0) a)  b c) none
abbrev An2(b:Code):Prop:=∀(k:Out->St W->Option R) s0,B3 (Qc Y) J Q b ⟨gp [(2,.ptr 0 0 0),(9,.fnr (ae9 162) [] [.ptr 2 0 0,.ptr 1 0 0,.ptr 3 0 0])] 4,[.box [pB false],.box [pS s0],.box [pS ([46]:List UInt8)],.box [pI (0:Int)]],s⟩ k=ZF Y s0 (λ_=>k .normal ⟨gp [(2,.ptr 0 0 0),(9,.fnr (ae9 162) [] [.bad,.bad,.bad])] 4,[.box [pB false],.box [.bad],.box [.bad],.box [.bad]],s⟩) (λ_=>k .ret ⟨gp [(2,.ptr 0 0 0),(9,.fnr (ae9 162) [] [.bad,.bad,.bad])] 4,[.box [pB false],.box [.bad],.box [.bad],.box [.bad]],s⟩)
theorem B88:An2 (R:=R) Y J Q s (cd [1,1,0,1,0] QY):=by intro k a;unfold ZF;exact((D95 [1,1,0,1,0] (by kernel_rfl)).trans (by kernel_rfl)).trans (Bc9 (B89 Y J Q s k (pcs (a8 ([46]:List UInt8) 0 0) a) ))
noncomputable def hvn{R:Type}(Y:Nat)(a:By)(b:Unit->Option R)(c:Bool->Bool->Option R):Option R:=cond (ltI 253 (a.length:Int)) (b ()) (cond (A3 a.length) (cond (F0 a) (b ()) (ZF Y a (λ_=>c true true) (λ_=>c false false))) none)
theorem D03(a:Code)(c:An2 (R:=PV × List Blk × W) Y J Q s a)(b:By):B3 (Qc Y) J Q (cd [] (G6 [1,1,0,1,0] a QY)) ⟨[pS b]++tps 16,[],s⟩ (F3 (Qc Y) al3)=hvn Y b (λ_=>some (pB false,[.box [pB false]],s)) (λe d=>some (pB e,[.box [pB d],.box [.bad],.box [.bad],.box [.bad]],s)):=by unfold hvn;exact(j2 (by kernel_rfl) (A0 rfl (A0 (A0 rfl ((c (E1 0 (E0 (Qc Y) J Q (cd [1,1,1] QY) (F3 (Qc Y) al3))) b).trans (by kernel_rfl))) rfl)))
theorem D04(d:Nat)(name0):evC (Qc Y) (d+1) W Q 87 [pS name0] [] s=hvn Y name0 (λ_=>some (pB false,[.box [pB false]],s)) (λb a=>some (pB b,[.box [pB a],.box [.bad],.box [.bad],.box [.bad]],s)):=
 (evE (fn:=al3) (by kernel_rfl)).trans (j2 (by kernel_rfl) (D03 Y (evC (Qc Y) d) Q s (cd [1,1,0,1,0] QY) (B88 Y (evC (Qc Y) d) Q s) name0))
noncomputable abbrev Wx:Code:=C6 ak3
noncomputable def Be(Y:Nat):Cfg:=B8 Y [162] (A2 [(5,[0,0,0,0]),(1,[0,1])]) [(163,Wq),(149,JV)] (A2 [(10,[]),(9,[0,0,0,0]),(8,[0,0,0,0,3,34]),(7,[0,0,0,0,3,0]),(6,[0,0,0,0,3,25]),(5,[0,0,0,0,3]),(4,[0,1]),(3,[0,1,3,18]),(2,[0,1,3]),(1,[0,1,11]),(0,[0,0,0,0,7])]) [149] (A2 [(2,[0,1]),(3,[0,0,0,0]),(0,[]),(1,[0,1])]) (some []) [] [] []
noncomputable def OQ{W R:Type}(Q:Yh W)(Y n:Nat)(d a:By)(c:Int)(s:W)(b:By->By->Int->W->Option R):Option R:=match n with|0=>none|n+1=>cond (ltI 0 (a.length:Int)) none (b d a c s)
theorem Ay1(n:Nat)(b c:By)(a:Int)(s:W):D0 3 ((Be Y).keep 1) (bd (Be Y) J Q (cd [0,1,0,0,0,0] Wx)) n ⟨gp [(0,.yd),(1,.ptr 1 0 0)] 49,[.box [pS b],.box [pS c],.box [pI a]],s⟩ k =
 OQ Q Y n b c a s (λb c a s=>k (.exit 0) ⟨gp [] 52,[.box [pS b],.box [pS c],.box [pI a]],s⟩):=by
 induction n generalizing b c a s with
 | zero=>rfl
 | succ n d=>rw[OQ];kernel_rfl
noncomputable def U8{W R:Type}(Q:Yh W)(Y n:Nat)(c a:By)(g:Int)(s:W)(i:By->By->Int->W->Option R)(j:By->By->Int->W->Option R):Option R:=match n with
 | 0=>none
 | n+1=>
  cond (A3 a.length)
   (cond (ltI (ab6 a c) (0:Int))
   (i c a g s)
   (vl (A1 ((ab6 a c)+g)) λe=>
    cond (I9 0 e a.length)
    (ydK (Q [pS (cut a 0 e)] s) λd b=>
     (cond (not d)
     (j c a g b)
     (vl (A1 ((ab6 a c)+(c.length:Int))) λf=>
      cond (I9 f (a.length:Int) a.length)
      (vl (cut a f (a.length:Int)) λh=>
       U8 Q Y n c h g b i j)
      none)))
    none))
   none
theorem Ay2(n:Nat)(b c:By)(a:Int)(s:W):D0 3 ((Be Y).keep 5) (bd (Be Y) J Q (cd [1,0,0,0] Wx)) n ⟨gp [(0,.yd),(0,.ptr 0 0 0),(0,.ptr 1 0 0),(0,.ptr 2 0 0)] 48,[.box [pS b],.box [pS c],.box [pI a]],s⟩ k =
 U8 Q Y n b c a s (λb c a s=>k (.exit 2) ⟨gp [(0,.yd),(1,.ptr 1 0 0)] 49,[.box [pS b],.box [pS c],.box [pI a]],s⟩) (λb c a s=>k .ret ⟨gp [] 52,[.box [pS b],.box [pS c],.box [pI a]],s⟩):=by
 induction n generalizing b c a s with
 | zero=>rfl
 | succ n d=>rw[U8];simp only[<-d];kernel_rfl
noncomputable def Ay0{W R:Type}(Q:Yh W)(Y:Nat)(p t:By)(n:Int)(s:W)(j:By->By->Int->W->Option R):Option R:=
 cond ((p.length:Int)==0)
 (OQ Q Y Y p t n s (λm o l q=>j m o l q))
 (U8 Q Y Y p t n s (λr a c e=>ydK (Q [pS a] e) λi b=>
  (j r a c b)) (λf g d h=>j f g d h))
theorem C49(d:Nat)(p t n s):evC (Be Y) (d+1) W Q 162 [.yd,.ptr 0 0 0,.ptr 1 0 0,.ptr 2 0 0] [.box [pS p],.box [pS t],.box [pI n]] s=Ay0 Q Y p t n s (λb c a s=>some (.tup [],[.box [pS b],.box [pS c],.box [pI a]],s)):=by refine(evE (fn:=ak3) (by kernel_rfl)).trans ?_;generalize evC (Be Y) d=J;unfold Ay0;exact(j2 (by kernel_rfl) (A0 ((Ay1 Y J Q (E1 0 (E0 (Be Y) J Q (cd [0,1,0,1] Wx) (E0 (Be Y) J Q (cd [1] Wx) (F3 (Be Y) ak3)))) Y p t n s).trans (by kernel_rfl)) ((Ay2 Y J Q (E1 2 (E0 (Be Y) J Q (cd [1,1] Wx) (F3 (Be Y) ak3))) Y p t n s).trans (by kernel_rfl))))
end
section
variable {W R : Type} (L : Nat) (Q : F6) (Y : Yh W) (s : W) (k : Out -> St W -> Option R)
noncomputable abbrev Ai8:Code:=C6 an1
noncomputable def Ho(L:Nat):Cfg:=B8 L [80] (A2 [(16,[2,0,4,41,0,0])]) [(52,IJ),(103,Bu5),(104,Cn5),(105,Bw7),(106,Rp),(107,Co2),(108,QQ),(109,Cn9),(110,XA)] (A2 [(28,[2,0]),(25,[2,0]),(27,[2,0]),(26,[2,10,64]),(24,[2,10,59]),(23,[2,10]),(22,[2,5,41,0,0]),(21,[2,5,41,0,0]),(20,[2,0]),(19,[2,5,0,1,0,37,0,0,10]),(18,[2,5,0,1,0,37,0,0]),(17,[2,5,0,0,39,0,0]),(16,[2,5,41,0,0,0]),(15,[2,5,41,0,0]),(14,[2,5]),(13,[2,0]),(12,[2,0]),(11,[2,3,37]),(10,[2,3,0]),(9,[2,1,32]),(8,[2,1]),(7,[2,0]),(6,[2,1,27]),(5,[2,1,0]),(2,[2,0]),(4,[2,0]),(3,[0,1,16]),(1,[0,1,11]),(0,[0,1])]) [52,104,105,106,107,109,110] (A2 [(3,[2,10]),(1,[2,5]),(2,[2,5,41,0,0]),(0,[0,1])]) (some [2,0]) [] [] []
noncomputable def U7{R:Type}(L n:Nat)(a:Nat)(i c:Int)(e:LL)(g:Int->LL->Option R)(h:Nat->LL->Option R):Option R:=match n with|0=>none|n+1=>cond (ltI c i) (cond (inR c a) (cond (okE Ol e (0+(ab0 c)) 0) (vl (gX e (0+(ab0 c)) 0) λb=>cond (A3 b.length) (vl (↑((I6 b)).2:Int) λd=>cond (d !=0) (g d e) (cond (inR c a) (cond (decide ((0+(ab0 c))<e.length)) (vl (List.set e (0+(ab0 c)) (G4 (a8 e (0+(ab0 c)) []) 0 [(SV.str ((I6 b)).1)])) λf=>U7 L n a i (A1 (c+1)) f g h) none) none)) none) none) none) (h a e)
theorem ZE(n:Nat)(a:Nat)(d e:Int)(c:LL):D0 2 ((Ho L).keep 16) (bd (Ho L) Q Y (cd [1,1,1,1,1,1,1,0,1,0,0] Ai8)) n ⟨gp [(2,.ptr 0 0 0),(5,.vw 1 0 a),(41,.vw 1 0 a),(0,pI d),(0,pI e)] 31,[.box [pI (0:Int),pS ([]:List UInt8),p32 (0:Int),p16 (0:Int),p16 (0:Int),p16 (0:Int),p16 (0:Int),p16 (0:Int),p16 (0:Int),p16 (0:Int),p16 (0:Int)],.arr false 9 1 c],s⟩ k =
 U7 L n a d e c (λn0 b=>k .ret ⟨gp [(2,.ptr 0 0 0),(0,pI n0)] 80,[.box [pI (0:Int),pS ([]:List UInt8),p32 (0:Int),p16 (0:Int),p16 (0:Int),p16 (0:Int),p16 (0:Int),p16 (0:Int),p16 (0:Int),p16 (0:Int),p16 (0:Int)],.arr false 9 1 b],s⟩) (λa b=>k (.exit 1) ⟨gp [(2,.ptr 0 0 0),(5,.vw 1 0 a)] 75,[.box [pI (0:Int),pS ([]:List UInt8),p32 (0:Int),p16 (0:Int),p16 (0:Int),p16 (0:Int),p16 (0:Int),p16 (0:Int),p16 (0:Int),p16 (0:Int),p16 (0:Int)],.arr false 9 1 b],s⟩):=by
 induction n generalizing a d e c with
 | zero=>rfl
 | succ n f=>rw[U7];simp only[<-f];kernel_rfl
noncomputable def CZ{R:Type}(L:Nat)(a:By)(t:Int->By->Int->Int->Int->Int->Int->Int->Int->Int->Int->Int->Int->By->Int->Int->Int->Int->Int->Int->Int->Int->Int->Option R)(y:Int->By->Int->Int->By->LL->Option R):Option R:=cond (ltI 1024 (a.length:Int)) (t 0 ([]:List UInt8) 0 0 0 0 0 0 0 0 0 3 0 ([]:List UInt8) 0 0 0 0 0 0 0 0 0) (cond (A3 a.length) (cond (x6 ([91]:List UInt8) a) (cond (A3 a.length) (cond (Cv5 a) (vl (↑(B5.kind ((Q9 a)).1):Int) λf=>vl (B5.name ((Q9 a)).1) λr=>vl (↑(B5.v4 ((Q9 a)).1):Int) λg=>vl (↑(a8 (B5.v6 ((Q9 a)).1) 0 0):Int) λh=>vl (↑(a8 (B5.v6 ((Q9 a)).1) 1 0):Int) λi=>vl (↑(a8 (B5.v6 ((Q9 a)).1) 2 0):Int) λj=>vl (↑(a8 (B5.v6 ((Q9 a)).1) 3 0):Int) λl=>vl (↑(a8 (B5.v6 ((Q9 a)).1) 4 0):Int) λm=>vl (↑(a8 (B5.v6 ((Q9 a)).1) 5 0):Int) λn=>vl (↑(a8 (B5.v6 ((Q9 a)).1) 6 0):Int) λo=>vl (↑(a8 (B5.v6 ((Q9 a)).1) 7 0):Int) λp=>vl (↑((Q9 a)).2:Int) λw=>t f r g h i j l m n o p w f r g h i j l m n o p) none) none) (cond (A3 a.length) (cond (not (ad7 (R8 a))) (t 0 ([]:List UInt8) 0 0 0 0 0 0 0 0 0 14 0 ([]:List UInt8) 0 0 0 0 0 0 0 0 0) (cond (A3 (b8 (Gh a))) (vl (Ae5 (Gh a) ([46]:List UInt8)) λb=>cond (A3 b.length) (cond (F0 b) (cond (A3 b.length) (vl (↑(O4 (pnB b)):Int) λq=>cond (not (ad7 (pnB b))) (t 0 ([]:List UInt8) 0 0 0 0 0 0 0 0 0 14 0 ([]:List UInt8) 0 0 0 0 0 0 0 0 0) (t 2 ([]:List UInt8) q 0 0 0 0 0 0 0 0 0 2 ([]:List UInt8) q 0 0 0 0 0 0 0 0)) none) (cond (A3 b.length) (cond (1==1) (vl (D2 (pcs (a8 ([46]:List UInt8) 0 0) b)) λu=>U7 L L (b8 (pcs (a8 ([46]:List UInt8) 0 0) b)) (↑(b8 (pcs (a8 ([46]:List UInt8) 0 0) b)):Int) 0 u (λx v=>y 0 ([]:List UInt8) x 0 ([]:List UInt8) v) (λc d=>cond (aj2 (ai2 c (ad9 0 d)) isS) (cond (A3 (b8 (aa1 (ad2 elS (ai2 c (ad9 0 d))) ([46]:List UInt8)))) (cond (A3 (b8 (ai2 c (ad9 0 d)))) (vl (aa1 (ad2 elS (ai2 c (ad9 0 d))) ([46]:List UInt8)) λe=>cond (ltI 253 (e.length:Int)) (y 0 ([]:List UInt8) 3 0 ([]:List UInt8) d) (cond (A3 e.length) (cond (F0 e) (y 0 ([]:List UInt8) 14 0 ([]:List UInt8) d) (y 1 e 0 1 e d)) none)) none) none) none)) none) none)) none) none)) none)) none)
theorem B84(d:Nat)(raw0):evC (Ho L) (d+1) W Y 80 [pS raw0] [] s=CZ L raw0 (λo p t M N O P S r8 T q r c u e f g h i j l m n=>some (.tup [.agg [pI o,pS p,p32 t,p16 M,p16 N,p16 O,p16 P,p16 S,p16 r8,p16 T,p16 q],pI r],[.box [pI c,pS u,p32 e,p16 f,p16 g,p16 h,p16 i,p16 j,p16 l,p16 m,p16 n]],s)) (λo p t K U J=>some (.tup [.agg [pI o,pS p,p32 (0:Int),p16 (0:Int),p16 (0:Int),p16 (0:Int),p16 (0:Int),p16 (0:Int),p16 (0:Int),p16 (0:Int),p16 (0:Int)],pI t],[.box [pI K,pS U,p32 (0:Int),p16 (0:Int),p16 (0:Int),p16 (0:Int),p16 (0:Int),p16 (0:Int),p16 (0:Int),p16 (0:Int),p16 (0:Int)],.arr false 9 1 J],s)):=by refine(evE (fn:=an1) (by kernel_rfl)).trans ?_;generalize evC (Ho L) d=Q;unfold CZ;exact(j2 (by kernel_rfl) (A0 rfl (A0 (A0 (A0 (A0 (A4 λv=>(A4 λI=>(A4 λw=>(A4 λx=>(A4 λy=>(A4 λz=>(A4 λA=>(A4 λB=>(A4 λC=>(A4 λD=>(A4 λF=>(A4 λG=>rfl)))))))))))) rfl) rfl) (A0 (A0 rfl (A0 (A4 λa=>(A0 (A0 (A0 (A4 λH=>(A0 rfl rfl)) rfl) (A0 (A0 (A4 λb=>((ZE L Q Y s (E1 1 (E0 (Ho L) Q Y (cd [1,1,1,1,1,1,1,1] Ai8) (F3 (Ho L) an1))) L (b8 (pcs (a8 ([46]:List UInt8) 0 0) a)) (↑(b8 (pcs (a8 ([46]:List UInt8) 0 0) a)):Int) 0 b).trans (by kernel_rfl))) rfl) rfl)) rfl)) rfl)) rfl)) rfl)))
noncomputable abbrev Bx2:Code:=C6 am0
noncomputable def Mt(L:Nat):Cfg:=B8 L [143] (A2 [(6,[0,1,0,1,10,0,0])]) [(164,Co1),(132,A20)] (A2 [(13,[2]),(12,[0,3,0,2]),(11,[0,2,1,10,0,0]),(10,[0,2,1,10,0,0]),(9,[2]),(8,[0,2,1,1,8,0,0,8]),(7,[0,2,1,1,8,0,0]),(6,[0,2,1,10,0,0,0]),(5,[0,2,1,10,0,0]),(4,[0,2,1]),(3,[2]),(2,[0,2,11]),(1,[0,2,0]),(0,[0])]) [132] (A2 [(0,[0,2,1]),(1,[0,2,1,10,0,0])]) (some [2]) [] [] []
noncomputable def Z2{R:Type}(L n:Nat)(i:By)(b:Bool)(a:LL)(c:Bool)(h e:Int)(f:Unit->Option R)(g:By->Bool->LL->Bool->Option R):Option R:=match n with|0=>none|n+1=>cond (ltI e h) (cond (inR e a.length) (cond (okE Mh a (ab0 e) 0) (vl (gE a (ab0 e) 0) λd=>cond (not (ltI d 65)) (cond (not (ltI 90 d)) (f ()) (cond c (Z2 L n i b a (ltI d 128) h (A1 (e+1)) f g) (Z2 L n i b a false h (A1 (e+1)) f g))) (cond c (Z2 L n i b a (ltI d 128) h (A1 (e+1)) f g) (Z2 L n i b a false h (A1 (e+1)) f g))) none) none) (g i b a c)
theorem Ao6(n d a b c n4 n5):D0 0 ((Mt L).keep 6) (bd (Mt L) Q Y (cd [1,1,1,1,0,1,0,0] Bx2)) n ⟨gp [(0,pS d),(2,.s (.sl a a 1 b)),(1,pB c),(10,.s (.sl a a 1 b)),(0,pI n4),(0,pI n5)] 31,[],s⟩ k =
 Z2 L n d a b c n4 n5 (λ_=>k .ret ⟨gp [(2,pB false)] 47,[],s⟩) (λd a b c=>k (.exit 0) ⟨gp [(0,pS d),(2,.s (.sl a a 1 b)),(1,pB c)] 44,[],s⟩):=by
 induction n generalizing d a b c n4 n5 with
 | zero=>rfl
 | succ n e=>rw[Z2];simp only[<-e];kernel_rfl
noncomputable def B01{R:Type}(L:Nat)(d:By)(e:Bool->Option R):Option R:=cond (A3 d.length) (cond ((↑((O8 d)).2:Int)!=0) (e false) (Z2 L L d (aj3 ((O8 d)).1) (No ((O8 d)).1) true (↑(b8 (No ((O8 d)).1)):Int) 0 (λ_=>e false) (λg c a b=>cond (aj2 a Pc) (vl ((X8 (ad2 elI a))).1 λh=>vl (↑((X8 (ad2 elI a))).2:Int) λf=>cond (not b) (cond (f==0) (e (h==g)) (e false)) (e false)) none))) none
theorem Cw3(d:Nat)(s0):evC (Mt L) (d+1) W Y 143 [pS s0] [] s=B01 L s0 (λa=>some (pB a,[],s)):=by refine(evE (fn:=am0) (by kernel_rfl)).trans ?_;generalize evC (Mt L) d=Q;unfold B01;exact(j2 (by kernel_rfl) (A0 (A0 rfl ((Ao6 L Q Y s (E1 0 (E0 (Mt L) Q Y (cd [1,1,1,1,1] Bx2) (F3 (Mt L) am0))) L s0 (aj3 ((O8 s0)).1) (No ((O8 s0)).1) true (↑(b8 (No ((O8 s0)).1)):Int) 0).trans (by kernel_rfl))) rfl))
noncomputable abbrev Cq7:Code:=C6 al9
noncomputable def Uv(L:Nat):Cfg:=B8 L [117] (A2 [(4,[0,1,26,0])]) [(50,A10),(143,Bu8)] (A2 [(11,[2]),(10,[5,0]),(9,[0,28,0]),(8,[2]),(7,[0,28,0,28]),(6,[0,3,24,0]),(5,[0,2,25,0]),(4,[0,28,0,0]),(3,[0,28,0]),(2,[2]),(1,[0,26]),(0,[0])]) [50,143] (A2 [(0,[0]),(1,[0,28,0])]) (some [2]) [] [] []
noncomputable def T5{R:Type}(L n:Nat)(b:By)(e a:Int)(c:Unit->Option R)(d:By->Option R):Option R:=match n with|0=>none|n+1=>cond (ltI a e) (cond (inR a b.length) (cond (not (ltI (bAt b a) (97:Int))) (cond (not (not (ltI 122 (bAt b a)))) (cond (not (ltI (bAt b a) (48:Int))) (cond (not (not (ltI 57 (bAt b a)))) (cond ((bAt b a)!=45) (cond ((bAt b a)!=95) (c ()) (T5 L n b e (A1 (a+1)) c d)) (T5 L n b e (A1 (a+1)) c d)) (T5 L n b e (A1 (a+1)) c d)) (cond ((bAt b a)!=45) (cond ((bAt b a)!=95) (c ()) (T5 L n b e (A1 (a+1)) c d)) (T5 L n b e (A1 (a+1)) c d))) (T5 L n b e (A1 (a+1)) c d)) (cond (not (ltI (bAt b a) (48:Int))) (cond (not (not (ltI 57 (bAt b a)))) (cond ((bAt b a)!=45) (cond ((bAt b a)!=95) (c ()) (T5 L n b e (A1 (a+1)) c d)) (T5 L n b e (A1 (a+1)) c d)) (T5 L n b e (A1 (a+1)) c d)) (cond ((bAt b a)!=45) (cond ((bAt b a)!=95) (c ()) (T5 L n b e (A1 (a+1)) c d)) (T5 L n b e (A1 (a+1)) c d)))) none) (d b)
theorem Bc6(n a n1 n2):D0 0 ((Uv L).keep 4) (bd (Uv L) Q Y (cd [1,1,0,1,0,0] Cq7)) n ⟨gp [(0,pS a),(28,pI n1),(0,pI n2)] 41,[],s⟩ k =
 T5 L n a n1 n2 (λ_=>k .ret ⟨gp [(2,pB false)] 69,[],s⟩) (λa=>k (.exit 0) ⟨gp [(0,pS a)] 71,[],s⟩):=by
 induction n generalizing a n1 n2 with
 | zero=>rfl
 | succ n b=>rw[T5];simp only[<-b];kernel_rfl
noncomputable def Dj4{R:Type}(L:Nat)(a:By)(b:Bool->Option R):Option R:=cond (ltI (a.length:Int) (1:Int)) (b false) (cond (ltI 63 (a.length:Int)) (b false) (cond (inR 0 a.length) (cond ((bAt a (0:Int))==45) (b false) (vl (A1 ((a.length:Int)-1)) λd=>cond (inR d a.length) (cond ((bAt a d)==45) (b false) (T5 L L a (a.length:Int) 0 (λ_=>b false) (λc=>cond (A3 c.length) (vl (Hx c ([120,110,45,45]:List UInt8)) λe=>cond (not (x6 ([120,110,45,45]:List UInt8) c)) (b true) (cond (A3 e.length) (b (Er e)) none)) none))) none)) none))
theorem Dj5(d:Nat)(s0):evC (Uv L) (d+1) W Y 117 [pS s0] [] s=Dj4 L s0 (λb=>some (pB b,[],s)):=by refine(evE (fn:=al9) (by kernel_rfl)).trans ?_;generalize evC (Uv L) d=Q;unfold Dj4;exact(j2 (by kernel_rfl) (A0 rfl (A0 rfl (A0 (A0 rfl (A4 λa=>(A0 (A0 rfl ((Bc6 L Q Y s (E1 0 (E0 (Uv L) Q Y (cd [1,1,1] Cq7) (F3 (Uv L) al9))) L s0 (s0.length:Int) 0).trans (by kernel_rfl))) rfl))) rfl))))
noncomputable abbrev A42:Code:=C6 al8
noncomputable def Qd(L:Nat):Cfg:=B8 L [109] (A2 [(9,[2,0,1,20])]) [(130,Ai2),(131,Ai0),(48,A16),(132,A20),(117,VM)] (A2 [(18,[2,0]),(17,[2,0]),(16,[4,41]),(15,[4]),(14,[2,0]),(13,[8,32]),(12,[8,0]),(11,[5,20]),(10,[5,1,18]),(9,[5,20,0,0]),(8,[5,20]),(7,[4,0]),(6,[4,19]),(5,[0,3]),(2,[2,0]),(4,[2,0]),(3,[0,13]),(1,[0,9]),(0,[0])]) [130,131,48,132,117] (A2 [(1,[5]),(2,[5,20]),(0,[0])]) (some [2,0]) [] [] []
noncomputable def Gd{R:Type}(L n:Nat)(c:LL)(b:By)(a:Nat)(e:LL->By->Nat->Option R):Option R:=match n with|0=>none|n+1=>cond (decide (a<b.length)) (vl ((aa5 ⟨aa8 b⟩ a)).1 λd=>cond (G2 (c.length+1)) (Gd L n (c++[[(SV.int .i64 (A1 d))]]) b (a+((aa5 ⟨aa8 b⟩ a)).2) e) none) (e c b a)
theorem Bb0(n:Nat)(a:LL)(c:By)(b:Nat):D0 2 ((Qd L).keep 9) (bd (Qd L) Q Y (cd [1,1,1,0,1,0,1,0,1,0,0] A42)) n ⟨gp [(5,.fl 0),(20,.it 1)] 21,[.arr true 3 1 a,.iter c b],s⟩ k =
 Gd L n a c b (λa c b=>k (.exit 1) ⟨gp [(5,.fl 0)] 42,[.arr true 3 1 a,.iter c b],s⟩):=by
 induction n generalizing a c b with
 | zero=>rfl
 | succ n d=>rw[Gd];simp only[<-d];kernel_rfl
noncomputable def Ao2{R:Type}(L:Nat)(b:By)(g:By->Int->Option R)(h:By->Int->LL->By->Nat->Option R):Option R:=cond (A3 b.length) (cond (not (ad7 (Dc b))) (g ([]:List UInt8) 4) (cond (A3 b.length) (vl (↑(af2 b):Int) λi=>cond (ltI 256 i) (g ([]:List UInt8) 3) (cond (A3 b.length) (cond (A3 b.length) (vl (↑(af2 b):Int) λj=>cond (ltI j (b.length:Int)) (Gd L L [] (B6 b) 0 (λa e d=>cond (aj2 a Pc) (vl ((X8 (ad2 elI a))).1 λf=>vl (↑((X8 (ad2 elI a))).2:Int) λl=>cond (l !=0) (h ([]:List UInt8) 14 a e d) (cond (E8 4 f.length) (vl (([120,110,45,45]:List UInt8)++f) λc=>cond (A3 c.length) (cond (not (K6 c)) (h ([]:List UInt8) 14 a e d) (h c 0 a e d)) none) none)) none)) (cond (A3 (b8 (B6 b))) (cond (not (K6 (B6 b))) (g ([]:List UInt8) 14) (g (B6 b) 0)) none)) none) none)) none)) none
theorem Di2(d:Nat)(s0):evC (Qd L) (d+1) W Y 109 [pS s0] [] s=Ao2 L s0 (λa b=>some (.tup [pS a,pI b],[],s)) (λa b c h e=>some (.tup [pS a,pI b],[.arr true 3 1 c,.iter h e],s)):=by refine(evE (fn:=al8) (by kernel_rfl)).trans ?_;generalize evC (Qd L) d=Q;unfold Ao2;exact(j2 (by kernel_rfl) (A0 (A0 rfl (A0 (A4 λf=>(A0 rfl (A0 (A0 (A4 λg=>(A0 ((Bb0 L Q Y s (E1 1 (E0 (Qd L) Q Y (cd [1,1,1,0,1,0,1,1] A42) (E0 (Qd L) Q Y (cd [1,1,1,1] A42) (F3 (Qd L) al8)))) L [] (B6 s0) 0).trans (by kernel_rfl)) (A0 (A0 rfl rfl) rfl))) rfl) rfl))) rfl)) rfl))
noncomputable abbrev Ul:Code:=C6 ak2
noncomputable def Kh(L:Nat):Cfg:=B8 L [123] (A2 []) [] (A2 [(7,[2]),(2,[2]),(4,[2]),(6,[2]),(5,[0,23]),(3,[0,12]),(1,[0,2]),(0,[0])]) [] (A2 [(0,[])]) (some [2]) [] [] []
noncomputable def Xx{R:Type}(a:Int)(h:Bool)(f:Int->Option R)(g:Int->Bool->Option R):Option R:=cond h (vl (A1 (wu8 (a-97))) λb=>vl (A1 (b+10)) λc=>f c) (cond (not (ltI a 65)) (cond (not (ltI 70 a)) (vl (A1 (wu8 (a-65))) λd=>vl (A1 (d+10)) λe=>f e) (g a (not (ltI 70 a)))) (g a false))
abbrev SG(b:Code):Prop:=∀(k:Out->St W->Option R) a c,B3 (Kh L) Q Y b ⟨gp [(0,p8 a),(12,pB c)] 21,[],s⟩ k=Xx a c (λn0=>k .ret ⟨gp [(2,pI n0)] 32,[],s⟩) (λa c=>k .normal ⟨gp [(0,p8 a),(23,pB c)] 10,[],s⟩)
theorem Ba1:SG (R:=R) L Q Y s (cd [1,0,0,1,1,1] Ul):=by intro k a b;unfold Xx;kernel_rfl
noncomputable def Xy{R:Type}(b:Int)(l:Bool)(f:Int->Option R)(j:Int->Bool->Option R):Option R:=cond l (vl (A1 (wu8 (b-48))) λg=>f g) (cond (not (ltI b 97)) (Xx b (not (ltI 102 b)) (λh=>f h) (λc d=>j c d)) (Xx b false (λi=>f i) (λe a=>j e a)))
abbrev CY(b:Code):Prop:=∀(k:Out->St W->Option R) a c,B3 (Kh L) Q Y b ⟨gp [(0,p8 a),(2,pB c)] 31,[],s⟩ k=Xy a c (λn0=>k .ret ⟨gp [(2,pI n0)] 32,[],s⟩) (λa c=>k .normal ⟨gp [(0,p8 a),(23,pB c)] 10,[],s⟩)
theorem Ba2(a:Code)(b:SG (R:=R) L Q Y s a):CY (R:=R) L Q Y s (cd [1,0,0,1] (G6 [1,0,0,1,1,1] a Ul)):=by intro k c d;unfold Xy;simp only[<-b k];kernel_rfl
theorem Ba3:CY (R:=R) L Q Y s (cd [1,0,0,1] Ul):=by intro k a b;exact j2 (by kernel_rfl) (Ba2 L Q Y s (cd [1,0,0,1,1,1] Ul) (Ba1 L Q Y s) k a b)
noncomputable def Cu7{R:Type}(L:Nat)(c:Int)(d:Int->Option R):Option R:=cond (not (ltI c 48)) (Xy c (not (ltI 57 c)) (λa=>d a) (λe f=>d (-1))) (Xy c false (λb=>d b) (λg h=>d (-1)))
theorem Dg6(b:Code)(a:CY (R:=PV × List Blk × W) L Q Y s b)(c:Int):B3 (Kh L) Q Y (cd [] (G6 [1,0,0,1] b Ul)) ⟨[p8 c]++tps 34,[],s⟩ (F3 (Kh L) ak2)=Cu7 L c (λe=>some (pI e,[],s)):=by unfold Cu7;exact let d:=(E1 0 (E0 (Kh L) Q Y (cd [1,1] Ul) (F3 (Kh L) ak2)));(j2 (by kernel_rfl) (A0 ((a d c (not (ltI 57 c))).trans (by kernel_rfl)) ((a d c false).trans (by kernel_rfl))))
theorem Dg7(d:Nat)(b0):evC (Kh L) (d+1) W Y 123 [p8 b0] [] s=Cu7 L b0 (λa=>some (pI a,[],s)):=
 (evE (fn:=ak2) (by kernel_rfl)).trans (j2 (by kernel_rfl) (Dg6 L (evC (Kh L) d) Y s (cd [1,0,0,1] Ul) (Ba3 L (evC (Kh L) d) Y s) b0))
noncomputable abbrev Cq5:Code:=C6 al7
noncomputable def Ut(L:Nat):Cfg:=B8 L [104] (A2 [(3,[0,1,0,0,0])]) [(123,Cn6)] (A2 [(14,[2,0]),(4,[0,3,0]),(13,[0,3,0]),(12,[0,3,0]),(11,[2,0]),(10,[0,3,0,0,0,39]),(9,[0,3,0,0,0]),(8,[2,0]),(7,[0,3,0,25]),(6,[0,3,0]),(5,[0,3,0,14]),(3,[0,3,0,8]),(2,[0,3,0]),(1,[0,3]),(0,[0])]) [123] (A2 [(0,[4]),(1,[0,3,0])]) (some [2,0]) [] [] []
noncomputable def U2{R:Type}(L n:Nat)(b:By)(a:Int)(c:LL)(f:LL->Option R)(g:LL->Option R):Option R:=match n with|0=>none|n+1=>cond (ltI a (b.length:Int)) (cond (inR a b.length) (cond ((bAt b a)!=37) (cond (inR a b.length) (cond (G2 (c.length+1)) (U2 L n b (A1 (a+1)) (c++[[(SV.int .u8 (bAt b a))]]) f g) none) none) (cond (not (ltI (A1 (a+2)) (b.length:Int))) (f c) (cond (inR (A1 (a+1)) b.length) (vl (bAt b (A1 (a+1))) λd=>cond (inR d 256) (cond (inR (A1 (a+2)) b.length) (vl (bAt b (A1 (a+2))) λe=>cond (inR e 256) (cond (ltI (Ga (u8n d)) (0:Int)) (f c) (cond (ltI (Ga (u8n e)) (0:Int)) (f c) (vl (A1 ((16:Int)*(Ga (u8n d)))) λh=>vl (A1 (h+(Ga (u8n e)))) λi=>cond (G2 (c.length+1)) (vl (A1 ((A1 (a+2))+1)) λj=>U2 L n b j (c++[[(SV.int .u8 (wu8 i))]]) f g) none))) none) none) none) none))) none) (g c)
theorem Ba0(n s0 i1 l2):D0 1 ((Ut L).keep 3) (bd (Ut L) Q Y (cd [1,0,1,1,0,1,0,0] Cq5)) n ⟨gp [(0,pS s0),(3,.fl 0),(0,pI i1)] 54,[.arr false 5 1 l2],s⟩ k =
 U2 L n s0 i1 l2 (λa=>k .ret ⟨gp [(2,pS ([]:List UInt8)),(0,pB false)] 56,[.arr false 5 1 a],s⟩) (λa=>k (.exit 0) ⟨gp [(4,.fl 0)] 55,[.arr false 5 1 a],s⟩):=by
 induction n generalizing s0 i1 l2 with
 | zero=>rfl
 | succ n b=>rw[U2];simp only[<-b];kernel_rfl
noncomputable def Cu6{R:Type}(L:Nat)(c:By)(d:By->Bool->LL->Option R):Option R:=cond ((decide ((0:Int)<=(c.length:Int)))&&(G2 (ab0 (c.length:Int)))) (U2 L L c 0 [] (λb=>d ([]:List UInt8) false b) (λa=>cond (aj2 a Pk) (d (ad2 Nb a) true a) none)) none
theorem Dg4(d:Nat)(s0):evC (Ut L) (d+1) W Y 104 [pS s0] [] s=Cu6 L s0 (λb c a=>some (.tup [pS b,pB c],[.arr false 5 1 a],s)):=by refine(evE (fn:=al7) (by kernel_rfl)).trans ?_;generalize evC (Ut L) d=Q;unfold Cu6;exact(j2 (by kernel_rfl) (A0 ((Ba0 L Q Y s (E1 0 (E0 (Ut L) Q Y (cd [1,0,1,1,1] Cq5) (F3 (Ut L) al7))) L s0 0 []).trans (by kernel_rfl)) rfl))
noncomputable def XV(L:Nat):Cfg:=B8 L [103] (A2 []) [(122,Dw5)] (A2 [(6,[2,0]),(5,[2,0]),(4,[2,2,15]),(3,[2,2,0]),(2,[0,1,1,8]),(1,[0,1,1]),(0,[0,1])]) [] (A2 []) (some [2,0]) [] [] []
noncomputable def By8{R:Type}(L:Nat)(b:By)(l:Int->Int->Int->Int->Int->Int->Int->Int->Int->Int->Int->LL->Option R)(m:Unit->Option R):Option R:=vl (A1 ((b.length:Int)-1)) λa=>cond (inR a b.length) (cond ((bAt b a)==93) (cond (I9 1 a b.length) (cond (A3 (b8 (cut b 1 a))) (vl (↑(v6c 0 (cut b 1 a)):Int) λc=>vl (↑(v6c 1 (cut b 1 a)):Int) λd=>vl (↑(v6c 2 (cut b 1 a)):Int) λe=>vl (↑(v6c 3 (cut b 1 a)):Int) λf=>vl (↑(v6c 4 (cut b 1 a)):Int) λg=>vl (↑(v6c 5 (cut b 1 a)):Int) λh=>vl (↑(v6c 6 (cut b 1 a)):Int) λi=>vl (↑(v6c 7 (cut b 1 a)):Int) λj=>cond (ad7 (v6B (cut b 1 a))) (l 3 c d e f g h i j 0 3 [[(SV.int .u16 c)],[(SV.int .u16 d)],[(SV.int .u16 e)],[(SV.int .u16 f)],[(SV.int .u16 g)],[(SV.int .u16 h)],[(SV.int .u16 i)],[(SV.int .u16 j)]]) (l 0 0 0 0 0 0 0 0 0 14 0 [[(SV.int .u16 c)],[(SV.int .u16 d)],[(SV.int .u16 e)],[(SV.int .u16 f)],[(SV.int .u16 g)],[(SV.int .u16 h)],[(SV.int .u16 i)],[(SV.int .u16 j)]])) none) none) (m ())) none
theorem Cu4(d:Nat)(s0):evC (XV L) (d+1) W Y 103 [pS s0] [] s=By8 L s0 (λl c e f g h i j r8 m b a=>some (.tup [.agg [pI l,pS ([]:List UInt8),p32 (0:Int),p16 c,p16 e,p16 f,p16 g,p16 h,p16 i,p16 j,p16 r8],pI m],[.box [pI b,pS ([]:List UInt8),p32 (0:Int),p16 c,p16 e,p16 f,p16 g,p16 h,p16 i,p16 j,p16 r8],.arr false 32 1 a],s)) (λ_=>some (.tup [.agg [pI (0:Int),pS ([]:List UInt8),p32 (0:Int),p16 (0:Int),p16 (0:Int),p16 (0:Int),p16 (0:Int),p16 (0:Int),p16 (0:Int),p16 (0:Int),p16 (0:Int)],pI (14:Int)],[.box [pI (0:Int),pS ([]:List UInt8),p32 (0:Int),p16 (0:Int),p16 (0:Int),p16 (0:Int),p16 (0:Int),p16 (0:Int),p16 (0:Int),p16 (0:Int),p16 (0:Int)]],s)):=by refine(evE (fn:=Tryz.f103) (by kernel_rfl)).trans ?_;generalize evC (XV L) d=Q;unfold By8;kernel_rfl
noncomputable def A55(L:Nat):Cfg:=B8 L [58] (A2 []) [(87,Cn8)] (A2 [(9,[2]),(4,[2]),(6,[2]),(8,[2]),(7,[1,31]),(5,[1,1,1,16]),(3,[1,1,1,0]),(2,[1,1,1]),(1,[1,1]),(0,[1])]) [87] (A2 [(0,[])]) (some [2]) [] [] []
noncomputable def Pj{R:Type}(L:Nat)(c:Int)(b:By)(d e f g h i j l a:Int)(m:Bool->Int->By->Int->Int->Int->Int->Int->Int->Int->Int->Int->LL->Option R):Option R:=cond (c==1) (cond (A3 b.length) (cond (U9 b) (cond (d==0) (m ((e==0)&&((f==0)&&((g==0)&&((h==0)&&((i==0)&&((j==0)&&((l==0)&&((a==0)&&true)))))))) c b d e f g h i j l a (x8 8 [(SV.int .u16 (0:Int))])) (m false c b d e f g h i j l a (x8 8 [(SV.int .u16 (0:Int))]))) (m false c b d e f g h i j l a (x8 8 [(SV.int .u16 (0:Int))]))) none) (cond (c==2) (cond (b==[]) (m ((e==0)&&((f==0)&&((g==0)&&((h==0)&&((i==0)&&((j==0)&&((l==0)&&((a==0)&&true)))))))) c b d e f g h i j l a (x8 8 [(SV.int .u16 (0:Int))])) (m false c b d e f g h i j l a (x8 8 [(SV.int .u16 (0:Int))]))) (cond (c==3) (cond (b==[]) (m (d==0) c b d e f g h i j l a (x8 8 [(SV.int .u16 (0:Int))])) (m false c b d e f g h i j l a (x8 8 [(SV.int .u16 (0:Int))]))) (m false c b d e f g h i j l a (x8 8 [(SV.int .u16 (0:Int))]))))
theorem Dh5(d:Nat)(h0 h1 h2 h3 h4 h5 h6 h7 h8 h9 h10):evC (A55 L) (d+1) W Y 58 [.agg [pI h0,pS h1,p32 h2,p16 h3,p16 h4,p16 h5,p16 h6,p16 h7,p16 h8,p16 h9,p16 h10]] [] s=Pj L h0 h1 h2 h3 h4 h5 h6 h7 h8 h9 h10 (λn f o g h i j l e m b c a=>some (pB n,[.box [pI f,pS o,p32 g,p16 h,p16 i,p16 j,p16 l,p16 e,p16 m,p16 b,p16 c],.arr false 32 1 a],s)):=by refine(evE (fn:=Tryz.f58) (by kernel_rfl)).trans ?_;generalize evC (A55 L) d=Q;unfold Pj;kernel_rfl
noncomputable def A52(L:Nat):Cfg:=B8 L [54] (A2 []) [(58,UZ),(83,Dw1),(84,Dw3)] (A2 [(7,[2]),(2,[2]),(4,[2]),(6,[2]),(5,[1,11]),(3,[1,5]),(1,[1,1]),(0,[1])]) [58,83,84] (A2 [(0,[1])]) (some [2]) [] [] []
noncomputable def Dh0{R:Type}(L:Nat)(j:Int)(l:By)(b c d e f g h i a:Int)(o:By->Int->By->Int->Int->Int->Int->Int->Int->Int->Int->Int->Option R):Option R:=cond (A3 l.length) (cond (ltN b 4294967296) (cond (ok8 c d e f g h i a) (cond (not (J7 (mkH j l b (n8 c d e f g h i a)))) (o ([]:List UInt8) j l b c d e f g h i a) (cond (j==1) (o l j l b c d e f g h i a) (cond (j==2) (cond (ltN b 4294967296) (o (V3 (ab0 b)) j l b c d e f g h i a) none) (cond (ok8 c d e f g h i a) (vl (Am (n8 c d e f g h i a)) λm=>cond (E8 1 m.length) (vl (([91]:List UInt8)++m) λn=>cond (E8 n.length 1) (vl (n++[93]) λp=>o p j l b c d e f g h i a) none) none) none)))) none) none) none
theorem Dh1(d:Nat)(h0 h1 h2 h3 h4 h5 h6 h7 h8 h9 h10):evC (A52 L) (d+1) W Y 54 [.agg [pI h0,pS h1,p32 h2,p16 h3,p16 h4,p16 h5,p16 h6,p16 h7,p16 h8,p16 h9,p16 h10]] [] s=Dh0 L h0 h1 h2 h3 h4 h5 h6 h7 h8 h9 h10 (λm e n f g h i j c l a b=>some (pS m,[.box [pI e,pS n,p32 f,p16 g,p16 h,p16 i,p16 j,p16 c,p16 l,p16 a,p16 b]],s)):=by refine(evE (fn:=Tryz.f54) (by kernel_rfl)).trans ?_;generalize evC (A52 L) d=Q;unfold Dh0;kernel_rfl
noncomputable def A50(L:Nat):Cfg:=B8 L [86] (A2 []) [(87,Cn8),(115,Cn7)] (A2 [(1,[4]),(0,[0,0])]) [87,115] (A2 []) (some [4]) [] [] []
noncomputable def Dg2{R:Type}(L:Nat)(a b:By)(c:Bool->Option R):Option R:=cond (A3 a.length) (cond (U9 a) (cond (A3 b.length) (cond (U9 b) (cond (a==b) (c true) (cond (E8 1 a.length) (vl (([46]:List UInt8)++a) λd=>cond (A3 b.length) (c (List.isSuffixOf d b)) none) none)) (c false)) none) (c false)) none
theorem Dg3(d:Nat)(super0 name1):evC (A50 L) (d+1) W Y 86 [pS super0,pS name1] [] s=Dg2 L super0 name1 (λa=>some (pB a,[],s)):=by refine(evE (fn:=Tryz.f86) (by kernel_rfl)).trans ?_;generalize evC (A50 L) d=Q;unfold Dg2;kernel_rfl
end
end
section
open Go
theorem V5(x y:By)(r:List By)(p:By):aa1 (x::y::r) p=x++(p++aa1 (y::r) p):=by simp[aa1,List.intercalate]
theorem Qy(c:UInt8):∀l:List By,l≠[]->(∀x∈l,c∉x)->pcs c (aa1 l [c])=l
 | [],h,_=>absurd rfl h
 | [x],_,h=>by rw[af0,Lv (h x (by simp))]
 | x::y::r,_,h=>by
  rw[V5,ah3,HK (h x (by simp)),Qy c (y::r) (by simp) (λz a=>h z (by simp[a]))]
theorem An9(c:UInt8):∀(n:Nat) (s:By),s.length<=n->aa1 (pcs c s) [c]=s
 | n,s,a=>by
  rcases R2 c s with h|⟨p,r,rfl,h⟩
  ·rw[Lv h,af0]
  ·rw[HK h];cases n with
   | zero=>simp at a
   | succ n=>
    have d:=An9 c n r (by simp at a;omega);cases b:pcs c r with
    | nil=>exact absurd b (Aa7 c r)
    | cons y q=>
     rw[V5,<-b,d];rfl
theorem DG(c:UInt8)(s:By):aa1 (pcs c s) [c]=s:=An9 c _ s (aa0 _)
theorem Ym{c b:UInt8}:∀l:List By,b∈aa1 l [c]->b=c\/∃x∈l,b∈x
 | [],h=>by simp[am3] at h
 | [x],h=>by rw[af0] at h;exact .inr ⟨x,by simp,h⟩
 | x::y::r,h=>by
  rw[V5] at h;simp only[x7,y9] at h;rcases h with h|h|h
  ·grind
  ·grind
  ·rcases Ym (y::r) h with h|⟨z,a,h⟩
   all_goals grind
theorem Dj9{c b:UInt8}{s:By}(h:b∈s):b=c\/∃x∈pcs c s,b∈x:=by rw[<-DG c s] at h;exact Ym _ h
theorem B00(b:UInt8):X9 b=46↔b=46:=by
 rcases K9 b with⟨h,e⟩|⟨h,e⟩|⟨h,c,e⟩
 ·rw[e]
 ·rw[e]
 ·constructor
  ·intro a;rw[a] at e;simp at e;omega
  ·intro a;subst a;simp at h
theorem Ca9(a b:By):B6 (a++b)=B6 a++B6 b:=ae5
theorem Ad(s:By):(B6 s).length=s.length:=w6 _
theorem Kv:∀(s a:By),N3 46 (B6 a) (B6 s)=(N3 46 a s).map B6
 | [],a=>rfl
 | b::r,a=>by
  show(if X9 b=46 then _ else _)=_;simp only[N3];by_cases h:b=46
  ·rw[if_pos ((B00 b).2 h),if_pos h,ab4];have:=Kv r [];rw[<-this];rfl
  ·rw[if_neg (λe=>h ((B00 b).1 e)),if_neg h,<-Kv r (a++[b]),Ca9];rfl
theorem DN(s:By):pcs 46 (B6 s)=(pcs 46 s).map B6:=Kv s []
theorem De6(b:UInt8):dig (X9 b)=dig b:=by
 rcases K9 b with⟨h,e⟩|⟨h,e⟩|⟨h,a,e⟩
 ·rw[e]
 ·rw[e]
 ·unfold dig;grind
theorem CM(base:Nat):∀(s:By) (n:Nat),F1 base n (B6 s)=F1 base n s
 | [],n=>rfl
 | b::r,n=>by
  show(if dig (X9 b)<base then _ else _)=_;simp only[F1,De6];split
  ·exact CM base r _
  ·rfl
theorem Di7(b:UInt8):X9 b=48↔b=48:=by
 rcases K9 b with⟨h,e⟩|⟨h,e⟩|⟨h,c,e⟩
 ·rw[e]
 ·rw[e]
 ·constructor
  ·intro a;rw[a] at e;simp at e;omega
  ·intro a;subst a;simp at h
theorem D13(b:UInt8):(X9 b=120\/X9 b=88)↔(b=120\/b=88):=by
 rcases K9 b with⟨h,e⟩|⟨h,e⟩|⟨h,c,e⟩
 ·rw[e]
 ·rw[e]
 ·constructor
  ·rintro(a|a)
   ·rw[a] at e
    right
    apply ae6.1;grind
   simp_all
  ·rintro(a|a)
   ·simp_all
   ·subst a;left;apply ae6.1;rw[e];rfl
theorem Dz(s:By)(i:Nat):(B6 s).getD i 0=X9 (s.getD i 0):=by unfold B6;simp only[w8,List.getElem?_map];cases s[i]?<;>rfl
theorem B93(s:By):Z1 (B6 s)=Z1 s:=by rw[ac5,Hb,Hb,Dz,Dz,Di7,D13]
theorem SQ{s:By}:B6 s=[]↔s=[]:=by unfold B6;simp
theorem Xs(l:List By):(l.map B6).getLastD []=B6 (l.getLastD []):=by rw[af7,af7,List.getLast?_map];cases l.getLast?<;>rfl
theorem Be1(s:By):C9 (B6 s)=(C9 s).map B6:=by unfold C9;rw[DN,Xs];simp only[w6,SQ];grind
theorem B98(s:By):Df (B6 s)=B6 (Df s):=by unfold Df;rw[Be1,Xs]
theorem MT(s:By)(i:Nat):(B6 s).drop i=B6 (s.drop i):=by unfold B6;rw[List.map_drop]
theorem PM(s:By):(B6 s).isEmpty=s.isEmpty:=by cases s<;>rfl
theorem ZY(s:By):F0 (B6 s)=F0 s:=by unfold F0;rw[B98,B93,MT,CM,CM,PM]
theorem FK:∀(n:Nat) (s:By),s.length<=n->(∀b∈s,b.toNat<128)->W5 n s=some (s.map (·.toNat))
 | 0,s,h,_=>by
  have:s=[]:=k9.1 (by omega);subst this;rfl
 | n+1,[],_,_=>by simp[W5]
 | n+1,b::r,h,hs=>by
  simp only[W5];rw[if_neg (by simp),af9 b r (hs b (by simp))];have d:=hs b (by simp);rw[if_neg (by simp;omega)];simp only[ae7,v7];rw[FK n r (by simp at h;omega) (λc a=>hs c (by simp[a]))];rfl
theorem Bf8(s:By)(h:∀b∈s,b.toNat<128):Dc s=some (s.map (·.toNat)):=FK _ s (aa0 _) h
theorem Bx(b:UInt8):L7 b=true↔(97<=b.toNat/\b.toNat<=122)\/(48<=b.toNat/\b.toNat<=57)\/b=45\/b=95:=by simp[L7,or_assoc]
theorem Vl{b:UInt8}(h:L7 b=true):b.toNat<128/\(b.toNat<65\/90<b.toNat)/\b≠46/\b≠37/\b≠91:=by
 rw[Bx] at h;have key:∀c:UInt8,b=c->b.toNat=c.toNat:=λc e=>by rw[e]
 rcases h with h|h|h|h
 ·refine⟨by omega,by omega,?_,?_,?_⟩<;>intro e<;>have:=key _ e<;>simp at this<;>omega
 ·refine⟨by omega,by omega,?_,?_,?_⟩<;>intro e<;>have:=key _ e<;>simp at this<;>omega
 all_goals simp_all
structure VL (s:By):Prop where
 ne:s≠[]
 le:s.length<=63
 byt:∀b∈s,L7 b=true
theorem Cf{s:By}(h:K6 s=true):VL s:=by unfold K6 at h;simp only[o0,af8,ab7] at h;obtain⟨⟨⟨⟨⟨a,c⟩,g⟩,i⟩,d⟩,j⟩:=h;refine⟨by intro e;subst e;simp at a,ad0 c,λb f=>d b f⟩
theorem D14{s:By}(h:∀b∈s,b.toNat<65\/90<b.toNat):B6 s=s:=by
 unfold B6
 conv=>rhs;rw[<-ak5 s]
 apply ac3;intro b d;rcases K9 b with⟨_,e⟩|⟨_,e⟩|⟨a,c,e⟩
 all_goals grind
theorem Ca6{s:By}(h:∀b∈B6 s,b.toNat<128):∀b∈s,b.toNat<128:=by
 intro b a;have:=h (X9 b) (List.mem_map_of_mem a);rcases K9 b with⟨_,e⟩|⟨_,e⟩|⟨c,d,e⟩
 all_goals grind
theorem Cj6{s:By}(h:K6 (B6 s)=true):I6 s=(B6 s,0):=by have v:=Cf h;have c:=Ca6 (λb d=>(Vl (v.byt b d)).1);have e:=Ad s;have a:=v.le;unfold I6;rw[Bf8 s c];grind
theorem KM:∀l:List By,(l.map B6).all K6=true->F7 l=(l.map B6,0)
 | [],_=>rfl
 | x::r,h=>by
  simp only[ab4,ab3,o0] at h;unfold F7;rw[Cj6 h.1,KM r h.2];rfl
structure VN (s:By):Prop where
 le:s.length<=253
 num:F0 s=false
 all:∀x∈pcs 46 s,K6 x=true
theorem Ji{s:By}:U9 s=true↔VN s:=by unfold U9;simp only[o0,af8,ab7];exact⟨λh=>⟨ad0 h.1.1,h.1.2,h.2⟩,λh=>⟨⟨ac9 h.le,h.num⟩,h.all⟩⟩
theorem VN.byt{s:By}(h:VN s):∀b∈s,b=46\/L7 b=true:=by
 intro b hb;rcases Dj9 (c:=46) hb with h1|⟨x,hx,h1⟩
 ·grind
 ·exact .inr ((Cf (h.all x hx)).byt b h1)
theorem VN.byt'{s:By}(h:VN s){b:UInt8}(hb:b∈s):b.toNat<128/\(b.toNat<65\/90<b.toNat)/\b≠37/\b≠91:=by
 rcases h.byt b hb with h1|h1
 ·simp_all
 ·have:=Vl h1;grind
theorem DF(c:UInt8):∀(l:List By),(∀x∈l,x≠[]/\c∉x)->(aa1 l [c]).getLast?≠some c
 | [],_=>by simp[am3]
 | [x],h=>by
  rw[af0];intro e;have:=List.mem_of_getLast? e;grind
 | x::y::r,h=>by
  have g:=DF c (y::r) (λz b=>h z (by simp[b]));have a:aa1 (y::r) [c]≠[]:=by
   intro e;have:pcs c (aa1 (y::r) [c])=y::r:=Qy c _ (by simp) (λz b=>(h z (by simp[b])).2);rw[e] at this;have f:pcs c []=[[]]:=rfl;grind
  rw[V5,ah8,ah8];cases d:(aa1 (y::r) [c]).getLast? with
  | none=>rw[List.getLast?_eq_none_iff] at d;exact absurd d a
  | some z=>
   grind
theorem VN.last{s:By}(h:VN s):s.getLast?≠some 46:=by have:=DF 46 (pcs 46 s) (λx hx=>⟨(Cf (h.all x hx)).ne,(Cr hx).1⟩);rwa [DG] at this
theorem VN.ne{s:By}(h:VN s):s≠[]:=by intro e;subst e;exact(Cf (h.all [] (by simp[pcs,N3]))).ne rfl
theorem VN.head{s:By}(h:VN s):s.head?≠some 91:=by intro e;exact(h.byt' (aj5 e)).2.2.2 rfl
theorem VN.low{s:By}(h:VN s):B6 s=s:=D14 λb hb=>(h.byt' hb).2.1
theorem Aa8:∀s:By,(∀b∈s,b≠37)->R8 s=some s
 | [],_=>by unfold R8;rfl
 | b::r,h=>by
  unfold R8;rw[if_neg (h b (by simp)),Aa8 r (λc a=>h c (by simp[a]))];rfl
theorem PO{a e t name:By}(j:a.length<=1024)(f:a.head?≠some 91)(g:R8 a=some e)(h:G8 e=t)(i:B6 t=name)(c:VN name):C4 a=(⟨1,name,0,z8⟩,0):=by
 subst i;have b:F0 t=false:=by rw[<-ZY];exact c.num
 have d:((pcs 46 t).map B6).all K6=true:=by
  rw[<-DN,ab7];exact c.all
 unfold C4;rw[G1,if_neg f,g];simp only[h,b];rw[KM _ d];simp only[o9,if_false,if_true];rw[<-DN,DG,if_neg (by have:=c.le;omega),c.num];simp
theorem Be0{s:By}(h:VN s):C4 s=(⟨1,s,0,z8⟩,0):=
 PO (by have:=h.le;omega) h.head (Aa8 s λb a=>(h.byt' a).2.2.1) (by unfold G8;rw[if_neg h.last]) h.low h
theorem Dx2{a b:By}:Cm a b=true↔VN a/\VN b/\(a=b\/∃p,b=p++46::a):=by
 unfold Cm;simp only[o0,ac6,Ji,and_assoc,beq_iff_eq,af3];constructor
 ·rintro⟨d,e,c|⟨p,c⟩⟩;all_goals grind
 grind
theorem Aq5{s:By}(h:∀x∈pcs 46 s,x≠[]):C9 s=pcs 46 s:=by unfold C9;grind
def D97(n:Nat):UInt8:=if n<10 then o8 (48+n) else o8 (55+n)
theorem D93(n:Nat)(h:n<16):dig (D97 n)=n:=by
 unfold D97 dig;split
 ·have:(o8 (48+n)).toNat=48+n:=by simp;omega
  grind
 ·have:(o8 (55+n)).toNat=55+n:=by simp;omega
  grind
theorem Ak8(n:Nat)(h:n<16):dig (Lm n)=n:=by
 unfold Lm dig;split
 ·have:(o8 (48+n)).toNat=48+n:=by simp;omega
  grind
 ·have:(o8 (87+n)).toNat=87+n:=by simp;omega
  grind
theorem CJ:∀u:Nat,∀b∈v8 u,48<=b.toNat/\b.toNat<=57:=by
 intro u
 induction u using ac7 with
 | _ u c=>
  intro b a;by_cases h:u<10
  ·rw[ad1 h] at a;simp only[y9] at a;subst a;have:(o8 (48+u)).toNat=48+u:=by simp;omega
   omega
  ·rw[X1 u h] at a;rcases x7.1 a with a|a
   ·grind
   ·simp only[y9] at a;subst a;have:(o8 (48+u % 10)).toNat=48+u % 10:=by simp;omega
    omega
theorem Cs7{u:Nat}{c:UInt8}(h:c.toNat<48\/57<c.toNat):c∉v8 u:=λa=>by
 have:=CJ u c a;omega
theorem Ak5:∀u:Nat,(v8 u).getD 0 0=48->u=0:=by
 intro u
 induction u using ac7 with
 | _ u d=>
  intro a;by_cases h:u<10
  ·rw[ad1 h] at a;simp only[ai5] at a;have b:(o8 (48+u)).toNat=48+u:=by simp;omega
   simp_all
  ·rw[X1 u h] at a;have c:=aa3.2 (Cn (u / 10));grind
theorem RM(u:Nat):Z1 (v8 u)=false:=by
 cases h:Z1 (v8 u) with
 | false=>rfl
 | true=>
  have b:=(Hb _).1 h;have a:=Lo h;rw[Ak5 u b.1,ad1 (by omega)] at a;simp at a
theorem Yr(u:Nat)(h:u<=W8):Ae (v8 u)=some u:=by unfold Ae;rw[if_neg (Cn u),RM];simp only[o9,if_false];rw[if_neg,CL u h];rintro⟨a,b⟩;rw[Ak5 u b,ad1 (by omega)] at a;simp at a
def v4P(v:Nat):List By:=[v8 (v / 16777216),v8 (v / 65536 % 256),v8 (v / 256 % 256),v8 (v % 256)]
theorem Wl(v:Nat):V3 v=aa1 (v4P v) [46]:=by unfold v4P;rw[V5,V5,V5,af0];rfl
theorem IB{v:Nat}{x:By}(h:x∈v4P v):∃u,x=v8 u:=by simp only[v4P,p6,ag5,or_false] at h;grind
theorem Cz1(v:Nat):pcs 46 (V3 v)=v4P v:=by rw[Wl];refine Qy 46 _ (by simp[v4P]) (λx a=>?_);obtain⟨u,rfl⟩:=IB a;exact Cs7 (by decide)
theorem Aq6(v:Nat):C9 (V3 v)=v4P v:=by rw[Aq5,Cz1];intro x a;rw[Cz1] at a;obtain⟨u,rfl⟩:=IB a;exact Cn u
theorem Ap5(v:Nat):F0 (V3 v)=true:=by
 have e:Df (V3 v)=v8 (v % 256):=by
  unfold Df;rw[Aq6];rfl
 unfold F0;rw[e,RM,CL _ (by unfold W8;omega)];have:=Cn (v % 256);grind
theorem D21(v:Nat)(h:v<4294967296):pnB (V3 v)=some v:=by unfold pnB;rw[Aq6];simp only[v4P,j5,y5,Vp];simp only[Yr _ (show v / 16777216<=W8 by unfold W8;omega),Yr _ (show v / 65536 % 256<=W8 by unfold W8;omega),Yr _ (show v / 256 % 256<=W8 by unfold W8;omega),Yr _ (show v % 256<=W8 by unfold W8;omega)];grind
theorem Az4{v:Nat}{b:UInt8}(h:b∈V3 v):b=46\/(48<=b.toNat/\b.toNat<=57):=by
 rw[Wl] at h;rcases Ym _ h with h|⟨x,a,h⟩
 ·grind
 ·obtain⟨u,rfl⟩:=IB a;exact .inr (CJ u b h)
theorem C76(v:Nat)(h:v<4294967296):(V3 v).length<=43:=by unfold V3;have a:=G0 (v / 16777216) (by omega);have b:=G0 (v / 65536 % 256) (by omega);have c:=G0 (v / 256 % 256) (by omega);have d:=G0 (v % 256) (by omega);grind
theorem Aq4(v:Nat)(h:v<4294967296):C4 (V3 v)=(⟨2,[],v,z8⟩,0):=by
 have a:∀b∈V3 v,b≠37/\b≠91:=by
  intro b a;rcases Az4 a with rfl|⟨c,d⟩
  ·decide
  ·constructor<;>intro e<;>subst e<;>simp at c d
 have i:=C76 v h;unfold C4;rw[G1,if_neg (λe=>(a _ (aj5 e)).2 rfl),Aa8 _ (λb h=>(a b h).1)];have f:G8 (V3 v)=V3 v:=by
  unfold G8;rw[if_neg];rw[Wl];refine DF 46 _ (λx g=>?_);obtain⟨u,rfl⟩:=IB g;exact⟨Cn u,Cs7 (by decide)⟩
 simp only[f,Ap5,D21 v h,if_true]
theorem Aq8(free:Nat):∀(l:List By) (v x:Nat),Vp free v l=some x->x<(v+1)*256 ^ (l.length-1)*2 ^ free
 | [],v,x,h=>by simp[Vp] at h
 | [p],v,x,h=>by
  simp only[Vp] at h;split at h
  ·cases h
  ·split at h
   ·rename_i n c b;simp only[j4] at h;subst h;simp only[j5,y5,aj6,Nat.pow_zero,ab5,Nat.add_mul];omega
   ·cases h
 | p::q::r,v,x,h=>by
  rw[Vp] at h;split at h
  ·cases h
  ·simp only at h;split at h
   ·rename_i n c a;have d:=Aq8 free (q::r) _ x h;refine ai8 d (ai0 _ ?_);simp only[j5,Nat.add_sub_cancel];rw[Nat.pow_succ,Nat.mul_comm (256 ^ r.length) 256,<-Nat.mul_assoc];exact ai0 _ (by omega)
   ·cases h
theorem Dl2{s:By}{v:Nat}(h:pnB s=some v):v<4294967296:=by
 unfold pnB at h;split at h
 ·cases h
 ·rename_i b;have a:=(Bl s).1;have:=Aq8 _ _ _ _ h;generalize (C9 s).length=n at *;have:n=1\/n=2\/n=3\/n=4:=by omega
  grind
theorem RZ:∀(a b:By) (v:Nat),Ak v (a++b)=(Ak v a).bind λw=>Ak w b
 | [],b,v=>rfl
 | c::r,b,v=>by
  simp only[ab8,Ak];split
  ·exact RZ r b _
  ·rfl
theorem B77:∀x:Nat,Ak 0 (P9 x)=some x:=by
 intro x
 induction x using ac7 with
 | _ x a=>
  by_cases h:x<16
  ·rw[Z0 h];simp only[Ak,Ak8 x h];grind
  ·rw[X2 h,RZ,a (x / 16) (by omega)];simp only[ag6,Ak,Ak8 (x % 16) (by omega)];grind
theorem Df9(x:Nat)(h:x<65536):grp (P9 x)=some x:=by have:=Xz x h;unfold grp;rw[if_neg,B77];grind
theorem HA:∀x:Nat,(58:UInt8)∉P9 x:=by
 intro x
 induction x using ac7 with
 | _ x a=>
  by_cases h:x<16
  ·rw[Z0 h];simpa using ag0 (GZ x h)
  ·rw[X2 h];simp only[x7,y9,not_or];exact⟨a _ (by omega),ag0 (GZ _ (by omega))⟩
theorem By9(x:Nat):P9 x≠[]:=by
 by_cases h:x<16
 ·rw[Z0 h];simp
 ·rw[X2 h];simp
theorem Am5(last:Bool):∀l:List Nat,(∀x∈l,x<65536)->Db last (l.map P9)=some l
 | [],_=>rfl
 | x::r,h=>by
  simp only[ab4,Db];rw[Df9 x (h x (by simp)),Am5 last r (λy a=>h y (by simp[a]))];rfl
theorem TB(l:List Nat)(h:l≠[]):pcs 58 (K8 l)=l.map P9:=by unfold K8;refine Qy 58 _ (by simpa using h) (λx a=>?_);obtain⟨y,_,rfl⟩:=am5.1 a;exact HA y
theorem Cv9(l:List Nat)(h:l≠[]):K8 l≠[]:=by
 intro e;have:=TB l h;rw[e] at this;have a:pcs 58 []=[[]]:=rfl;rw[a] at this;cases l with
 | nil=>exact h rfl
 | cons x r=>
  simp only[ab4,List.cons.injEq] at this;exact By9 x this.1.symm
theorem Qj(l:List Nat)(last:Bool)(h:∀x∈l,x<65536):P6 (K8 l) last=some l:=by
 unfold P6;by_cases a:l=[]
 ·subst a;rfl
 ·rw[if_neg (Cv9 l a),TB l a,Am5 last l h]
def sh(n:Nat)(i:Int):Int:=if i=-1 then -1 else i+n
theorem MG(b:UInt8)(l:By):ab6 (b::l) [58,58]=if b=58/\l.head? = some 58 then 0 else sh 1 (ab6 l [58,58]):=by
 have a:([58,58]:By).isPrefixOf (b::l)=decide (b=58/\l.head? = some 58):=by
  cases l with
  | nil=>simp[x6]
  | cons c r=>
   grind
 show(if _ then _ else _)=_;rw[a];by_cases h:b=58/\l.head? = some 58
 ·grind
 ·rw[if_neg (by simpa using h),if_neg h];unfold sh;grind
theorem C46(n m:Nat)(i:Int)(h:-1<=i):sh n (sh m i)=sh (n+m) i:=by unfold sh;omega
theorem Ba5(s:By):-1<=ab6 s [58,58]:=by rcases Lib.index_spec s [58,58] with h|⟨i,h,_⟩<;>omega
theorem ZG:∀(p r:By),(58:UInt8)∉p->ab6 (p++r) [58,58]=sh p.length (ab6 r [58,58])
 | [],r,_=>by unfold sh;simp<;>(intro h;rw[h])
 | b::p,r,h=>by
  simp only[p6,not_or] at h;rw[ab8,MG,if_neg (λe=>h.1 e.1.symm),ZG p r h.2,C46 _ _ _ (Ba5 r),Nat.add_comm];rfl
theorem FC(x y:Nat)(t:List Nat):K8 (x::y::t)=P9 x++58::K8 (y::t):=by unfold K8;rw[ab4,ab4,V5];rfl
theorem Ba7(y:Nat)(t:List Nat)(r:By):(K8 (y::t)++r).head?≠some 58:=by
 have e:=By9 y;have c:=HA y;cases d:P9 y with
 | nil=>exact absurd d e
 | cons a b=>
  rw[d] at c;simp only[p6,not_or] at c;cases t with
  | nil=>rw[Lp,d];simpa using ag0 c.1
  | cons z t=>rw[FC,d];simpa using ag0 c.1
theorem DA:∀(l:List Nat) (r:By),l≠[]->ab6 (K8 l++r) [58,58]=sh (K8 l).length (ab6 r [58,58])
 | [],r,h=>absurd rfl h
 | [x],r,_=>by rw[Lp];exact ZG _ _ (HA x)
 | x::y::t,r,_=>by
  rw[FC,ab1,ab8,ZG _ _ (HA x),MG,if_neg (λe=>Ba7 y t r e.2),DA (y::t) r (by simp),C46 _ _ _ (Ba5 r),C46 _ _ _ (Ba5 r)];grind
theorem Dh8:ab6 [] [58,58]=-1:=rfl
theorem B60(l:List Nat):x9 (K8 l) [58,58]=(K8 l,[],false):=by
 have h:ab6 (K8 l) [58,58]=-1:=by
  by_cases a:l=[]
  ·subst a;rfl
  ·have:=DA l [] a;rw[ab9,Dh8] at this;rw[this];rfl
 unfold x9;rw[h];rfl
theorem Dd9(l:List Nat)(r:By):x9 (K8 l++58::58::r) [58,58]=(K8 l,r,true):=by
 have a:ab6 (58::58::r) [58,58]=0:=by rw[MG,if_pos ⟨rfl,rfl⟩]
 have h:ab6 (K8 l++58::58::r) [58,58]=((K8 l).length:Int):=by
  by_cases b:l=[]
  ·subst b;rw[Hd,aa4,a];rfl
  ·rw[DA l _ b,a];unfold sh;simp
 unfold x9;simp_all
theorem TR:∀l:List Nat,l.take (Oc l)=x8 (Oc l) 0
 | []=>rfl
 | x::r=>by
  rw[NZ];split
  ·rename_i h;subst h;rw[List.take_succ_cons,TR r];rfl
  ·rfl
theorem Bu0(full:List Nat):∀(l:List Nat) (i z m:Nat),full.drop i=l->i<=full.length->(full.drop z).take m=x8 m 0->z+m<=full.length->
  (full.drop (zGo l i z m).1).take (zGo l i z m).2=x8 (zGo l i z m).2 0/\(zGo l i z m).1+(zGo l i z m).2<=full.length
 | [],i,z,m,_,_,b,c=>⟨b,c⟩
 | x::r,i,z,m,d,f,b,c=>by
  have e:full.length-i=r.length+1:=by
   have:=congrArg b8 d;grind
  have a:full.drop (i+1)=r:=by
   rw[<-ah6,d];rfl
  unfold zGo;split
  ·refine Bu0 full r (i+1) i _ a (by omega) ?_ ?_
   ·rw[d,TR]
   ·have:=HU (x::r);grind
  ·exact Bu0 full r (i+1) z m a (by omega) b c
theorem Dr7(a:List Nat)(c:a.length=8)(h:∀x∈a,x<65536):v6B (Am a)=some a:=by
 obtain⟨f,g⟩:=Bu0 a a 0 0 0 rfl (by omega) (by simp) (by omega);unfold Am;generalize (zGo a 0 0 0).1=z at *;generalize (zGo a 0 0 0).2=m at *;by_cases d:m<2
 ·rw[if_pos d];unfold v6B;rw[B60];simp only[j9];rw[Qj a true h];show(if _ then _ else _)=_;simp[c]
 ·rw[if_neg d];unfold v6B;rw[Dd9];simp only[j8];rw[Qj _ false (λx b=>h x (ac0 b)),Qj _ true (λx b=>h x (z7 b))];simp only[if_true,j7,b9,c];rw[R0]
  congr 1
  have e:8-min z 8-(8-(z+m))=m:=by omega
  rw[e,<-f,ab1]
  conv=>rhs;rw[<-ah4 z a]
  congr 1
  conv=>rhs;rw[<-ah4 m (a.drop z)]
  simp_all
theorem Bs7(a:List Nat)(e:a.length=8)(h:∀x∈a,x<65536):(Am a).length<=90:=by
 unfold Am;split
 ·have:=Bv a h;omega
 ·have c:=Bv (a.take (zGo a 0 0 0).1) (λx b=>h x (ac0 b));have d:=Bv (a.drop ((zGo a 0 0 0).1+(zGo a 0 0 0).2)) (λx b=>h x (z7 b));grind
theorem Cy9(a:List Nat)(d:a.length=8)(h:∀x∈a,x<65536):C4 (91::(Am a++[93]))=(⟨3,[],0,a⟩,0):=by
 have e:=Bs7 a d h;have b:(91::(Am a++[93])).getLast? = some (93:UInt8):=by grind
 have c:((91::(Am a++[93])).take ((91::(Am a++[93])).length-1)).drop 1=Am a:=by
  simp
 unfold C4;rw[if_neg (by simp;omega),if_pos (show(91::(Am a++[93])).head? = some (91:UInt8) from rfl),if_pos ⟨b,by simp⟩,c,Dr7 a d h]
theorem Am4{s:By}{last:Bool}{r:List Nat}(h:P6 s last=some r):∀x∈r,x<65536:=by
 unfold P6 at h;split at h
 ·grind
 ·exact By6 _ _ _ h
theorem D40{s:By}{a:List Nat}(h:v6B s=some a):a.length=8/\∀x∈a,x<65536:=by
 unfold v6B at h;split at h
 ·rename_i x y b c;have d:=Am4 b;have e:=Am4 c;grind
 ·cases h
theorem C60{s:By}(h:(I6 s).2=0):K6 (I6 s).1=true:=by unfold I6 at h ⊢;grind
theorem Lc:∀l:List By,(F7 l).2=0->(∀x∈(F7 l).1,K6 x=true)/\(F7 l).1.length=l.length
 | [],_=>⟨by simp[F7],rfl⟩
 | x::r,h=>by
  unfold F7 at h ⊢;by_cases a:(I6 x).2=0
  ·rw[if_pos a] at h ⊢;obtain⟨d,c⟩:=Lc r h;refine⟨λy b=>?_,by simp[c]⟩;rcases p6.1 b with rfl|b
   ·exact C60 a
   grind
  grind
structure Dh (h:B5):Prop where
 v4:h.v4<4294967296
 v6:h.v6.length=8/\∀x∈h.v6,x<65536
 kd:h.kind<4
theorem B51:z8.length=8/\∀x∈z8,x<65536:=by decide
theorem Cc3(s:By):Dh (C4 s).1/\((C4 s).2=0->J7 (C4 s).1=true):=by
 have no:Dh L9:=⟨by decide,B51,by decide⟩
 unfold C4;split
 ·grind
 split
 ·split
  ·cases d:v6B ((s.take (s.length-1)).drop 1) with
   | none=>exact⟨no,by simp⟩
   | some a=>exact⟨⟨show 0<4294967296 by decide,D40 d,show 3<4 by decide⟩,λ_=>by simp[J7]⟩
  grind
 cases l:R8 s with
 | none=>exact⟨no,by simp⟩
 | some t=>
  simp only;split
  ·cases d:pnB (G8 t) with
   | none=>exact⟨no,by simp⟩
   | some v=>exact⟨⟨Dl2 d,B51,show 2<4 by decide⟩,λ_=>by simp[J7]⟩
  split
  ·rename_i g;split
   ·grind
   split
   ·grind
   ·rename_i k h;refine⟨⟨show 0<4294967296 by decide,B51,show 1<4 by decide⟩,λ_=>?_⟩;obtain⟨f,i⟩:=Lc _ g;have b:(F7 (pcs 46 (G8 t))).1≠[]:=by
     intro e;rw[e] at i;have:=Aa7 46 (G8 t);grind
    have c:=Qy 46 (F7 (pcs 46 (G8 t))).1 b (λx j e=>(Vl ((Cf (f x j)).byt 46 e)).2.2.1 rfl);unfold J7;simp only[if_true,beq_self_eq_true,ad5];rw[Ji];exact⟨by omega,by simpa using h,by rw[c];exact f⟩
  grind
theorem ME{h:B5}(ok:Dh h)(a:J7 h=true):C4 (P0 h)=(h,0):=by
 obtain⟨b,g,v4,v6⟩:=h;unfold P0;rw[if_pos a];unfold J7 at a;simp only at a ⊢;by_cases c:b=1
 ·subst c;simp only[if_true,o0,beq_iff_eq] at a ⊢;obtain⟨⟨f,rfl⟩,rfl⟩:=a;exact Be0 (Ji.1 f)
 rw[if_neg c] at a ⊢;by_cases d:b=2
 ·subst d;simp only[if_true,o0,beq_iff_eq,aj9] at a ⊢;obtain⟨rfl,rfl⟩:=a;exact Aq4 v4 ok.v4
 rw[if_neg d] at a ⊢;by_cases e:b=3
 ·subst e;simp only[if_true,o0,beq_iff_eq,aj9] at a;obtain⟨rfl,rfl⟩:=a;exact Cy9 v6 ok.v6.1 ok.v6.2
 grind
theorem LZ{h:B5}(a:J7 h=false):P0 h=[]:=by unfold P0;rw[a];rfl
theorem FL:∀(f:Nat) (l:By),am4 f l=(W5 f l).isSome
 | 0,_=>rfl
 | f+1,l=>by
  unfold am4 W5;split
  ·rfl
  ·split
   ·rfl
   ·rw[FL f,ag1]
theorem Bs8(l:By):Lib.validD l=(Dc l).isSome:=FL _ l
theorem NO:∀(n m:Nat) (l:By),l.length<=n->l.length<=m->W5 n l=W5 m l
 | 0,m,l,b,_=>by
  have:l=[]:=k9.1 (by omega);subst this;cases m<;>simp[W5]
 | n+1,0,l,_,hm=>by
  have:l=[]:=k9.1 (by omega);subst this;simp[W5]
 | n+1,m+1,l,b,hm=>by
  unfold W5;split
  ·rfl
  ·rename_i a;have d:=ae1 l;have c:0<l.length:=aa3.2 a;rw[NO n m (l.drop (p9 l).2) (by rw[b9];omega) (by rw[b9];omega)]
theorem Cd6(l:By)(a:l≠[]):Dc l=if (p9 l).1=65533/\(p9 l).2=1 then none else (Dc (l.drop (p9 l).2)).map ((p9 l).1::·):=by
 have c:0<l.length:=aa3.2 a;have d:=ae1 l;obtain⟨n,b⟩:∃n,l.length=n+1:=⟨l.length-1,by omega⟩
 unfold Dc;rw[b]
 conv=>lhs;unfold W5
 rw[if_neg a,NO n (l.drop (p9 l).2).length _ (by rw[b9];omega) (aa0 _)]
theorem TS:∀(f:Nat) (s:ByteArray) (pos:Nat) (p:List Nat),pos<=s.size->W5 f (s.data.toList.drop pos)=some p->s.size-pos<=f->aj1 s f pos=p.length
 | 0,s,pos,p,e,h,d=>by
  simp only[W5,j4] at h;subst h;rfl
 | f+1,s,pos,p,e,h,d=>by
  have g:s.data.toList.length=s.size:=by rw[ab2];rfl
  unfold W5 at h;rw[ag3] at h;by_cases a:pos<s.size
  ·rw[if_neg (by rw[<-k9,b9];omega)] at h;split at h
   ·cases h
   ·cases b:W5 f (ad9 (aa5 s pos).2 (ad9 pos s.data.toList)) with
    | none=>rw[b] at h;cases h
    | some q=>
     rw[b] at h;simp only[y7,j4] at h;subst h;have i:=Lib.decode_width_pos s pos a;have c:pos+(aa5 s pos).2<=s.size:=by
      have:=ah5 (s.data.toList.drop pos) (by rw[ne_eq,<-k9,b9];omega);rw[ag3,b9] at this;omega
     rw[ah6] at b;unfold aj1;rw[if_pos a,TS f s _ q c b (by omega)];grind
  ·rw[if_pos (by rw[<-k9,b9];omega)] at h;simp only[j4] at h;subst h;rw[Lib.runeCountFrom_end s _ _ a];rfl
theorem OA{l:By}{p:List Nat}(h:Dc l=some p):af2 l=p.length:=by
 unfold af2 Lib.runeCount;have a:(ByteArray.mk l.toArray).size=l.length:=by simp[ByteArray.size]
 refine TS _ _ 0 p (ac1 _) ?_ (by omega);rw[a,v7];simpa[Dc] using h
open Lib in theorem Ec1(n b a d e:Nat)(g:194<=b/\b<224)(f:a<256):decodeN n b a d e=if 2<=n/\128<=a/\a<=191 then ((b-192)*64+a-128,2) else (65533,1):=by
 unfold decodeN;rw[G1];by_cases c:2<=n/\128<=a/\a<=191
 ·rw[if_pos c,R0,R0];exact Prod.ext (by show b % 32*64+a % 64=(b-192)*64+a-128;omega) rfl
 ·rw[if_neg c,G1,G1,G1]
open Lib in theorem Ec2(n c a b f:Nat)(i:224<=c/\c<240)(g:a<256)(h:b<256):decodeN n c a b f=if 3<=n/\(128<=a/\a<=191)/\(128<=b/\b<=191) then
  (if 2048<=((c-224)*64+a-128)*64+b-128/\W4 (((c-224)*64+a-128)*64+b-128)=true then (((c-224)*64+a-128)*64+b-128,3) else (65533,1)) else (65533,1):=by
 unfold decodeN;rw[G1,G1];by_cases d:3<=n/\(128<=a/\a<=191)/\(128<=b/\b<=191)
 ·rw[if_pos d,R0];have e:c % 16*4096+a % 64*64+b % 64=((c-224)*64+a-128)*64+b-128:=by omega
  rw[e];generalize ((c-224)*64+a-128)*64+b-128=v
  congr 1
  simp only[W4,o0,ac6,x4,Nat.blt_eq];apply propext;omega
 ·rw[if_neg d,G1,G1]
open Lib in theorem Ec3(n d a b c:Nat)(j:240<=d/\d<245)(g:a<256)(h:b<256)(i:c<256):decodeN n d a b c=if 4<=n/\(128<=a/\a<=191)/\(128<=b/\b<=191)/\(128<=c/\c<=191) then
  (if 65536<=(((d-240)*64+a-128)*64+b-128)*64+c-128/\W4 ((((d-240)*64+a-128)*64+b-128)*64+c-128)=true then ((((d-240)*64+a-128)*64+b-128)*64+c-128,4) else (65533,1)) else (65533,1):=by
 unfold decodeN;rw[G1,G1,G1];by_cases f:4<=n/\(128<=a/\a<=191)/\(128<=b/\b<=191)/\(128<=c/\c<=191)
 ·rw[if_pos f,R0];have e:d % 8*262144+a % 64*4096+b % 64*64+c % 64=(((d-240)*64+a-128)*64+b-128)*64+c-128:=by omega
  rw[e];generalize (((d-240)*64+a-128)*64+b-128)*64+c-128=v
  congr 1
  simp only[W4,o0,ac6,x4,Nat.blt_eq];apply propext;omega
 ·rw[if_neg f,G1]
end
section
open Go Go.Proofs
theorem Xl(l:List Nat):X8 (l.map λn:Nat=>(n:Int))=Dr l:=by
 have b:(l.map λn:Nat=>(n:Int)).all ptI=l.all W4:=by
  rw[ag8]
  congr 1
 have c:(l.map λn:Nat=>(n:Int)).map ab0=l:=by
  rw[ag9];exact(ac3 λa _=>by simp).trans (ak5 l)
 unfold X8;rw[w6,b,c];by_cases h:256<l.length
 ·rw[if_pos h];unfold Dr;rw[if_pos h]
 ·rw[if_neg h];cases d:l.all W4 with
  | true=>rw[if_pos rfl]
  | false=>
   rw[if_neg (by simp)];unfold Dr;grind
theorem Xj(l:List Nat):(B7 l).map elI=l.map λn:Nat=>(n:Int):=by unfold B7;rw[ag9];exact ac3 λa _=>rfl
theorem Eo(l:List Nat):(B7 l).all Pc=true:=by unfold B7;rw[ag8,ab7];intro x _;rfl
theorem Bc1{R:Type}{a:Unit->Option R}{d:By->Bool->LL->Bool->Option R}(s:By)(z:Bool)(p:List Nat)(t:p.length<=1000000000):∀(r i n:Nat) (b:Bool),i+r=p.length->r<n->
  Z2 LF n s z (B7 p) b (p.length:Int) (i:Int) a d=if (p.drop i).any (λp=>p7 65 p&&p7 p 90) then a () else d s z (B7 p) (b&&!((p.drop i).any λp=>p7 128 p)):=by
 intro r
 induction r with
 | zero=>
  intro i n b h j;obtain⟨n,rfl⟩:∃m,n=m+1:=⟨n-1,by omega⟩
  rw[Z2];rw[A6,o6 (by omega)];simp
 | succ r k=>
  intro i n b h j;obtain⟨n,rfl⟩:∃m,n=m+1:=⟨n-1,by omega⟩
  rw[Z2];have f:A1 ((i:Int)+1)=((i+1:Nat):Int):=by rw[A7];rfl
  have g:p.drop i=p.getD i 0::p.drop (i+1):=by
   rw[w8,ac2 (by omega),ak1,List.getElem_cons_drop]
  rw[A9,D5,F2,j6,Si (by omega),CV _ _ (by omega),g,ai7,ai7,f];simp only[cond_true,vl];generalize p.getD i 0=q;have go:∀c:Bool,Z2 LF n s z (B7 p) c (p.length:Int) ((i+1:Nat):Int) a d=_:=λc=>k (i+1) n c (by omega) (by omega)
  by_cases l:q<65
  ·rw[A9,show p7 65 q=false by rw[w9,ne_eq,x4];omega];have e:p7 128 q=false:=by rw[w9,ne_eq,x4];omega
   rw[show ltI (q:Int) (128:Int)=true from A9,e];simp only[j8,cond_false,ak7,ae4];cases b<;>simp only[cond_true,cond_false]<;>rw[go]
  ·rw[A6,show p7 65 q=true by rw[x4];omega];simp only[j9,cond_true,ad6];by_cases e:90<q
   ·rw[A9,show p7 q 90=false by rw[w9,ne_eq,x4];omega];simp only[j8,cond_false,ae4];by_cases o:q<128
    ·rw[show ltI (q:Int) (128:Int)=true from A9,show p7 128 q=false by rw[w9,ne_eq,x4];omega];cases b<;>simp only[cond_true,cond_false,ae4]<;>rw[go]
    ·rw[show ltI (q:Int) (128:Int)=false from A6,show p7 128 q=true by rw[x4];omega];cases b<;>simp only[cond_true,cond_false,Bool.true_or,j8,Bool.and_false]<;>rw[go]<;>simp
   ·rw[A6,show p7 q 90=true by rw[x4];omega];simp
theorem A75:∀(m:Nat) (s:By) (a:List Nat) (n i b:Nat) (f:Bool),s.length<=m->a.length<=256->(I2 s a n i b f).1.length<=256:=by
 intro m
 induction m with
 | zero=>
  intro s a n i b f e d;obtain rfl:=k9.1 (Nat.le_zero.1 e);rw[Dp];exact d
 | succ m j=>
  intro s a n i b f e d;by_cases h:s=[]
  ·grind
  ·by_cases c:(D9 b s i 1 0).2.2=0
   ·rw[Ex h _ _ _ _ _ c];have g:=Rz b s i 1 0 c;split
    ·split
     ·grind
     ·rename_i k;exact j _ _ _ _ _ _ (by omega) (by rw[Bu];omega)
    grind
   ·rw[Hy h _ _ _ _ _ c];grind
theorem Ak4(s:By):(O8 s).1.length<=256:=by
 unfold O8;split
 ·grind
 ·split
  ·grind
  ·split
   ·grind
   ·rename_i h;exact A75 _ _ _ _ _ _ _ (aa0 _) (by rw[w6,j7];omega)
theorem Bc2{R:Type}{a:Bool->Option R}(s:By)(b:A3 s.length=true):B01 LF s a=a (Er s):=by
 have c:=C5;unfold B01 Er;rw[b,cond_true];by_cases h:(O8 s).2=0
 ·have e:(((O8 s).2:Int)!=(0:Int))=false:=by rw[h];rfl
  rw[e,cond_false,Ec,D5,h];have i:=Ak4 s;refine j2 (Bc1 s _ (O8 s).1 (by omega) (O8 s).1.length 0 LF true (by omega) (by omega)) ?_;rw[v7];cases d:(O8 s).1.any (λp=>p7 65 p&&p7 p 90) with
  | true=>simp
  | false=>
   rw[if_neg (by simp),Eo,Xj,Xl];simp only[cond_true,vl,ad6,j9];cases f:(O8 s).1.any (λp=>p7 128 p) with
   | false=>simp
   | true=>
    simp only[j8,j9,cond_true,ad5,beq_self_eq_true,ad6];by_cases g:(Dr (O8 s).1).2=0;all_goals grind
 grind
theorem Cb2{R:Type}{d:Unit->Option R}{e:By->Option R}(s:By)(w:s.length<=1000000000):∀(r i n:Nat),i+r=s.length->r<n->
  T5 LF n s (s.length:Int) (i:Int) d e=if (s.drop i).all L7 then e s else d ():=by
 intro r
 induction r with
 | zero=>
  intro i n l c;obtain⟨n,rfl⟩:∃m,n=m+1:=⟨n-1,by omega⟩
  rw[T5];rw[A6,o6 (by omega)];rfl
 | succ r o=>
  intro i n l c;obtain⟨n,rfl⟩:∃m,n=m+1:=⟨n-1,by omega⟩
  rw[T5];have k:A1 ((i:Int)+1)=((i+1:Nat):Int):=by rw[A7];rfl
  rw[A9,F2,D4,D6 s i (by omega),k,ab3];simp only[cond_true];rw[o (i+1) n (by omega) (by omega)];generalize s.getD i 0=b;have j:=Bx b;have u:((b.toNat:Int)!=45) = !(b==45):=congrArg _ (S6 b 45 (by omega));have v:((b.toNat:Int)!=95) = !(b==95):=congrArg _ (S6 b 95 (by omega));rw[u,v];have t:∀{x:Bool},L7 b=x->(if (L7 b&&(s.drop (i+1)).all L7)=true then e s else d ())=if (x&&(s.drop (i+1)).all L7)=true then e s else d ():=λh=>by rw[h]
  cases a:L7 b with
  | true=>
   rw[j] at a;simp only[ad6];by_cases f:b=45
   ·subst f;simp (disch:=decide) [ltI]
   ·by_cases g:b=95
    ·subst g;simp (disch:=decide) [ltI]
    ·rcases a with a|a|a|a
     ·rw[show ltI (b.toNat:Int) 97=false from A6,show ltI (122:Int) b.toNat=false from A6];rfl
     ·rw[show ltI (b.toNat:Int) 97=true from A9,show ltI (b.toNat:Int) 48=false from A6,show ltI (57:Int) b.toNat=false from A6];rfl
     ·exact absurd a f
     ·exact absurd a g
  | false=>
   have c:¬((97<=b.toNat/\b.toNat<=122)\/(48<=b.toNat/\b.toNat<=57)\/b=45\/b=95):=λh=>by rw[j.2 h] at a;cases a
   have p:(b==45)=false:=by simpa using λh=>c (.inr (.inr (.inl h)))
   have q:(b==95)=false:=by simpa using λh=>c (.inr (.inr (.inr h)))
   rw[p,q];simp only[j9,cond_true,ak7,o9,if_false];by_cases f:b.toNat<48
   ·rw[show ltI (b.toNat:Int) 97=true from A9,show ltI (b.toNat:Int) 48=true from A9];rfl
   ·by_cases g:b.toNat<97
    ·rw[show ltI (b.toNat:Int) 97=true from A9,show ltI (b.toNat:Int) 48=false from A6,show ltI (57:Int) b.toNat=true from A9];rfl
    ·rw[show ltI (b.toNat:Int) 97=false from A6,show ltI (122:Int) b.toNat=true from A9,show ltI (b.toNat:Int) 48=false from A6,show ltI (57:Int) b.toNat=true from A9];rfl
theorem Cb3{R:Type}{a:Bool->Option R}(s:By)(b:A3 s.length=true):Dj4 LF s a=a (K6 s):=by
 have k:=L4 b;have h:=C5;unfold Dj4 K6;by_cases c:s=[]
 ·simp_all
 ·have o:0<s.length:=aa3.2 c;have j:s.isEmpty=false:=by simpa using c
  rw[A6,cond_false,j];by_cases m:63<s.length
  ·rw[A9,show p7 s.length 63=false by rw[w9,ne_eq,x4];omega];rfl
  ·rw[A6,cond_false,show p7 s.length 63=true by rw[x4];omega,F2];have l:(bAt s 0==(45:Int))=(s.getD 0 0==45):=by rw[Ay];exact S6 _ 45 (by omega)
   have d:A1 ((s.length:Int)-1)=((s.length-1:Nat):Int):=by rw[A7];omega
   rw[l,d];simp only[cond_true,vl];rw[F2,D4,show((((s.getD (s.length-1) 0).toNat:Nat):Int)==45)=(s.getD (s.length-1) 0==45) from S6 _ 45 (by omega)];cases e:(s.getD 0 0==45) with
   | true=>
    grind
   | false=>
    rw[show(s.getD 0 0 !=45)=true by unfold bne;rw[e];rfl];simp only[cond_true,cond_false];cases f:(s.getD (s.length-1) 0==45) with
    | true=>
     grind
    | false=>
     rw[show(s.getD (s.length-1) 0 !=45)=true by unfold bne;rw[f];rfl];simp only[cond_false];refine j2 (Cb2 s k s.length 0 LF (by omega) (by omega)) ?_;rw[v7];cases n:s.all L7 with
     | false=>simp
     | true=>
      rw[if_pos rfl,b,cond_true];simp only[j9,ad6,ad5];show cond (!(xnB.isPrefixOf s)) _ _=_;cases g:xnB.isPrefixOf s with
      | false=>rfl
      | true=>
       have i:Hx s xnB=s.drop 4:=by unfold Hx;rw[g];rfl
       show cond (A3 (Hx s xnB).length) (a (Er (Hx s xnB))) none=_;rw[i,E7 (by rw[b9];omega)];rfl
theorem A84(a:List Nat)(b:Nat)(F:a.length<=256)(A:b<=256)(d:∀p∈a,p<=1114111):∀(f n:Nat) (s:UI),s.done=a.countP (λp=>decide (p<n))->s.delta<=300->s.bias<=500->s.out.length+20*(a.length-s.done)<=80000->n<=1114112->
  (T0 a b f n s).out.length<=80000:=by
 intro f;have z:=C5
 induction f with
 | zero=>intro n s C w q x y;unfold T0;omega
 | succ f G=>
  intro n s C w q x y;have B:a.countP (λp=>decide (p<n))<=a.length:=aa6;by_cases h:s.done<a.length
  ·obtain⟨u,i,j⟩:=A71 (n:=n) (l:=a) (by omega);obtain⟨L,M,o⟩:=Fc n a 1114112;have N:=o u i j;have O:=d u i;have c:I3 n a 1114112∈a/\n<=I3 n a 1114112:=by grind
   have D:T0 a b (f+1) n s=T0 a b f (I3 n a 1114112+1) { I5 (I3 n a 1114112) b a { s with delta:=s.delta+(I3 n a 1114112-n)*(s.done+1) } with delta:=(I5 (I3 n a 1114112) b a { s with delta:=s.delta+(I3 n a 1114112-n)*(s.done+1) }).delta+1 }:=by
    rw[T0,if_pos h]
   rw[D];generalize I3 n a 1114112=m at *;have t:(m-n)*(s.done+1)<=1114112*256:=ah9 (by omega) (by omega);have g:=B13 false false a b m (by omega) F a.length 0 LF { s with delta:=s.delta+(m-n)*(s.done+1) } (by omega) (by omega) (by simp only;omega) q (by simp only;omega) (by simp only;omega) A;rw[v7] at g;obtain⟨_,H,I,J,K⟩:=g;have e:0<a.countP (· == m):=ai4.2 ⟨m,c.1,by simp⟩;rw[if_pos e] at K;have k:=Xb c.2 a o;generalize I5 m b a { s with delta:=s.delta+(m-n)*(s.done+1) } = v at *;simp only at I J;have r:a.countP (λp=>decide (p<m+1))<=a.length:=aa6;exact G (m+1) { v with delta:=v.delta+1 } (by simp only;omega) (by simp only;omega) H (by simp only;omega) (by omega)
  ·rw[T0,if_neg h];omega
theorem Al4(p:List Nat):(Dr p).1.length<=80000:=by
 unfold Dr;split
 ·grind
 ·rename_i h;split
  ·grind
  ·rename_i a;have d:∀q∈p,q<=1114111:=λq e=>by
    have a:p.all W4=true:=by simpa using a
    have:=ab7.1 a q e;simp only[W4,o0,x4] at this;omega
   have b:=Ur p;have c:p.countP (λq=>decide (q<128))<=p.length:=aa6;refine A84 p _ (by omega) (by omega) d 256 128 _ b (by simp) (by simp) ?_ (by omega);grind
theorem ZR{b:UInt8}(h:128<=b.toNat):X9 b=b:=by
 rcases K9 b with⟨_,e⟩|⟨_,e⟩|⟨_,a,_⟩
 all_goals omega
theorem ZS{b:UInt8}(h:b.toNat<128):(X9 b).toNat<128:=by
 rcases K9 b with⟨_,e⟩|⟨_,e⟩|⟨_,a,e⟩
 all_goals grind
theorem B63(n:Nat)(a c d e:UInt8)(h:128<=a.toNat):ak4 n a.toNat (X9 c).toNat (X9 d).toNat (X9 e).toNat=ak4 n a.toNat c.toNat d.toNat e.toNat:=by
 have i:∀b:UInt8,b.toNat / 64=2->X9 b=b:=λb f=>ZR (by omega)
 have j:∀b:UInt8,¬b.toNat / 64=2->¬(X9 b).toNat / 64=2:=λb f h=>by
  by_cases g:128<=b.toNat
  ·rw[ZR g] at h;exact f h
  ·have:=ZS (b:=b) (by omega);omega
 unfold ak4;grind
theorem De3(l:By)(c:l≠[]):(p9 (B6 l)).2=(p9 l).2/\(¬((p9 l).1=65533/\(p9 l).2=1)->¬((p9 (B6 l)).1=65533/\(p9 (B6 l)).2=1)):=by
 cases l with
 | nil=>exact absurd rfl c
 | cons b t=>
  by_cases a:b.toNat<128
  ·have d:=af9 b t a;have f:p9 (B6 (b::t))=((X9 b).toNat,1):=af9 (X9 b) (B6 t) (ZS a);rw[d,f];refine⟨rfl,λ_ h=>?_⟩;have:=ZS a;omega
  ·have e:p9 (B6 (b::t))=p9 (b::t):=by
    rw[ai6,ai6,Ad,Dz,Dz,Dz,Dz];have e0:X9 ((b::t).getD 0 0)=b:=ZR (b:=b) (show 128<=b.toNat by omega);rw[e0];exact B63 (b::t).length b ((b::t).getD 1 0) ((b::t).getD 2 0) ((b::t).getD 3 0) (show 128<=b.toNat by omega)
   grind
theorem TC:∀(f:Nat) (l:By),(W5 f l).isSome=true->(W5 f (B6 l)).isSome=true
 | 0,_,_=>rfl
 | f+1,l,h=>by
  unfold W5 at h ⊢;by_cases a:l=[]
  ·subst a;rfl
  ·rw[if_neg a] at h;rw[if_neg (by rw[SQ];exact a)];obtain⟨b,c⟩:=De3 l a;split at h
   ·cases h
   ·rename_i d;rw[if_neg (c d),ag1,b,MT];rw[ag1] at h;exact TC f _ h
theorem Ar0{l:By}(h:(Dc l).isSome=true):(Dc (B6 l)).isSome=true:=by unfold Dc at h ⊢;rw[Ad];exact TC _ _ h
theorem B97(t:By)(C:t.length<=1000000000):∀(f pos:Nat) (P q:List Nat) (n:Nat),pos<=t.length->t.length-pos<=f->f<n->P.length<=pos->W5 f (t.drop pos)=some q->
  ∃m,∀(R:Type) (h:LL->By->Nat->Option R),Gd LF n (B7 P) t pos h=h (B7 (P++q)) t m:=by
 intro f
 induction f with
 | zero=>
  intro pos P q n u v w x a;obtain⟨n,rfl⟩:∃m,n=m+1:=⟨n-1,by omega⟩
  simp only[W5,j4] at a;subst a;refine⟨pos,λR h=>?_⟩;rw[Gd];rw[decide_eq_false (by omega),cond_false,ab9]
 | succ f z=>
  intro pos P q n u v w x a;obtain⟨n,rfl⟩:∃m,n=m+1:=⟨n-1,by omega⟩
  by_cases l:pos<t.length
  ·have b:t.drop pos≠[]:=by rw[ne_eq,<-k9,b9];omega
   have y:=ag3 ⟨t.toArray⟩ pos;have i:aa5 ⟨aa8 t⟩ pos=p9 (t.drop pos):=by rw[<-y]
   unfold W5 at a;rw[if_neg b] at a;split at a
   ·cases a
   ·have D:=ae1 (t.drop pos);have j:=ah5 (t.drop pos) b;have B:=aj8 (t.drop pos);rw[b9] at j;rw[ah6] at a;generalize p9 (t.drop pos)=p at *;obtain⟨c,o⟩:=p;simp only at *;cases k:W5 f (t.drop (pos+o)) with
    | none=>rw[k] at a;cases a
    | some A=>
     rw[k] at a;simp only[y7,j4] at a;subst a;obtain⟨m,e⟩:=z (pos+o) (P++[c]) A n (by omega) (by omega) (by omega) (by simp;omega) k;refine⟨m,λR h=>?_⟩;rw[Gd];rw[decide_eq_true l,cond_true,i,D5,F9 (by omega)];simp only[vl,cond_true];have r:A1 (c:Int)=(c:Int):=A7;have g:B7 P++[[SV.int .i64 (A1 (c:Int))]]=B7 (P++[c]):=by rw[r,Lr];rfl
     rw[g,e,ab1];rfl
  ·have d:t.drop pos=[]:=by rw[<-k9,b9];omega
   unfold W5 at a;rw[d,if_pos rfl] at a;simp only[j4] at a;subst a;refine⟨pos,λR h=>?_⟩;rw[Gd];rw[decide_eq_false l,cond_false,ab9]
theorem Ba9(s:By)(i:A3 s.length=true):(∀(R:Type) (b:By->Int->Option R) (c:By->Int->LL->By->Nat->Option R),Ao2 LF s b c=b (I6 s).1 ((I6 s).2:Nat))\/
  (∃l t m,∀(R:Type) (b:By->Int->Option R) (c:By->Int->LL->By->Nat->Option R),Ao2 LF s b c=c (I6 s).1 ((I6 s).2:Nat) l t m):=by
 have x:=L4 i;have u:=C5;unfold I6;cases h:Dc s with
 | none=>
  refine .inl λR b c=>?_
  unfold Ao2;rw[i,h];rfl
 | some p=>
  have k:=OA h;have top:∀(R:Type) (b:By->Int->Option R) (c:By->Int->LL->By->Nat->Option R),Ao2 LF s b c=cond (ltI 256 (p.length:Int)) (b [] 3) (cond (ltI (p.length:Int) (s.length:Int)) (Gd LF LF [] (B6 s) 0 (λa g f=>cond (aj2 a Pc)
      (cond (((X8 (ad2 elI a)).2:Int)!=(0:Int))
       (c ([]:List UInt8) 14 a g f)
       (cond (E8 4 (b8 ((X8 (ad2 elI a))).1))
        (cond (A3 (b8 (xnB++((X8 (ad2 elI a))).1)))
         (cond (not (K6 (xnB++((X8 (ad2 elI a))).1)))
         (c ([]:List UInt8) 14 a g f)
         (c (xnB++((X8 (ad2 elI a))).1) 0 a g f))
         (none))
        (none)))
      (none)))
     (cond (A3 (b8 (B6 s)))
      (cond (not (K6 (B6 s)))
      (b ([]:List UInt8) 14)
      (b (B6 s) 0))
      (none))):=by
   intro R b c;unfold Ao2;rw[i,h,k];rfl
  simp only;by_cases n:256<p.length
  ·rw[if_pos n];refine .inl λR b c=>?_
   rw[top,A9];rfl
  ·rw[if_neg n];by_cases o:p.length<s.length
   ·rw[if_pos o];have d:=Ar0 (l:=s) (by rw[h];rfl);cases r:Dc (B6 s) with
    | none=>rw[r] at d;cases d
    | some q=>
     have w:=Ad s;obtain⟨m,e⟩:=B97 (B6 s) (by omega) (B6 s).length 0 [] q LF (by omega) (by omega) (by omega) (by simp) (by rw[v7];exact r);refine .inr ⟨B7 q,B6 s,m,λR b c=>?_⟩;rw[top,A6,cond_false,A9,cond_true];refine j2 (e R _) ?_;have v:=Al4 q;rw[aa4,Eo,Xj,Xl,cond_true,G3 (by omega),cond_true,E7 (by rw[o7];simp only[xnB,j5,y5];omega),cond_true];simp only;by_cases j:(Dr q).2=0
     ·rw[j,if_pos rfl];cases y:K6 (xnB++(Dr q).1) with
      | true=>rfl
      | false=>rfl
     ·rw[if_neg j];have:(((Dr q).2:Int)!=(0:Int))=true:=by simpa using j
      rw[this];rfl
   ·rw[if_neg o];refine .inl λR b c=>?_
    rw[top,A6,cond_false,A6,cond_false,E7 (by rw[Ad];exact x),cond_true];cases K6 (B6 s)<;>rfl
theorem Di3(s:By)(c:A3 s.length=true):∃r H,Ao2 LF s (λa b=>rv (.tup [.s (.str a),.s (.int .i64 b)]) []) (λa b d f e=>rv (.tup [.s (.str a),.s (.int .i64 b)]) [.arr true 3 1 d,.iter f e])=rv r H/\
  r.stab [0,0] H = .tup [.s (.str (I6 s).1),.s (.int .i64 ((I6 s).2:Nat))]:=by
 rcases Ba9 s c with h|⟨l,t,m,h⟩
 ·exact⟨_,_,h _ _ _,rfl⟩
 ·exact⟨_,_,h _ _ _,rfl⟩
theorem B81{R:Type}{g:Int->Option R}(b:Int)(h:inR b 256=true):Cu7 LF b g=g (Ga (u8n b)):=by
 simp only[inR,o0,decide_eq_true_eq] at h;have j:b=((u8n b).toNat:Int):=by
  unfold u8n;simp;omega
 generalize u8n b=c at *;subst j;have i:=c.toNat_lt;unfold Cu7;simp only[Xy,Xx,vl,Ga];rcases Dq c with⟨d,f,e⟩|⟨d,f,e⟩|⟨d,f,e⟩|⟨d,f,o,e⟩
 ·have a:A1 (wu8 ((c.toNat:Int)-48))=((dig c:Nat):Int):=by
   rw[N6,A7];omega
  rw[R0];simp (disch:=omega) only[B9,E6,j8,j9,cond_false,cond_true,a]
 ·have a:A1 (A1 (wu8 ((c.toNat:Int)-97))+10)=((dig c:Nat):Int):=by
   rw[N6,D1 (n:=(c.toNat:Int)-97) (by omega) (by omega),A7];omega
  rw[R0];simp (disch:=omega) only[B9,E6,j8,j9,cond_false,cond_true,a]
 ·have a:A1 (A1 (wu8 ((c.toNat:Int)-65))+10)=((dig c:Nat):Int):=by
   rw[N6,D1 (n:=(c.toNat:Int)-65) (by omega) (by omega),A7];omega
  rw[R0];simp (disch:=omega) only[B9,E6,j8,j9,cond_false,cond_true,a]
 ·rw[e,if_neg (by decide)];by_cases k:c.toNat<48
  ·simp (disch:=omega) only[B9,E6,j8,j9,cond_false,cond_true]
  ·by_cases l:c.toNat<65
   ·simp (disch:=omega) only[B9,E6,j8,j9,cond_false,cond_true]
   ·by_cases m:c.toNat<97
    ·simp (disch:=omega) only[B9,E6,j8,j9,cond_false,cond_true]
    ·simp (disch:=omega) only[B9,E6,j8,j9,cond_false,cond_true]
theorem Aa9{b:UInt8}(r:By)(h:b≠37):R8 (b::r)=(R8 r).map (b::·):=by
 conv=>lhs;unfold R8
 grind
theorem NL(x y:UInt8)(r:By):R8 (37::x::y::r)=if dig x<16/\dig y<16 then (R8 r).map (o8 (16*dig x+dig y)::·) else none:=by
 conv=>lhs;unfold R8
 grind
theorem Ak7(x:UInt8):ltI (Ga x) 0 = !(decide (dig x<16)):=by
 unfold Ga;by_cases h:dig x<16
 ·simp_all
 ·rw[if_neg h,A9,decide_eq_false h];rfl
theorem HL:∀(s t:By),R8 s=some t->t.length<=s.length
 | [],t,h=>by simp only[R8,j4] at h;subst h;exact aa0 _
 | b::r,t,h=>by
  by_cases c:b=37
  ·subst c
   match r,h with
   | [],h=>cases h
   | [x],h=>cases h
   | x::y::d,h=>
    rw[NL] at h;split at h
    ·cases a:R8 d with
     | none=>rw[a] at h;cases h
     | some q=>
      rw[a] at h;simp only[y7,j4] at h;subst h;have:=HL d q a;simp only[j5];omega
    ·cases h
  ·rw[Aa9 _ c] at h;cases a:R8 r with
   | none=>rw[a] at h;cases h
   | some q=>
    rw[a] at h;simp only[y7,j4] at h;subst h;have:=HL r q a;grind
theorem B80(s:By)(P:s.length<=1000000000):∀(m i n:Nat) (a:By),i<=s.length->s.length-i<=m->m<n->a.length<=i->
  (∀t,R8 (s.drop i)=some t->∀(R:Type) (c:LL->Option R) (d:LL->Option R),U2 LF n s (i:Int) (a.map E4) c d=d ((a++t).map E4))/\
  (R8 (s.drop i)=none->∃l,∀(R:Type) (c:LL->Option R) (d:LL->Option R),U2 LF n s (i:Int) (a.map E4) c d=c l):=by
 intro m
 induction m with
 | zero=>
  intro i n a J K L I;obtain⟨n,rfl⟩:∃m,n=m+1:=⟨n-1,by omega⟩
  rw[o6 (by omega)];refine⟨λt f R c d=>?_,λh=>(by cases h)⟩;simp only[R8,j4] at f;subst f;rw[U2];rw[A6,ab9];rfl
 | succ m G=>
  intro i n a J K L I;obtain⟨n,rfl⟩:∃m,n=m+1:=⟨n-1,by omega⟩
  by_cases z:i<s.length
  ·have D:A1 ((i:Int)+1)=((i+1:Nat):Int):=by rw[A7];rfl
   have F:A1 ((i:Int)+2)=((i+2:Nat):Int):=by rw[A7];rfl
   have H:A1 (((i+2:Nat):Int)+1)=((i+3:Nat):Int):=by rw[A7];omega
   have p:(a.map E4).length=a.length:=w6 _;have v:∀b:UInt8,a.map E4++[[SV.int .u8 (b.toNat:Int)]]=(a++[b]).map E4:=λb=>by rw[ae5];rfl
   have C:(((s.getD i 0).toNat:Int)!=37) = !(s.getD i 0==37):=congrArg _ (S6 _ 37 (by omega));rw[D6 s i z];by_cases g:s.getD i 0=37
   ·by_cases O:i+2<s.length
    ·rw[D6 s (i+1) (by omega),D6 s (i+1+1) (by omega),g,NL];obtain⟨A,B⟩:=G (i+3) n (a++[o8 (16*dig (s.getD (i+1) 0)+dig (s.getD (i+2) 0))]) (by omega) (by omega) (by omega) (by simp;omega);have top:∀(R:Type) (c:LL->Option R) (d:LL->Option R),U2 LF (n+1) s (i:Int) (a.map E4) c d=cond (decide (dig (s.getD (i+1) 0)<16)&&decide (dig (s.getD (i+2) 0)<16)) (U2 LF n s ((i+3:Nat):Int) ((a++[o8 (16*dig (s.getD (i+1) 0)+dig (s.getD (i+2) 0))]).map E4) c d) (c (a.map E4)):=by
      intro R c d;rw[U2];rw[A9,F2,D4,C,g,p,F,A9,D,F2,F2,D4,D4];simp only[cond_true,vl,j8,cond_false,beq_self_eq_true,Ae8,Kf,Ak7,F9 (show a.length+1<=68719476736 by omega),H];generalize s.getD (i+1) 0=x at *;generalize s.getD (i+2) 0=y at *;by_cases M:dig x<16
      ·by_cases N:dig y<16
       ·have w1:Ga x=(dig x:Int):=by unfold Ga;rw[if_pos M]
        have S:Ga y=(dig y:Int):=by unfold Ga;rw[if_pos N]
        have T:A1 ((16:Int)*(dig x:Int))=((16*dig x:Nat):Int):=by rw[A7];omega
        have U:A1 (((16*dig x:Nat):Int)+(dig y:Int))=((16*dig x+dig y:Nat):Int):=by rw[A7];omega
        have V:wu8 ((16*dig x+dig y:Nat):Int)=((o8 (16*dig x+dig y)).toNat:Int):=by
         rw[N6];simp;omega
        grind
       grind
      grind
     by_cases o:dig (s.getD (i+1) 0)<16/\dig (s.getD (i+2) 0)<16
     ·rw[if_pos o];have w:(decide (dig (s.getD (i+1) 0)<16)&&decide (dig (s.getD (i+2) 0)<16))=true:=by rw[decide_eq_true o.1,decide_eq_true o.2];rfl
      refine⟨λt f R c d=>?_,λh=>?_⟩
      ·cases j:R8 (s.drop (i+3)) with
       | none=>rw[show i+1+1+1=i+3 from rfl,j] at f;cases f
       | some q=>
        rw[show i+1+1+1=i+3 from rfl,j] at f;simp only[y7,j4] at f;subst f;rw[top,w,cond_true,A q j,ab1];rfl
      ·cases j:R8 (s.drop (i+3)) with
       | some q=>rw[show i+1+1+1=i+3 from rfl,j] at h;cases h
       | none=>
        obtain⟨l,e⟩:=B j;exact⟨l,λR c d=>by rw[top,w,cond_true,e]⟩
     ·rw[if_neg o];have w:(decide (dig (s.getD (i+1) 0)<16)&&decide (dig (s.getD (i+2) 0)<16))=false:=by grind
      exact⟨λt h=>(by cases h),λ_=>⟨_,λR c d=>by rw[top,w,cond_false]⟩⟩
    ·have k:R8 (s.getD i 0::s.drop (i+1))=none:=by
      rw[g];cases o:s.drop (i+1) with
      | nil=>rfl
      | cons x r=>
       cases r with
       | nil=>rfl
       | cons y Q=>
        exfalso;have:=congrArg b8 o;rw[b9,j5,j5] at this;omega
     rw[k];refine⟨λt h=>(by cases h),λ_=>⟨a.map E4,λR c d=>?_⟩⟩;rw[U2];rw[A9,F2,D4,C,g,F,A6];rfl
   ·rw[Aa9 _ g];obtain⟨A,B⟩:=G (i+1) n (a++[s.getD i 0]) (by omega) (by omega) (by omega) (by simp;omega);have u:(s.getD i 0==37)=false:=by simpa using g
    have top:∀(R:Type) (c:LL->Option R) (d:LL->Option R),U2 LF (n+1) s (i:Int) (a.map E4) c d=U2 LF n s ((i+1:Nat):Int) ((a++[s.getD i 0]).map E4) c d:=by
     intro R c d;rw[U2];rw[A9,F2,D4,C,u,p,F9 (by omega),D,v];rfl
    refine⟨λt f R c d=>?_,λh=>?_⟩
    ·cases j:R8 (s.drop (i+1)) with
     | none=>rw[j] at f;cases f
     | some q=>
      rw[j] at f;simp only[y7,j4] at f;subst f;rw[top,A q j,ab1];rfl
    ·cases j:R8 (s.drop (i+1)) with
     | some q=>rw[j] at h;cases h
     | none=>
      obtain⟨l,e⟩:=B j;exact⟨l,λR c d=>by rw[top,e]⟩
  ·rw[o6 (by omega)];refine⟨λt f R c d=>?_,λh=>(by cases h)⟩;simp only[R8,j4] at f;subst f;rw[U2];rw[A6,ab9];rfl
theorem Dg5(s:By)(f:A3 s.length=true):∃r H,Cu6 LF s (λj k i=>rv (.tup [.s (.str j),.s (.bool k)]) [.arr false 5 1 i])=rv r H/\
  r.stab [0,0] H = .tup [.s (.str (Gh s)),.s (.bool (R8 s).isSome)]:=by
 have h:=L4 f;have g:=C5;have a:((decide ((0:Int)<=(s.length:Int)))&&(G2 (ab0 (s.length:Int))))=true:=by
  rw[j6,F9 (by omega),decide_eq_true (by omega)];rfl
 obtain⟨c,d⟩:=B80 s h s.length 0 LF [] (by omega) (by omega) (by omega) (by simp);rw[v7] at c d;unfold Gh;cases b:R8 s with
 | none=>
  obtain⟨l,e⟩:=d b;refine⟨.tup [.s (.str []),.s (.bool false)],[.arr false 5 1 l],?_,rfl⟩;unfold Cu6;rw[a,cond_true];exact e _ _ _
 | some t=>
  refine⟨.tup [.s (.str t),.s (.bool true)],[.arr false 5 1 (t.map E4)],?_,rfl⟩;unfold Cu6;rw[a,cond_true];refine j2 (c t b _ _ _) ?_;rw[aa4,Y4,Z3];rfl
abbrev Sy(i:Int)(j:By)(v4 a b c d e f g h:Int):List PV:=[.s (.int .i64 i),.s (.str j),.s (.int .u32 v4),.s (.int .u16 a),.s (.int .u16 b),.s (.int .u16 c),.s (.int .u16 d),.s (.int .u16 e),.s (.int .u16 f),.s (.int .u16 g),.s (.int .u16 h)]
def EY(h:B5):PV:=.agg [.s (.int .i64 (h.kind:Nat)),.s (.str h.name),.s (.int .u32 (h.v4:Nat)),.s (.int .u16 (h.v6.getD 0 0:Nat)),.s (.int .u16 (h.v6.getD 1 0:Nat)),.s (.int .u16 (h.v6.getD 2 0:Nat)),.s (.int .u16 (h.v6.getD 3 0:Nat)),.s (.int .u16 (h.v6.getD 4 0:Nat)),.s (.int .u16 (h.v6.getD 5 0:Nat)),.s (.int .u16 (h.v6.getD 6 0:Nat)),.s (.int .u16 (h.v6.getD 7 0:Nat))]
abbrev Ec4:Int->Int->Int->Int->Int->Int->Int->Int->Int->Int->Int->LL->Option (PV × List Blk × Unit):=λj c d e f g h i r8 k b a=>rv (.tup [.agg (Sy j [] 0 c d e f g h i r8),.s (.int .i64 k)]) [.box (Sy b [] 0 c d e f g h i r8),.arr false 32 1 a]
abbrev D96:Unit->Option (PV × List Blk × Unit):=λ_=>rv (.tup [.agg (Sy 0 [] 0 0 0 0 0 0 0 0 0),.s (.int .i64 14)]) [.box (Sy 0 [] 0 0 0 0 0 0 0 0 0)]
theorem HD(s:By)(c:UInt8)(h:s≠[]):(s.getLast? = some c)↔s.getD (s.length-1) 0=c:=by have:0<s.length:=aa3.2 h;grind
theorem Cu5(s:By)(g:A3 s.length=true)(e:Cv5 s=true):∃r H,By8 LF s Ec4 D96=rv r H/\r.stab [0,0] H = .tup [EY (Q9 s).1,.s (.int .i64 ((Q9 s).2:Nat))]:=by
 have m:=L4 g;have c:s≠[]:=by rintro rfl;cases e
 have l:0<s.length:=aa3.2 c;have i:s.getD 0 0=91:=by
  cases s with
  | nil=>exact absurd rfl c
  | cons b t=>
   simp only[Cv5,x6,ad5,beq_iff_eq] at e;grind
 have f:A1 ((s.length:Int)-1)=((s.length-1:Nat):Int):=by rw[A7];omega
 have k:(((s.getD (s.length-1) 0).toNat:Int)==93)=(s.getD (s.length-1) 0==93):=S6 _ 93 (by omega);have bad:∃r H,D96 ()=rv r H/\r.stab [0,0] H = .tup [EY L9,.s (.int .i64 14)]:=⟨_,_,rfl,rfl⟩
 unfold By8 Q9;simp only[vl,f];rw[F2,D4,k,cond_true];by_cases d:s.getD (s.length-1) 0=93
 ·have h:2<=s.length:=by grind
  rw[if_pos ⟨(HD s 93 c).2 d,h⟩,d,beq_self_eq_true,cond_true,show(1:Int)=((1:Nat):Int) from rfl,I4,cond_true,Fz];have j:((s.take (s.length-1)).drop 1).length<=s.length:=by rw[b9,j7];omega
  rw[J9,cond_true];unfold v6c;cases n:v6B ((s.take (s.length-1)).drop 1) with
  | none=>exact⟨_,_,rfl,rfl⟩
  | some a=>exact⟨_,_,rfl,rfl⟩
 grind
theorem C53(l:List By)(i:Nat)(y:By)(h:i<l.length):List.set (D2 l) i (G4 ((D2 l).getD i []) 0 [SV.str y])=D2 (l.set i y):=by
 have e:(D2 l).getD i []=[SV.str (l.getD i [])]:=by
  unfold D2;grind
 rw[e];unfold D2;rw[List.map_set];rfl
theorem An1(N:Nat)(hN:N<=1000000001):∀(a:List By) (done:List By) (n:Nat),done.length+a.length=N->a.length<n->(∀x∈a,x.length<=1000000000)->
  ((F7 a).2=0->∀(R:Type) (b:Int->LL->Option R) (c:Nat->LL->Option R),U7 LF n N (N:Int) (done.length:Int) (D2 (done++a)) b c=c N (D2 (done++(F7 a).1)))/\
  ((F7 a).2≠0->∃l,∀(R:Type) (b:Int->LL->Option R) (c:Nat->LL->Option R),U7 LF n N (N:Int) (done.length:Int) (D2 (done++a)) b c=b ((F7 a).2:Nat) l):=by
 intro a
 induction a with
 | nil=>
  intro done n i o p;obtain⟨n,rfl⟩:∃m,n=m+1:=⟨n-1,by simp at o;omega⟩
  simp only[y5] at i;refine⟨λ_ R b c=>?_,λh=>absurd rfl h⟩;rw[U7];rw[A6];rfl
 | cons x r z=>
  intro done n i o p;simp only[j5] at i o;obtain⟨n,rfl⟩:∃m,n=m+1:=⟨n-1,by omega⟩
  have v:A1 ((done.length:Int)+1)=((done.length+1:Nat):Int):=by rw[A7];rfl
  have q:(done++x::r).length=N:=by rw[o7,j5];omega
  have k:(done++x::r).getD done.length []=x:=by grind
  have f:∀y,(done++x::r).set done.length y=(done++[y])++r:=λy=>by grind
  have top:∀(R:Type) (b:Int->LL->Option R) (c:Nat->LL->Option R),U7 LF (n+1) N (N:Int) (done.length:Int) (D2 (done++x::r)) b c=cond (((I6 x).2:Int)!=0) (b ((I6 x).2:Nat) (D2 (done++x::r))) (U7 LF n N (N:Int) ((done.length+1:Nat):Int) (D2 ((done++[(I6 x).1])++r)) b c):=by
   intro R b c;rw[U7];rw[A9,F2,j6,ah0,Q2 (by omega),U1,k];simp only[vl,cond_true];rw[E7 (p x (by simp)),E3,decide_eq_true (show done.length<(done++x::r).length by omega),C53 _ _ _ (by omega),f,v];rfl
  unfold F7;obtain⟨t,u⟩:=z (done++[(I6 x).1]) n (by simp;omega) (by omega) (λy w=>p y (by simp[w]));have j:(done++[(I6 x).1]).length=done.length+1:=by simp
  rw[j] at t u;by_cases h:(I6 x).2=0
  ·rw[if_pos h];have g:(((I6 x).2:Int)!=0)=false:=by rw[h];rfl
   refine⟨λd R b c=>?_,λd=>?_⟩
   ·rw[top,g,cond_false,t d,ab1];rfl
   ·obtain⟨l,e⟩:=u d;exact⟨l,λR b c=>by rw[top,g,cond_false,e]⟩
  ·rw[if_neg h];have g:(((I6 x).2:Int)!=0)=true:=by simpa using h
   exact⟨λd=>absurd d h,λ_=>⟨_,λR b c=>by rw[top,g,cond_true]⟩⟩
theorem ZM(p:By)(m:Nat):∀l:List By,(∀x∈l,x.length<=m)->(aa1 l p).length<=(m+p.length)*l.length
 | [],_=>by simp[aa1]
 | [x],h=>by
  have:=h x (by simp);rw[show aa1 [x] p=x by simp[aa1,Lib.joinTail]];grind
 | x::y::r,h=>by
  have b:=h x (by simp);have c:=ZM p m (y::r) (λz a=>h z (by simp[a]));rw[V5,o7,o7,j5,Nat.mul_add,ab5];omega
theorem XM(l:List By):(D2 l).all isS=true:=by unfold D2;rw[ag8,ab7];intro x _;rfl
theorem C63(s:By):Ae5 s [46]=G8 s:=by
 unfold Ae5 G8;by_cases h:s.getLast? = some 46
 ·obtain⟨t,rfl⟩:=List.getLast?_eq_some_iff.1 h;grind
 ·rw[if_neg h,if_neg];rw[af3];rintro⟨t,a⟩;grind
abbrev D98:Int->By->Int->Int->Int->Int->Int->Int->Int->Int->Int->Int->Int->By->Int->Int->Int->Int->Int->Int->Int->Int->Int->Option (PV × List Blk × Unit):=λn o p q r t u v r8 w k l a m b c d e f g h i j=>rv (.tup [.agg (Sy n o p q r t u v r8 w k),.s (.int .i64 l)]) [.box (Sy a m b c d e f g h i j)]
abbrev D99:Int->By->Int->Int->By->LL->Option (PV × List Blk × Unit):=λc d e b f a=>rv (.tup [.agg (Sy c d 0 0 0 0 0 0 0 0 0),.s (.int .i64 e)]) [.box (Sy b f 0 0 0 0 0 0 0 0 0),.arr false 9 1 a]
theorem B85(s:By)(n:A3 s.length=true):∃r H,CZ LF s D98 D99=rv r H/\r.stab [0,0] H = .tup [EY (C4 s).1,.s (.int .i64 ((C4 s).2:Nat))]:=by
 have Q:=L4 n;have A:=C5;have bad:∀e:Nat,∃r H,D98 0 [] 0 0 0 0 0 0 0 0 0 (e:Int) 0 [] 0 0 0 0 0 0 0 0 0=rv r H/\r.stab [0,0] H = .tup [EY L9,.s (.int .i64 (e:Nat))]:=λe=>⟨_,_,rfl,rfl⟩
 have a:∀(e:Nat) (l:LL),∃r H,D99 0 [] (e:Int) 0 [] l=rv r H/\r.stab [0,0] H = .tup [EY L9,.s (.int .i64 (e:Nat))]:=λe l=>⟨_,_,rfl,rfl⟩
 by_cases i:1024<s.length
 ·have e:C4 s=(L9,3):=by unfold C4;rw[if_pos i]
  rw[e];unfold CZ;rw[A9,cond_true];exact bad 3
 ·have f:([91]:By).isPrefixOf s=decide (s.head? = some 91):=by
   cases s with
   | nil=>rfl
   | cons b t=>
    grind
  by_cases d:s.head? = some 91
  ·have j:([91]:By).isPrefixOf s=true:=by rw[f,decide_eq_true d]
   have e:C4 s=Q9 s:=by unfold C4 Q9;rw[if_neg i,if_pos d]<;>rfl
   rw[e];unfold CZ;rw[A6,cond_false,n,cond_true,j,cond_true,cond_true,show Cv5 s=true from j,cond_true];exact⟨_,_,rfl,rfl⟩
  ·have j:([91]:By).isPrefixOf s=false:=by rw[f,decide_eq_false d]
   unfold CZ;rw[A6,cond_false,n,cond_true,j,cond_false,cond_true];cases k:R8 s with
   | none=>
    have e:C4 s=(L9,14):=by unfold C4;rw[if_neg i,if_neg d,k]
    rw[e];exact bad 14
   | some t=>
    have L:t.length<=s.length:=HL s t k;have M:Gh s=t:=by unfold Gh;rw[k];rfl
    rw[M,J9];simp only[Option.isSome_some,j8,cond_false,cond_true,vl];rw[C63];have K:(G8 t).length<=t.length:=by unfold G8;split<;>simp
    have B:C4 s=if F0 (G8 t) then (match pnB (G8 t) with
      | some v=>(⟨2,[],v,z8⟩,0)
      | none=>(L9,14))
     else if (F7 (pcs 46 (G8 t))).2=0 then (
      let name:=aa1 (F7 (pcs 46 (G8 t))).1 [46]
      if 253<name.length then (L9,3) else if F0 name then (L9,14) else (⟨1,name,0,z8⟩,0))
     else (L9,(F7 (pcs 46 (G8 t))).2):=by
     unfold C4;rw[if_neg i,if_neg d,k];rfl
    rw[B];generalize G8 t=u at *;rw[J9,cond_true];cases O:F0 u with
    | true=>
     rw[if_pos rfl,cond_true,cond_true];cases P:pnB u with
     | none=>exact bad 14
     | some v=>exact⟨_,_,rfl,rfl⟩
    | false=>
     rw[if_neg (by simp),cond_false,cond_true,show((1:Nat)==1)=true from rfl,cond_true];have C:([46]:By).getD 0 0=46:=rfl;rw[C];have J:=Jv 46 u;have D:=Hw 46 u;obtain⟨w,y⟩:=An1 (pcs 46 u).length (by omega) (pcs 46 u) [] LF (by simp) (by omega) (λx p=>by have:=(Cr p).2;omega);rw[aa4,y5] at w y;by_cases g:(F7 (pcs 46 u)).2=0
     ·rw[if_pos g];obtain⟨z,N⟩:=Lc _ g;have G:=ZM [46] 63 (F7 (pcs 46 u)).1 (λx p=>(Cf (z x p)).le);have F:∀{R:Type} (m:Int->LL->Option R) (h:Nat->LL->Option R),U7 LF LF (pcs 46 u).length ((pcs 46 u).length:Int) 0 (D2 (pcs 46 u)) m h=h (pcs 46 u).length (D2 (F7 (pcs 46 u)).1):=λm h=>w g _ m h
      rw[F];have hA:(F7 (pcs 46 u)).1.length<=1025:=by omega
      have o:ai2 (pcs 46 u).length (ad9 0 (D2 (F7 (pcs 46 u)).1))=D2 (F7 (pcs 46 u)).1:=by
       rw[v7,ae3 (by rw[E3];omega)]
      have q:(63+([46]:By).length)*(F7 (pcs 46 u)).1.length<=64*1025:=ah9 (by simp) hA;rw[o,XM,Al3,E3,J9,J9];simp only[cond_true];generalize aa1 (F7 (pcs 46 u)).1 [46]=name at *;by_cases c:253<name.length
      ·rw[if_pos c,A9,cond_true];exact a 3 _
      ·rw[if_neg c,A6,cond_false];cases I:F0 name with
       | true=>exact a 14 _
       | false=>exact⟨_,_,rfl,rfl⟩
     ·rw[if_neg g];obtain⟨l,e⟩:=y g;simp_all
theorem An4{R:Type}{k0 k1:Unit->Option R}:∀l:List By,(∀x∈l,x.length<=1000000000)->MF LF l k0 k1=if l.all K6 then k0 () else k1 ()
 | [],_=>rfl
 | x::r,h=>by
  rw[An3];unfold HC;rw[E7 (h x (by simp)),cond_true,ab3];have b:=An4 (k0:=k0) (k1:=k1) r (λy a=>h y (by simp[a]));grind
theorem D05(s:By)(a:A3 s.length=true):∃r H,hvn LF s (λ_=>rv (.s (.bool false)) [.box [.s (.bool false)]]) (λd b=>rv (.s (.bool d)) [.box [.s (.bool b)],.box [.bad],.box [.bad],.box [.bad]])=rv r H/\r.stab [] H = .s (.bool (U9 s)):=by
 have h:=L4 a;unfold hvn ZF U9;by_cases e:253<s.length
 ·rw[A9,show p7 s.length 253=false by rw[w9,ne_eq,x4];omega];exact⟨_,_,rfl,rfl⟩
 ·rw[A6,cond_false,a,cond_true,show p7 s.length 253=true by rw[x4];omega];cases f:F0 s with
  | true=>exact⟨_,_,rfl,rfl⟩
  | false=>
   rw[cond_false,show((1:Nat)==1&&(0:Int)==(0:Int))=true from rfl,show([46]:By).getD 0 0=46 from rfl,ad5,cond_true,An4 _ (λx c=>by have:=(Cr c).2;omega)];cases g:(pcs 46 s).all K6 with
   | true=>exact⟨_,_,rfl,rfl⟩
   | false=>exact⟨_,_,rfl,rfl⟩
theorem Ea1(a c d f g h i j:Nat):(n8 (a:Int) c d f g h i j==z8)=(((a:Int)==0)&&(((c:Int)==0)&&(((d:Int)==0)&&(((f:Int)==0)&&(((g:Int)==0)&&(((h:Int)==0)&&(((i:Int)==0)&&(((j:Int)==0)&&true)))))))):=by
 have e:n8 (a:Int) c d f g h i j=[a,c,d,f,g,h,i,j]:=rfl;have q:∀b:Nat,((b:Int)==0)=(b==0):=λb=>by grind
 rw[e];simp only[q,z8];rfl
theorem Bz1(a:Int)(b:By)(v4 l m n o p q t u:Int)(D:A3 b.length=true)(F:ltN v4 4294967296=true)(G:ok8 l m n o p q t u=true) :
  ∃r H,Pj LF a b v4 l m n o p q t u (λV M W N O P Q R n8 S y z x=>rv (.s (.bool V)) [.box (Sy M W N O P Q R n8 S y z),.arr false 32 1 x])=rv r H/\
   r.stab [] H = .s (.bool (J7 (mkH a b v4 (n8 l m n o p q t u)))):=by
 obtain⟨c,d,e,f,g,i,j,k,rfl,rfl,rfl,rfl,rfl,rfl,rfl,rfl,X⟩:=Sg G;obtain⟨v0,v1⟩:=E2.1 F;obtain⟨v,rfl⟩:=aa9 v0;have U:((v:Int)==0)=(v==0):=by
  rw[ac5,beq_iff_eq,beq_iff_eq];omega
 have T:(b==([]:By))=b.isEmpty:=by cases b<;>rfl
 have J:(mkH a b (v:Int) (n8 (c:Int) d e f g i j k)).kind=if ltN a 4 then a.toNat else 0:=rfl
 have K:(mkH a b (v:Int) (n8 (c:Int) d e f g i j k)).name=b:=rfl;have L:(mkH a b (v:Int) (n8 (c:Int) d e f g i j k)).v4=v:=j6 v;have I:(mkH a b (v:Int) (n8 (c:Int) d e f g i j k)).v6=n8 (c:Int) d e f g i j k:=rfl;unfold Pj J7;rw[J,K,L,I,Ea1,U,T];by_cases A:a=1
 ·subst A;rw[show((1:Int)==1)=true from rfl,cond_true,D,cond_true,if_pos (by decide)];cases U9 b with
  | false=>exact⟨_,_,rfl,rfl⟩
  | true=>
   cases (v==0) with
   | false=>exact⟨_,_,rfl,rfl⟩
   | true=>exact⟨_,_,rfl,rfl⟩
 ·rw[show(a==(1:Int))=false by simpa using A,cond_false];by_cases B:a=2
  ·subst B;rw[show((2:Int)==2)=true from rfl,cond_true,if_neg (by decide),if_pos (by decide)];cases b.isEmpty with
   | false=>exact⟨_,_,rfl,rfl⟩
   | true=>exact⟨_,_,rfl,rfl⟩
  ·rw[show(a==(2:Int))=false by simpa using B,cond_false];by_cases C:a=3
   ·subst C;rw[show((3:Int)==3)=true from rfl,cond_true,if_neg (by decide),if_neg (by decide),if_pos (by decide)];cases b.isEmpty with
    | false=>exact⟨_,_,rfl,rfl⟩
    | true=>exact⟨_,_,rfl,rfl⟩
   ·rw[show(a==(3:Int))=false by simpa using C,cond_false];have w:(if ltN a 4 then a.toNat else 0)=0:=by
     split
     ·rename_i h;have:=E2.1 h;omega
     ·rfl
    rw[w];exact⟨_,_,rfl,rfl⟩
theorem Dx8{a b c d e f g i:Int}(h:ok8 a b c d e f g i=true):(n8 a b c d e f g i).length=8/\∀x∈n8 a b c d e f g i,x<65536:=by obtain⟨k,l,m,n,o,p,q,r,rfl,rfl,rfl,rfl,rfl,rfl,rfl,rfl,t⟩:=Sg h;refine⟨rfl,λx j=>?_⟩;simp only[n8,j6,p6,ag5,or_false] at j;omega
theorem Bz0(a:Int)(j:By)(v4 b c d e f g h i:Int)(q:A3 j.length=true)(t:ltN v4 4294967296=true)(n:ok8 b c d e f g h i=true) :
  ∃r H,Dh0 LF a j v4 b c d e f g h i (λI k J y z A B C n8 D l m=>rv (.s (.str I)) [.box (Sy k J y z A B C n8 D l m)])=rv r H/\
   r.stab [] H = .s (.str (P0 (mkH a j v4 (n8 b c d e f g h i)))):=by
 obtain⟨F,G⟩:=Dx8 n;have v:=Bs7 _ F G;unfold Dh0 P0;rw[q,t,n];simp only[cond_true,vl];have u:(mkH a j v4 (n8 b c d e f g h i)).kind=if ltN a 4 then a.toNat else 0:=rfl
 cases w:J7 (mkH a j v4 (n8 b c d e f g h i)) with
 | false=>exact⟨_,_,rfl,rfl⟩
 | true=>
  rw[if_pos rfl,j8,cond_false,u];by_cases o:a=1
  ·subst o;rw[if_pos (by decide)];exact⟨_,_,rfl,rfl⟩
  ·rw[show(a==(1:Int))=false by simpa using o,cond_false];have k:¬(if ltN a 4 then a.toNat else 0)=1:=by grind
   rw[if_neg k];by_cases p:a=2
   ·subst p;rw[if_pos (by decide)];exact⟨_,_,rfl,rfl⟩
   ·rw[show(a==(2:Int))=false by simpa using p,cond_false];have x:¬(if ltN a 4 then a.toNat else 0)=2:=by grind
    rw[if_neg x,G3 (by omega),cond_true,G3 (by rw[o7,o5];omega),cond_true];exact⟨_,_,rfl,rfl⟩
theorem B79{R:Type}{b:Bool->Option R}(p s:By)(a:A3 p.length=true)(c:A3 s.length=true):Dg2 LF p s b=b (Cm p s):=by have d:=L4 a;unfold Dg2 Cm;rw[a,c,G3 (by omega)];grind
theorem Bc3{R:Type}{a:By->By->Int->Option R}(t p:By)(n:Int):Cw6 LF t p n a=a t p n:=rfl
theorem Cj0{R:Type}{a:By->By->Option R}(t p:By):D31 LF t p a=a t p:=rfl
theorem Bq2{l R:Type}(g:Yh l)(c:UInt8):∀(m:Nat) (t:By) (n:Nat) (s i:l),t.length<=m->t.length<=1000000000->m<n->Ej g ((pcs c t).map λx=>([.s (.str x)]:List PV)) s=some i->
  ∃u , (∃w:l,∃b:Bool,g [.s (.str u)] w=some (b,i)/\∀(a d:By->By->Int->l->Option R),U8 g LF n [c] t 0 s a d=a [c] u 0 w)\/(∀(a d:By->By->Int->l->Option R),U8 g LF n [c] t 0 s a d=d [c] u 0 i):=by
 intro m
 induction m with
 | zero=>
  intro t n s i z o F h;obtain rfl:=k9.1 (Nat.le_zero.1 z);obtain⟨n,rfl⟩:∃m,n=m+1:=⟨n-1,by omega⟩
  rw[Lv (by simp)] at h;simp only[ab4,aj4,Ej] at h;refine⟨[],.inl ⟨s,?_⟩⟩;have e:∀(a d:By->By->Int->l->Option R),U8 g LF (n+1) [c] [] 0 s a d=a [c] [] 0 s:=λa d=>by
   rw[U8];rw[Vj (by simp)];rfl
  cases k:g [.s (.str [])] s with
  | none=>rw[k] at h;cases h
  | some q=>
   obtain⟨b,j⟩:=q;rw[k] at h;have:j=i:=by cases b<;>simpa using h
   subst this;exact⟨b,rfl,e⟩
 | succ m G=>
  intro t n s i z o F h;obtain⟨n,rfl⟩:∃m,n=m+1:=⟨n-1,by omega⟩
  rcases R2 c t with v|⟨p,r,rfl,v⟩
  ·rw[Lv v] at h;simp only[ab4,aj4,Ej] at h;refine⟨t,.inl ⟨s,?_⟩⟩;have e:∀(a d:By->By->Int->l->Option R),U8 g LF (n+1) [c] t 0 s a d=a [c] t 0 s:=λa d=>by
    rw[U8];rw[Vj v,E7 o];rfl
   cases k:g [.s (.str t)] s with
   | none=>rw[k] at h;cases h
   | some q=>
    obtain⟨b,j⟩:=q;rw[k] at h;have:j=i:=by cases b<;>simpa using h
    subst this;exact⟨b,rfl,e⟩
  ·rw[HK v] at h;simp only[ab4,Ej] at h;have y:(p++c::r).length=p.length+r.length+1:=by rw[o7,j5];omega
   have A:A1 ((p.length:Int)+0)=((p.length:Nat):Int):=by rw[A7];omega
   have B:A1 ((p.length:Int)+(([c]:By).length:Int))=((p.length+1:Nat):Int):=by
    rw[D1 (by simp;omega) (by simp;omega)];simp
   have C:cut (p++c::r) 0 (p.length:Int)=p:=by rw[L2,j6,ad3]
   have D:cut (p++c::r) ((p.length+1:Nat):Int) ((p++c::r).length:Int)=r:=by
    rw[Q6,j6,show p++c::r=(p++[c])++r by simp,ah2 (by simp)]
   have top:∀(a d:By->By->Int->l->Option R),U8 g LF (n+1) [c] (p++c::r) 0 s a d=ydK (g [.s (.str p)] s) λb j=>cond (not b) (d [c] (p++c::r) 0 j) (U8 g LF n [c] r 0 j a d):=λa d=>by
    rw[U8];rw[DD v,E7 o,cond_true,A6,cond_false];simp only[vl,A,B,C,D];rw[I4,cond_true,I4];rfl
   cases k:g [.s (.str p)] s with
   | none=>rw[k] at h;cases h
   | some q=>
    obtain⟨b,j⟩:=q;rw[k] at h top;cases b with
    | false=>
     have:j=i:=by simpa using h
     subst this;exact⟨p++c::r,.inr λa d=>by rw[top];rfl⟩
    | true=>
     simp only at h;obtain⟨u,⟨w,b,e,f⟩|f⟩:=G r n j i (by omega) (by omega) (by omega) h
     ·exact⟨u,.inl ⟨w,b,e,λa d=>by rw[top];exact f a d⟩⟩
     ·exact⟨u,.inr λa d=>by rw[top];exact f a d⟩
theorem Bq3{j R:Type}(i:Yh j)(p t:By)(n:Int)(s g:j)(h:(A3 t.length&&(p.length==1&&n==0))=true)(o:Ej i ((pcs (p.getD 0 0) t).map λx=>([.s (.str x)]:List PV)) s=some g) :
  ∃d,∀(a:By->By->Int->j->Option R),Ay0 i LF p t n s a=a p d n g:=by
 have m:=C5;simp only[o0,beq_iff_eq] at h;obtain⟨k,l,rfl⟩:=h;obtain⟨c,rfl⟩:=List.length_eq_one_iff.1 l;have q:=L4 k;obtain⟨d,⟨r,b,e,f⟩|f⟩:=Bq2 (R:=R) i c t.length t LF s g (aa0 _) q (by omega) o
 ·refine⟨d,λa=>?_⟩;unfold Ay0;rw[show(((([c]:By).length:Nat):Int)==0)=false from rfl,cond_false];refine j2 (f _ _) ?_;rw[e];rfl
 ·refine⟨d,λa=>?_⟩;unfold Ay0;rw[show(((([c]:By).length:Nat):Int)==0)=false from rfl,cond_false];exact f _ _
end
section
open Go Go.Proofs Go.Sort
set_option maxRecDepth 100000
theorem Db7:B4 p4 GX 130 Ai2:=by
 refine B4.fix (pf:=BN) _ (J2 (fn:=Tryz.f130) (by kernel_rfl) (by kernel_rfl) (by kernel_rfl) ?_);intro args ret l h;unfold BN at h;split at h
 ·rename_i s;obtain⟨b,h⟩:=C7 h;obtain⟨rfl,rfl⟩:=J6 h;refine⟨rfl,rfl,λC n a o w m c g f=>?_⟩;obtain⟨U,rfl,j⟩:=f.arr1;obtain⟨k,rfl,rfl⟩:=j.inv_str;have i:=L4 b;refine(Any.utf8_ValidString Tryz.lays196 k w (by simp at i;omega) (Df8 c a)).mono ?_;rintro e w' ⟨rfl,d⟩;rw[<-Bs8];exact⟨_,rfl,d,VP.mk_bool _⟩
 ·cases h
theorem Db4:B4 p4 GX 131 Ai0:=by
 refine B4.fix (pf:=BL) _ (J2 (fn:=Tryz.f131) (by kernel_rfl) (by kernel_rfl) (by kernel_rfl) ?_);intro args ret j h;unfold BL at h;split at h
 ·rename_i s;obtain⟨a,h⟩:=C7 h;obtain⟨rfl,rfl⟩:=J6 h;refine⟨rfl,rfl,λC m b n w k l d c=>?_⟩;obtain⟨U,rfl,g⟩:=c.arr1;obtain⟨i,rfl,rfl⟩:=g.inv_str;have f:=L4 a;refine(Any.utf8_RuneCountInString Tryz.lays195 i w (by simp at f;omega)).mono ?_;rintro e w' ⟨rfl,pos,rfl⟩;rw[Lib.runeCountL_eq];exact⟨_,rfl,A43 _ _ _,VP.mk_int _ _⟩
 ·cases h
theorem Ds3:B4 p4 GX 163 Wq:=λargs ret a h=>by
 have:M3 (Wq args)=none:=by unfold Wq Ag8;split<;>rfl
 rw[this] at h;cases h
theorem Dv8:Bu3 p4 GX 162 GQ:=by
 refine Aw9 (C₀:=Be LF) ((N7.ok (l:=[(163,Wq),(149,JV)]) rfl ⟨Ds3,Bt6,trivial⟩)) (J1 rfl (by kernel_rfl)) follows ?_;intro args H L h e a s d c;unfold GQ at h;split at h
 ·rename_i p t n;simp only[j4,al5] at h;obtain⟨b,rfl⟩:=h;obtain⟨g,f⟩:=Bq3 (R:=PV × List Blk × e) a p t n s d b c;exact⟨1,_,(C49 LF a 0 p t n s).trans (f _)⟩
 ·cases h
end
section
open Go Go.Proofs
set_option maxRecDepth 100000
section
theorem Dt1:B4 p4 GX 143 Bu8:=xf [] (Mt LF) IP rfl ⟨D60,C99,trivial⟩ rfl (by kernel_rfl) follows λargs=>by
 unfold IP;split
 ·rename_i s;exact λa=>⟨rfl,rfl,rfl,_,_,(Cw3 LF noY () 0 s).trans (Bc2 s a),rfl⟩
 ·trivial
theorem C96:B4 p4 GX 117 VM:=xf [] (Uv LF) VO rfl ⟨C86,Dt1,trivial⟩ rfl (by kernel_rfl) follows λargs=>by
 unfold VO;split
 ·rename_i s;exact λa=>⟨rfl,rfl,rfl,_,_,(Dj5 LF noY () 0 s).trans (Cb3 s a),rfl⟩
 ·trivial
theorem D59:B4 p4 GX 109 Cn9:=xf [0,0] (Qd LF) VE rfl ⟨Db7,Db4,C94,C99,C96,trivial⟩ rfl (by kernel_rfl) follows λargs=>by
 unfold VE;split
 ·rename_i s;exact λb=>(let⟨e,c,a,d⟩:=Di3 s b;⟨rfl,rfl,rfl,e,c,(Di2 LF noY () 0 s).trans a,d⟩)
 ·trivial
theorem D57:B4 p4 GX 123 Cn6:=xf [] (Kh LF) UU rfl trivial rfl (by kernel_rfl) follows λargs=>by
 unfold UU;split
 ·rename_i b;exact λa=>⟨rfl,rfl,rfl,_,_,(Dg7 LF noY () 0 b).trans (B81 b a),rfl⟩
 ·trivial
theorem D56:B4 p4 GX 104 Cn5:=xf [0,0] (Ut LF) UT rfl ⟨D57,trivial⟩ rfl (by kernel_rfl) follows λargs=>by
 unfold UT;split
 ·rename_i s;exact λb=>(let⟨e,c,a,d⟩:=Dg5 s b;⟨rfl,rfl,rfl,e,c,(Dg4 LF noY () 0 s).trans a,d⟩)
 ·trivial
theorem Ds6:B4 p4 GX 103 Bu5:=xf [0,0] (XV LF) II rfl ⟨Eb8,trivial⟩ rfl (by kernel_rfl) follows λargs=>by
 unfold II;split
 ·rename_i s;exact λb=>λc=>(let⟨f,d,a,e⟩:=Cu5 s b c;⟨rfl,rfl,rfl,f,d,(Cu4 LF noY () 0 s).trans a,e⟩)
 ·trivial
theorem C90:B4 p4 GX 80 Ah1:=xf [0,0] (Ho LF) AT rfl ⟨Af7,Ds6,D56,Dv5,UG,D62,Cm4,D59,B48,trivial⟩ rfl (by kernel_rfl) follows λargs=>by
 unfold AT;split
 ·rename_i s;exact λb=>(let⟨e,c,a,d⟩:=B85 s b;⟨rfl,rfl,rfl,e,c,(B84 LF noY () 0 s).trans a,d⟩)
 ·trivial
theorem Dt3:B4 p4 GX 142 VJ:=by
 refine B4.fix (pf:=IR) _ (Cz (C₀:=YB LF) (N7.ok (l:=[]) rfl trivial) (J1 rfl (by kernel_rfl)) follows ?_);intro args ret a h;unfold IR at h;split at h
 ·rename_i t p n;obtain⟨rfl,rfl⟩:=J6 h;have e:=(Cw7 LF noY () 0 t p n).trans (Bc3 t p n );exact⟨rfl,1,_,[],e,rfl,rfl⟩
 ·cases h
theorem D73:B4 p4 GX 116 A30:=by
 refine B4.fix (pf:=XB) _ (Cz (C₀:=A63 LF) (N7.ok (l:=[(142,VJ)]) rfl ⟨Dt3,trivial⟩) (J1 rfl (by kernel_rfl)) follows ?_);intro args ret a h;unfold XB at h;split at h
 ·rename_i t p;obtain⟨rfl,rfl⟩:=J6 h;have e:=(Dp6 LF noY () 0 t p).trans (Cj0 t p );exact⟨rfl,1,_,[],e,rfl,rfl⟩
 ·cases h
theorem Dy1:B4 p4 GX 87 Cn8:=by
 refine B4.fix (pf:=A14) _ (J3 [] (C₀:=Qc LF) (Wo (lx:=[(106,Rp),(116,A30),(117,VM)]) (ly:=[]) (ls:=[(162,GQ)]) rfl rfl rfl ⟨UG,D73,C96,trivial⟩ trivial ⟨Dv8,trivial⟩) (J1 rfl (by kernel_rfl)) follows ?_);intro args ret f h;unfold A14 at h;split at h
 ·rename_i s;obtain⟨b,h⟩:=C7 h;obtain⟨rfl,rfl⟩:=J6 h;obtain⟨e,c,a,d⟩:=D05 s b;exact⟨rfl,rfl,rfl,1,e,c,(D04 LF noY () 0 s).trans a,d⟩
 ·cases h
theorem Bt3:B4 p4 GX 58 UZ:=xf [] (A55 LF) VA rfl ⟨Dy1,trivial⟩ rfl (by kernel_rfl) follows λargs=>by
 unfold VA;split
 ·rename_i i j v4 a b c d e f g h;exact λl=>λm=>λn=>(let⟨q,o,k,p⟩:=Bz1 i j v4 a b c d e f g h l m n;⟨rfl,rfl,rfl,q,o,(Dh5 LF noY () 0 i j v4 a b c d e f g h).trans k,p⟩)
 ·trivial
theorem C89:B4 p4 GX 54 A13:=xf [] (A52 LF) UW rfl ⟨Bt3,Eb4,Eb6,trivial⟩ rfl (by kernel_rfl) follows λargs=>by
 unfold UW;split
 ·rename_i i j v4 a b c d e f g h;exact λl=>λm=>λn=>(let⟨q,o,k,p⟩:=Bz0 i j v4 a b c d e f g h l m n;⟨rfl,rfl,rfl,q,o,(Dh1 LF noY () 0 i j v4 a b c d e f g h).trans k,p⟩)
 ·trivial
theorem D55:B4 p4 GX 86 Cn4:=xf [] (A50 LF) US rfl ⟨Dy1,D58,trivial⟩ rfl (by kernel_rfl) follows λargs=>by
 unfold US;split
 ·rename_i p s;exact λa=>λb=>⟨rfl,rfl,rfl,_,_,(Dg3 LF noY () 0 p s).trans (B79 p s a b),rfl⟩
 ·trivial
end
end
section
open Go
structure U0 where
 sch:By
 user:By
 host:B5
 port:Int
 rest:By
def Al:U0:=⟨[],[],L9,0,[]⟩
def Dd:By:=[104,116,116,112]
def Bj:By:=[104,116,116,112,115]
def bWs:By:=[119,115]
def Uk:By:=[119,115,115]
def Q1(s:By):Int:=if s==Dd||s==bWs then 80 else if s==Bj||s==Uk then 443 else -1
def H8(s:By):Bool:=s==Dd||s==bWs||(s==Bj||s==Uk)
def M8(s:By):Bool:=s==Dd||s==bWs
def ctl(b:UInt8):Bool:=p7 b.toNat 32||b==127
def Q8(b:UInt8):Bool:=(p7 97 b.toNat&&p7 b.toNat 122)||(p7 65 b.toNat&&p7 b.toNat 90)
def L8(b:UInt8):Bool:=Q8 b||(p7 48 b.toNat&&p7 b.toNat 57)||b==43||b==45||b==46
def T7:By->Bool
 | []=>false
 | b::r=>Q8 b&&r.all L8
def N2(b:UInt8):Bool:=b==47||b==63||b==35
def J4(s:By):Nat:=(s.takeWhile λb=>!N2 b).length
def Ic(c:UInt8):By->Option Nat
 | []=>none
 | b::r=>if b=c then some 0 else (Ic c r).map (· + 1)
def Ii:Int->By->Option Int
 | n,[]=>if n<65536 then some n else none
 | n,b::r=>if 48<=b.toNat/\b.toNat<=57 then Ii (min (10*max n 0+((b.toNat-48:Nat):Int)) 65536) r else none
def Fd(a:By):Option (By × By):=
 if a.head? = some 91 then (match Ic 93 a with
  | some k=>some (a.take (k+1),a.drop (k+1))
  | none=>none)
 else match Ic 58 a with
  | some k=>some (a.take k,a.drop k)
  | none=>some (a,[])
def N8(c user b:By)(a:By):U0 × Nat:=
 match Fd a with
 | none=>(Al,4)
 | some (name,tail)=>
  if tail≠[]/\tail.head?≠some 58 then (Al,4)
  else if (C4 name).2≠0 then (Al,(C4 name).2)
  else match Ii (-1) (tail.drop 1) with
   | none=>(Al,16)
   | some p=>(⟨c,user,(C4 name).1,if p=Q1 c then -1 else p,b⟩,0)
def G5(c b a:By):U0 × Nat:=
 if 0<=L3 64 a then N8 c (a.take (L3 64 a).toNat) b (a.drop ((L3 64 a).toNat+1)) else N8 c [] b a
def S9(r:By):By:=if r.head? = some 47 then r else 47::r
def C2(s:By):U0 × Nat:=
 if s.any ctl then (Al,4)
 else if !(x9 s [58]).2.2||!T7 (x9 s [58]).1 then (Al,15)
 else if !H8 (B6 (x9 s [58]).1) then (⟨B6 (x9 s [58]).1,[],L9,-1,(x9 s [58]).2.1⟩,0)
 else if !([47,47]:By).isPrefixOf (x9 s [58]).2.1 then (Al,4)
 else G5 (B6 (x9 s [58]).1) (S9 (((x9 s [58]).2.1.drop 2).drop (J4 ((x9 s [58]).2.1.drop 2)))) (((x9 s [58]).2.1.drop 2).take (J4 ((x9 s [58]).2.1.drop 2)))
def A8(s:By):U0 × Nat:=if 2048<s.length then (Al,3) else C2 s
def V2(p:Int):By:=if p<0 then 45::v8 (-p).toNat else v8 p.toNat
def Oy(u:U0):By:=(if u.user=[] then [] else u.user++[64])++(P0 u.host++(if u.port=-1 then [] else 58::V2 u.port))
def Y3(u:U0):By:=if H8 u.sch then u.sch++58::47::47::(Oy u++u.rest) else u.sch++58::u.rest
def Jg(u:U0):By:=if u.port < -1 then (if H8 u.sch then u.sch++58::47::47::(((if u.user=[] then [] else u.user++[64])++(P0 u.host++[58,120]))++u.rest) else u.sch++58::u.rest) else Y3 u
def Cx3(b:Int)(c:By)(v4:Int)(a:List Nat):B5:=⟨if ltN b 4 then b.toNat else 4,c,v4.toNat,a⟩
def mkU(f g:By)(b:Int)(c:By)(v4:Int)(a:List Nat)(d:Int)(e:By):U0:=⟨f,g,Cx3 b c v4 a,d,e⟩
def smU(c d a b:By):Bool:=p7 c.length 100000000&&p7 d.length 100000000&&p7 a.length 100000000&&p7 b.length 100000000
def eqH(a b:B5):Bool:=a.kind==b.kind&&a.name==b.name&&a.v4==b.v4&&a.v6==b.v6
def eqU(a b:U0):Bool:=a.sch==b.sch&&a.user==b.user&&eqH a.host b.host&&a.port==b.port&&a.rest==b.rest
def T9(u:U0):Bool:=(C2 (Y3 u)).2==0&&eqU (C2 (Y3 u)).1 u
def Xp(u:U0):By:=if T9 u then Y3 u else []
def prt(b:By)(a:Int):Int:=if a==-1 then Q1 b else a
def upS(a:By):By:=if a==Dd then Bj else if a==bWs then Uk else a
def upP(b:By)(a:Int):Int:=if M8 b&&a==443 then -1 else a
def GK:By->Int
 | s=>let rec go:Int->By->Int
   | n,[]=>n
   | n,b::r=>if 48<=b.toNat/\b.toNat<=57 then go (min (10*max n 0+((b.toNat-48:Nat):Int)) 65536) r else 0
  go (-1) s
def S7(s t:By):Nat:=(s.takeWhile λb=>!t.contains b).length
def Ei(s:By):By × By × Bool:=if (x9 s [58]).2.2&&T7 (x9 s [58]).1 then (B6 (x9 s [58]).1,(x9 s [58]).2.1,true) else ([],[],false)
def isl:By:=[47,63,35]
def DE(p:By):Bool:=p==isl
def OW(r:Int):Bool:=ltN r 55296||(ltI 57343 r&&ltN r 1114112)
def irn(r:Int):Int:=if r=47 then 0 else if r=63 then 1 else if r=35 then 2 else -1
abbrev uS(p:U0 × Nat):By:=p.1.sch
abbrev uU(p:U0 × Nat):By:=p.1.user
abbrev uK(p:U0 × Nat):Int:=p.1.host.kind
abbrev uN(p:U0 × Nat):By:=p.1.host.name
abbrev uV(p:U0 × Nat):Int:=p.1.host.v4
abbrev uA(p:U0 × Nat)(i:Nat):Int:=(p.1.host.v6.getD i 0:Nat)
abbrev uP(p:U0 × Nat):Int:=p.1.port
abbrev uR(p:U0 × Nat):By:=p.1.rest
abbrev uE(p:U0 × Nat):Int:=p.2
theorem PG(s:By):decide (0<Q1 s)=H8 s:=by
 unfold Q1 H8;cases (s==Dd||s==bWs) with
 | true=>rfl
 | false=>cases (s==Bj||s==Uk)<;>rfl
theorem QH{s:By}(h:H8 s=true):s=Dd\/s=bWs\/s=Bj\/s=Uk:=by simp only[H8,ac6,beq_iff_eq] at h;rcases h with(h|h)|(h|h)<;>simp[h]
theorem SJ{c:UInt8}:∀{s:By},c∉s->Ic c s=none
 | [],_=>rfl
 | b::r,h=>by
  simp only[p6,not_or] at h;rw[Ic,if_neg (ag0 h.1),SJ h.2];rfl
theorem Yd{c:UInt8}:∀{p:By} (r:By),c∉p->Ic c (p++c::r)=some p.length
 | [],r,_=>by rw[aa4,Ic,if_pos rfl];rfl
 | b::p,r,h=>by
  simp only[p6,not_or] at h;rw[ab8,Ic,if_neg (ag0 h.1),Yd r h.2];rfl
theorem Sd{c:UInt8}:∀{s:By} {k:Nat},Ic c s=some k->∃p r,s=p++c::r/\c∉p/\p.length=k
 | [],k,h=>by cases h
 | b::s,k,h=>by
  rw[Ic] at h;split at h
  ·rename_i a;obtain rfl:=y8 h;exact⟨[],s,by rw[a];rfl,by simp,rfl⟩
  ·rename_i a;cases d:Ic c s with
   | none=>rw[d] at h;cases h
   | some j=>
    rw[d] at h;obtain rfl:=y8 h;obtain⟨p,r,rfl,e,rfl⟩:=Sd d;exact⟨b::p,r,rfl,by simp only[p6,not_or];exact⟨ag0 a,e⟩,rfl⟩
theorem Nk{c:UInt8}:∀{s:By},c∉s->L3 c s=-1
 | [],_=>rfl
 | b::r,h=>by
  simp only[p6,not_or] at h;rw[L3,Nk h.2,if_pos (by decide),if_neg (ag0 h.1)]
theorem Se{c:UInt8}:∀(p:By) {r:By},c∉r->L3 c (p++c::r)=(p.length:Int)
 | [],r,h=>by rw[aa4,L3,Nk h,if_pos (by decide),if_pos rfl];rfl
 | b::p,r,h=>by
  rw[ab8,L3,Se p h,G1,j5];omega
theorem DJ{c:UInt8}:∀{s:By},c∈s->∃p r,s=p++c::r/\c∉r
 | [],h=>by cases h
 | b::s,h=>by
  by_cases a:c∈s
  ·obtain⟨p,r,rfl,d⟩:=DJ a;exact⟨b::p,r,rfl,d⟩
  ·simp only[p6,a,or_false] at h;subst h;exact⟨[],s,rfl,a⟩
theorem MN{c:UInt8}{s:By}(h:0<=L3 c s):∃p r,s=p++c::r/\c∉r/\L3 c s=(p.length:Int):=by
 by_cases b:c∈s
 ·obtain⟨p,r,rfl,a⟩:=DJ b;exact⟨p,r,rfl,a,Se p a⟩
 ·rw[Nk b] at h;omega
theorem Ci8{p:By}{r:By}(h:∀b∈p,N2 b=false)(d:∀b,r.head? = some b->N2 b=true):J4 (p++r)=p.length:=by
 unfold J4;have a:r.takeWhile (λb=>!N2 b)=[]:=by
  cases r with
  | nil=>rfl
  | cons b t=>rw[ae8,d b rfl];rfl
 rw[List.takeWhile_append_of_pos (λb c=>by rw[h b c];rfl),a,ab9]
theorem Bp8(s:By):∀b∈s.take (J4 s),N2 b=false:=by
 intro b a;have h:s.take (J4 s)=s.takeWhile λb=>!N2 b:=by
  unfold J4;exact(List.prefix_iff_eq_take.1 (List.takeWhile_prefix _)).symm
 rw[h] at a;have:∀l:By,b∈l.takeWhile (λb=>!N2 b)->N2 b=false:=by
  intro l
  induction l with
  | nil=>intro h;cases h
  | cons x l d=>
   intro h;rw[ae8] at h;split at h
   ·rename_i c;rcases p6.1 h with rfl|h
    ·simpa using c
    ·exact d h
   ·cases h
 exact this s a
theorem V6{b:UInt8}:Q8 b=true↔(97<=b.toNat/\b.toNat<=122)\/(65<=b.toNat/\b.toNat<=90):=by simp[Q8,x4]
theorem Xc{b:UInt8}:ctl b=true↔b.toNat<=32\/b.toNat=127:=by
 unfold ctl;rw[ac6,x4,beq_iff_eq];have:b=127↔b.toNat=127:=⟨λh=>by rw[h];rfl,λh=>ae6.1 h⟩
 rw[this]
theorem Fj{b:UInt8}:L8 b=true↔(97<=b.toNat/\b.toNat<=122)\/(65<=b.toNat/\b.toNat<=90)\/(48<=b.toNat/\b.toNat<=57)\/b=43\/b=45\/b=46:=by simp only[L8,ac6,V6,o0,x4,beq_iff_eq,or_assoc]
abbrev clU(a b:By)(k:Int)(n:By)(v c d e f g h i j p:Int)(r:By):List PV:=[.s (.str a),.s (.str b),.s (.int .i64 k),.s (.str n),.s (.int .u32 v),.s (.int .u16 c),.s (.int .u16 d),.s (.int .u16 e),.s (.int .u16 f),.s (.int .u16 g),.s (.int .u16 h),.s (.int .u16 i),.s (.int .u16 j),.s (.int .i64 p),.s (.str r)]
abbrev clH(k:Int)(n:By)(v c d e f g h i j:Int):List PV:=[.s (.int .i64 k),.s (.str n),.s (.int .u32 v),.s (.int .u16 c),.s (.int .u16 d),.s (.int .u16 e),.s (.int .u16 f),.s (.int .u16 g),.s (.int .u16 h),.s (.int .u16 i),.s (.int .u16 j)]
abbrev bU(a b:By)(k:Int)(n:By)(v c d e f g h i j p:Int)(r:By):Blk:=.box (clU a b k n v c d e f g h i j p r)
abbrev gU(a b:By)(k:Int)(n:By)(v c d e f g h i j p:Int)(r:By):PV:=.agg (clU a b k n v c d e f g h i j p r)
abbrev bH(k:Int)(n:By)(v c d e f g h i j:Int):Blk:=.box (clH k n v c d e f g h i j)
abbrev gH(k:Int)(n:By)(v c d e f g h i j:Int):PV:=.agg (clH k n v c d e f g h i j)
abbrev bCx(a b c d z t:Bool)(l:LL):Blk:=.box [.s (.bool a),.s (.bool b),.s (.bool c),.s (.bool d),.s (.sl z t 1 l)]
abbrev gCx(a b c d z t:Bool)(l:LL):PV:=.agg [.s (.bool a),.s (.bool b),.s (.bool c),.s (.bool d),.s (.sl z t 1 l)]
abbrev bCv(a:Int)(s:By)(b:Bool):Blk:=.box [.s (.int .i64 a),.s (.str s),.s (.bool b)]
abbrev gCv(a:Int)(s:By)(b:Bool):PV:=.agg [.s (.int .i64 a),.s (.str s),.s (.bool b)]
abbrev bDx(a r:Int)(u:By):Blk:=.box [.s (.int .i64 a),.s (.int .i64 r),.s (.str u)]
abbrev bU0:Blk:=bU [] [] 0 [] 0 0 0 0 0 0 0 0 0 0 []
abbrev bQ(p:U0 × Nat):Blk:=bU (uS p) (uU p) (uK p) (uN p) (uV p) (uA p 0) (uA p 1) (uA p 2) (uA p 3) (uA p 4) (uA p 5) (uA p 6) (uA p 7) (uP p) (uR p)
abbrev okQ(p:U0 × Nat):Bool:=ok8 (uA p 0) (uA p 1) (uA p 2) (uA p 3) (uA p 4) (uA p 5) (uA p 6) (uA p 7)
abbrev mkQ(b:By)(p:U0 × Nat)(a:Int):U0:=mkU b (uU p) (uK p) (uN p) (uV p) (n8 (uA p 0) (uA p 1) (uA p 2) (uA p 3) (uA p 4) (uA p 5) (uA p 6) (uA p 7)) a (uR p)
end
section
open Go Go.Proofs
set_option maxRecDepth 100000
section
def KC:List PV->Tr
 | [.s (.str s)]=>.ret (.s (.int .i64 (Q1 s))) []
 | _=>.fail
def Wu(args:List PV):Tr:=KC (C1 [[0]] args)
def KD:List PV->Tr
 | [.s (.str s)]=>.ret (.s (.bool (H8 s))) []
 | _=>.fail
def GR(args:List PV):Tr:=KD (C1 [[0]] args)
def XE:List PV->Tr
 | [.agg [.s (.str a),.s (.str n),.s (.int .i64 j),.s (.str k),.s (.int .u32 v4),.s (.int .u16 b),.s (.int .u16 c),.s (.int .u16 d),.s (.int .u16 e),.s (.int .u16 f),.s (.int .u16 g),.s (.int .u16 h),.s (.int .u16 i),.s (.int .i64 l),.s (.str m)]]=>.ret (.s (.bool (M8 a))) []
 | _=>.fail
def A31(args:List PV):Tr:=XE (C1 [[0,0,0,0,0,0,0,0,0,0,0,0,0,0,0]] args)
def XH:List PV->Tr
 | [.s (.str s)]=>.need (A3 (b8 s)) (.ret (.s (.bool (T7 s))) [])
 | _=>.fail
def Cp7(args:List PV):Tr:=XH (C1 [[0]] args)
def XF:List PV->Tr
 | [.s (.str s)]=>.need (A3 (b8 s)) (.ret (.tup [.s (.int .i64 (GK s)),.s (.bool (ad7 (Ii ((-1):Int) s)))]) [])
 | _=>.fail
def Cp5(args:List PV):Tr:=XF (C1 [[0]] args)
def BM:List PV->Tr
 | [.agg [.s (.str c),.s (.str e),.s (.int .i64 n),.s (.str o),.s (.int .u32 v4),.s (.int .u16 f),.s (.int .u16 g),.s (.int .u16 h),.s (.int .u16 i),.s (.int .u16 j),.s (.int .u16 k),.s (.int .u16 l),.s (.int .u16 m),.s (.int .i64 d),.s (.str b)],.s (.str a)]=>.need (A3 (b8 c)) (.need (A3 (b8 b)) (.need (A3 (b8 a)) (.need (aj3 e) (.need (d==((-1):Int)) (.ret (.tup [.agg [.s (.str (uS (G5 c b a))),.s (.str (uU (G5 c b a))),.s (.int .i64 (uK (G5 c b a))),.s (.str (uN (G5 c b a))),.s (.int .u32 (uV (G5 c b a))),.s (.int .u16 (uA (G5 c b a) 0)),.s (.int .u16 (uA (G5 c b a) 1)),.s (.int .u16 (uA (G5 c b a) 2)),.s (.int .u16 (uA (G5 c b a) 3)),.s (.int .u16 (uA (G5 c b a) 4)),.s (.int .u16 (uA (G5 c b a) 5)),.s (.int .u16 (uA (G5 c b a) 6)),.s (.int .u16 (uA (G5 c b a) 7)),.s (.int .i64 (uP (G5 c b a))),.s (.str (uR (G5 c b a)))],.s (.int .i64 (uE (G5 c b a)))]) [])))))
 | _=>.fail
def Ai1(args:List PV):Tr:=BM (C1 [[0,0,0,0,0,0,0,0,0,0,0,0,0,0,0],[0]] args)
def XG:List PV->Tr
 | [.s (.str s)]=>.need (A3 (b8 s)) (.ret (.tup [.agg [.s (.str (uS (C2 s))),.s (.str (uU (C2 s))),.s (.int .i64 (uK (C2 s))),.s (.str (uN (C2 s))),.s (.int .u32 (uV (C2 s))),.s (.int .u16 (uA (C2 s) 0)),.s (.int .u16 (uA (C2 s) 1)),.s (.int .u16 (uA (C2 s) 2)),.s (.int .u16 (uA (C2 s) 3)),.s (.int .u16 (uA (C2 s) 4)),.s (.int .u16 (uA (C2 s) 5)),.s (.int .u16 (uA (C2 s) 6)),.s (.int .u16 (uA (C2 s) 7)),.s (.int .i64 (uP (C2 s))),.s (.str (uR (C2 s)))],.s (.int .i64 (uE (C2 s)))]) [])
 | _=>.fail
def Cp6(args:List PV):Tr:=XG (C1 [[0]] args)
def KF:List PV->Tr
 | [.agg [.s (.str l),.s (.str m),.s (.int .i64 n),.s (.str i),.s (.int .u32 v4),.s (.int .u16 a),.s (.int .u16 b),.s (.int .u16 c),.s (.int .u16 d),.s (.int .u16 e),.s (.int .u16 f),.s (.int .u16 g),.s (.int .u16 h),.s (.int .i64 j),.s (.str k)]]=>.need (smU l m i k) (.need (ltN v4 4294967296) (.need (ok8 a b c d e f g h) (.need (R7 j) (.ret (.s (.str (Y3 (mkU l m n i v4 (n8 a b c d e f g h) j k)))) []))))
 | _=>.fail
def XI(args:List PV):Tr:=KF (C1 [[0,0,0,0,0,0,0,0,0,0,0,0,0,0,0]] args)
def Ug:List PV->Tr
 | [.agg [.s (.str l),.s (.str m),.s (.int .i64 n),.s (.str i),.s (.int .u32 v4),.s (.int .u16 a),.s (.int .u16 b),.s (.int .u16 c),.s (.int .u16 d),.s (.int .u16 e),.s (.int .u16 f),.s (.int .u16 g),.s (.int .u16 h),.s (.int .i64 j),.s (.str k)]]=>.need (smU l m i k) (.need (ltN v4 4294967296) (.need (ok8 a b c d e f g h) (.need (R7 j) (.ret (.s (.bool (T9 (mkU l m n i v4 (n8 a b c d e f g h) j k)))) []))))
 | _=>.fail
def Ru(args:List PV):Tr:=Ug (C1 [[0,0,0,0,0,0,0,0,0,0,0,0,0,0,0]] args)
def XD:List PV->Tr
 | [.agg [.s (.str l),.s (.str m),.s (.int .i64 n),.s (.str i),.s (.int .u32 v4),.s (.int .u16 a),.s (.int .u16 b),.s (.int .u16 c),.s (.int .u16 d),.s (.int .u16 e),.s (.int .u16 f),.s (.int .u16 g),.s (.int .u16 h),.s (.int .i64 j),.s (.str k)]]=>.need (smU l m i k) (.need (ltN v4 4294967296) (.need (ok8 a b c d e f g h) (.need (R7 j) (.ret (.s (.str (Xp (mkU l m n i v4 (n8 a b c d e f g h) j k)))) []))))
 | _=>.fail
def Cp4(args:List PV):Tr:=XD (C1 [[0,0,0,0,0,0,0,0,0,0,0,0,0,0,0]] args)
def Cp9:List PV->Tr
 | [.agg [.s (.str a),.s (.str n),.s (.int .i64 j),.s (.str k),.s (.int .u32 v4),.s (.int .u16 b),.s (.int .u16 c),.s (.int .u16 d),.s (.int .u16 e),.s (.int .u16 f),.s (.int .u16 g),.s (.int .u16 h),.s (.int .u16 i),.s (.int .i64 l),.s (.str m)]]=>.ret (.agg [.s (.str (upS a)),.s (.str n),.s (.int .i64 j),.s (.str k),.s (.int .u32 v4),.s (.int .u16 b),.s (.int .u16 c),.s (.int .u16 d),.s (.int .u16 e),.s (.int .u16 f),.s (.int .u16 g),.s (.int .u16 h),.s (.int .u16 i),.s (.int .i64 (upP a l)),.s (.str m)]) []
 | _=>.fail
def Cp8(args:List PV):Tr:=Cp9 (C1 [[0,0,0,0,0,0,0,0,0,0,0,0,0,0,0]] args)
def BG:List PV->Tr
 | [.s (.str s)]=>.ret (.s (.bool (H8 s))) []
 | _=>.fail
def JS(args:List PV):Tr:=BG (C1 [[0]] args)
def JT:List PV->Tr
 | [.s (.str s)]=>.ret (.s (.int .i64 (Q1 s))) []
 | _=>.fail
def Bw4(args:List PV):Tr:=JT (C1 [[0]] args)
def JO:List PV->Tr
 | [.s (.str s),.s (.str t)]=>.need (A3 (b8 s)) (.need (A3 (b8 t)) (.ret (.s (.int .i64 (↑(S7 s t):Int))) []))
 | _=>.fail
def Bw2(args:List PV):Tr:=JO (C1 [[0],[0]] args)
def JR:List PV->Tr
 | [.s (.str s)]=>.need (A3 (b8 s)) (.ret (.tup [.s (.str ((Ei s)).1),.s (.str (((Ei s)).2).1),.s (.bool (((Ei s)).2).2)]) [])
 | _=>.fail
def Bw3(args:List PV):Tr:=JR (C1 [[0]] args)
def JQ:List PV->Tr
 | [.s (.str s)]=>.need (A3 (b8 s)) (.ret (.tup [.agg [.s (.str (uS (C2 s))),.s (.str (uU (C2 s))),.s (.int .i64 (uK (C2 s))),.s (.str (uN (C2 s))),.s (.int .u32 (uV (C2 s))),.s (.int .u16 (uA (C2 s) 0)),.s (.int .u16 (uA (C2 s) 1)),.s (.int .u16 (uA (C2 s) 2)),.s (.int .u16 (uA (C2 s) 3)),.s (.int .u16 (uA (C2 s) 4)),.s (.int .u16 (uA (C2 s) 5)),.s (.int .u16 (uA (C2 s) 6)),.s (.int .u16 (uA (C2 s) 7)),.s (.int .i64 (uP (C2 s))),.s (.str (uR (C2 s)))],.s (.int .i64 (uE (C2 s)))]) [])
 | _=>.fail
def WN(args:List PV):Tr:=JQ (C1 [[0]] args)
def Ud:List PV->Tr
 | [.s (.str s)]=>.need (A3 (b8 s)) (.ret (.tup [.agg [.s (.str (uS (A8 s))),.s (.str (uU (A8 s))),.s (.int .i64 (uK (A8 s))),.s (.str (uN (A8 s))),.s (.int .u32 (uV (A8 s))),.s (.int .u16 (uA (A8 s) 0)),.s (.int .u16 (uA (A8 s) 1)),.s (.int .u16 (uA (A8 s) 2)),.s (.int .u16 (uA (A8 s) 3)),.s (.int .u16 (uA (A8 s) 4)),.s (.int .u16 (uA (A8 s) 5)),.s (.int .u16 (uA (A8 s) 6)),.s (.int .u16 (uA (A8 s) 7)),.s (.int .i64 (uP (A8 s))),.s (.str (uR (A8 s)))],.s (.int .i64 (uE (A8 s)))]) [])
 | _=>.fail
def La(args:List PV):Tr:=Ud (C1 [[0]] args)
def BH:List PV->Tr
 | [.agg [.s (.str l),.s (.str m),.s (.int .i64 n),.s (.str i),.s (.int .u32 v4),.s (.int .u16 a),.s (.int .u16 b),.s (.int .u16 c),.s (.int .u16 d),.s (.int .u16 e),.s (.int .u16 f),.s (.int .u16 g),.s (.int .u16 h),.s (.int .i64 j),.s (.str k)]]=>.need (smU l m i k) (.need (ltN v4 4294967296) (.need (ok8 a b c d e f g h) (.need (R7 j) (.ret (.s (.str (Jg (mkU l m n i v4 (n8 a b c d e f g h) j k)))) []))))
 | _=>.fail
def Ah6(args:List PV):Tr:=BH (C1 [[0,0,0,0,0,0,0,0,0,0,0,0,0,0,0]] args)
def Pr:List PV->Tr
 | [.agg [.s (.str l),.s (.str m),.s (.int .i64 n),.s (.str i),.s (.int .u32 v4),.s (.int .u16 a),.s (.int .u16 b),.s (.int .u16 c),.s (.int .u16 d),.s (.int .u16 e),.s (.int .u16 f),.s (.int .u16 g),.s (.int .u16 h),.s (.int .i64 j),.s (.str k)]]=>.need (smU l m i k) (.need (ltN v4 4294967296) (.need (ok8 a b c d e f g h) (.need (R7 j) (.ret (.s (.bool (T9 (mkU l m n i v4 (n8 a b c d e f g h) j k)))) []))))
 | _=>.fail
def JU(args:List PV):Tr:=Pr (C1 [[0,0,0,0,0,0,0,0,0,0,0,0,0,0,0]] args)
def JP:List PV->Tr
 | [.agg [.s (.str a),.s (.str n),.s (.int .i64 j),.s (.str k),.s (.int .u32 v4),.s (.int .u16 b),.s (.int .u16 c),.s (.int .u16 d),.s (.int .u16 e),.s (.int .u16 f),.s (.int .u16 g),.s (.int .u16 h),.s (.int .u16 i),.s (.int .i64 l),.s (.str m)]]=>.ret (.s (.bool (M8 a))) []
 | _=>.fail
def WM(args:List PV):Tr:=JP (C1 [[0,0,0,0,0,0,0,0,0,0,0,0,0,0,0]] args)
def Ag9:List PV->Tr
 | [.s (.int .i64 n)]=>.need (ltN n 9223372036854775808) (.ret (.s (.str (v8 (ab0 n)))) [])
 | _=>.fail
def IG(args:List PV):Tr:=Ag9 (C1 [[0]] args)
def IM:List PV->Tr
 | [.s (.int .i64 n)]=>.need (R7 n) (.ret (.s (.str (V2 n))) [])
 | _=>.fail
def Bu6(args:List PV):Tr:=IM (C1 [[0]] args)
def JW:List PV->Tr
 | [.s (.str s),.s (.int .u8 c)]=>.need (A3 (b8 s)) (.need (inR c 256) (.ret (.s (.int .i64 (x3 s (u8n c)))) []))
 | _=>.fail
def Ws(args:List PV):Tr:=JW (C1 [[0],[0]] args)
def IS:List PV->Tr
 | [.s (.str s),.s (.str p)]=>.need (A3 (b8 s)) (.ret (.s (.str (Hx s p))) [])
 | _=>.fail
def Bu9(args:List PV):Tr:=IS (C1 [[0],[0]] args)
def XC:List PV->Tr
 | [.s (.str s),.s (.str p)]=>.need (A3 (b8 s)) (.ret (.s (.str (Hx s p))) [])
 | _=>.fail
def Cp2(args:List PV):Tr:=XC (C1 [[0],[0]] args)
def Ah7:List PV->Tr
 | [.s (.str s),.s (.str p)]=>.need (A3 (b8 s)) (.need (DE p) (.ret (.s (.int .i64 (ae2 s p))) []))
 | _=>.fail
def WY(args:List PV):Tr:=Ah7 (C1 [[0],[0]] args)
def GS:List PV->Tr
 | [.agg [.s (.str a),.s (.str n),.s (.int .i64 j),.s (.str k),.s (.int .u32 v4),.s (.int .u16 b),.s (.int .u16 c),.s (.int .u16 d),.s (.int .u16 e),.s (.int .u16 f),.s (.int .u16 g),.s (.int .u16 h),.s (.int .u16 i),.s (.int .i64 l),.s (.str m)]]=>.need (M8 a) (.ret (.agg [.s (.str (upS a)),.s (.str n),.s (.int .i64 j),.s (.str k),.s (.int .u32 v4),.s (.int .u16 b),.s (.int .u16 c),.s (.int .u16 d),.s (.int .u16 e),.s (.int .u16 f),.s (.int .u16 g),.s (.int .u16 h),.s (.int .u16 i),.s (.int .i64 (upP a l)),.s (.str m)]) [])
 | _=>.fail
def Cq0(args:List PV):Tr:=GS (C1 [[0,0,0,0,0,0,0,0,0,0,0,0,0,0,0]] args)
def GU:List PV->Tr
 | [.agg [.s (.str a),.s (.str n),.s (.int .i64 j),.s (.str k),.s (.int .u32 v4),.s (.int .u16 b),.s (.int .u16 c),.s (.int .u16 d),.s (.int .u16 e),.s (.int .u16 f),.s (.int .u16 g),.s (.int .u16 h),.s (.int .u16 i),.s (.int .i64 l),.s (.str m)]]=>.need (not (M8 a)) (.ret (.agg [.s (.str a),.s (.str n),.s (.int .i64 j),.s (.str k),.s (.int .u32 v4),.s (.int .u16 b),.s (.int .u16 c),.s (.int .u16 d),.s (.int .u16 e),.s (.int .u16 f),.s (.int .u16 g),.s (.int .u16 h),.s (.int .u16 i),.s (.int .i64 l),.s (.str m)]) [])
 | _=>.fail
def Cq1(args:List PV):Tr:=GU (C1 [[0,0,0,0,0,0,0,0,0,0,0,0,0,0,0]] args)
def Rs:List PV->Tr
 | [.s (.str s),.s (.str p)]=>.need (A3 (b8 s)) (.need (DE p) (.need (p7 9 (b8 s)) (.ret (.s (.int .i64 (ae2 s p))) [])))
 | _=>.fail
def Ah8(args:List PV):Tr:=Rs (C1 [[0],[0]] args)
def Rt:List PV->Tr
 | [.s (.str s),.s (.str p)]=>.need (DE p) (.need (p7 (b8 s) 8) (.ret (.s (.int .i64 (ae2 s p))) []))
 | _=>.fail
def Ah9(args:List PV):Tr:=Rt (C1 [[0],[0]] args)
def Ue:List PV->Tr
 | [.s (.int .i64 n)]=>.ret (.s (.bool (ltI (8:Int) n))) []
 | _=>.fail
def BJ(args:List PV):Tr:=Ue (C1 [[0]] args)
def BI:List PV->Tr
 | [.s (.str p),.s (.int .i32 r)]=>.need (DE p) (.need (ltN r 1114112) (.ret (.s (.int .i64 (irn r))) []))
 | _=>.fail
def JX(args:List PV):Tr:=BI (C1 [[0],[0]] args)
def QP:List PV->Tr
 | [.s (.str s)]=>.fail
 | _=>.fail
def Ps(args:List PV):Tr:=QP (C1 [[0]] args)
def BO:List PV->Tr
 | [.s (.int .i32 r)]=>.ret (.s (.bool (OW r))) []
 | _=>.fail
def KG(args:List PV):Tr:=BO (C1 [[0]] args)
end
section
variable {W R : Type} (L : Nat) (Q : F6) (Y : Yh W) (s : W) (k : Out -> St W -> Option R)
noncomputable def YC(L:Nat):Cfg:=B8 L [111] (A2 []) [(78,VG)] (A2 [(3,[4]),(2,[4]),(1,[0,0,5]),(0,[0,0])]) [78] (A2 []) (some [4]) [] [] []
noncomputable def B03{R:Type}(L:Nat)(b a:By)(d:By->Option R):Option R:=cond (A3 b.length) (cond (x6 a b) (cond (I9 (a.length:Int) (b.length:Int) b.length) (vl (cut b (a.length:Int) (b.length:Int)) λc=>d c) none) (d b)) none
theorem Cw8(d:Nat)(s0 prefix1):evC (YC L) (d+1) W Y 111 [pS s0,pS prefix1] [] s=B03 L s0 prefix1 (λa=>some (pS a,[],s)):=by refine(evE (fn:=Tryz.f111) (by kernel_rfl)).trans ?_;generalize evC (YC L) d=Q;unfold B03;kernel_rfl
noncomputable def A64(L:Nat):Cfg:=B8 L [82] (A2 []) [(111,Bu9)] (A2 [(1,[4]),(0,[0,0])]) [111] (A2 []) (some [4]) [] [] []
noncomputable def Dq0{R:Type}(L:Nat)(b a:By)(c:By->Option R):Option R:=cond (A3 b.length) (c (Hx b a)) none
theorem Dq1(d:Nat)(s0 prefix1):evC (A64 L) (d+1) W Y 82 [pS s0,pS prefix1] [] s=Dq0 L s0 prefix1 (λa=>some (pS a,[],s)):=by refine(evE (fn:=Tryz.f82) (by kernel_rfl)).trans ?_;generalize evC (A64 L) d=Q;unfold Dq0;kernel_rfl
noncomputable def YR(L:Nat):Cfg:=B8 L [56] (A2 []) [] (A2 [(8,[2]),(4,[2]),(7,[2]),(6,[7]),(5,[3,3]),(3,[3,0]),(2,[3,0]),(1,[3]),(0,[0])]) [] (A2 [(0,[])]) (some [2]) [] [] []
noncomputable def B37{R:Type}(L:Nat)(a:By)(b:Int->Option R):Option R:=cond (a==[104,116,116,112]) (cond (a==[104,116,116,112]) (b 80) (cond (a==[104,116,116,112,115]) (cond (a==[104,116,116,112,115]) (b 443) (b (-1))) (cond (a==[119,115,115]) (b 443) (b (-1))))) (cond (a==[119,115]) (b 80) (cond (a==[104,116,116,112,115]) (cond (a==[104,116,116,112,115]) (b 443) (b (-1))) (cond (a==[119,115,115]) (b 443) (b (-1)))))
theorem C70(d:Nat)(scheme0):evC (YR L) (d+1) W Y 56 [pS scheme0] [] s=B37 L scheme0 (λa=>some (pI a,[],s)):=by refine(evE (fn:=Tryz.f56) (by kernel_rfl)).trans ?_;generalize evC (YR L) d=Q;unfold B37;kernel_rfl
noncomputable def YS(L:Nat):Cfg:=B8 L [49] (A2 []) [(56,Wu)] (A2 [(1,[2]),(0,[0])]) [56] (A2 []) (some [2]) [] [] []
noncomputable def B38{R:Type}(L:Nat)(a:By)(b:Bool->Option R):Option R:=b (ltI 0 (Q1 a))
theorem C73(d:Nat)(scheme0):evC (YS L) (d+1) W Y 49 [pS scheme0] [] s=B38 L scheme0 (λa=>some (pB a,[],s)):=by refine(evE (fn:=Tryz.f49) (by kernel_rfl)).trans ?_;generalize evC (YS L) d=Q;unfold B38;kernel_rfl
noncomputable def A66(L:Nat):Cfg:=B8 L [28] (A2 []) [(56,Wu)] (A2 [(1,[2]),(0,[1])]) [56] (A2 []) (some [2]) [] [] []
noncomputable def D34{R:Type}(L:Nat)(f h:By)(i:Int)(j:By)(l m n o u8 p a b c d:Int)(e:By)(g:Bool->(List Blk)->Option R):Option R:=g ((Q1 f)==80) [(bU f h i j l m n o u8 p a b c d e)]
theorem Dq6(d:Nat)(u0 u1 u2 u3 u4 u5 u6 u7 u8 u9 u10 u11 u12 u13 u14):evC (A66 L) (d+1) W Y 28 [(gU u0 u1 u2 u3 u4 u5 u6 u7 u8 u9 u10 u11 u12 u13 u14)] [] s=D34 L u0 u1 u2 u3 u4 u5 u6 u7 u8 u9 u10 u11 u12 u13 u14 (λb a=>some (pB b,a,s)):=by refine(evE (fn:=Tryz.f28) (by kernel_rfl)).trans ?_;generalize evC (A66 L) d=Q;unfold D34;kernel_rfl
noncomputable abbrev Pz:Code:=C6 al0
noncomputable def Au(L:Nat):Cfg:=B8 L [47] (A2 [(2,[0,1,4,0])]) [(72,Ws)] (A2 [(9,[2]),(8,[0,6,0]),(7,[2]),(6,[0,6,0,29]),(5,[0,2,0,0,1,0]),(4,[0,2,0,2,0]),(3,[0,2,3,0]),(2,[0,6,0,0]),(1,[0,6,0]),(0,[0])]) [72] (A2 [(0,[0]),(1,[0,6,0])]) (some [2]) [] [] []
noncomputable def HZ{R:Type}(d:By)(a c:Int)(b:By->Int->Int->Option R):Option R:=b d c a
abbrev EE(b:Code):Prop:=∀(k:Out->St W->Option R) a i1 b2 n3,B3 (Au L) Q Y b ⟨gp [(0,pS a),(2,pI i1),(0,p8 b2),(0,pB true),(1,pI n3),(0,pI i1)] 33,[],s⟩ k=HZ a i1 n3 (λa c d=>k .normal ⟨gp [(0,pS a),(6,pI c),(0,pI d),(29,pB false)] 3,[],s⟩)
theorem Br9:EE (R:=R) L Q Y s (cd [1,0,1,0,0,1,1,0,0,1,1,1] Pz):=by intro k d b a c;unfold HZ;kernel_rfl
noncomputable def Gt{R:Type}(h:By)(c d:Int)(a:Bool)(g:Int)(e:Unit->Option R)(f:By->Int->Int->Bool->Option R):Option R:=cond (not a) (cond (c==0) (e ()) (cond (inR d 256) (vl (x3 ([48,49,50,51,52,53,54,55,56,57,43,45,46]:List UInt8) (u8n d)) λb=>cond (ltI b 0) (e ()) (f h g c (ltI b 0))) none)) (f h g c false)
abbrev EF(b:Code):Prop:=∀(k:Out->St W->Option R) a i1 b2 letter3 n4,B3 (Au L) Q Y b ⟨gp [(0,pS a),(2,pI i1),(0,p8 b2),(0,pB letter3),(1,pI n4),(0,pI i1)] 33,[],s⟩ k=Gt a i1 b2 letter3 n4 (λ_=>k .ret ⟨gp [(2,pB false)] 39,[],s⟩) (λa d e c=>k .normal ⟨gp [(0,pS a),(6,pI d),(0,pI e),(29,pB c)] 3,[],s⟩)
theorem Bs0:EF (R:=R) L Q Y s (cd [1,0,1,0,0,1,1,0,0,1,1,1] Pz):=by intro k e c b a d;unfold Gt;kernel_rfl
noncomputable def O9{R:Type}(L n:Nat)(b:By)(e a:Int)(c:Unit->Option R)(d:By->Option R):Option R:=match n with|0=>none|n+1=>cond (ltI a e) (cond (inR a b.length) (cond (not (ltI (bAt b a) (97:Int))) (cond (not (ltI 122 (bAt b a))) (HZ b a e (λx r t=>O9 L n x r (A1 (t+1)) c d)) (cond (not (ltI (bAt b a) (65:Int))) (Gt b a (bAt b a) (not (ltI 90 (bAt b a))) e (λ_=>c ()) (λy u v D=>O9 L n y u (A1 (v+1)) c d)) (Gt b a (bAt b a) false e (λ_=>c ()) (λz w f A=>vl (A1 (f+1)) λg=>O9 L n z w g c d)))) (cond (not (ltI (bAt b a) (65:Int))) (Gt b a (bAt b a) (not (ltI 90 (bAt b a))) e (λ_=>c ()) (λp h i B=>vl (A1 (i+1)) λj=>O9 L n p h j c d)) (Gt b a (bAt b a) false e (λ_=>c ()) (λq l m C=>vl (A1 (m+1)) λo=>O9 L n q l o c d)))) none) (d b)
theorem Bs1(a:Code)(d:EE (R:=R) L Q Y s a)(b:EF (R:=R) L Q Y s a)(n:Nat)(c:By)(f e:Int):D0 0 ((Au L).keep 2) (bd (Au L) Q Y (cd [1,0,1,0,0] (G6 [1,0,1,0,0,1,1,0,0,1,1,1] a Pz))) n ⟨gp [(0,pS c),(6,pI f),(0,pI e)] 33,[],s⟩ k =
 O9 L n c f e (λ_=>k .ret ⟨gp [(2,pB false)] 39,[],s⟩) (λc=>k (.exit 0) ⟨gp [(0,pS c)] 41,[],s⟩):=by
 induction n generalizing c f e with
 | zero=>rfl
 | succ n h=>rw[O9];exact let g:=(E1 1 (E0 (Au L) Q Y (cd [1,0,1,0,0,1,1,1] Pz) (lpK 0 ((Au L).keep 2) (bd (Au L) Q Y (cd [1,0,1,0,0] (G6 [1,0,1,0,0,1,1,0,0,1,1,1] a Pz))) n k)));(j2 (by kernel_rfl) (A0 (A0 (A0 (A0 ((d g c e (bAt c e) f).trans (congr rfl (fx3 λx r t=>(j2 (by kernel_rfl) (h x r (A1 (t+1))))))) (A0 ((b g c e (bAt c e) (not (ltI 90 (bAt c e))) f).trans (congr (congr rfl (by kernel_rfl)) (fx4 λy u v H=>(j2 (by kernel_rfl) (h y u (A1 (v+1))))))) ((b g c e (bAt c e) false f).trans (congr (congr rfl (by kernel_rfl)) (fx4 λz w D A=>(j2 (by kernel_rfl) (A4 λi=>(h z w i)))))))) (A0 ((b g c e (bAt c e) (not (ltI 90 (bAt c e))) f).trans (congr (congr rfl (by kernel_rfl)) (fx4 λp j F B=>(j2 (by kernel_rfl) (A4 λl=>(h p j l)))))) ((b g c e (bAt c e) false f).trans (congr (congr rfl (by kernel_rfl)) (fx4 λq m G C=>(j2 (by kernel_rfl) (A4 λo=>(h q m o)))))))) rfl) rfl))
noncomputable def C72{R:Type}(L:Nat)(c:By)(b:Bool->Option R):Option R:=O9 L L c (c.length:Int) 0 (λ_=>b false) (λa=>b (not (a==[])))
theorem Dr2(a:Code)(b:EE (R:=PV × List Blk × W) L Q Y s a)(c:EF (R:=PV × List Blk × W) L Q Y s a)(d:By):B3 (Au L) Q Y (cd [] (G6 [1,0,1,0,0,1,1,0,0,1,1,1] a Pz)) ⟨[pS d]++tps 41,[],s⟩ (F3 (Au L) al0)=C72 L d (λe=>some (pB e,[],s)):=by unfold C72;exact(j2 (by kernel_rfl) ((Bs1 L Q Y s (E1 0 (E0 (Au L) Q Y (cd [1,1] Pz) (F3 (Au L) al0))) a b c L d (d.length:Int) 0).trans (by kernel_rfl)))
theorem Dr3(d:Nat)(s0):evC (Au L) (d+1) W Y 47 [pS s0] [] s=C72 L s0 (λa=>some (pB a,[],s)):=
 (evE (fn:=al0) (by kernel_rfl)).trans (j2 (by kernel_rfl) (Dr2 L (evC (Au L) d) Y s (cd [1,0,1,0,0,1,1,0,0,1,1,1] Pz) (Br9 L (evC (Au L) d) Y s) (Bs0 L (evC (Au L) d) Y s) s0))
noncomputable abbrev Cr3:Code:=C6 an2
noncomputable def Ve(L:Nat):Cfg:=B8 L [81] (A2 [(3,[0,1,0,0,2,0])]) [] (A2 [(9,[2,0]),(8,[0,3,2,0]),(7,[0,3,2,0]),(6,[2,0]),(5,[0,3,0,1,0,11]),(4,[0,3,0,1,0]),(3,[0,3,2,0,0]),(2,[0,3,2,0]),(1,[0,3]),(0,[0])]) [] (A2 [(0,[4]),(1,[0,3,2,0])]) (some [2,0]) [] [] []
noncomputable def On{R:Type}(L n:Nat)(b:By)(h j a:Int)(d:Unit->Option R)(i:Int->Option R):Option R:=match n with|0=>none|n+1=>cond (ltI a j) (cond (inR a b.length) (cond (ltI (bAt b a) (48:Int)) (d ()) (cond (inR a b.length) (cond (ltI 57 (bAt b a)) (d ()) (vl (A1 ((10:Int)*(if ((0:Int) > h) then (0:Int) else h))) λe=>cond (inR a b.length) (vl (wu8 ((bAt b a)-48)) λf=>vl (A1 (e+(A1 f))) λc=>vl (if ((65536:Int)<c) then (65536:Int) else c) λg=>On L n b g j (A1 (a+1)) d i) none)) none)) none) (i h)
theorem Br4(n s0 n1 n2 n3):D0 0 ((Ve L).keep 3) (bd (Ve L) Q Y (cd [1,1,0,1,0,0] Cr3)) n ⟨gp [(0,pS s0),(3,pI n1),(2,pI n2),(0,pI n3)] 26,[],s⟩ k =
 On L n s0 n1 n2 n3 (λ_=>k .ret ⟨gp [(2,pI (0:Int)),(0,pB false)] 31,[],s⟩) (λn0=>k (.exit 0) ⟨gp [(4,pI n0)] 30,[],s⟩):=by
 induction n generalizing s0 n1 n2 n3 with
 | zero=>rfl
 | succ n a=>rw[On];simp only[<-a];kernel_rfl
noncomputable def Dq8{R:Type}(L:Nat)(c:By)(b:Int->Bool->Option R):Option R:=On L L c (-1) (c.length:Int) 0 (λ_=>b 0 false) (λa=>b a (ltI a 65536))
theorem Dq9(d:Nat)(s0):evC (Ve L) (d+1) W Y 81 [pS s0] [] s=Dq8 L s0 (λa b=>some (.tup [pI a,pB b],[],s)):=by refine(evE (fn:=an2) (by kernel_rfl)).trans ?_;generalize evC (Ve L) d=Q;unfold Dq8;exact(j2 (by kernel_rfl) ((Br4 L Q Y s (E1 0 (E0 (Ve L) Q Y (cd [1,1,1] Cr3) (F3 (Ve L) an2))) L s0 (-1) (s0.length:Int) 0).trans (by kernel_rfl)))
noncomputable abbrev Cj:Code:=C6 al1
noncomputable def Y9(L:Nat):Cfg:=B8 L [53] (A2 []) [(79,GO),(52,IJ),(72,Ws),(80,Ah1),(82,Cp2),(81,Cp5),(56,Wu)] (A2 [(24,[4,0]),(23,[2,1]),(22,[2,1,8,71]),(21,[2,1,8]),(20,[4,0]),(19,[2,1,6,1,63]),(18,[2,1,6,1,0]),(17,[4,0]),(16,[2,1,3,2,0,54]),(15,[2,1,3,2,0]),(14,[4,0]),(13,[2,1,2,0,50]),(9,[2,1,2,0]),(8,[4,0]),(7,[1,0,1,4,23]),(6,[1,0,1,4]),(12,[2,1,2,0]),(11,[1,0,1,2,0,1,35]),(10,[1,0,1,2,0,1]),(5,[1,0,1,2,0,20]),(4,[1,0,1,2,0]),(3,[1,0,1]),(2,[1,0,1,1,11]),(1,[1,0,1,1]),(0,[1,0,1])]) [79,52,72,82,81,56] (A2 []) (some [4,0]) [] [] []
noncomputable def X5{R:Type}(d e g h:By)(r:Int)(v:By)(t p u i j l m n o f:Int)(c:By)(q:Int->Blk->By->By->Int->By->Int->Int->Int->Int->Int->Int->Int->Int->Int->Int->By->(List Blk)->Option R):Option R:=cond (A3 d.length) (vl (C4 d) λa=>cond ((↑(a).2:Int)!=0) (q (↑(a).2:Int) (bU g h r v t p u i j l m n o f c) ([]:List UInt8) ([]:List UInt8) 0 ([]:List UInt8) 0 0 0 0 0 0 0 0 0 0 ([]:List UInt8) [(bH (↑(B5.kind (a).1):Int) (B5.name (a).1) (↑(B5.v4 (a).1):Int) (↑(a8 (B5.v6 (a).1) 0 0):Int) (↑(a8 (B5.v6 (a).1) 1 0):Int) (↑(a8 (B5.v6 (a).1) 2 0):Int) (↑(a8 (B5.v6 (a).1) 3 0):Int) (↑(a8 (B5.v6 (a).1) 4 0):Int) (↑(a8 (B5.v6 (a).1) 5 0):Int) (↑(a8 (B5.v6 (a).1) 6 0):Int) (↑(a8 (B5.v6 (a).1) 7 0):Int))]) (cond (A3 e.length) (vl (Hx e ([58]:List UInt8)) λb=>cond (A3 b.length) (cond (not (ad7 (Ii ((-1):Int) b))) (q 16 (bU g h r v t p u i j l m n o f c) ([]:List UInt8) ([]:List UInt8) 0 ([]:List UInt8) 0 0 0 0 0 0 0 0 0 0 ([]:List UInt8) [(bH (↑(B5.kind (a).1):Int) (B5.name (a).1) (↑(B5.v4 (a).1):Int) (↑(a8 (B5.v6 (a).1) 0 0):Int) (↑(a8 (B5.v6 (a).1) 1 0):Int) (↑(a8 (B5.v6 (a).1) 2 0):Int) (↑(a8 (B5.v6 (a).1) 3 0):Int) (↑(a8 (B5.v6 (a).1) 4 0):Int) (↑(a8 (B5.v6 (a).1) 5 0):Int) (↑(a8 (B5.v6 (a).1) 6 0):Int) (↑(a8 (B5.v6 (a).1) 7 0):Int))]) (cond ((GK b)!=(Q1 g)) (q 0 (bU g h (↑(B5.kind (a).1):Int) (B5.name (a).1) (↑(B5.v4 (a).1):Int) (↑(a8 (B5.v6 (a).1) 0 0):Int) (↑(a8 (B5.v6 (a).1) 1 0):Int) (↑(a8 (B5.v6 (a).1) 2 0):Int) (↑(a8 (B5.v6 (a).1) 3 0):Int) (↑(a8 (B5.v6 (a).1) 4 0):Int) (↑(a8 (B5.v6 (a).1) 5 0):Int) (↑(a8 (B5.v6 (a).1) 6 0):Int) (↑(a8 (B5.v6 (a).1) 7 0):Int) (GK b) c) g h (↑(B5.kind (a).1):Int) (B5.name (a).1) (↑(B5.v4 (a).1):Int) (↑(a8 (B5.v6 (a).1) 0 0):Int) (↑(a8 (B5.v6 (a).1) 1 0):Int) (↑(a8 (B5.v6 (a).1) 2 0):Int) (↑(a8 (B5.v6 (a).1) 3 0):Int) (↑(a8 (B5.v6 (a).1) 4 0):Int) (↑(a8 (B5.v6 (a).1) 5 0):Int) (↑(a8 (B5.v6 (a).1) 6 0):Int) (↑(a8 (B5.v6 (a).1) 7 0):Int) (GK b) c [(bH (↑(B5.kind (a).1):Int) (B5.name (a).1) (↑(B5.v4 (a).1):Int) (↑(a8 (B5.v6 (a).1) 0 0):Int) (↑(a8 (B5.v6 (a).1) 1 0):Int) (↑(a8 (B5.v6 (a).1) 2 0):Int) (↑(a8 (B5.v6 (a).1) 3 0):Int) (↑(a8 (B5.v6 (a).1) 4 0):Int) (↑(a8 (B5.v6 (a).1) 5 0):Int) (↑(a8 (B5.v6 (a).1) 6 0):Int) (↑(a8 (B5.v6 (a).1) 7 0):Int))]) (q 0 (bU g h (↑(B5.kind (a).1):Int) (B5.name (a).1) (↑(B5.v4 (a).1):Int) (↑(a8 (B5.v6 (a).1) 0 0):Int) (↑(a8 (B5.v6 (a).1) 1 0):Int) (↑(a8 (B5.v6 (a).1) 2 0):Int) (↑(a8 (B5.v6 (a).1) 3 0):Int) (↑(a8 (B5.v6 (a).1) 4 0):Int) (↑(a8 (B5.v6 (a).1) 5 0):Int) (↑(a8 (B5.v6 (a).1) 6 0):Int) (↑(a8 (B5.v6 (a).1) 7 0):Int) f c) g h (↑(B5.kind (a).1):Int) (B5.name (a).1) (↑(B5.v4 (a).1):Int) (↑(a8 (B5.v6 (a).1) 0 0):Int) (↑(a8 (B5.v6 (a).1) 1 0):Int) (↑(a8 (B5.v6 (a).1) 2 0):Int) (↑(a8 (B5.v6 (a).1) 3 0):Int) (↑(a8 (B5.v6 (a).1) 4 0):Int) (↑(a8 (B5.v6 (a).1) 5 0):Int) (↑(a8 (B5.v6 (a).1) 6 0):Int) (↑(a8 (B5.v6 (a).1) 7 0):Int) f c [(bH (↑(B5.kind (a).1):Int) (B5.name (a).1) (↑(B5.v4 (a).1):Int) (↑(a8 (B5.v6 (a).1) 0 0):Int) (↑(a8 (B5.v6 (a).1) 1 0):Int) (↑(a8 (B5.v6 (a).1) 2 0):Int) (↑(a8 (B5.v6 (a).1) 3 0):Int) (↑(a8 (B5.v6 (a).1) 4 0):Int) (↑(a8 (B5.v6 (a).1) 5 0):Int) (↑(a8 (B5.v6 (a).1) 6 0):Int) (↑(a8 (B5.v6 (a).1) 7 0):Int))]))) none) none)) none
abbrev Rh(b:Code):Prop:=∀(k:Out->St W->Option R) name0 tail1 b2 l s4 n5 s6 i h j a c d e f g n16 s17,B3 (Y9 L) Q Y b ⟨gp [(2,.ptr 0 0 0),(1,.ptr 1 0 0),(2,pS name0),(0,pS tail1),(50,pB b2)] 29,[(bU l s4 n5 s6 i h j a c d e f g n16 s17),bU0],s⟩ k=X5 name0 tail1 l s4 n5 s6 i h j a c d e f g n16 s17 (λn0 o r l p t q i h j a c d e f g n m=>k .ret ⟨gp [(4,.ptr 1 0 0),(0,pI n0)] 83,(o::(bU r l p t q i h j a c d e f g n)::m),s⟩)
theorem AI:Rh (R:=R) L Q Y s (cd [1,1,1,1,1] Cj):=by intro k a b m q r n t o j p c d e f g h i l;unfold X5;kernel_rfl
noncomputable def R3{R:Type}(b a s2 s3:By)(n4:Int)(s5:By)(n6 n7 i n9 c d e f g h:Int)(j:By)(k0:Int->Blk->By->By->Int->By->Int->Int->Int->Int->Int->Int->Int->Int->Int->Int->By->(List Blk)->Option R):Option R:=cond (not (a==[])) (cond (inR 0 a.length) (cond ((bAt a (0:Int))!=58) (k0 4 (bU s2 s3 n4 s5 n6 n7 i n9 c d e f g h j) ([]:List UInt8) ([]:List UInt8) 0 ([]:List UInt8) 0 0 0 0 0 0 0 0 0 0 ([]:List UInt8) []) (X5 b a s2 s3 n4 s5 n6 n7 i n9 c d e f g h j (λp l S T q U r t u v w x y z A B V n=>k0 p l S T q U r t u v w x y z A B V n))) none) (X5 b a s2 s3 n4 s5 n6 n7 i n9 c d e f g h j (λC m X Z D a0 F G H I J K M N O P a1 o=>k0 C m X Z D a0 F G H I J K M N O P a1 o))
abbrev Ri(b:Code):Prop:=∀(k:Out->St W->Option R) name0 tail1 o p j q l m h n a c d e f g i,B3 (Y9 L) Q Y b ⟨gp [(2,.ptr 0 0 0),(1,.ptr 1 0 0),(2,pS name0),(0,pS tail1)] 80,[(bU o p j q l m h n a c d e f g i),bU0],s⟩ k=R3 name0 tail1 o p j q l m h n a c d e f g i (λn0 t o p j q l m h n a c d e f g i r=>k .ret ⟨gp [(4,.ptr 1 0 0),(0,pI n0)] 83,(t::(bU o p j q l m h n a c d e f g i)::r),s⟩)
theorem Ae9(b:Code)(a:Rh (R:=R) L Q Y s b):Ri (R:=R) L Q Y s (cd [1,1,1,1] (G6 [1,1,1,1,1] b Cj)):=by intro k d c r t n u o p l q e f g h i j m;unfold R3;exact(j2 (by kernel_rfl) (A0 (A0 (A0 rfl ((a k d c ((bAt c (0:Int))!=58) r t n u o p l q e f g h i j m).trans (by kernel_rfl))) rfl) ((a k d c false r t n u o p l q e f g h i j m).trans (by kernel_rfl))))
theorem Af0:Ri (R:=R) L Q Y s (cd [1,1,1,1] Cj):=by intro k a b p q l r m n i o c d e f g h j;exact j2 (by kernel_rfl) (Ae9 L Q Y s (cd [1,1,1,1,1] Cj) (AI L Q Y s) k a b p q l r m n i o c d e f g h j)
noncomputable def Sx{R:Type}(a J K:By)(G:Int)(M:By)(H C I v w x y z A B:Int)(D:By)(F:Int->Blk->By->By->Int->By->Int->Int->Int->Int->Int->Int->Int->Int->Int->Int->By->(List Blk)->Option R):Option R:=X5 a ([]:List UInt8) J K G M H C I v w x y z A B D (λd b q r e t f g h i j l m n o p u c=>F d b q r e t f g h i j l m n o p u c)
abbrev Rj(b:Code):Prop:=∀(k:Out->St W->Option R) authority0 kk1 b2 l s4 n5 s6 i h j a c d e f g n16 s17,B3 (Y9 L) Q Y b ⟨gp [(1,pS authority0),(0,.ptr 0 0 0),(1,.ptr 1 0 0),(2,pS authority0),(0,pS ([]:List UInt8)),(1,pI kk1),(35,pB b2)] 42,[(bU l s4 n5 s6 i h j a c d e f g n16 s17),bU0],s⟩ k=Sx authority0 l s4 n5 s6 i h j a c d e f g n16 s17 (λn0 o r l p t q i h j a c d e f g n m=>k .ret ⟨gp [(4,.ptr 1 0 0),(0,pI n0)] 83,(o::(bU r l p t q i h j a c d e f g n)::m),s⟩)
theorem Af1(c:Code)(a:Rh (R:=R) L Q Y s c):Rj (R:=R) L Q Y s (cd [1,1,1,1] (G6 [1,1,1,1,1] c Cj)):=by intro k b n v r t o u p l q d e f g h i j m;unfold Sx;exact(j2 (by kernel_rfl) ((a k b ([]:List UInt8) false r t o u p l q d e f g h i j m).trans (by kernel_rfl)))
theorem Af2:Rj (R:=R) L Q Y s (cd [1,1,1,1] Cj):=by intro k a b m q r n t o j p c d e f g h i l;exact j2 (by kernel_rfl) (Af1 L Q Y s (cd [1,1,1,1,1] Cj) (AI L Q Y s) k a b m q r n t o j p c d e f g h i l)
noncomputable def Wk{R:Type}(L:Nat)(u0 u1:By)(u2:Int)(u3:By)(u4 u5 u6 u7 u8 u9 e f g h:Int)(i a:By)(k0:By->By->Int->By->Int->Int->Int->Int->Int->Int->Int->Int->Int->Int->By->Int->(List Blk)->Option R):Option R:=cond (A3 a.length) (vl (L3 (u8n (64:Int)) a) λc5=>cond (not (ltI c5 0)) (cond (I9 0 c5 a.length) (vl (cut a 0 c5) λe7=>cond (I9 (A1 (c5+1)) (a.length:Int) a.length) (vl (cut a (A1 (c5+1)) (a.length:Int)) λb=>cond (A3 b.length) (cond (x6 ([91]:List UInt8) b) (cond (A3 b.length) (vl (x3 b (u8n (93:Int))) λJ=>cond (ltI J 0) (k0 ([]:List UInt8) ([]:List UInt8) 0 ([]:List UInt8) 0 0 0 0 0 0 0 0 0 0 ([]:List UInt8) 4 [(bU u0 e7 u2 u3 u4 u5 u6 u7 u8 u9 e f g h i),bU0]) (vl (A1 (J+1)) λe8=>cond (I9 0 e8 b.length) (vl (A1 (J+1)) λe9=>cond (I9 e9 (b.length:Int) b.length) (vl (cut b e9 (b.length:Int)) λi5=>R3 (cut b 0 e8) i5 u0 e7 u2 u3 u4 u5 u6 u7 u8 u9 e f g h i (λi4 i3 g3 g4 f2 g5 f3 f4 f5 f6 f7 f8 f9 g0 g1 g2 g6 h2=>k0 g3 g4 f2 g5 f3 f4 f5 f6 f7 f8 f9 g0 g1 g2 g6 i4 (i3::((bU g3 g4 f2 g5 f3 f4 f5 f6 f7 f8 f9 g0 g1 g2 g6)::h2)))) none) none)) none) (cond (A3 b.length) (vl (x3 b (u8n (58:Int))) λc=>cond (not (ltI c 0)) (cond (I9 0 c b.length) (cond (I9 c (b.length:Int) b.length) (vl (cut b c (b.length:Int)) λi6=>R3 (cut b 0 c) i6 u0 e7 u2 u3 u4 u5 u6 u7 u8 u9 e f g h i (λh8 g7 c6 c7 j c8 l m n o p q r t u v c9 h3=>k0 c6 c7 j c8 l m n o p q r t u v c9 h8 (g7::((bU c6 c7 j c8 l m n o p q r t u v c9)::h3)))) none) none) (Sx b u0 e7 u2 u3 u4 u5 u6 u7 u8 u9 e f g h i (λh9 g8 d0 d1 w d2 x y z A B C D F G H d3 h4=>k0 d0 d1 w d2 x y z A B C D F G H d3 h9 (g8::((bU d0 d1 w d2 x y z A B C D F G H d3)::h4))))) none)) none) none) none) (cond (A3 a.length) (cond (x6 ([91]:List UInt8) a) (cond (A3 a.length) (vl (x3 a (u8n (93:Int))) λc4=>cond (ltI c4 0) (k0 ([]:List UInt8) ([]:List UInt8) 0 ([]:List UInt8) 0 0 0 0 0 0 0 0 0 0 ([]:List UInt8) 4 [(bU u0 u1 u2 u3 u4 u5 u6 u7 u8 u9 e f g h i),bU0]) (vl (A1 (c4+1)) λf0=>cond (I9 0 f0 a.length) (vl (cut a 0 f0) λi7=>vl (A1 (c4+1)) λf1=>cond (I9 f1 (a.length:Int) a.length) (vl (cut a f1 (a.length:Int)) λi9=>R3 i7 i9 u0 u1 u2 u3 u4 u5 u6 u7 u8 u9 e f g h i (λi0 g9 d4 d5 I d6 K M N O P S T U V X d7 h5=>k0 d4 d5 I d6 K M N O P S T U V X d7 i0 (g9::((bU d4 d5 I d6 K M N O P S T U V X d7)::h5)))) none) none)) none) (cond (A3 a.length) (vl (x3 a (u8n (58:Int))) λd=>cond (not (ltI d 0)) (cond (I9 0 d a.length) (vl (cut a 0 d) λj0=>cond (I9 d (a.length:Int) a.length) (vl (cut a d (a.length:Int)) λj1=>R3 j0 j1 u0 u1 u2 u3 u4 u5 u6 u7 u8 u9 e f g h i (λi1 h0 d8 d9 Z e1 a0 a1 a2 a3 a4 a5 a6 a7 a9 b0 e2 h6=>k0 d8 d9 Z e1 a0 a1 a2 a3 a4 a5 a6 a7 a9 b0 e2 i1 (h0::((bU d8 d9 Z e1 a0 a1 a2 a3 a4 a5 a6 a7 a9 b0 e2)::h6)))) none) none) (Sx a u0 u1 u2 u3 u4 u5 u6 u7 u8 u9 e f g h i (λi2 h1 e3 e4 b1 e5 b2 b3 b4 b5 b6 b7 c0 c1 c2 c3 e6 h7=>k0 e3 e4 b1 e5 b2 b3 b4 b5 b6 b7 c0 c1 c2 c3 e6 i2 (h1::((bU e3 e4 b1 e5 b2 b3 b4 b5 b6 b7 c0 c1 c2 c3 e6)::h7))))) none)) none)) none
theorem Ck2(d:Code)(a:Ri (R:=PV × List Blk × W) L Q Y s d)(c:Rj (R:=PV × List Blk × W) L Q Y s d)(m G:By)(n:Int)(o:By)(p q r t u8 u e f g h:Int)(i b:By):B3 (Y9 L) Q Y (cd [] (G6 [1,1,1,1] d Cj)) ⟨[(gU m G n o p q r t u8 u e f g h i),pS b]++tps 87,[],s⟩ (F3 (Y9 L) al1)=Wk L m G n o p q r t u8 u e f g h i b (λZ r1 r2 r3 r4 r5 r6 r7 r8 r9 I J K M N O H=>some (.tup [(gU Z r1 r2 r3 r4 r5 r6 r7 r8 r9 I J K M N),pI O],H,s)):=by unfold Wk;exact let x:=(F3 (Y9 L) al1);(j2 (by kernel_rfl) (A0 (A4 λX=>(A0 (A0 (A4 λv=>(A0 (A4 λw=>(A0 (A0 (A0 (A4 λP=>(A0 rfl (A4 λy=>(A0 (A4 λS=>(A0 (A4 λz=>((a x (cut w 0 y) z m v n o p q r t u8 u e f g h i).trans (by kernel_rfl))) rfl)) rfl)))) rfl) (A0 (A4 λj=>(A0 (A0 (A0 (A4 λA=>((a x (cut w 0 j) A m v n o p q r t u8 u e f g h i).trans (by kernel_rfl))) rfl) rfl) ((c x w j (not (ltI j 0)) m v n o p q r t u8 u e f g h i).trans (by kernel_rfl)))) rfl)) rfl)) rfl)) rfl) (A0 (A0 (A0 (A4 λT=>(A0 rfl (A4 λU=>(A0 (A4 λB=>(A4 λV=>(A0 (A4 λC=>((a x B C m G n o p q r t u8 u e f g h i).trans (by kernel_rfl))) rfl))) rfl)))) rfl) (A0 (A4 λl=>(A0 (A0 (A4 λD=>(A0 (A4 λF=>((a x D F m G n o p q r t u8 u e f g h i).trans (by kernel_rfl))) rfl)) rfl) ((c x b l (not (ltI l 0)) m G n o p q r t u8 u e f g h i).trans (by kernel_rfl)))) rfl)) rfl))) rfl))
theorem Ck3(d:Nat)(u0 u1 u2 u3 u4 u5 u6 u7 u8 u9 u10 u11 u12 u13 u14 authority15):evC (Y9 L) (d+1) W Y 53 [(gU u0 u1 u2 u3 u4 u5 u6 u7 u8 u9 u10 u11 u12 u13 u14),pS authority15] [] s=Wk L u0 u1 u2 u3 u4 u5 u6 u7 u8 u9 u10 u11 u12 u13 u14 authority15 (λi j l m n o p q r8 r b c e f g h a=>some (.tup [(gU i j l m n o p q r8 r b c e f g),pI h],a,s)):=
 (evE (fn:=al1) (by kernel_rfl)).trans (j2 (by kernel_rfl) (Ck2 L (evC (Y9 L) d) Y s (cd [1,1,1,1] Cj) (Af0 L (evC (Y9 L) d) Y s) (Af2 L (evC (Y9 L) d) Y s) u0 u1 u2 u3 u4 u5 u6 u7 u8 u9 u10 u11 u12 u13 u14 authority15))
noncomputable abbrev Cr4:Code:=C6 am9
noncomputable def Vf(L:Nat):Cfg:=B8 L [26] (A2 [(2,[0,1,0,8,0])]) [(46,A29),(47,Cp7),(48,A16),(49,GR),(50,A10),(51,WY),(52,IJ),(53,Ai1)] (A2 [(23,[2,0]),(22,[2,5,0]),(21,[2,5,0,65]),(20,[2,5,0]),(19,[2,3,1,0]),(18,[2,3,1,0,0,52]),(17,[2,3,1,0,0]),(16,[2,3,1,0]),(15,[2,0]),(14,[2,3,1,48]),(13,[2,3,0,0]),(12,[2,0]),(11,[2,3,1,40]),(10,[2,3,1]),(9,[2,0]),(8,[2,2,0,33]),(7,[2,2,0,0]),(6,[0,1,9,0]),(5,[2,0]),(4,[0,1,9,0,11]),(3,[0,1,1,7,0]),(2,[0,1,9,0,0]),(1,[0,1,9,0]),(0,[0,1])]) [46,47,48,49,50,51,52] (A2 [(0,[0,1]),(1,[0,1,9,0])]) (some [2,0]) [] [] []
noncomputable def Kg{R:Type}(L n:Nat)(b:By)(e a:Int)(c:(List Blk)->Option R)(d:By->Option R):Option R:=match n with|0=>none|n+1=>cond (ltI a e) (cond (inR a b.length) (cond (not (ltI 32 (bAt b a))) (c []) (cond (inR a b.length) (cond ((bAt b a)==127) (c []) (Kg L n b e (A1 (a+1)) c d)) none)) none) (d b)
theorem Br8(n a n1 n2):D0 1 ((Vf L).keep 2) (bd (Vf L) Q Y (cd [1,0,1,0,0] Cr4)) n ⟨gp [(0,pS a),(1,.ptr 0 0 0),(9,pI n1),(0,pI n2)] 71,[bU0],s⟩ k =
 Kg L n a n1 n2 (λb=>k .ret ⟨gp [(2,.ptr 0 0 0),(0,pI (4:Int))] 81,(bU0::b),s⟩) (λa=>k (.exit 0) ⟨gp [(0,pS a),(1,.ptr 0 0 0)] 82,[bU0],s⟩):=by
 induction n generalizing a n1 n2 with
 | zero=>rfl
 | succ n c=>rw[Kg];simp only[<-c];kernel_rfl
noncomputable def QK{R:Type}(L:Nat)(q:By)(n:By->By->Int->By->Int->Int->Int->Int->Int->Int->Int->Int->Int->Int->By->Int->(List Blk)->Option R):Option R:=Kg L L q (q.length:Int) 0 (λp=>n ([]:List UInt8) ([]:List UInt8) 0 ([]:List UInt8) 0 0 0 0 0 0 0 0 0 0 ([]:List UInt8) 4 (bU0::p)) (λo=>cond (A3 o.length) (vl ((x9 o ([58]:List UInt8))).1 λf=>vl (((x9 o ([58]:List UInt8))).2).1 λj=>cond (not (((x9 o ([58]:List UInt8))).2).2) (n ([]:List UInt8) ([]:List UInt8) 0 ([]:List UInt8) 0 0 0 0 0 0 0 0 0 0 ([]:List UInt8) 15 [bU0]) (cond (A3 f.length) (cond (not (T7 f)) (n ([]:List UInt8) ([]:List UInt8) 0 ([]:List UInt8) 0 0 0 0 0 0 0 0 0 0 ([]:List UInt8) 15 [bU0]) (cond (A3 f.length) (cond (not (H8 (B6 f))) (n (B6 f) ([]:List UInt8) 0 ([]:List UInt8) 0 0 0 0 0 0 0 0 0 (-1) j 0 [(bU (B6 f) ([]:List UInt8) (0:Int) ([]:List UInt8) (0:Int) (0:Int) (0:Int) (0:Int) (0:Int) (0:Int) (0:Int) (0:Int) (0:Int) ((-1):Int) j),(bU (B6 f) ([]:List UInt8) (0:Int) ([]:List UInt8) (0:Int) (0:Int) (0:Int) (0:Int) (0:Int) (0:Int) (0:Int) (0:Int) (0:Int) ((-1):Int) j)]) (cond (A3 j.length) (vl (Hx j ([47,47]:List UInt8)) λe=>cond (not (x6 ([47,47]:List UInt8) j)) (n ([]:List UInt8) ([]:List UInt8) 0 ([]:List UInt8) 0 0 0 0 0 0 0 0 0 0 ([]:List UInt8) 4 [bU0,(bU (B6 f) ([]:List UInt8) (0:Int) ([]:List UInt8) (0:Int) (0:Int) (0:Int) (0:Int) (0:Int) (0:Int) (0:Int) (0:Int) (0:Int) ((-1):Int) j)]) (cond (A3 e.length) (cond (DE ([47,63,35]:List UInt8)) (vl (ae2 e ([47,63,35]:List UInt8)) λi=>cond (not (ltI i 0)) (cond (I9 0 i e.length) (cond (I9 (↑(b8 (cut e 0 i)):Int) (e.length:Int) e.length) (vl (cut e (↑(b8 (cut e 0 i)):Int) (e.length:Int)) λg=>cond (A3 g.length) (cond (not (x6 ([47]:List UInt8) g)) (cond (E8 1 g.length) (vl (([47]:List UInt8)++g) λl=>cond (A3 (b8 (B6 f))) (cond (A3 l.length) (cond (A3 (b8 (cut e 0 i))) (cond (((-1):Int)==((-1):Int)) (vl (G5 (B6 f) l (cut e 0 i)) λa=>n (uS a) (uU a) (uK a) (uN a) (uV a) (uA a 0) (uA a 1) (uA a 2) (uA a 3) (uA a 4) (uA a 5) (uA a 6) (uA a 7) (uP a) (uR a) (uE a) [(bQ a),(bU (B6 f) ([]:List UInt8) (0:Int) ([]:List UInt8) (0:Int) (0:Int) (0:Int) (0:Int) (0:Int) (0:Int) (0:Int) (0:Int) (0:Int) ((-1):Int) l)]) none) none) none) none) none) (cond (A3 (b8 (B6 f))) (cond (A3 g.length) (cond (A3 (b8 (cut e 0 i))) (cond (((-1):Int)==((-1):Int)) (vl (G5 (B6 f) g (cut e 0 i)) λb=>n (uS b) (uU b) (uK b) (uN b) (uV b) (uA b 0) (uA b 1) (uA b 2) (uA b 3) (uA b 4) (uA b 5) (uA b 6) (uA b 7) (uP b) (uR b) (uE b) [(bQ b),(bU (B6 f) ([]:List UInt8) (0:Int) ([]:List UInt8) (0:Int) (0:Int) (0:Int) (0:Int) (0:Int) (0:Int) (0:Int) (0:Int) (0:Int) ((-1):Int) g)]) none) none) none) none)) none) none) none) (cond (I9 (e.length:Int) (e.length:Int) e.length) (vl (cut e (e.length:Int) (e.length:Int)) λh=>cond (A3 h.length) (cond (not (x6 ([47]:List UInt8) h)) (cond (E8 1 h.length) (vl (([47]:List UInt8)++h) λm=>cond (A3 (b8 (B6 f))) (cond (A3 m.length) (cond (A3 e.length) (cond (((-1):Int)==((-1):Int)) (vl (G5 (B6 f) m e) λc=>n (uS c) (uU c) (uK c) (uN c) (uV c) (uA c 0) (uA c 1) (uA c 2) (uA c 3) (uA c 4) (uA c 5) (uA c 6) (uA c 7) (uP c) (uR c) (uE c) [(bQ c),(bU (B6 f) ([]:List UInt8) (0:Int) ([]:List UInt8) (0:Int) (0:Int) (0:Int) (0:Int) (0:Int) (0:Int) (0:Int) (0:Int) (0:Int) ((-1):Int) m)]) none) none) none) none) none) (cond (A3 (b8 (B6 f))) (cond (A3 h.length) (cond (A3 e.length) (cond (((-1):Int)==((-1):Int)) (vl (G5 (B6 f) h e) λd=>n (uS d) (uU d) (uK d) (uN d) (uV d) (uA d 0) (uA d 1) (uA d 2) (uA d 3) (uA d 4) (uA d 5) (uA d 6) (uA d 7) (uP d) (uR d) (uE d) [(bQ d),(bU (B6 f) ([]:List UInt8) (0:Int) ([]:List UInt8) (0:Int) (0:Int) (0:Int) (0:Int) (0:Int) (0:Int) (0:Int) (0:Int) (0:Int) ((-1):Int) h)]) none) none) none) none)) none) none)) none) none)) none)) none)) none)) none)
theorem Dr0(d:Nat)(s0):evC (Vf L) (d+1) W Y 26 [pS s0] [] s=QK L s0 (λi j l m n o p q r8 r b c e f g h a=>some (.tup [(gU i j l m n o p q r8 r b c e f g),pI h],a,s)):=by refine(evE (fn:=am9) (by kernel_rfl)).trans ?_;generalize evC (Vf L) d=Q;unfold QK;exact(j2 (by kernel_rfl) ((Br8 L Q Y s (E1 0 (E0 (Vf L) Q Y (cd [1,1] Cr4) (F3 (Vf L) am9))) L s0 (s0.length:Int) 0).trans (by kernel_rfl)))
noncomputable def YT(L:Nat):Cfg:=B8 L [27] (A2 []) [(49,GR),(54,A13),(55,Bu6)] (A2 [(9,[2]),(8,[1,1]),(7,[1,1,28]),(6,[1,1]),(5,[1,1]),(4,[1,1,15]),(3,[1,1]),(2,[2]),(1,[1,5]),(0,[1])]) [49,54,55] (A2 []) (some [2]) [] [] []
noncomputable def Tq{R:Type}(L:Nat)(l t:By)(u:Int)(m:By)(n o p q u8 r e f g b:Int)(a:By)(v:By->(List Blk)->Option R):Option R:=cond (not (H8 l)) (cond (E8 l.length 1) (vl (l++[58]) λw=>cond (E8 w.length a.length) (v (w++a) [(bU l t u m n o p q u8 r e f g b a)]) none) none) (cond (E8 l.length 3) (vl (l++[58,47,47]) λc=>cond (not (t==[])) (cond (E8 t.length 1) (vl (t++[64]) λh=>cond (E8 c.length h.length) (cond (A3 m.length) (cond (ltN n 4294967296) (cond (ok8 o p q u8 r e f g) (vl (P0 (mkH u m n (n8 o p q u8 r e f g))) λj=>cond (E8 (b8 (c++h)) j.length) (cond (b !=((-1):Int)) (cond (R7 b) (cond (E8 1 (b8 (V2 b))) (vl (([58]:List UInt8)++(V2 b)) λz=>cond (E8 (b8 ((c++h)++j)) z.length) (vl (((c++h)++j)++z) λA=>cond (E8 A.length a.length) (v (A++a) [(bU l t u m n o p q u8 r e f g b a)]) none) none) none) none) (cond (E8 (b8 ((c++h)++j)) a.length) (vl (((c++h)++j)++a) λx=>v x [(bU l t u m n o p q u8 r e f g b a)]) none)) none) none) none) none) none) none) (cond (A3 m.length) (cond (ltN n 4294967296) (cond (ok8 o p q u8 r e f g) (vl (P0 (mkH u m n (n8 o p q u8 r e f g))) λd=>cond (E8 c.length d.length) (cond (b !=((-1):Int)) (cond (R7 b) (cond (E8 1 (b8 (V2 b))) (vl (([58]:List UInt8)++(V2 b)) λi=>cond (E8 (b8 (c++d)) i.length) (cond (E8 (b8 ((c++d)++i)) a.length) (vl (((c++d)++i)++a) λy=>v y [(bU l t u m n o p q u8 r e f g b a)]) none) none) none) none) (cond (E8 (b8 (c++d)) a.length) (v ((c++d)++a) [(bU l t u m n o p q u8 r e f g b a)]) none)) none) none) none) none)) none)
theorem C74(d:Nat)(u0 u1 u2 u3 u4 u5 u6 u7 u8 u9 u10 u11 u12 u13 u14):evC (YT L) (d+1) W Y 27 [(gU u0 u1 u2 u3 u4 u5 u6 u7 u8 u9 u10 u11 u12 u13 u14)] [] s=Tq L u0 u1 u2 u3 u4 u5 u6 u7 u8 u9 u10 u11 u12 u13 u14 (λb a=>some (pS b,a,s)):=by refine(evE (fn:=Tryz.f27) (by kernel_rfl)).trans ?_;generalize evC (YT L) d=Q;unfold Tq;kernel_rfl
noncomputable def CH(L:Nat):Cfg:=B8 L [14] (A2 []) [(27,XI),(26,Cp6)] (A2 [(2,[2]),(1,[1,1,0]),(0,[1])]) [27] (A2 []) (some [2]) [] [] []
noncomputable def IA{R:Type}(L:Nat)(h i:By)(q:Int)(j:By)(l m n o u8 p b c d e:Int)(f:By)(r:Bool->(List Blk)->Option R):Option R:=cond (smU h i j f) (cond (ltN l 4294967296) (cond (ok8 m n o u8 p b c d) (cond (R7 e) (vl (Y3 (mkU h i q j l (n8 m n o u8 p b c d) e f)) λg=>cond (A3 g.length) (vl (C2 g) λa=>cond ((uE a)==0) (r ((h==(uS a))&&((i==(uU a))&&((q==(uK a))&&((j==(uN a))&&((l==(uV a))&&((m==(uA a 0))&&((n==(uA a 1))&&((o==(uA a 2))&&((u8==(uA a 3))&&((p==(uA a 4))&&((b==(uA a 5))&&((c==(uA a 6))&&((d==(uA a 7))&&((e==(uP a))&&((f==(uR a))&&true))))))))))))))) [(bU h i q j l m n o u8 p b c d e f),(bQ a)]) (r false [(bU h i q j l m n o u8 p b c d e f),(bQ a)])) none) none) none) none) none
theorem Bs3(d:Nat)(u0 u1 u2 u3 u4 u5 u6 u7 u8 u9 u10 u11 u12 u13 u14):evC (CH L) (d+1) W Y 14 [(gU u0 u1 u2 u3 u4 u5 u6 u7 u8 u9 u10 u11 u12 u13 u14)] [] s=IA L u0 u1 u2 u3 u4 u5 u6 u7 u8 u9 u10 u11 u12 u13 u14 (λb a=>some (pB b,a,s)):=by refine(evE (fn:=Tryz.f14) (by kernel_rfl)).trans ?_;generalize evC (CH L) d=Q;unfold IA;kernel_rfl
noncomputable def A65(L:Nat):Cfg:=B8 L [29] (A2 []) [(14,Ru),(27,XI)] (A2 [(3,[2]),(2,[2]),(1,[1,3]),(0,[1])]) [14,27] (A2 []) (some [2]) [] [] []
noncomputable def Dq3{R:Type}(L:Nat)(f g:By)(o:Int)(h:By)(i j l m u8 n a b c d:Int)(e:By)(q:By->(List Blk)->Option R):Option R:=cond (smU f g h e) (cond (ltN i 4294967296) (cond (ok8 j l m u8 n a b c) (cond (R7 d) (cond (not (T9 (mkU f g o h i (n8 j l m u8 n a b c) d e))) (q ([]:List UInt8) [(bU f g o h i j l m u8 n a b c d e)]) (cond (smU f g h e) (cond (ltN i 4294967296) (cond (ok8 j l m u8 n a b c) (cond (R7 d) (vl (Y3 (mkU f g o h i (n8 j l m u8 n a b c) d e)) λp=>q p [(bU f g o h i j l m u8 n a b c d e)]) none) none) none) none)) none) none) none) none
theorem Dq4(d:Nat)(u0 u1 u2 u3 u4 u5 u6 u7 u8 u9 u10 u11 u12 u13 u14):evC (A65 L) (d+1) W Y 29 [(gU u0 u1 u2 u3 u4 u5 u6 u7 u8 u9 u10 u11 u12 u13 u14)] [] s=Dq3 L u0 u1 u2 u3 u4 u5 u6 u7 u8 u9 u10 u11 u12 u13 u14 (λb a=>some (pS b,a,s)):=by refine(evE (fn:=Tryz.f29) (by kernel_rfl)).trans ?_;generalize evC (A65 L) d=Q;unfold Dq3;kernel_rfl
end
section
variable {W R : Type} (L : Nat) (Q : F6) (Y : Yh W) (s : W) (k : Out -> St W -> Option R)
noncomputable def CF(L:Nat):Cfg:=B8 L [75] (A2 []) [] (A2 [(1,[2]),(0,[0])]) [] (A2 []) (some [2]) [] [] []
noncomputable def Ad8{R:Type}(L:Nat)(a:Int)(b:Bool->Option R):Option R:=b (ltI (8:Int) a)
theorem Bq4(d:Nat)(a:Int):evC (CF L) (d+1) W Y 75 [.s (.int .i64 a)] [] s=Ad8 L a (λb=>some (.s (.bool b),[],s)):=by refine(evE (fn:=Tryz.f75) (by kernel_rfl)).trans ?_;generalize evC (CF L) d=Q;unfold Ad8;kernel_rfl
noncomputable abbrev Wy:Code:=C6 al4
noncomputable def Cl(L:Nat):Cfg:=B8 L [99] (A2 []) [] (A2 [(5,[2]),(2,[2]),(4,[2]),(3,[10]),(1,[0,2]),(0,[0])]) [] (A2 [(0,[])]) (some [2]) [] [] []
noncomputable def Mj{R:Type}(a:Int)(d:Bool)(b:Unit->Option R)(c:Bool->Option R):Option R:=cond d (b ()) (cond (ltI (57343:Int) a) (cond (not (ltI (1114111:Int) a)) (b ()) (c (not (ltI (1114111:Int) a)))) (c false))
abbrev GF(b:Code):Prop:=∀(k:Out->St W->Option R) (c:Int) (a:Bool),B3 (Cl L) Q Y b ⟨gp [(0,.s (.int .i32 c)),(2,.s (.bool a))] 13,[],s⟩ k=Mj c a (λ_=>k .ret ⟨gp [(2,.s (.bool true))] 14,[],s⟩) (λd=>k .normal ⟨gp [(10,.s (.bool d))] 6,[],s⟩)
theorem Af3:GF (R:=R) L Q Y s (cd [1,0,0,1] Wy):=by intro k b a;unfold Mj;kernel_rfl
noncomputable def OU{R:Type}(L:Nat)(b:Int)(a:Bool->Option R):Option R:=cond (not (ltI b (0:Int))) (Mj b (ltI b (55296:Int)) (λ_=>a true) (λc=>a false)) (Mj b false (λ_=>a true) (λd=>a false))
theorem Ck8(b:Code)(a:GF (R:=PV × List Blk × W) L Q Y s b)(c:Int):B3 (Cl L) Q Y (cd [] (G6 [1,0,0,1] b Wy)) ⟨[.s (.int .i32 c)]++tps 16,[],s⟩ (F3 (Cl L) al4)=OU L c (λc=>some (.s (.bool c),[],s)):=by unfold OU;exact let d:=(E1 0 (E0 (Cl L) Q Y (cd [1,1] Wy) (F3 (Cl L) al4)));(j2 (by kernel_rfl) (A0 ((a d c (ltI c (55296:Int))).trans (by kernel_rfl)) ((a d c false).trans (by kernel_rfl))))
theorem Ck9(d:Nat)(a:Int):evC (Cl L) (d+1) W Y 99 [.s (.int .i32 a)] [] s=OU L a (λa=>some (.s (.bool a),[],s)):=
 (evE (fn:=al4) (by kernel_rfl)).trans (j2 (by kernel_rfl) (Ck8 L (evC (Cl L) d) Y s (cd [1,0,0,1] Wy) (Af3 L (evC (Cl L) d) Y s) a))
noncomputable abbrev Az:Code:=C6 al2
noncomputable def M7(L:Nat):Cfg:=B8 L [74] (A2 [(38,[4,170]),(29,[0,3,2,0,0,4,0,0]),(25,[0,3,2,0,0,4,0]),(12,[0,3,2,0,0,2]),(5,[0,3,2,0,0])]) [(72,Ws),(99,KG)] (A2 [(35,[4]),(42,[4]),(41,[4]),(40,[5,169,5]),(39,[5,0,168]),(38,[175,0,0]),(37,[175]),(44,[4]),(33,[4]),(22,[4]),(21,[8,0,3,94]),(20,[8,0,3]),(26,[0,6,0,0,4,0]),(32,[4]),(30,[0,6,0,0,4,0,0]),(31,[0,6,0,0,4,0,0,139]),(29,[0,6,0,0,4,0,0,126]),(28,[0,6,0,0,4,0,0]),(27,[0,6,0,0,4,0,123]),(25,[0,6,0,0,4,0,108]),(24,[0,6,0,0,4,0]),(23,[0,6,0,0,4]),(19,[4]),(18,[0,6,0,0,88]),(17,[0,6,0,0,0]),(16,[0,6,0,0,0]),(15,[4]),(13,[0,6,0,0,2]),(14,[0,6,0,0,2,51]),(12,[0,6,0,0,2,38]),(11,[0,6,0,0,2]),(10,[0,6,0,0]),(9,[4]),(8,[0,6,0,0,1,31]),(7,[0,6,0,0,1]),(6,[0,6,0,0,23]),(5,[0,6,0,0,16]),(4,[0,6,0,0]),(3,[0,6,0,0]),(2,[0,6,0]),(1,[0,6]),(43,[0,0,181]),(36,[0,0,169]),(34,[0,0,158]),(0,[0,0])]) [72,99] (A2 [(0,[4]),(9,[]),(10,[175]),(5,[]),(6,[0,6,0,0,4,0]),(7,[8,0]),(8,[0,6,0,0,4,0,0]),(1,[]),(2,[0,6,0,0]),(3,[8,0]),(4,[0,6,0,0,2])]) (some [4]) [] [] []
noncomputable def Ek{R:Type}(L n:Nat)(self:Nat->Option R)(a:Nat)(c:Int->Nat->Option R)(d:Nat->Option R):Option R:=cond (decide (a<3)) (vl ((aa5 ⟨aa8 (([47,63,35]:List UInt8))⟩ a)).1 λb=>cond (b==(65533:Int)) (c (↑a:Int) (a+((aa5 ⟨aa8 (([47,63,35]:List UInt8))⟩ a)).2)) (self (a+((aa5 ⟨aa8 (([47,63,35]:List UInt8))⟩ a)).2))) (d a)
noncomputable def Aj{R:Type}(L n:Nat)(a:Nat)(b:Int->Nat->Option R)(c:Nat->Option R):Option R:=C04 (α:=Nat->Option R) (λ_=>none) (λn self a=>Ek L n self a b c) n a
theorem Fk{R:Type}(L n:Nat)(a:Nat)(b:Int->Nat->Option R)(c:Nat->Option R):Aj L (n+1) a b c=Ek L n (λa=>Aj L n a b c) a b c:=rfl
theorem Ad5(n:Nat)(a:Nat):D0 1 ((M7 L).keep 38) (bd (M7 L) Q Y (cd [1,0,1,1,1,0,0,1,0,0] Az)) n ⟨gp [(175,.it 0)] 11,[.iter (([47,63,35]:List UInt8)) a],s⟩ k =
 Aj L n a (λn0 c=>k .ret ⟨gp [(4,.s (.int .i64 n0))] 182,[.iter (([47,63,35]:List UInt8)) c],s⟩) (λa=>k (.exit 9) ⟨gp [] 187,[.iter (([47,63,35]:List UInt8)) a],s⟩):=by
 induction n generalizing a with
 | zero=>rfl
 | succ n b=>rw[Fk];unfold Ek;exact(j2 (by kernel_rfl) (A0 (A4 λd=>(A0 rfl (b (a+((aa5 ⟨aa8 (([47,63,35]:List UInt8))⟩ a)).2)))) rfl))
noncomputable def Wi{R:Type}(L n:Nat)(self:By->Int->Int->Int->Option R)(b:By)(a f c:Int)(g:Int->Int->Option R):Option R:=cond (ltI c (↑(b8 b):Int)) (cond (inR (A1 (f-c)) 3) (vl (bAt (([47,63,35]:List UInt8)) (A1 (f-c))) λd=>cond (inR (A1 (a-c)) (b8 b)) (vl (bAt b (A1 (a-c))) λe=>cond (d !=e) (none) (self b a f (A1 (c+(1:Int))))) (none)) (none)) (g a f)
noncomputable def Mg{R:Type}(L n:Nat)(b:By)(a c d:Int)(e:Int->Int->Option R):Option R:=C04 (α:=By->Int->Int->Int->Option R) (λ_ _ _ _=>none) (λn self b a c d=>Wi L n self b a c d e) n b a c d
theorem Ax3{R:Type}(L n:Nat)(b:By)(a c d:Int)(e:Int->Int->Option R):Mg L (n+1) b a c d e=Wi L n (λb a c d=>Mg L n b a c d e) b a c d e:=rfl
theorem Zx(n:Nat)(b:By)(a d e:Int):D0 0 ((M7 L).keep 12) (bd (M7 L) Q Y (cd [1,0,1,1,1,1,1,1,0,1,1,1,1,0,0,0,1,0,0,1,0,1,0,0] Az)) n ⟨gp [(0,.s (.str (([47,63,35]:List UInt8)))),(6,.s (.str b)),(0,.s (.int .i64 a)),(0,.s (.int .i64 d)),(2,.s (.int .i64 e))] 174,[],s⟩ k =
 Mg L n b a d e (λc h=>k (.exit 3) ⟨gp [(8,.s (.int .i64 c)),(0,.s (.int .i64 h))] 177,[],s⟩):=by
 induction n generalizing b a d e with
 | zero=>rfl
 | succ n i=>rw[Ax3];unfold Wi;exact(j2 (by kernel_rfl) (A0 (A0 (A4 λf=>(A0 (A4 λg=>(A0 rfl (i b a d (A1 (e+(1:Int)))))) rfl)) rfl) rfl))
noncomputable def Oj{R:Type}(L n:Nat)(self:By->Int->Option R)(b:By)(a:Int)(m:Int->Option R)(o:Unit->Option R):Option R:=cond (ltI a (3:Int)) (cond (inR a 3) (vl (bAt (([47,63,35]:List UInt8)) a) λj=>cond (inR a (b8 b)) (cond (j !=(bAt b a)) (vl (A1 (a+(1:Int))) λe=>cond (I9 e (3:Int) 3) (vl (cut (([47,63,35]:List UInt8)) e (3:Int)) λg=>cond (inR a (b8 b)) (cond (A3 (b8 g)) (cond (inR (bAt b a) 256) (vl (x3 g (u8n (bAt b a))) λf=>cond (ltI f (0:Int)) (m (-1)) (vl (A1 (f+(1:Int))) λl=>Mg L L b a (A1 (a+l)) 1 (λc h=>m (A1 (h-c))))) (none)) (none)) (none)) (none)) (Mg L L b a a 1 (λd i=>m (A1 (i-d))))) (none)) (none)) (o ())
noncomputable def Hl{R:Type}(L n:Nat)(b:By)(a:Int)(c:Int->Option R)(d:Unit->Option R):Option R:=C04 (α:=By->Int->Option R) (λ_ _=>none) (λn self b a=>Oj L n self b a c d) n b a
theorem GB{R:Type}(L n:Nat)(b:By)(a:Int)(c:Int->Option R)(d:Unit->Option R):Hl L (n+1) b a c d=Oj L n (λb a=>Hl L n b a c d) b a c d:=rfl
theorem Ad6(n:Nat)(b:By)(a:Int):D0 0 ((M7 L).keep 5) (bd (M7 L) Q Y (cd [1,0,1,1,1,1,1,1,0,1,1,1,1,0,0,0] Az)) n ⟨gp [(0,.s (.str (([47,63,35]:List UInt8)))),(6,.s (.str b)),(0,.s (.int .i64 a)),(0,.s (.int .i64 a))] 177,[],s⟩ k =
 Hl L n b a (λn0=>k .ret ⟨gp [(4,.s (.int .i64 n0))] 182,[],s⟩) (λ_=>k (.exit 1) ⟨gp [] 187,[],s⟩):=by
 induction n generalizing b a with
 | zero=>rfl
 | succ n i=>rw[GB];unfold Oj;exact let d:=(E1 3 (E0 (M7 L) Q Y (cd [1,0,1,1,1,1,1,1,0,1,1,1,1,0,0,0,1,0,0,1,1] Az) (E1 2 (lpK 0 ((M7 L).keep 5) (bd (M7 L) Q Y (cd [1,0,1,1,1,1,1,1,0,1,1,1,1,0,0,0] Az)) n k))));(j2 (by kernel_rfl) (A0 (A0 (A4 λe=>(A0 (A0 (A4 λf=>(A0 (A4 λh=>(A0 (A0 (A0 (A4 λg=>(A0 rfl (A4 λc=>((Zx L Q Y s d L b a (A1 (a+c)) 1).trans (by kernel_rfl))))) rfl) rfl) rfl)) rfl)) ((Zx L Q Y s d L b a a 1).trans (by kernel_rfl))) rfl)) rfl) rfl))
noncomputable def Me{R:Type}(L:Nat)(b:Int)(l:Bool)(d:Int->Option R)(j:Int->Nat->Option R):Option R:=cond l (cond (inR (wu8 b) 256) (vl (x3 (([47,63,35]:List UInt8)) (u8n (wu8 b))) λg=>d g) (none)) (cond (b==(65533:Int)) (Aj L L 0 (λi e=>j i e) (λf=>j (-1) f)) (cond (not (OW b)) (d (-1)) (vl (Utf8.encode b).data.toList λc=>vl (A1 ((↑(b8 c):Int)-(1:Int))) λh=>Hl L L c h (λa=>d a) (λ_=>d (-1)))))
abbrev GA(b:Code):Prop:=∀(k:Out->St W->Option R) (c:Int) (a:Bool),B3 (M7 L) Q Y b ⟨gp [(0,.s (.str (([47,63,35]:List UInt8)))),(0,.s (.int .i32 c)),(158,.s (.bool a))] 26,[],s⟩ k=Me L c a (λn0=>k .ret ⟨gp [(4,.s (.int .i64 n0))] 182,[],s⟩) (λn0 d=>k .ret ⟨gp [(4,.s (.int .i64 n0))] 182,[.iter (([47,63,35]:List UInt8)) d],s⟩)
theorem Ad4:GA (R:=R) L Q Y s (cd [1,0,1] Az):=by intro k e d;unfold Me;exact(j2 (by kernel_rfl) (A0 (A0 (A4 λc=>rfl) rfl) (A0 ((Ad5 L Q Y s (E1 9 (E0 (M7 L) Q Y (cd [1,0,1,1,1,0,1] Az) k)) L 0).trans (by kernel_rfl)) (A0 rfl (A4 λb=>(A4 λa=>((Ad6 L Q Y s (E1 1 (E0 (M7 L) Q Y (cd [1,0,1,1,1,1,1,1,0,1,1,1,1,1] Az) k)) L b a).trans (by kernel_rfl))))))))
noncomputable def OM{R:Type}(L:Nat)(r:Int)(g:Int->Option R)(h:Int->Nat->Option R):Option R:=cond (not (ltI r (0:Int))) (Me L r (ltI r (128:Int)) (λc=>g c) (λd a=>h d a)) (Me L r false (λe=>g e) (λf b=>h f b))
theorem Ci4(b:Code)(a:GA (R:=PV × List Blk × W) L Q Y s b)(r:Int):B3 (M7 L) Q Y (cd [] (G6 [1,0,1] b Az)) ⟨[.s (.str (([47,63,35]:List UInt8))),.s (.int .i32 r)]++tps 185,[],s⟩ (F3 (M7 L) al2)=OM L r (λc=>some (.s (.int .i64 c),[],s)) (λc e=>some (.s (.int .i64 c),[.iter (([47,63,35]:List UInt8)) e],s)):=by unfold OM;exact let d:=(E1 0 (F3 (M7 L) al2));(j2 (by kernel_rfl) (A0 ((a d r (ltI r (128:Int))).trans (by kernel_rfl)) ((a d r false).trans (by kernel_rfl))))
theorem Ci5(d:Nat)(r:Int):evC (M7 L) (d+1) W Y 74 [.s (.str (([47,63,35]:List UInt8))),.s (.int .i32 r)] [] s=OM L r (λa=>some (.s (.int .i64 a),[],s)) (λa b=>some (.s (.int .i64 a),[.iter (([47,63,35]:List UInt8)) b],s)):=
 (evE (fn:=al2) (by kernel_rfl)).trans (j2 (by kernel_rfl) (Ci4 L (evC (M7 L) d) Y s (cd [1,0,1] Az) (Ad4 L (evC (M7 L) d) Y s) r))
noncomputable abbrev Aj2:Code:=C6 an0
noncomputable def Hs(L:Nat):Cfg:=B8 L [51] (A2 [(18,[1,2,40]),(12,[0,3,1,1])]) [(74,JX),(75,BJ),(76,Ps)] (A2 [(22,[4]),(21,[4]),(20,[1,7,35,7]),(19,[1,7,0,34]),(18,[1,43,0,0]),(17,[1,43]),(16,[4]),(13,[0,5,1]),(15,[4]),(14,[0,5,1,33]),(12,[0,5,1,27]),(11,[0,5,1]),(10,[0,0,4,25]),(9,[0,0,4,0]),(8,[0,0,24]),(7,[4]),(6,[0,4]),(5,[0,4,14]),(4,[0,4]),(3,[0,0,13]),(2,[4]),(1,[0,0,10]),(0,[0,0])]) [74,75] (A2 [(2,[]),(3,[1,43]),(0,[]),(1,[0,5,1])]) (some [4]) [] [] []
noncomputable def Z7{R:Type}(L n:Nat)(self:By->Nat->Option R)(b:By)(a:Nat)(d:Int->(List Blk)->Option R)(e:By->Nat->Option R):Option R:=cond (decide (a<(b8 b))) (vl ((aa5 ⟨aa8 b⟩ a)).1 λc=>cond (DE (([47,63,35]:List UInt8))) (cond (ltN c 1114112) (cond (not (ltI (irn c) (0:Int))) (d (↑a:Int) [(Blk.iter b (a+((aa5 ⟨aa8 b⟩ a)).2))]) (self b (a+((aa5 ⟨aa8 b⟩ a)).2))) (none)) (none)) (e b a)
noncomputable def Md{R:Type}(L n:Nat)(b:By)(a:Nat)(c:Int->(List Blk)->Option R)(d:By->Nat->Option R):Option R:=C04 (α:=By->Nat->Option R) (λ_ _=>none) (λn self b a=>Z7 L n self b a c d) n b a
theorem Cc{R:Type}(L n:Nat)(b:By)(a:Nat)(c:Int->(List Blk)->Option R)(d:By->Nat->Option R):Md L (n+1) b a c d=Z7 L n (λb a=>Md L n b a c d) b a c d:=rfl
theorem Ad3(n:Nat)(b:By)(a:Nat):D0 1 ((Hs L).keep 18) (bd (Hs L) Q Y (cd [1,1,1,1,0,1,0,0] Aj2)) n ⟨gp [(1,.s (.str (([47,63,35]:List UInt8)))),(43,.it 0)] 9,[.iter b a],s⟩ k =
 Md L n b a (λn0 c=>k .ret ⟨gp [(4,.s (.int .i64 n0))] 50,c,s⟩) (λb a=>k (.exit 2) ⟨gp [] 55,[.iter b a],s⟩):=by
 induction n generalizing b a with
 | zero=>rfl
 | succ n d=>rw[Cc];unfold Z7;exact(j2 (by kernel_rfl) (A0 (A4 λe=>(A0 (A0 (A0 rfl (d b (a+((aa5 ⟨aa8 b⟩ a)).2))) rfl) rfl)) rfl))
noncomputable def Ad2{R:Type}(L:Nat)(t:By)(e:Int->(List Blk)->Option R):Option R:=cond (ltI (8:Int) (↑(b8 t):Int)) (none) (Md L L t 0 (λc a=>e c a) (λd b=>e (-1) [(Blk.iter d b)]))
theorem Ci2(d:Nat)(t:By):evC (Hs L) (d+1) W Y 51 [.s (.str t),.s (.str (([47,63,35]:List UInt8)))] [] s=Ad2 L t (λb a=>some (.s (.int .i64 b),a,s)):=by refine(evE (fn:=an0) (by kernel_rfl)).trans ?_;generalize evC (Hs L) d=Q;unfold Ad2;exact(j2 (by kernel_rfl) (A0 rfl ((Ad3 L Q Y s (E1 2 (E0 (Hs L) Q Y (cd [1,1,1,1,1] Aj2) (F3 (Hs L) an0))) L t 0).trans (by kernel_rfl))))
end
end
section
open Go
theorem Lg{c:UInt8}{s:By}(h:c∉s):x9 s [c]=(s,[],false):=by unfold x9;rw[Vj h,if_neg (by decide)]
theorem U6{c:UInt8}{p r:By}(h:c∉p):x9 (p++c::r) [c]=(p,r,true):=by unfold x9;rw[DD h,R0,j6,ad3,o5];rw[show p++c::r=(p++[c])++r by simp,ah2 (by simp)]
def Ca:Int->By->Option Int
 | n,[]=>some n
 | n,b::r=>if 48<=b.toNat/\b.toNat<=57 then Ca (min (10*max n 0+((b.toNat-48:Nat):Int)) 65536) r else none
theorem HE:∀(s:By) (n:Int),Ii n s=(Ca n s).bind λm=>if m<65536 then some m else none
 | [],n=>rfl
 | b::r,n=>by
  rw[Ii,Ca];split
  ·exact HE r _
  ·rfl
theorem SX:∀(a b:By) (n:Int),Ca n (a++b)=(Ca n a).bind λm=>Ca m b
 | [],b,n=>rfl
 | x::a,b,n=>by
  rw[ab8,Ca,Ca];split
  ·exact SX a b _
  ·rfl
theorem Cb4:∀u:Nat,Ca (-1) (v8 u)=some (min (u:Int) 65536):=by
 intro u
 induction u using ac7 with
 | _ u a=>
  by_cases h:u<10
  ·rw[ad1 h];have:(o8 (48+u)).toNat=48+u:=by simp;omega
   rw[Ca,this,R0,Ca]
   congr 1
   omega
  ·rw[X1 u h,SX,a (u / 10) (by omega)];have:(o8 (48+u % 10)).toNat=48+u % 10:=by simp;omega
   show Ca _ _=_;rw[Ca,this,R0,Ca]
   congr 1
   omega
theorem Cy1(p:Int)(a:0<=p)(b:p<=65535):Ii (-1) (V2 p)=some p:=by
 obtain⟨u,rfl⟩:=aa9 a;unfold V2;rw[G1,j6,HE,Cb4];show(if _ then _ else _)=_;rw[R0]
 congr 1
 omega
theorem NB:∀(s:By) (n p:Int),-1<=n->Ii n s=some p->-1<=p/\p<65536
 | [],n,p,a,h=>by
  rw[Ii] at h;split at h
  ·rename_i c;obtain rfl:=y8 h;exact⟨a,c⟩
  ·cases h
 | b::r,n,p,a,h=>by
  rw[Ii] at h;split at h
  ·exact NB r _ p (by omega) h
  ·cases h
theorem An0{n:Nat}(h:n<16):L7 (Lm n)=true:=by
 rw[Bx];unfold Lm;split
 ·have:(o8 (48+n)).toNat=48+n:=by simp;omega
  omega
 ·have:(o8 (87+n)).toNat=87+n:=by simp;omega
  omega
theorem Cu9:∀x:Nat,∀b∈P9 x,L7 b=true:=by
 intro x
 induction x using ac7 with
 | _ x c=>
  intro b a;by_cases h:x<16
  ·rw[Z0 h] at a;simp only[y9] at a;subst a;exact An0 h
  ·rw[X2 h] at a;rcases x7.1 a with a|a
   ·exact c _ (by omega) b a
   ·simp only[y9] at a;subst a;exact An0 (by omega)
theorem Qo{l:List Nat}{b:UInt8}(h:b∈K8 l):b=58\/L7 b=true:=by
 rcases Ym _ h with h|⟨x,c,a⟩
 ·exact .inl h
 ·obtain⟨n,_,rfl⟩:=am5.1 c;exact .inr (Cu9 n b a)
theorem C80{a:List Nat}{b:UInt8}(h:b∈Am a):b=58\/L7 b=true:=by
 unfold Am at h;split at h
 ·exact Qo h
 ·simp only[x7,p6] at h;rcases h with h|h|h|h
  ·exact Qo h
  ·exact .inl h
  ·exact .inl h
  ·exact Qo h
theorem Bb3{b:UInt8}(h:48<=b.toNat/\b.toNat<=57):L7 b=true:=(Bx b).2 (.inr (.inl h))
theorem RV{h:B5}(ok:Dh h)(a:J7 h=true):(∃m,P0 h=91::(m++[93])/\∀b∈m,b=58\/L7 b=true)\/(P0 h≠[]/\∀b∈P0 h,b=46\/L7 b=true):=by
 obtain⟨i,k,v4,v6⟩:=h;unfold P0;rw[if_pos a];unfold J7 at a;simp only at a ⊢;by_cases d:i=1
 ·subst d;simp only[if_true,o0,beq_iff_eq] at a ⊢;have:=Ji.1 a.1.1;exact .inr ⟨this.ne,this.byt⟩
 rw[if_neg d] at a ⊢;by_cases f:i=2
 ·subst f;simp only[if_true] at a ⊢;refine .inr ⟨λe=>?_,λb c=>?_⟩
  ·have g:=Aq4 v4 ok.v4;rw[e] at g;have j:(C4 []).1.kind=2:=by rw[g]
   exact absurd j (by decide)
  ·rcases Az4 c with h|h
   ·exact .inl h
   ·exact .inr (Bb3 h)
 rw[if_neg f] at a ⊢;exact .inl ⟨_,rfl,λb c=>C80 c⟩
theorem B75{h:B5}(ok:Dh h)(i:J7 h=true){b:UInt8}(a:b∈P0 h):ctl b=false/\N2 b=false/\b≠64:=by
 have q:∀b:UInt8,(b=46\/b=58\/b=91\/b=93\/L7 b=true)->ctl b=false/\N2 b=false/\b≠64:=by
  intro b h;rcases h with rfl|rfl|rfl|rfl|h
  ·decide
  ·decide
  ·decide
  ·decide
  ·rw[Bx] at h;rcases h with h|h|rfl|rfl
   ·refine⟨?_,?_,λe=>?_⟩
    ·rw[w9,ne_eq,Xc];omega
    ·have d:b≠47:=λe=>by rw[e] at h;simp at h
     have f:b≠63:=λe=>by rw[e] at h;simp at h
     have g:b≠35:=λe=>by rw[e] at h;simp at h
     simp[N2,d,f,g]
    ·rw[e] at h;simp at h
   ·refine⟨?_,?_,λe=>?_⟩
    ·rw[w9,ne_eq,Xc];omega
    ·have d:b≠47:=λe=>by rw[e] at h;simp at h
     have f:b≠63:=λe=>by rw[e] at h;simp at h
     have g:b≠35:=λe=>by rw[e] at h;simp at h
     simp[N2,d,f,g]
    ·rw[e] at h;simp at h
   ·decide
   ·decide
 apply q;rcases RV ok i with⟨m,e,c⟩|⟨_,c⟩
 ·rw[e] at a;simp only[p6,x7,ag5,or_false] at a;rcases a with h|h|h
  ·simp[h]
  ·rcases c b h with h|h<;>simp[h]
  ·simp[h]
 ·rcases c b a with h|h<;>simp[h]
def Lt(s:By):Prop:=∀b∈s,ctl b=false
def Ea4(s:By):Prop:=∀b∈s,N2 b=false
structure CU (u:U0):Prop where
 ns:H8 u.sch=false->T7 u.sch=true/\B6 u.sch=u.sch/\u.user=[]/\u.host=L9/\u.port=-1/\Lt u.rest
 sp:H8 u.sch=true->Lt u.user/\Ea4 u.user/\Dh u.host/\J7 u.host=true/\(u.port=-1\/(0<=u.port/\u.port<=65535/\u.port≠Q1 u.sch))/\(∃r,u.rest=47::r)/\Lt u.rest
theorem Mp{s:By}:s.any ctl=false↔Lt s:=by unfold Lt;rw[List.any_eq_false];exact⟨λh b a=>by simpa using h b a,λh b a=>by simp[h b a]⟩
theorem Qk{e user c a:By}(h:(N8 e user c a).2=0):∃f b,(N8 e user c a).1=⟨e,user,f,b,c⟩/\Dh f/\J7 f=true/\(b=-1\/(0<=b/\b<=65535/\b≠Q1 e)):=by
 unfold N8 at h ⊢;cases i:Fd a with
 | none=>rw[i] at h;simp at h
 | some q=>
  obtain⟨name,tail⟩:=q;rw[i] at h;simp only at h ⊢;by_cases g:tail≠[]/\tail.head?≠some 58
  ·rw[if_pos g] at h;simp at h
  ·rw[if_neg g] at h ⊢;by_cases d:(C4 name).2≠0
   ·rw[if_pos d] at h;exact absurd h d
   ·rw[if_neg d] at h ⊢;cases j:Ii (-1) (tail.drop 1) with
    | none=>rw[j] at h;simp at h
    | some p=>
     have o:=NB _ _ _ (by omega) j;obtain⟨m,n⟩:=Cc3 name;refine⟨_,_,rfl,m,n (by simpa using d),?_⟩;split
     ·exact .inl rfl
     ·rename_i l;by_cases k:p=-1
      ·exact .inl k
      ·exact .inr ⟨by omega,by omega,l⟩
theorem Ng{c user b a:By}(h:(N8 c user b a).2≠0):(N8 c user b a).1=Al:=by
 unfold N8 at h ⊢;split
 ·rfl
 ·rename_i name tail f;rw[f] at h;simp only at h ⊢;split
  ·rfl
  ·rename_i d;rw[if_neg d] at h;split
   ·rfl
   ·rename_i e;rw[if_neg e] at h;split
    ·rfl
    ·rename_i p g;rw[g] at h;exact absurd rfl h
theorem Bc0(s:By):B6 (B6 s)=B6 s:=by
 unfold B6;rw[ag9];apply ac3;intro b _;show X9 (X9 b)=X9 b;rcases K9 b with⟨_,e⟩|⟨_,e⟩|⟨c,d,e⟩
 ·rw[e,e]
 ·rw[e,e]
 ·rcases K9 (X9 b) with⟨_,a⟩|⟨_,a⟩|⟨f,g,_⟩
  ·exact a
  ·exact a
  ·omega
theorem Bb7(b:UInt8):Q8 (X9 b)=Q8 b:=by
 rw[ac5,V6,V6];rcases K9 b with⟨_,e⟩|⟨_,e⟩|⟨a,c,e⟩
 ·rw[e]
 ·rw[e]
 ·omega
theorem ZQ{b c:UInt8}(f:c.toNat<65):X9 b=c↔b=c:=by
 rcases K9 b with⟨_,e⟩|⟨_,e⟩|⟨a,d,e⟩
 ·rw[e]
 ·rw[e]
 ·constructor
  ·intro h;rw[h] at e;omega
  ·intro h;subst h;omega
theorem Aw4(b:UInt8):L8 (X9 b)=L8 b:=by
 rw[ac5,Fj,Fj,ZQ (by decide),ZQ (by decide),ZQ (by decide)];rcases K9 b with⟨_,e⟩|⟨_,e⟩|⟨a,c,e⟩
 ·rw[e]
 ·rw[e]
 ·constructor
  ·rintro(h|h|h|h)<;>first|omega|exact .inr (.inr (.inr h))
  ·rintro(h|h|h|h)<;>first|omega|exact .inr (.inr (.inr h))
theorem Aw7(s:By):T7 (B6 s)=T7 s:=by
 cases s with
 | nil=>rfl
 | cons b r=>
  show(Q8 (X9 b)&&(r.map X9).all L8)=(Q8 b&&r.all L8)
  rw[Bb7,ag8]
  congr 1
  apply List.all_congr rfl;intro b;exact Aw4 b
theorem Ad7(r:By):∃t,S9 r=47::t:=by
 unfold S9;split
 ·rename_i h;cases r with
  | nil=>cases h
  | cons b t=>
   obtain rfl:=y8 h;exact⟨t,rfl⟩
 ·exact⟨r,rfl⟩
theorem Ax4{r:By}(h:Lt r):Lt (S9 r):=by
 unfold S9;split
 ·exact h
 ·intro b a;rcases p6.1 a with rfl|a
  ·decide
  ·exact h b a
theorem Cd0{j c a:By}(p:H8 j=true)(q:Lt a)(i:Ea4 a)(o:Lt c)(f:∃r,c=47::r)(h:(G5 j c a).2=0):CU (G5 j c a).1:=by
 unfold G5 at h ⊢;by_cases n:0<=L3 64 a
 ·rw[if_pos n] at h ⊢;obtain⟨t,g,e,k,l,m⟩:=Qk h;rw[e];exact⟨λh=>(by rw[p] at h;cases h),λ_=>⟨λb d=>q b (ac0 d),λb d=>i b (ac0 d),k,l,m,f,o⟩⟩
 ·rw[if_neg n] at h ⊢;obtain⟨t,g,e,k,l,m⟩:=Qk h;rw[e];exact⟨λh=>(by rw[p] at h;cases h),λ_=>⟨λb d=>(by cases d),λb d=>(by cases d),k,l,m,f,o⟩⟩
theorem Aq3{s:By}(h:(C2 s).2=0):CU (C2 s).1:=by
 unfold C2 at h ⊢;cases f:s.any ctl with
 | true=>rw[f] at h;simp at h
 | false=>
  rw[f] at h;have j:=Mp.1 f;simp only[o9,if_false] at h ⊢;rcases R2 58 s with c|⟨p,r,rfl,c⟩
  ·rw[Lg c] at h;simp at h
  ·rw[U6 c] at h ⊢;have k:Lt p:=λb d=>j b (by simp[d])
   have g:Lt r:=λb d=>j b (by simp[d])
   cases a:T7 p with
   | false=>rw[a] at h;simp at h
   | true=>
    rw[a] at h;simp only[j8,am2,o9,if_false] at h ⊢;cases e:H8 (B6 p) with
    | false=>
     simp only[j9,if_true];exact⟨λ_=>⟨by rw[Aw7];exact a,Bc0 p,rfl,rfl,rfl,g⟩,λh=>(by simp only at h;rw[e] at h;cases h)⟩
    | true=>
     rw[e] at h;simp only[j8,o9,if_false] at h ⊢;cases i:([47,47]:By).isPrefixOf r with
     | false=>rw[i] at h;simp at h
     | true=>
      rw[i] at h;simp only[j8,o9,if_false] at h ⊢;exact Cd0 e (λb d=>g b (z7 (ac0 d))) (Bp8 _) (Ax4 λb d=>g b (z7 (z7 d))) (Ad7 _) h
theorem Bf3{d b a:By}(h:(G5 d b a).2≠0):(G5 d b a).1=Al:=by
 unfold G5 at h ⊢;split
 ·rename_i c;rw[if_pos c] at h;exact Ng h
 ·rename_i c;rw[if_neg c] at h;exact Ng h
theorem TA{s:By}(h:(C2 s).2≠0):(C2 s).1=Al:=by
 unfold C2 at h ⊢;split
 ·rfl
 ·rename_i b;rw[if_neg b] at h;split
  ·rfl
  ·rename_i c;rw[if_neg c] at h;split
   ·rename_i a;rw[if_pos a] at h;exact absurd rfl h
   ·rename_i a;rw[if_neg a] at h;split
    ·rfl
    ·rename_i d;rw[if_neg d] at h;exact Bf3 h
theorem Aw6{s:By}(h:H8 s=true):T7 s=true/\B6 s=s/\(58:UInt8)∉s/\Lt s:=by
 rcases QH h with rfl|rfl|rfl|rfl
 ·exact⟨by decide,by decide,by decide,Mp.1 (by decide)⟩
 ·exact⟨by decide,by decide,by decide,Mp.1 (by decide)⟩
 ·exact⟨by decide,by decide,by decide,Mp.1 (by decide)⟩
 ·exact⟨by decide,by decide,by decide,Mp.1 (by decide)⟩
theorem OH{b:UInt8}(h:L8 b=true):b≠58/\ctl b=false:=by
 rw[Fj] at h;refine⟨λe=>?_,?_⟩
 ·subst e
  revert h
  decide
 ·rw[w9,ne_eq,Xc];rcases h with h|h|h|rfl|rfl|rfl
  ·omega
  ·omega
  ·omega
  ·decide
  ·decide
  ·decide
theorem Ci1{s:By}(h:T7 s=true):(58:UInt8)∉s/\Lt s/\s≠[]:=by
 cases s with
 | nil=>cases h
 | cons b r=>
  simp only[T7,o0,ab7] at h;have c:L8 b=true:=by unfold L8;rw[h.1];rfl
  have q:∀x∈b::r,L8 x=true:=λx a=>by
   rcases p6.1 a with rfl|a
   ·exact c
   ·exact h.2 x a
  exact⟨λd=>(OH (q 58 d)).1 rfl,λx a=>(OH (q x a)).2,by simp⟩
theorem Ti{p user c:By}{h:B5}{a:Int}(ok:Dh h)(o:J7 h=true)(w:a=-1\/(0<=a/\a<=65535/\a≠Q1 p)) :
  N8 p user c (P0 h++(if a=-1 then [] else 58::V2 a))=(⟨p,user,h,a,c⟩,0):=by
 have key:∀tail:By,(tail=[]\/tail.head? = some 58)->Fd (P0 h++tail)=some (P0 h,tail):=by
  intro tail i;unfold Fd;rcases RV ok o with⟨m,e,g⟩|⟨n,g⟩
  ·have k:(93:UInt8)∉91::m:=by
    intro d;rcases p6.1 d with d|d
    ·exact absurd d (by decide)
    ·rcases g 93 d with h|h
     ·exact absurd h (by decide)
     ·exact absurd h (by decide)
   have q:P0 h++tail=(91::m)++93::tail:=by rw[e];simp
   rw[if_pos (by rw[e];rfl),q,Yd tail k];simp only;have u:(91::m)++93::tail=P0 h++tail:=q.symm;have v:(91::m).length+1=(P0 h).length:=by rw[e];simp
   rw[u,v,ad3,ah7]
  ·have f:(58:UInt8)∉P0 h:=by
    intro d;rcases g 58 d with h|h
    ·exact absurd h (by decide)
    ·exact absurd h (by decide)
   have l:(P0 h++tail).head?≠some 91:=by
    cases r:P0 h with
    | nil=>exact absurd r n
    | cons b t=>
     rw[r] at g;intro e;obtain rfl:=y8 e;rcases g 91 (by simp) with h|h
     ·exact absurd h (by decide)
     ·exact absurd h (by decide)
   rw[if_neg l];rcases i with rfl|i
   ·rw[ab9,SJ f]
   ·cases tail with
    | nil=>cases i
    | cons b t=>
     obtain rfl:=y8 i;rw[Yd t f];simp only;rw[ad3,ah7]
 unfold N8;by_cases j:a=-1
 ·subst j;rw[if_pos rfl,key [] (.inl rfl)];simp only;rw[if_neg (by simp),ME ok o];simp only[ne_eq,not_true_eq_false,if_false];have:Ii (-1) (ad9 1 ([]:By))=some (-1):=by rfl
  rw[this];simp
 ·rw[if_neg j,key (58::V2 a) (.inr rfl)];obtain⟨x,y,z⟩:=w.resolve_left j;simp only;rw[if_neg (by simp),ME ok o];simp only[ne_eq,not_true_eq_false,if_false,ae7,v7];rw[Cy1 a x y];simp only;rw[if_neg z]
theorem Ba6{p:Int}(a:0<=p){b:UInt8}(h:b∈V2 p):48<=b.toNat/\b.toNat<=57:=by unfold V2 at h;rw[G1] at h;exact CJ _ b h
theorem Dz8{b:UInt8}(h:48<=b.toNat/\b.toNat<=57):ctl b=false/\N2 b=false/\b≠64:=by
 refine⟨?_,?_,λe=>?_⟩
 ·rw[w9,ne_eq,Xc];omega
 ·have a:b≠47:=λe=>by rw[e] at h;simp at h
  have c:b≠63:=λe=>by rw[e] at h;simp at h
  have d:b≠35:=λe=>by rw[e] at h;simp at h
  simp[N2,a,c,d]
 ·rw[e] at h;simp at h
theorem Cv0{h:B5}{a:Int}{g:By}(ok:Dh h)(f:J7 h=true)(e:a=-1\/(0<=a/\a<=65535/\a≠Q1 g)){b:UInt8}(c:b∈P0 h++(if a=-1 then [] else 58::V2 a)):ctl b=false/\N2 b=false/\b≠64:=by
 rcases x7.1 c with c|c
 ·exact B75 ok f c
 ·by_cases d:a=-1
  ·rw[if_pos d] at c;cases c
  ·rw[if_neg d] at c;rcases p6.1 c with rfl|c
   ·decide
   ·exact Dz8 (Ba6 (e.resolve_left d).1 c)
theorem Cm6{u:U0}(h:CU u):C2 (Y3 u)=(u,0):=by
 obtain⟨e,user,d,a,n⟩:=u;obtain⟨j,l⟩:=h;simp only at j l;unfold Y3;simp only;cases k:H8 e with
 | false=>
  obtain⟨o,p,rfl,rfl,rfl,F⟩:=j k;obtain⟨w,x,D⟩:=Ci1 o;have z:(e++58::n).any ctl=false:=Mp.2 λb c=>by
   simp only[x7,p6] at c;rcases c with c|rfl|c
   ·exact x b c
   ·decide
   ·exact F b c
  simp only[o9,if_false];unfold C2;rw[z,U6 w];simp only[o9,if_false];rw[o,p,k];simp
 | true=>
  obtain⟨o,p,q,t,v,⟨r,rfl⟩,G⟩:=l k;obtain⟨w,x,D,H⟩:=Aw6 k;have y:=λb (c:b∈P0 d++(if a=-1 then [] else 58::V2 a))=>Cv0 q t v c
  simp only[if_true];have g:∀b∈Oy ⟨e,user,d,a,47::r⟩,ctl b=false/\N2 b=false:=by
   intro b c;unfold Oy at c;simp only at c;rcases x7.1 c with c|c
   ·by_cases m:user=[]
    ·rw[if_pos m] at c;cases c
    ·rw[if_neg m] at c;rcases x7.1 c with c|c
     ·exact⟨o b c,p b c⟩
     ·simp only[y9] at c;subst c
      decide
   ·exact⟨(y b c).1,(y b c).2.1⟩
  have A:G5 e (47::r) (Oy ⟨e,user,d,a,47::r⟩)=(⟨e,user,d,a,47::r⟩,0):=by
   have i:(64:UInt8)∉P0 d++(if a=-1 then [] else 58::V2 a):=λI=>(y 64 I).2.2 rfl
   unfold G5 Oy;simp only;by_cases m:user=[]
   ·subst m;rw[if_pos rfl,aa4,Nk i,if_neg (by decide)];exact Ti q t v
   ·rw[if_neg m,ab1,ah3,Se user i,R0,j6,ad3];have:ad9 (user.length+1) (user++64::(P0 d++(if a=-1 then [] else 58::V2 a)))=P0 d++(if a=-1 then [] else 58::V2 a):=by
     rw[show user++64::(P0 d++(if a=-1 then [] else 58::V2 a))=(user++[64])++(P0 d++(if a=-1 then [] else 58::V2 a)) by simp,ah2 (by simp)]
    rw[this];exact Ti q t v
  generalize Oy ⟨e,user,d,a,47::r⟩=f at *;have z:(e++58::47::47::(f++47::r)).any ctl=false:=Mp.2 λb c=>by
   simp only[x7,p6] at c;rcases c with c|rfl|rfl|rfl|c|c
   ·exact H b c
   ·decide
   ·decide
   ·decide
   ·exact(g b c).1
   ·exact G b (by simpa using c)
  have C:J4 (f++47::r)=f.length:=Ci8 (λb c=>(g b c).2) (λb c=>by obtain rfl:=y8 c;decide);unfold C2;rw[z,U6 D];simp only[o9,if_false];rw[w,x,k];have Ql:([47,47]:By).isPrefixOf (47::47::(f++47::r))=true:=by simp[x6]
  rw[Ql];simp only[j8,am2,o9,if_false,ae7,v7];rw[C,ad3,ah7];have B:S9 (47::r)=47::r:=if_pos rfl;rw[B];exact A
theorem Yb(c user b a:By):(N8 c user b a).1.sch.length<=c.length/\(N8 c user b a).1.user.length<=user.length/\(N8 c user b a).1.rest.length<=b.length:=by
 by_cases h:(N8 c user b a).2=0
 ·obtain⟨f,d,e,_⟩:=Qk h;rw[e];exact⟨aa0 _,aa0 _,aa0 _⟩
 ·rw[Ng h];exact⟨ac1 _,ac1 _,ac1 _⟩
theorem Bf4(c b a:By):(G5 c b a).1.sch.length<=c.length/\(G5 c b a).1.user.length<=a.length/\(G5 c b a).1.rest.length<=b.length:=by
 unfold G5;split
 ·obtain⟨d,e,f⟩:=Yb c (a.take (L3 64 a).toNat) b (a.drop ((L3 64 a).toNat+1));rw[j7] at e;exact⟨d,by omega,f⟩
 ·obtain⟨d,e,f⟩:=Yb c [] b a;simp only[y5] at e;exact⟨d,by omega,f⟩
theorem Ax5(r:By):(S9 r).length<=r.length+1:=by
 unfold S9;split
 ·omega
 ·simp
theorem Cc5(s:By):(C2 s).1.sch.length<=s.length/\(C2 s).1.user.length<=s.length/\(C2 s).1.rest.length<=s.length+1:=by
 have z:Al.sch.length<=s.length/\Al.user.length<=s.length/\Al.rest.length<=s.length+1:=⟨ac1 _,ac1 _,ac1 _⟩
 unfold C2;split
 ·exact z
 ·rcases R2 58 s with a|⟨p,r,rfl,a⟩
  ·rw[Lg a];exact z
  ·rw[U6 a];have b:(p++58::r).length=p.length+r.length+1:=by rw[o7,j5];omega
   simp only;split
   ·exact z
   ·split
    ·simp only[Ad,y5];omega
    ·split
     ·exact z
     ·obtain⟨c,d,e⟩:=Bf4 (B6 p) (S9 ((r.drop 2).drop (J4 (r.drop 2)))) ((r.drop 2).take (J4 (r.drop 2)));have f:=Ax5 ((r.drop 2).drop (J4 (r.drop 2)));simp only[j7,b9,Ad] at c d e f;omega
structure Ag7 (u:U0):Prop where
 host:Dh u.host
 port:-1<=u.port/\u.port<65536
theorem DM:Dh L9:=⟨by decide,B51,by decide⟩
theorem CU.ok{u:U0}(h:CU u):Ag7 u:=by
 cases hs:H8 u.sch with
 | false=>
  obtain⟨_,_,_,a4,a5,_⟩:=h.ns hs;exact⟨by rw[a4];exact DM,by omega⟩
 | true=>
  obtain⟨_,_,a3,_,a5,_⟩:=h.sp hs;exact⟨a3,by omega⟩
theorem Yv(s:By):Ag7 (C2 s).1:=by
 by_cases h:(C2 s).2=0
 ·exact(Aq3 h).ok
 ·rw[TA h];exact⟨DM,by decide,by decide⟩
theorem Ct2(h:B5):eqH h h=true:=by simp[eqH]
theorem Ct3(u:U0):eqU u u=true:=by simp[eqU,Ct2]
theorem Cm7{u:U0}(h:CU u):T9 u=true:=by unfold T9;rw[Cm6 h,Ct3];rfl
theorem Cx4{m n j l:By}{h v4:Nat}{a b c d e f g i:Nat}{k:Int}(o:h<4):mkU m n (h:Int) j (v4:Int) (n8 a b c d e f g i) k l=⟨m,n,⟨h,j,v4,[a,b,c,d,e,f,g,i]⟩,k,l⟩:=by unfold mkU Cx3 n8;rw[if_pos (E2.2 ⟨by omega,by omega⟩)];simp only[j6]
theorem Cc4(s:By):Ag7 (A8 s).1:=by
 unfold A8;split
 ·exact⟨DM,by decide,by decide⟩
 ·exact Yv s
theorem Bd9{s:By}(h:(A8 s).2≠0):(A8 s).1=Al:=by
 unfold A8 at h ⊢;split
 ·rfl
 ·rename_i c;rw[if_neg c] at h;exact TA h
theorem SZ{s:By}(h:(A8 s).2=0):CU (A8 s).1:=by
 unfold A8 at h ⊢;split
 ·rename_i c;rw[if_pos c] at h;cases h
 ·rename_i c;rw[if_neg c] at h;exact Aq3 h
theorem NK(s:By):(A8 s).1.sch.length<=s.length/\(A8 s).1.user.length<=s.length/\(A8 s).1.rest.length<=s.length+1:=by
 unfold A8;split
 ·exact⟨ac1 _,ac1 _,ac1 _⟩
 ·exact Cc5 s
theorem Qm{s:By}(h:M8 s=true):s=Dd\/s=bWs:=by simpa[M8] using h
theorem B35{s:By}(h:M8 s=false)(a:Int):upS s=s/\upP s a=a:=by
 have e:(s==Dd)=false/\(s==bWs)=false:=by simpa[M8] using h
 unfold upS upP;rw[e.1,e.2,h];simp
theorem Kp(c:UInt8):∀s:By,x3 s c=match Ic c s with|some k=>(k:Int)|none=>-1
 | []=>rfl
 | b::r=>by
  have a:=Kp c r;unfold x3 Ic;by_cases h:b=c
  ·rw[if_pos h,if_pos (by simpa using h)];rfl
  ·rw[if_neg h,if_neg (by simpa using h),a];cases Ic c r with
   | none=>rfl
   | some k=>
    have e:((k:Int)==-1)=false:=by rw[beq_eq_false_iff_ne];omega
    simp only[y7,e,o9,if_false];rfl
theorem Ci7(b:UInt8):isl.contains b=N2 b:=by rw[ac5];simp[isl,N2,or_assoc]
theorem Jd(b:UInt8)(r:By):J4 (b::r)=if N2 b then 0 else J4 r+1:=by unfold J4;rw[ae8];cases h:N2 b<;>simp
theorem AA:∀s:By,J4 s<=s.length
 | []=>aa0 _
 | b::r=>by
  have:=AA r;rw[Jd,j5];split<;>omega
theorem Ko:∀s:By,ae2 s isl=if J4 s<s.length then (J4 s:Int) else -1
 | []=>rfl
 | b::r=>by
  have c:=Ko r;have d:=AA r;rw[ae2,Ci7,Jd,j5,c];cases N2 b with
  | true=>simp
  | false=>
   simp only[o9,if_false];by_cases h:J4 r<r.length
   ·have e:((J4 r:Int)==-1)=false:=by rw[beq_eq_false_iff_ne];omega
    have a:J4 r+1<r.length+1:=by omega
    simp only[if_pos h,if_pos a,e,o9,if_false];rfl
   ·have a:¬J4 r+1<r.length+1:=by omega
    simp only[if_neg h,if_neg a];rfl
theorem Dz5(b:UInt8)(t:By)(g:128<=b.toNat):128<=(p9 (b::t)).1/\(p9 (b::t)).1<1114112/\1<=(p9 (b::t)).2/\(p9 (b::t)).2<=t.length+1/\∀i,i<(p9 (b::t)).2->128<=((b::t).getD i 0).toNat:=by
 have d:=ah5 (b::t) (by simp);have l:=ae1 (b::t);have n:=aj8 (b::t);rw[j5] at d;refine⟨?_,by omega,l,d,?_⟩;all_goals
  clear d l n;rw[ai6];rcases Lib.decodeN_shape (b::t).length ((b::t).getD 0 0).toNat ((b::t).getD 1 0).toNat ((b::t).getD 2 0).toNat ((b::t).getD 3 0).toNat with⟨c,e⟩|⟨h,j,k,f,e⟩|⟨h,j,k,m,f,p,e⟩|⟨h,j,k,m,o,f,q,e⟩|e
  all_goals rw[e]
 ·exact absurd g (by simp at c;omega)
 ·exact f
 ·simp only;omega
 ·simp only;omega
 ·simp only;omega
 ·exact absurd g (by simp at c;omega)
 ·intro i a;have:i=0\/i=1:=by simp only at a;omega
  rcases this with rfl|rfl<;>omega
 ·intro i a;have:i=0\/i=1\/i=2:=by simp only at a;omega
  rcases this with rfl|rfl|rfl<;>omega
 ·intro i a;have:i=0\/i=1\/i=2\/i=3:=by simp only at a;omega
  rcases this with rfl|rfl|rfl|rfl<;>omega
 ·intro i a;have:i=0:=by simp only at a;omega
  subst this;exact g
theorem C47{b:UInt8}(h:128<=b.toNat):N2 b=false:=by
 unfold N2;have n:∀c:UInt8,c.toNat<128->(b==c)=false:=λc a=>by
  rw[beq_eq_false_iff_ne];rintro rfl;omega
 rw[n 47 (by decide),n 63 (by decide),n 35 (by decide)];rfl
theorem Cv4{r:Int}(h:128<=r):irn r=-1:=by unfold irn;rw[G1,G1,G1]
theorem D08(b:UInt8):ltI (irn (b.toNat:Int)) 0 = !N2 b:=by
 have e:∀c:UInt8,((b.toNat:Int)=(c.toNat:Int))=(b=c):=λc=>propext ⟨λh=>ae6.1 (by omega),λh=>by rw[h]⟩
 have g:((b.toNat:Int)=47)=(b=47):=e 47;have i:((b.toNat:Int)=63)=(b=63):=e 63;have j:((b.toNat:Int)=35)=(b=35):=e 35;unfold irn N2;simp only[g,i,j];by_cases a:b=47
 ·subst a;rfl
 ·by_cases d:b=63
  ·subst d;rfl
  ·by_cases f:b=35
   ·subst f;rfl
   ·have n:∀c,b≠c->(b==c)=false:=λc h=>by rwa [beq_eq_false_iff_ne]
    rw[if_neg a,if_neg d,if_neg f,n _ a,n _ d,n _ f];rfl
end
section
open Go Go.Proofs
set_option maxRecDepth 100000
theorem Bc4{R:Type}{b:By->Option R}(s p:By)(a:A3 s.length=true):B03 LF s p b=b (Hx s p):=by
 have:=L4 a;unfold B03 Hx;rw[a];cases h:p.isPrefixOf s with
 | false=>simp
 | true=>
  have:p.length<=s.length:=by rw[Fs] at h;simp at h;exact h.1
  simp (disch:=omega)
theorem Cj8{R:Type}{a:By->Option R}(s p:By)(b:A3 s.length=true):Dq0 LF s p a=a (Hx s p):=by unfold Dq0;rw[b];rfl
theorem Br7{R:Type}{e:Int->Option R}(s:By):B37 LF s e=e (Q1 s):=by unfold B37 Q1 Dd bWs Bj Uk;generalize (s==([104,116,116,112]:List UInt8))=a;generalize (s==([119,115]:List UInt8))=b;generalize (s==([104,116,116,112,115]:List UInt8))=c;generalize (s==([119,115,115]:List UInt8))=d;cases a<;>cases b<;>cases c<;>cases d<;>rfl
theorem B68(s:By):((Q1 s)==(80:Int))=M8 s:=by
 unfold Q1 M8;cases (s==Dd||s==bWs) with
 | true=>rfl
 | false=>cases (s==Bj||s==Uk)<;>rfl
theorem Bs2{R:Type}{a:Bool->Option R}(s:By):B38 LF s a=a (H8 s):=by unfold B38;rw[Nl,PG]
theorem Dq7(a p:By)(k:Int)(l:By)(v4 c d e f g h i j m:Int)(o:By) :
  ∃r H,D34 LF a p k l v4 c d e f g h i j m o (λn b=>rv (.s (.bool n)) b)=rv r H/\r.stab [] H = .s (.bool (M8 a)):=
 ⟨_,_,rfl,by rw[<-B68];rfl⟩
def ZV:By:=[48,49,50,51,52,53,54,55,56,57,43,45,46]
theorem Nh(c:UInt8):∀l:By,ltI (x3 l c) 0 = !l.contains c
 | []=>rfl
 | b::r=>by
  have f:=Nh c r;have g:=Lib.indexByte_ge r c;unfold x3;by_cases h:b=c
  ·subst h;simp[E6]
  ·have e:(b==c)=false:=by simpa using h
   have d:(c==b)=false:=by simpa using ag0 h
   rw[List.contains_cons,d,ae4,<-f,e];simp only[o9,if_false];by_cases a:x3 r c=-1
   ·rw[a];rfl
   ·have:(x3 r c==-1)=false:=by simpa using a
    rw[this,if_neg (by simp),A6,A6]
theorem Aw5:∀b:UInt8,L8 b=(Q8 b||ZV.contains b):=by
 have:∀n:Fin 256,L8 (o8 n.val)=(Q8 (o8 n.val)||ZV.contains (o8 n.val)):=by decide +kernel
 intro b;have h:=this ⟨b.toNat,b.toNat_lt⟩;simpa using h
theorem Az2{R:Type}{c:Unit->Option R}{d:By->Int->Int->Bool->Option R}(s:By)(i:Nat)(b:UInt8)(l:Bool)(n:Int):Gt s (i:Int) (b.toNat:Int) l n c d=if l then d s n i false else if i=0 then c () else if ZV.contains b then d s n i false else c ():=by
 unfold Gt;cases l with
 | true=>rfl
 | false=>
  rw[j9,cond_true,if_neg (by simp)];by_cases a:i=0
  ·subst a;rfl
  ·have f:=b.toNat_lt;rw[show((i:Int)==0)=false by simpa using a,cond_false,F2,cond_true,if_neg a];simp only[vl];rw[Kf];have e:=Nh b ZV;rw[show([48,49,50,51,52,53,54,55,56,57,43,45,46]:List UInt8)=ZV from rfl,e];cases ZV.contains b<;>rfl
theorem OT{R:Type}{a:Unit->Option R}{c:By->Option R}(s:By)(r:s.length<=1000000000)(n i:Nat)(p:i<s.length) :
  O9 LF (n+1) s (s.length:Int) (i:Int) a c=if Q8 (s.getD i 0) then O9 LF n s s.length ((i+1:Nat):Int) a c else if i=0 then a () else if ZV.contains (s.getD i 0) then O9 LF n s s.length ((i+1:Nat):Int) a c else a ():=by
 have k:A1 ((i:Int)+1)=((i+1:Nat):Int):=by rw[A7];rfl
 rw[O9,A9,F2,D4];simp only[cond_true];generalize s.getD i 0=b;have go:∀l,Gt s (i:Int) (b.toNat:Int) l (s.length:Int) (λ_=>a ()) (λj g h m=>O9 LF n j g (A1 (h+(1:Int))) a c)=if l then O9 LF n s s.length ((i+1:Nat):Int) a c else if i=0 then a () else if ZV.contains b then O9 LF n s s.length ((i+1:Nat):Int) a c else a ():=λl=>by
  rw[Az2,k]
 have q:Q8 b=((p7 97 b.toNat&&p7 b.toNat 122)||(p7 65 b.toNat&&p7 b.toNat 90)):=rfl;by_cases f:97<=b.toNat
 ·rw[A6,j9,cond_true];by_cases d:b.toNat<=122
  ·rw[A6,j9,cond_true,if_pos (V6.2 (.inl ⟨f,d⟩))];unfold HZ;simp only[k]
  ·rw[A9,j8,cond_false,A6,j9,cond_true,A9,j8];have e:Q8 b=false:=by
    rw[<-aj7,V6];omega
   rw[e];exact go false
 ·rw[A9,j8,cond_false];by_cases o:65<=b.toNat
  ·rw[A6,j9,cond_true];have e:Q8 b = !ltI 90 (b.toNat:Int):=by
    rw[ac5,V6,af8,Qu];omega
   rw[e];exact go _
  ·rw[A9,j8,cond_false];have e:Q8 b=false:=by
    rw[<-aj7,V6];omega
   rw[e];exact go false
theorem Ck6{R:Type}{k0:Unit->Option R}{k1:By->Option R}(s:By)(d:s.length<=1000000000):∀(r i n:Nat),i+r=s.length->r<n->0<i->
  O9 LF n s (s.length:Int) (i:Int) k0 k1=if (s.drop i).all L8 then k1 s else k0 ():=by
 intro r
 induction r with
 | zero=>
  intro i n b c a;obtain⟨n,rfl⟩:∃m,n=m+1:=⟨n-1,by omega⟩
  rw[O9];rw[A6,o6 (by omega)];rfl
 | succ r e=>
  intro i n b c a;obtain⟨n,rfl⟩:∃m,n=m+1:=⟨n-1,by omega⟩
  rw[OT s d n i (by omega),e (i+1) n (by omega) (by omega) (by omega),D6 s i (by omega),ab3,Aw5,if_neg (by omega:¬i=0)];cases Q8 (s.getD i 0) with
  | true=>simp
  | false=>
   cases ZV.contains (s.getD i 0)<;>simp
theorem Ck7{R:Type}{k0:Bool->Option R}(s:By)(f:A3 s.length=true):C72 LF s k0=k0 (T7 s):=by
 have c:=L4 f;have g:=C5;unfold C72;obtain⟨n,d⟩:∃m,LF=m+1:=⟨LF-1,by omega⟩
 cases s with
 | nil=>
  rw[show @O9 R LF LF = @O9 R LF (n+1) by rw[<-d]];rfl
 | cons b t=>
  rw[show @O9 R LF LF = @O9 R LF (n+1) by rw[<-d]];refine j2 (OT (b::t) c n 0 (by simp)) ?_;have e:=Ck6 (k0:=λ_=>k0 false) (k1:=λa=>k0 (not (a==([]:List UInt8)))) (b::t) c t.length 1 n (by simp;omega) (by simp at c;omega) (by omega);rw[ai5];simp only[ah0,if_true];rw[show(((0+1:Nat):Int))=((1:Nat):Int) from rfl,e];rw[show(b::t).drop 1=t from rfl,show T7 (b::t)=(Q8 b&&t.all L8) from rfl];cases Q8 b with
  | false=>rfl
  | true=>cases t.all L8<;>rfl
theorem ZW:∀(s:By) (n:Int),GK.go n s=(Ca n s).getD 0
 | [],n=>rfl
 | b::r,n=>by
  unfold GK.go Ca;split
  ·exact ZW r _
  ·rfl
theorem Ck0{R:Type}{a:Unit->Option R}{c:Int->Option R}(s:By)(y:s.length<=1000000000):∀(r i n:Nat) (v:Int),i+r=s.length->r<n->-1<=v->v<=65536->
  On LF n s v (s.length:Int) (i:Int) a c=match Ca v (s.drop i) with|some m=>c m|none=>a ():=by
 intro r
 induction r with
 | zero=>
  intro i n v p q j k;obtain⟨n,rfl⟩:∃m,n=m+1:=⟨n-1,by omega⟩
  rw[On];rw[A6,o6 (by omega)];rfl
 | succ r t=>
  intro i n v p q j k;obtain⟨n,rfl⟩:∃m,n=m+1:=⟨n-1,by omega⟩
  have d:A1 ((i:Int)+1)=((i+1:Nat):Int):=by rw[A7];rfl
  rw[On];rw[A9,F2,D4,D6 s i (by omega),d];have x:=(s.getD i 0).toNat_lt;generalize s.getD i 0=b at *;unfold Ca;simp only[cond_true,vl];by_cases l:b.toNat<48
  ·rw[A9,cond_true,G1]
  ·rw[A6,cond_false];by_cases o:57<b.toNat
   ·rw[A9,cond_true,G1]
   ·rw[A6,cond_false,if_pos (show 48<=b.toNat/\b.toNat<=57 by omega)];have u:(if (0:Int) > v then (0:Int) else v)=max v 0:=by omega
    have e:A1 (10*max v 0)=10*max v 0:=A7;have f:wu8 ((b.toNat:Int)-48)=((b.toNat-48:Nat):Int):=by rw[N6];omega
    have g:A1 ((b.toNat-48:Nat):Int)=((b.toNat-48:Nat):Int):=A7;have h:A1 (10*max v 0+((b.toNat-48:Nat):Int))=10*max v 0+((b.toNat-48:Nat):Int):=A7;rw[u,e,f,g,h];have w:(if (65536:Int)<10*max v 0+((b.toNat-48:Nat):Int) then (65536:Int) else 10*max v 0+((b.toNat-48:Nat):Int))=min (10*max v 0+((b.toNat-48:Nat):Int)) 65536:=by omega
    rw[w];exact t (i+1) n _ (by omega) (by omega) (by omega) (by omega)
theorem Ck1{R:Type}{a:Int->Bool->Option R}(s:By)(b:A3 s.length=true):Dq8 LF s a=a (GK s) (Ii (-1) s).isSome:=by
 have d:=L4 b;have c:=C5;unfold Dq8;refine j2 (Ck0 s d s.length 0 LF (-1) (by omega) (by omega) (by omega) (by omega)) ?_;rw[v7,HE,show GK s=GK.go (-1) s from rfl,ZW];cases Ca (-1) s with
 | none=>rfl
 | some m=>
  simp only[ak1,ag6];rw[Nl];by_cases h:m<65536
  ·rw[decide_eq_true h,if_pos h];rfl
  ·rw[decide_eq_false h,if_neg h];rfl
theorem Cy2{s:By}{p:Int}(h:Ii (-1) s=some p):GK s=p:=by
 rw[HE] at h;rw[show GK s=GK.go (-1) s from rfl,ZW];cases a:Ca (-1) s with
 | none=>rw[a] at h;cases h
 | some m=>
  rw[a] at h;simp only[ag6] at h;split at h
  ·exact y8 h
  ·cases h
end
end Go.Proofs.YtkegcjamihlmmaaGreatDoor.E
