/-
  Build is as specified for arbitrary chains, as its tied card says. Conditions: what the card itself names (the package-level variables that are listed, tied to the program's text).
-/
import Derived.Test.YteickfjoihhgkaaGreatDoorKCX5
import Derived.Test.YteickfjoihhgkaaGreatDoorCards
import Derived.Test.YteickfjoihhgkaaGreatDoorTie
open Go.Proofs.Tryz renaming prog->c9,f3->ac4,f73->ae2,func3->ae3,f110->ae9,f44->af8,f80->af9,f9->ag1
open Int renaming toNat_natCast->j0,toNat->x3,mul->af0,mul_comm->af1,tdiv->af5,tmod->af6
open List renaming drop_of_length_le->j4,length_append->j7,getD_eq_getElem?_getD->k9,length_eq_zero_iff->o6,getElem?_eq_getElem->o7,length_map->o8,length_cons->o9,drop_zero->p4,length_drop->p6,length_nil->p9,replicate->s9,length_singleton->v7,length->w8,append_assoc->w9,length_pos_iff->x5,all_eq_true->x6,length_take->x7,nil_append->x8,all->aa0,getElem_cons_drop->aa1,isEmpty->aa2,map->aa3,countP_le_length->aa4,map_append->aa7,drop_eq_getElem_cons->aa9,all_cons->ab0,countP_cons_of_neg->ab2,getElem?_cons_zero->ab3,getElem_mem->ab4,getElem_cons_zero->ab5,append_nil->ab7,drop_eq_nil_iff->ac3,any_cons->ac6,getElem?_map->ad0,drop_drop->ad9,map_id''->ae6,take->ae8,map_map->af2
open Bool renaming not_false->j5,not_true->j8,and_eq_true->p5,eq_false_iff->s8,true_and->y5,eq_iff_iff->aa6,and_true->ac5,false_eq_true->ac7,or_eq_true->ad5,and_false->ad8,false_or->ae4
open Eq renaming trans->j9
open Option.some renaming injEq->o0,inj->ab9
open Go.Lib renaming compact->o5,decodeL->w6,decodeN->y7,join->ac2,joinTail->ac9
open Nat renaming ble_eq->p7,ble->v8,mul_one->y8,ble_eq_true_of_le->aa5,div_le_self->ab8,le_of_ble_eq_true->ac1,add_zero->ad1,sub_zero->ad2,zero_add->ad3,zero_le->ad4,not_lt_zero->ad6,strongRecOn->ad7,mod_lt->ae0,mul_le_mul->ae1,le_trans->af3
open Option renaming map_some->x4,getD_some->x9,isSome->ab1,isSome_some->ac8
open UInt8 renaming ofNat->y9
open Array renaming getElem?_eq_some_iff->aa8,getElem?_modify->ac0
open Go.Sort renaming ahead->ab6
open List.cons renaming inj->ae5
open Prod.mk renaming injEq->ae7,inj->af7
open Go.World renaming shape?->af4
set_option maxRecDepth 100000
variable{R:Type}
namespace Go.Proofs.YteickfjoihhgkaaGreatDoor.E
set_option linter.all false
section
open Go Go.Proofs
def C47(z t:Bool)(c:LL)(done a u delta i:Int)(b:Nat)(T:b<1000000):∀(r q k n:Nat) (l:LL),q<10 ^ r->q<1152921504606846976->k+r<=1000->r<n->l.length+r<=200000->
  ∃(d:Nat) (pre:By),d<36/\R8 q k b=pre++[Bn d]/\∀(R:Type) (g:Kah R),Hb LF n z t c done a u delta (b:Int) i (q:Int) (k:Int) l g=g z t c done a u delta i (d:Int) (l++pre.map F4):=by
 have f:∀k:Nat,N4 (af0 36 (k:Int)) (b:Int)=(thr k b:Int):=λk=>by
  rw[show af0 36 (k:Int)=((36*k:Nat):Int) from rfl,AC]
 have j:∀(q k n:Nat) (l:LL),q<thr k b->k<=1000->∃(d:Nat) (pre:By),d<36/\R8 q k b=pre++[Bn d]/\∀(R:Type) (g:Kah R),Hb LF (n+1) z t c done a u delta (b:Int) i (q:Int) (k:Int) l g=g z t c done a u delta i (d:Int) (l++pre.map F4):=by
  intro q k n l p v;have x:=Z6 k b;refine⟨q,[],by omega,by rw[Ti p];rfl,λR g=>?_⟩;rw[Hb];have o:ltI (q:Int) (thr k b:Int)=true:=A7;rw[O0,O0,f];grind
 intro r
 induction r with
 | zero=>
  intro q k n l h _ v P N;have x:=Z6 k b;rcases n with _|n;omega
  exact j q k n l (by simp at h;omega) (by omega)
 | succ r Q=>
  intro q k n l h w v P N;have x:=Z6 k b;rcases n with _|n;omega
  by_cases p:q<thr k b
  ·exact j q k n l p (by omega)
  ·have L:(q-thr k b) / (36-thr k b)<10 ^ r:=YJ (by omega) (by rw[Nat.pow_succ] at h;omega);have M:(q-thr k b) / (36-thr k b)<=q:=af3 (ab8 _ _) (by omega);have O:(q-thr k b) % (36-thr k b)<36-thr k b:=ae0 _ (by omega);obtain⟨d,pre,e0,K,e⟩:=Q ((q-thr k b) / (36-thr k b)) (k+1) n (l++[F4 (Bn (thr k b+(q-thr k b) % (36-thr k b)))]) L (by omega) (by omega) (by omega) (by rw[j7,v7];omega);refine⟨d,Bn (thr k b+(q-thr k b) % (36-thr k b))::pre,e0,by rw[CV p,K];rfl,λR g=>?_⟩;rw[Hb];have y:A1 ((q:Int)-(thr k b:Int))=((q-thr k b:Nat):Int):=by rw[A4];omega
   have C:A1 ((36:Int)-(thr k b:Int))=((36-thr k b:Nat):Int):=by rw[A4];omega
   have D:af6 ((q-thr k b:Nat):Int) ((36-thr k b:Nat):Int)=(((q-thr k b) % (36-thr k b):Nat):Int):=Dy _ _;have F:af5 ((q-thr k b:Nat):Int) ((36-thr k b:Nat):Int)=(((q-thr k b) / (36-thr k b):Nat):Int):=O2 _ _;have I:((((36-thr k b:Nat):Int))!=0)=true:=by rw[bne_iff_ne];omega
   have J:A1 ((k:Int)+1)=((k+1:Nat):Int):=ah
   have o:ltI (q:Int) (thr k b:Int)=false:=A5;rw[O0,O0,f];simp only[vl,o,y,C,D,F,I,J,aa,ab,j5];generalize hA:(q-thr k b) / (36-thr k b)=A at *;generalize S:(q-thr k b) % (36-thr k b)=B at *;have G:A1 ((thr k b:Int)+(B:Int))=((thr k b+B:Nat):Int):=ah
   have H:A1 (A:Int)=(A:Int):=A4;rw[G,H,O0,E8 (by omega),j0];refine j9 (e R g) ?_;simp[w9,F4]
def Ds0(z t:Bool)(c:List Nat)(a m:Nat)(Z:m<=1114112)(Y:c.length<=256):∀(r i n:Nat) (s:UL),i+r=c.length->r<n->s.delta+r<=1000000000000->s.bias<=500->s.out.length+20*r<=90000->s.done+r<=1000->a<=256->
  (∀(R:Type) (d:Kbj R),Bz LF n z t (C4 c) (s.done:Int) (a:Int) (m:Int) (s.delta:Int) (s.bias:Int) (i:Int) (s.out.map F4) d =
   d z t (C4 c) ((K3 m a (c.drop i) s).done:Int) (a:Int) (m:Int) ((K3 m a (c.drop i) s).delta:Int) ((K3 m a (c.drop i) s).bias:Int) ((K3 m a (c.drop i) s).out.map F4))/\
  (K3 m a (c.drop i) s).bias<=500/\(K3 m a (c.drop i) s).out.length<=s.out.length+20*(c.drop i).countP (· == m)/\(K3 m a (c.drop i) s).done=s.done+(c.drop i).countP (· == m)/\
  (K3 m a (c.drop i) s).delta<=(if 0<(c.drop i).countP (· == m) then r else s.delta+r):=by
 have S:=C9;intro r
 induction r with
 | zero=>
  intro i n s T U O B P Q C;rcases n with _|n;omega
  rw[j4 (by omega)];refine⟨λR d=>?_,B,by simp[K3],by simp[K3],by simp[K3]⟩;rw[Bz];rw[E4,A5];rfl
 | succ r H=>
  intro i n s T U O B P Q C;rcases n with _|n;omega
  rw[Xy c i (by omega)];have F:=CX c i (by omega);have ok:=Tq (l:=c) (i:=i) (by omega);have e:inR (i:Int) (C4 c).length=true:=G9 (by omega) (by rw[E4];omega);have f:ltI (i:Int) ((C4 c).length:Int)=true:=C5 (by rw[E4];omega);generalize c.getD i 0=p at *;have A:A1 ((i:Int)+1)=((i+1:Nat):Int):=ah
  have M:A1 ((s.delta:Int)+1)=((s.delta+1:Nat):Int):=ah
  have I:A1 ((s.done:Int)+1)=((s.done+1:Nat):Int):=ah
  by_cases G:p<m
  ·have g:(p==m)=false:=by rw[beq_eq_false_iff_ne];omega
   have u:K3 m a (p::c.drop (i+1)) s=K3 m a (c.drop (i+1)) { s with delta:=s.delta+1 }:=by rw[K3,ac G]
   obtain⟨v,w,x,y,h⟩:=H (i+1) n { s with delta:=s.delta+1 } (by omega) (by omega) (by simp only;omega) B (by simp only;omega) (by simp only;omega) C;rw[u,ab2 (by rw[g];simp)];refine⟨λR d=>?_,w,x,y,?_⟩
   ·rw[Bz];rw[j0];simp only[e,f,ok,aa,vl,F,A,M];rw[A7,aa,show((p:Int)!=(m:Int))=true by rw[bne_iff_ne];omega,aa];exact v R d
   ·simp only at h;split at h<;>split<;>omega
  ·by_cases L:p=m
   ·subst L;have K:=RX (q:=s.delta) (k:=0) (b:=s.bias) (by omega);have D:=Qs s.delta (s.done+1) (s.done==a) (by omega);have u:K3 p a (p::c.drop (i+1)) s=K3 p a (c.drop (i+1)) { delta:=0,bias:=T4 s.delta (s.done+1) (s.done==a),done:=s.done+1,out:=s.out++R8 s.delta 0 s.bias }:=by rw[K3,ae G,ac rfl]
    obtain⟨v,w,x,y,h⟩:=H (i+1) n { delta:=0,bias:=T4 s.delta (s.done+1) (s.done==a),done:=s.done+1,out:=s.out++R8 s.delta 0 s.bias } (by omega) (by omega) (by simp only;omega) D (by simp only[j7];omega) (by simp only;omega) C;obtain⟨W,pre,X,J,N⟩:=C47 z t (C4 c) (s.done:Int) (a:Int) (p:Int) (s.delta:Int) (i:Int) s.bias (by omega) 19 s.delta 0 LF (s.out.map F4) (by omega) (by omega) (by omega) (by omega) (by rw[o8];omega);rw[u,List.countP_cons_of_pos (by simp)];refine⟨λR d=>?_,w,?_,?_,?_⟩
    ·rw[Bz];have j:((s.done:Int)==(a:Int))=(s.done==a):=by
      rw[aa6,beq_iff_eq,beq_iff_eq];omega
     rw[j0];simp only[e,f,ok,aa,vl,F,A,I];rw[A5,ab,bne_self_eq_false,ab];refine j9 (N R _) ?_;have V:pre.length+1=(R8 s.delta 0 s.bias).length:=by rw[J];simp
     rw[O0,j0,E8 (by rw[j7,o8,o8];omega)];simp only[vl,aa,A,I];rw[O0,O0,A7,j];simp only[aa,j0];have o:s.out.map F4++pre.map F4++[[SV.int .u8 (((Bn W).toNat:Nat):Int)]]=(s.out++R8 s.delta 0 s.bias).map F4:=by
      rw[J,aa7,aa7,w9];rfl
     rw[o];exact v R d
    ·simp only[j7] at x;omega
    ·simp only at y;omega
    ·simp only at h;rw[W4];split at h<;>omega
   ·have g:(p==m)=false:=by rw[beq_eq_false_iff_ne];omega
    have u:K3 m a (p::c.drop (i+1)) s=K3 m a (c.drop (i+1)) s:=by rw[K3,ae G,ae L]
    obtain⟨v,w,x,y,h⟩:=H (i+1) n s (by omega) (by omega) (by omega) B (by omega) (by omega) C;rw[u,ab2 (by rw[g];simp)];refine⟨λR d=>?_,w,x,y,?_⟩
    ·rw[Bz];rw[j0];simp only[e,f,ok,aa,vl,F,A];rw[A5,ab,show((p:Int)!=(m:Int))=true by rw[bne_iff_ne];omega,aa];exact v R d
    ·split at h<;>split<;>omega
def Bi6{k0:Kah R}(z t:Bool)(a:List Nat)(q:a.length<=256)(n0:Nat)(b delta c done:Int)(l:LL):∀(r i n m:Nat),i+r=a.length->r<n->
  Jw LF n z t (C4 a) done b (n0:Int) delta c (m:Int) (i:Int) l k0=k0 z t (C4 a) done b (n0:Int) delta c ((J9 n0 (a.drop i) m:Nat):Int) l:=by
 intro r
 induction r with
 | zero=>
  intro i n m k o;rcases n with _|n;omega
  rw[Jw];rw[E4,A5,j4 (by omega)];rfl
 | succ r f=>
  intro i n m k o;rcases n with _|n;omega
  have j:=CX a i (by omega);have ok:=Tq (l:=a) (i:=i) (by omega);have d:inR (i:Int) (C4 a).length=true:=G9 (by omega) (by rw[E4];omega);have e:ltI (i:Int) ((C4 a).length:Int)=true:=C5 (by rw[E4];omega);rw[Jw,Xy a i (by omega)];generalize a.getD i 0=p at *;have g:A1 ((i:Int)+1)=((i+1:Nat):Int):=ah
  rw[j0];simp only[d,e,ok,aa,vl,j,g,J9];by_cases h:n0<=p
  ·rw[ac h,A5,j5,aa];have:(if (p:Int)<(m:Int) then (p:Int) else (m:Int))=((min m p:Nat):Int):=by split<;>omega
   rw[this];exact f (i+1) n (min m p) (by omega) (by omega)
  ·rw[ae h,A7,j8,ab];exact f (i+1) n m (by omega) (by omega)
def C48(z t:Bool)(a:List Nat)(b:Nat)(B:a.length<=256)(T:b<=256)(i:∀p∈a,p<=1114111):∀(f n d:Nat) (s:UL),s.done=a.countP (λp=>decide (p<n))->a.length<=s.done+f->f<d->s.delta<=300->s.bias<=500->s.out.length+20*(a.length-s.done)<=80000->n<=1114112->
  ∀(R:Type) (k0:LL->Option R),Hd LF d z t (C4 a) (s.done:Int) (b:Int) (n:Int) (s.delta:Int) (s.bias:Int) (s.out.map F4) k0=k0 ((U0 a b f n s).out.map F4):=by
 intro f;have S:=C9
 induction f with
 | zero=>
  intro n d s V X Y O y P Q R k0;rcases d with _|d;omega
  rw[Hd];rw[E4,A5];rfl
 | succ f Z=>
  intro n d s V X Y O y P Q R k0;rcases d with _|d;omega
  rw[Hd];rw[E4];have U:a.countP (λp=>decide (p<n))<=a.length:=aa4;by_cases o:s.done<a.length
  ·obtain⟨v,g,q⟩:=A90 (n:=n) (l:=a) (by omega);obtain⟨g1,g2,x⟩:=Fx n a 1114112;obtain⟨D,F,w⟩:=Fx n a 1073741824;have g4:=x v g q;have G:=w v g q;have g5:=i v g;have e:J9 n a 1114112∈a/\n<=J9 n a 1114112:=by grind
   have h:J9 n a 1073741824∈a/\n<=J9 n a 1073741824:=by grind
   have heq:J9 n a 1073741824=J9 n a 1114112:=by grind
   have W:U0 a b (f+1) n s=U0 a b f (J9 n a 1114112+1) { K3 (J9 n a 1114112) b a { s with delta:=s.delta+(J9 n a 1114112-n)*(s.done+1) } with delta:=(K3 (J9 n a 1114112) b a { s with delta:=s.delta+(J9 n a 1114112-n)*(s.done+1) }).delta+1 }:=by
    rw[U0,ac o]
   rw[W,A7,aa];have c:=λ(K:Kah R)=>Bi6 (k0:=K) z t a B n (b:Int) (s.delta:Int) (s.bias:Int) (s.done:Int) (s.out.map F4) a.length 0 LF 1073741824 (by omega) (by omega)
   rw[p4,heq] at c;refine j9 (c _) ?_;clear c heq D F w G h;generalize J9 n a 1114112=m at *;have C:(m-n)*(s.done+1)<=1114112*256:=ae1 (by omega) (by omega);have H:A1 ((s.done:Int)+1)=((s.done+1:Nat):Int):=ah
   have I:A1 ((m:Int)-(n:Int))=((m-n:Nat):Int):=by rw[A4];omega
   have J:A1 (((m-n:Nat):Int)*((s.done+1:Nat):Int))=(((m-n)*(s.done+1):Nat):Int):=by
    rw[<-Int.natCast_mul];exact A4
   have L:A1 ((s.delta:Int)+(((m-n)*(s.done+1):Nat):Int))=((s.delta+(m-n)*(s.done+1):Nat):Int):=by
    rw[A4];rfl
   simp only[vl,H,I,J,L];have k:=Ds0 z t a b m (by omega) B a.length 0 LF { s with delta:=s.delta+(m-n)*(s.done+1) } (by omega) (by omega) (by simp only;omega) y (by simp only;omega) (by simp only;omega) T;rw[p4] at k;obtain⟨q1,q2,q3,q4,q5⟩:=k;refine j9 (q1 R _) ?_;have j:0<a.countP (· == m):=List.countP_pos_iff.2 ⟨m,e.1,by simp⟩;rw[ac j] at q5;have u:=Xv e.2 a x;generalize K3 m b a { s with delta:=s.delta+(m-n)*(s.done+1) } = r at *;simp only at q3 q4;have M:A1 ((r.delta:Int)+1)=((r.delta+1:Nat):Int):=ah
   have N:A1 ((m:Int)+1)=((m+1:Nat):Int):=ah
   have A:a.countP (λp=>decide (p<m+1))<=a.length:=aa4;simp only[M,N];exact Z (m+1) d { r with delta:=r.delta+1 } (by simp only;omega) (by simp only;omega) (by omega) (by simp only;omega) q2 (by simp only;omega) (by omega) R k0
  ·rw[A5];rw[U0,ae o];rfl
def Bi1(z t:Bool)(P:List Int)(C:P.length<=256):∀(r i n:Nat) (out:By),i+r=P.length->r<n->out.length+r<=1000->
  ((P.drop i).all ptI=true->∀(R:Type) (a:LL->Option R) (b:Kbd R),Y3 LF n z t (Cf P) (i:Int) (out.map F4) a b=b z t (Cf P) ((out++Z7 (P.drop i)).map F4))/\
  ((P.drop i).all ptI=false->∃l,∀(R:Type) (a:LL->Option R) (b:Kbd R),Y3 LF n z t (Cf P) (i:Int) (out.map F4) a b=a l):=by
 intro r
 induction r with
 | zero=>
  intro i n out w y A;rcases n with _|n;omega
  rw[j4 (by omega)];refine⟨λ_ R a b=>?_,λh=>(by cases h)⟩;rw[Y3];rw[Y8,A5];simp[Z7]
 | succ r v=>
  intro i n out w y A;rcases n with _|n;omega
  have o:=Ba6 P i (by omega);have ok:=ZX (l:=P) (i:=i) (by omega);have f:inR (i:Int) (Cf P).length=true:=G9 (by omega) (by rw[Y8];omega);have g:ltI (i:Int) ((Cf P).length:Int)=true:=C5 (by rw[Y8];omega);rw[Ap0 P i (by omega)];generalize P.getD i 0=x at *;have u:A1 ((i:Int)+1)=((i+1:Nat):Int):=ah
  cases j:ptI x with
  | false=>
   refine⟨λh=>?_,λ_=>⟨out.map F4,λR a b=>?_⟩⟩
   ·rw[ab0,j] at h;cases h
   ·rw[Y3];rw[j0];simp only[f,g,ok,aa,vl,o,j,j5]
  | true=>
   obtain⟨B,D⟩:=Wn j;rw[ab0,j,y5];by_cases c:x<128
   ·have d:Z7 (x::P.drop (i+1))=y9 x.toNat::Z7 (P.drop (i+1)):=by
     unfold Z7;rw[List.filter_cons_of_pos (by simpa using c)];rfl
    have k:out.map F4++[[SV.int .u8 (wu8 x)]]=(out++[y9 x.toNat]).map F4:=by rw[Da6 x B c];simp
    obtain⟨p,q⟩:=v (i+1) n (out++[y9 x.toNat]) (by omega) (by omega) (by simp;omega);have step:∀(R:Type) (a:LL->Option R) (b:Kbd R),Y3 LF (n+1) z t (Cf P) (i:Int) (out.map F4) a b=Y3 LF n z t (Cf P) ((i+1:Nat):Int) ((out++[y9 x.toNat]).map F4) a b:=by
     intro R a b;rw[Y3];rw[j0];simp only[f,g,ok,aa,vl,o,j,j8,ab,u];rw[C5 c,o8,E8 (by omega),k];rfl
    refine⟨λh R a b=>?_,λh=>?_⟩
    ·rw[step,p h,d];simp
    ·obtain⟨l,e⟩:=q h;exact⟨l,λR a b=>by rw[step];exact e R a b⟩
   ·have d:Z7 (x::P.drop (i+1))=Z7 (P.drop (i+1)):=by
     unfold Z7;rw[List.filter_cons_of_neg (by simpa using c)]
    obtain⟨p,q⟩:=v (i+1) n out (by omega) (by omega) (by omega);have step:∀(R:Type) (a:LL->Option R) (b:Kbd R),Y3 LF (n+1) z t (Cf P) (i:Int) (out.map F4) a b=Y3 LF n z t (Cf P) ((i+1:Nat):Int) (out.map F4) a b:=by
     intro R a b;rw[Y3];rw[j0];simp only[f,g,ok,aa,vl,o,j,j8,ab,u];rw[A5];rfl
    refine⟨λh R a b=>?_,λh=>?_⟩
    ·rw[step,p h,d]
    ·obtain⟨l,e⟩:=q h;exact⟨l,λR a b=>by rw[step];exact e R a b⟩
def Bi2(z t:Bool)(P:List Int):(Z8 P=([],3)/\∀(R:Type) (b:Unit->Option R) (f:By->Int->LL->Option R),Av2 LF z t (Cf P) b f=b ())\/
  (∃l,∀(R:Type) (b:Unit->Option R) (f:By->Int->LL->Option R),Av2 LF z t (Cf P) b f=f (Z8 P).1 ((Z8 P).2:Nat) l):=by
 have x:=C9;by_cases i:256<P.length
 ·refine .inl ⟨by unfold Z8;rw[ac i],λR b f=>?_⟩;unfold Av2;rw[Y8,A7];rfl
 ·right
  obtain⟨v,w⟩:=Bi1 z t P (by omega) P.length 0 LF [] (by omega) (by omega) (by simp;omega);rw[p4] at v w;cases g:P.all ptI with
  | false=>
   obtain⟨l,e⟩:=w g;refine⟨l,λR b f=>?_⟩;unfold Av2;rw[Y8,A5,ab];refine j9 (e R _ _) ?_;unfold Z8;rw[ae i,g];rfl
  | true=>
   obtain⟨a,rfl,A,m⟩:=B49 g;rw[o8] at i;have k:Z8 (a.map λn:Nat=>(n:Int))=El a:=by
    unfold Z8;rw[o8,ae i,g];simp[Function.comp_def]
   have j:=Vy a;have y:a.countP (λp=>decide (p<128))<=a.length:=aa4;have main:∀(o:By),o.length<=300->∀(R:Type) (b:LL->Option R),Hd LF LF z t (C4 a) ((K8 a).length:Int) ((K8 a).length:Int) 128 0 72 (o.map F4) b=b ((U0 a (K8 a).length 256 128 { delta:=0,bias:=72,done:=(K8 a).length,out:=o }).out.map F4):=by
    intro o B R b;exact C48 z t a (K8 a).length (by omega) (by omega) m 256 128 LF { delta:=0,bias:=72,done:=(K8 a).length,out:=o } j (by simp only;omega) (by omega) (by simp) (by simp) (by simp only;omega) (by omega) R b
   have d:El a=((U0 a (K8 a).length 256 128 { delta:=0,bias:=72,done:=(K8 a).length,out:=if (K8 a).isEmpty then [] else K8 a++[45] }).out,0):=by
    unfold El;grind
   refine⟨(El a).1.map F4,λR b f=>?_⟩;unfold Av2;rw[Y8,o8,A5,ab,k];have r:=v g R;refine j9 (r _ _) ?_;rw[x8,KL,To];simp only[vl,o8];by_cases c:K8 a=[]
   ·rw[c,p9,A5,ab];have q:=main [] (by simp) R;rw[c,p9] at q;rw[List.map_nil] at q;refine j9 (q _) ?_;rw[c] at d;rw[d];simp only[List.isEmpty_nil,if_true,p9];rw[Af,An];rfl
   ·have u:0<(K8 a).length:=x5.2 c;rw[A7,aa,E8 (by omega),aa];have h:(K8 a).map F4++[[SV.int .u8 45]]=(K8 a++[45]).map F4:=by rw[aa7];rfl
    rw[h];refine j9 (main (K8 a++[45]) (by simp;omega) R _) ?_;rw[d,ae (by simpa using c)];rw[Af,An];rfl
def Ds1(z t:Bool)(p:LL)(b:p.all Px=true):∃r H,Av2 LF z t p (λ_=>rv (.tup [.s (.str []),.s (.int .i64 3)]) []) (λd e l=>rv (.tup [.s (.str d),.s (.int .i64 e)]) [.arr true 5 1 l])=rv r H/\
  r.stab [0,0] H = .tup [.s (.str (Z8 (p.map elI)).1),.s (.int .i64 ((Z8 (p.map elI)).2:Nat))]:=by
 obtain⟨P,rfl⟩:=B27 b;rw[Ap1];rcases Bi2 z t P with⟨c,a⟩|⟨l,a⟩
 ·exact⟨_,_,a _ _ _,by rw[c];rfl⟩
 ·exact⟨_,_,a _ _ _,rfl⟩
def Bm3{k0:Unit->Option R}{k1:By->Int->Option R}(s:By)(k:s.length<=1000000):∀(r i n cut:Nat),i+r=s.length->r<n->
  Fy LF n s (cut:Int) (i:Int) k0 k1=if (s.drop i).any (λb=>v8 128 b.toNat) then k0 () else k1 s ((if 45∈s.drop i then i+J2 (s.drop i) else cut:Nat):Int):=by
 intro r
 induction r with
 | zero=>
  intro i n cut g j;rcases n with _|n;omega
  rw[Fy];rw[A5,j4 (by omega)];rfl
 | succ r d=>
  intro i n cut g j;rcases n with _|n;omega
  rw[Fy];have e:A1 ((i:Int)+1)=((i+1:Nat):Int):=ah
  rw[A7,G2,E1,E6 s i (by omega),e,ac6];simp only[aa];generalize s.getD i 0=b;by_cases h:128<=b.toNat
  ·rw[A5,aa5 h];rfl
  ·have:v8 128 b.toNat=false:=by rw[s8,ne_eq,p7];exact h
   rw[A7,this,ae4,j8,ab];have f:((b.toNat:Int)==45)=(b==45):=T7 b 45 (by omega);rw[f];by_cases a:b=45
   ·subst a;rw[show((45:UInt8)==45)=true from rfl,aa];refine(d (i+1) n i (by omega) (by omega)).trans ?_;have c:(45:UInt8)∈45::s.drop (i+1):=by simp
    rw[ac c];have:(if (45:UInt8)∈s.drop (i+1) then i+1+J2 (s.drop (i+1)) else i)=i+J2 (45::s.drop (i+1)):=by
     rw[J2];grind
    rw[this]
   ·rw[show(b==45)=false from beq_eq_false_iff_ne.2 a,ab];refine(d (i+1) n cut (by omega) (by omega)).trans ?_;have c:((45:UInt8)∈b::s.drop (i+1))↔((45:UInt8)∈s.drop (i+1)):=by simp[Ne.symm a]
    have:(if (45:UInt8)∈s.drop (i+1) then i+1+J2 (s.drop (i+1)) else cut)=(if (45:UInt8)∈b::s.drop (i+1) then i+J2 (b::s.drop (i+1)) else cut):=by
     by_cases q:(45:UInt8)∈s.drop (i+1)
     ·rw[ac q,ac (c.2 q),J2,ac q];omega
     grind
    rw[this]
def Bl8{k0:By->Int->LL->Option R}(s:By)(q:s.length<=1000000)(k:Nat)(p:k<=s.length):∀(r i n:Nat) (l:List Nat),i+r=k->r<n->l.length=i->
  Ix LF n s (k:Int) (i:Int) (C4 l) k0=k0 s (k:Int) (C4 (l++((s.take k).drop i).map (·.toNat))):=by
 intro r
 induction r with
 | zero=>
  intro i n l f h g;rcases n with _|n;omega
  rw[Ix];rw[A5,j4 (by rw[x7];omega)];simp
 | succ r j=>
  intro i n l f h g;rcases n with _|n;omega
  rw[Ix];have c:A1 ((i:Int)+1)=((i+1:Nat):Int):=ah
  have e:(s.take k).drop i=s.getD i 0::(s.take k).drop (i+1):=by
   rw[E6 (s.take k) i (by rw[x7];omega)]
   congr 1
   rw[k9,k9,List.getElem?_take_of_lt (by omega)]
  rw[A7,G2,E1,e,E4,E8 (by omega),c];simp only[aa];generalize s.getD i 0=b;have o:=b.toNat_lt;have d:A1 (b.toNat:Int)=(b.toNat:Int):=A4;have a:C4 l++[[SV.int .i64 (A1 (b.toNat:Int))]]=C4 (l++[b.toNat]):=by rw[d,Mp];rfl
  rw[a];refine(j (i+1) n _ (by omega) (by omega) (by simp;omega)).trans ?_;simp
def Bm1(s:By)(hs:s.length<=1000000)(out:LL)(f b e:Int)(l:LL)(P:0<=b)(Q:b<1000000):∀(r p n k:Nat) (i w:Int),p+r=s.length->r<n->0<=i->i<=1099511627776->0<=w->w<=1099511627776->k+r<=10000000->
  ((X2 b (s.drop p) i w ((36*k:Nat):Int)).1=0->∃o,p<o/\o<=s.length/\(X2 b (s.drop p) i w ((36*k:Nat):Int)).2.1=s.drop o/\∀(R:Type) (a:Int->LL->Option R) (d:Kca R),Z1 LF n s out (p:Int) f i b e w (k:Int) l a d=d s out (o:Int) f (X2 b (s.drop p) i w ((36*k:Nat):Int)).2.2 e l)/\
  ((X2 b (s.drop p) i w ((36*k:Nat):Int)).1≠0->∀(R:Type) (a:Int->LL->Option R) (d:Kca R),Z1 LF n s out (p:Int) f i b e w (k:Int) l a d=a (X2 b (s.drop p) i w ((36*k:Nat):Int)).1 l):=by
 intro r
 induction r with
 | zero=>
  intro p n k i w X W U D G g V;rcases n with _|n;omega
  rw[j4 (by omega)];refine⟨λh=>by simp[X2] at h,λ_ R a d=>?_⟩;rw[Z1];rw[A5];rfl
 | succ r Z=>
  intro p n k i w X W U D G g V;rcases n with _|n;omega
  have S:=E6 s p (by omega);have C:=E1 s p;rw[S];generalize s.getD p 0=c at *;have Y:=Hj c;have ht:=Pm ((36*k:Nat):Int) b;have e0:af0 36 (k:Int)=((36*k:Nat):Int):=rfl;have J:A1 ((p:Int)+1)=((p+1:Nat):Int):=ah
  have K:A1 ((k:Int)+1)=((k+1:Nat):Int):=ah
  have start:∀(R:Type) (a:Int->LL->Option R) (d:Kca R),Z1 LF (n+1) s out (p:Int) f i b e w (k:Int) l a d =
    cond (ltI (F5 c) 0) (a 4 l)
     (vl (A1 (i+(A1 (F5 c*w)))) λj=>cond (ltI 1099511627776 j) (a 19 l)
      (cond (ltI (F5 c) (N4 ((36*k:Nat):Int) b)) (d s out ((p+1:Nat):Int) f j e l)
       (vl (A1 (36-(N4 ((36*k:Nat):Int) b))) λq=>cond (ltI 1099511627776 (A1 (w*q))) (a 19 l) (Z1 LF n s out ((p+1:Nat):Int) f j b e (A1 (w*q)) ((k+1:Nat):Int) l a d)))):=by
   intro R a d;rw[Z1];have T:=c.toNat_lt;rw[A7,G2,C,G2,Kf,O0,O0,e0,J,K];rfl
  unfold X2;by_cases y:F5 c<0
  ·rw[ac y];refine⟨λh=>by simp at h,λ_ R a d=>?_⟩;rw[start,C5 y];rfl
  ·rw[ae y];have hm:=Ev (by omega) Y.2 G g;have u:A1 (F5 c*w)=F5 c*w:=A4;have v:A1 (i+F5 c*w)=i+F5 c*w:=A4;by_cases z:1099511627776<i+F5 c*w
   ·rw[ac z];refine⟨λh=>by simp at h,λ_ R a d=>?_⟩;rw[start,A5,u,v];simp only[vl,ab];rw[C5 z];rfl
   ·rw[ae z];by_cases A:F5 c<N4 ((36*k:Nat):Int) b
    ·rw[ac A];refine⟨λ_=>⟨p+1,by omega,by omega,rfl,λR a d=>?_⟩,λh=>absurd rfl h⟩;rw[start,A5,u,v];simp only[vl,ab];rw[A5,C5 A];rfl
    ·rw[ae A];have H:A1 (36-N4 ((36*k:Nat):Int) b)=36-N4 ((36*k:Nat):Int) b:=A4;have F:=Ev (x:=36-N4 ((36*k:Nat):Int) b) (by omega) (by omega) G g;rw[af1] at F;have I:A1 (w*(36-N4 ((36*k:Nat):Int) b))=w*(36-N4 ((36*k:Nat):Int) b):=A4;by_cases B:1099511627776<w*(36-N4 ((36*k:Nat):Int) b)
     ·rw[ac B];refine⟨λh=>by simp at h,λ_ R a d=>?_⟩;rw[start,A5,u,v];simp only[vl,ab];rw[A5,A5,H,I,C5 B];rfl
     ·rw[ae B];have L:((36*k:Nat):Int)+36=((36*(k+1):Nat):Int):=by omega
      rw[L];obtain⟨q1,q2⟩:=Z (p+1) n (k+1) (i+F5 c*w) (w*(36-N4 ((36*k:Nat):Int) b)) (by omega) (by omega) (by omega) (by omega) (by omega) (by omega) (by omega);have t:∀(R:Type) (a:Int->LL->Option R) (d:Kca R),Z1 LF (n+1) s out (p:Int) f i b e w (k:Int) l a d=Z1 LF n s out ((p+1:Nat):Int) f (i+F5 c*w) b e (w*(36-N4 ((36*k:Nat):Int) b)) ((k+1:Nat):Int) l a d:=by simp_all
      refine⟨λh=>?_,λh R a d=>by rw[t];exact q2 h R a d⟩;obtain⟨o,g1,M,N,O⟩:=q1 h;exact⟨o,by omega,M,N,λR a d=>by rw[t];exact O R a d⟩
def Bm2(s:By)(Z:s.length<=1000000)(l:LL):∀(r p n k:Nat) (i w:Int),p+r=s.length->r<n->0<=i->i<=1099511627776->0<=w->w<=1099511627776->k+r<=10000000->
  ((X2 72 (s.drop p) i w ((36*k:Nat):Int)).1=0->∃f,p<f/\f<=s.length/\(X2 72 (s.drop p) i w ((36*k:Nat):Int)).2.1=s.drop f/\∀(R:Type) (a:Int->LL->Option R) (b:Kbh R),Z2 LF n s (p:Int) i w (k:Int) l a b=b s (f:Int) (X2 72 (s.drop p) i w ((36*k:Nat):Int)).2.2 l)/\
  ((X2 72 (s.drop p) i w ((36*k:Nat):Int)).1≠0->∀(R:Type) (a:Int->LL->Option R) (b:Kbh R),Z2 LF n s (p:Int) i w (k:Int) l a b=a (X2 72 (s.drop p) i w ((36*k:Nat):Int)).1 l):=by
 intro r
 induction r with
 | zero=>
  intro p n k i w S Q O A C d P;rcases n with _|n;omega
  rw[j4 (by omega)];refine⟨λh=>by simp[X2] at h,λ_ R a b=>?_⟩;rw[Z2];rw[A5];rfl
 | succ r U=>
  intro p n k i w S Q O A C d P;rcases n with _|n;omega
  have M:=E6 s p (by omega);have z:=E1 s p;rw[M];generalize s.getD p 0=c at *;have T:=Hj c;have ht:=Pm ((36*k:Nat):Int) 72;have e0:af0 36 (k:Int)=((36*k:Nat):Int):=rfl;have G:A1 ((p:Int)+1)=((p+1:Nat):Int):=ah
  have H:A1 ((k:Int)+1)=((k+1:Nat):Int):=ah
  have start:∀(R:Type) (a:Int->LL->Option R) (b:Kbh R),Z2 LF (n+1) s (p:Int) i w (k:Int) l a b =
    cond (ltI (F5 c) 0) (a 4 l)
     (vl (A1 (i+(A1 (F5 c*w)))) λe=>cond (ltI 1099511627776 e) (a 19 l)
      (cond (ltI (F5 c) (N4 ((36*k:Nat):Int) 72)) (b s ((p+1:Nat):Int) e l)
       (vl (A1 (36-(N4 ((36*k:Nat):Int) 72))) λg=>cond (ltI 1099511627776 (A1 (w*g))) (a 19 l) (Z2 LF n s ((p+1:Nat):Int) e (A1 (w*g)) ((k+1:Nat):Int) l a b)))):=by
   intro R a b;rw[Z2];have N:=c.toNat_lt;rw[A7,G2,z,G2,Kf,O0,O0,e0,G,H];rfl
  unfold X2;by_cases t:F5 c<0
  ·rw[ac t];refine⟨λh=>by simp at h,λ_ R a b=>?_⟩;rw[start,C5 t];rfl
  ·rw[ae t];have Y:=Ev (by omega) T.2 C d;have o:A1 (F5 c*w)=F5 c*w:=A4;have q:A1 (i+F5 c*w)=i+F5 c*w:=A4;by_cases u:1099511627776<i+F5 c*w
   ·rw[ac u];refine⟨λh=>by simp at h,λ_ R a b=>?_⟩;rw[start,A5,o,q];simp only[vl,ab];rw[C5 u];rfl
   ·rw[ae u];by_cases v:F5 c<N4 ((36*k:Nat):Int) 72
    ·rw[ac v];refine⟨λ_=>⟨p+1,by omega,by omega,rfl,λR a b=>?_⟩,λh=>absurd rfl h⟩;rw[start,A5,o,q];simp only[vl,ab];rw[A5,C5 v];rfl
    ·rw[ae v];have D:A1 (36-N4 ((36*k:Nat):Int) 72)=36-N4 ((36*k:Nat):Int) 72:=A4;have B:=Ev (x:=36-N4 ((36*k:Nat):Int) 72) (by omega) (by omega) C d;rw[af1] at B;have F:A1 (w*(36-N4 ((36*k:Nat):Int) 72))=w*(36-N4 ((36*k:Nat):Int) 72):=A4;by_cases y:1099511627776<w*(36-N4 ((36*k:Nat):Int) 72)
     ·rw[ac y];refine⟨λh=>by simp at h,λ_ R a b=>?_⟩;rw[start,A5,o,q];simp only[vl,ab];rw[A5,A5,D,F,C5 y];rfl
     ·rw[ae y];have I:((36*k:Nat):Int)+36=((36*(k+1):Nat):Int):=by omega
      rw[I];obtain⟨V,W⟩:=U (p+1) n (k+1) (i+F5 c*w) (w*(36-N4 ((36*k:Nat):Int) 72)) (by omega) (by omega) (by omega) (by omega) (by omega) (by omega) (by omega);have j:∀(R:Type) (a:Int->LL->Option R) (b:Kbh R),Z2 LF (n+1) s (p:Int) i w (k:Int) l a b=Z2 LF n s ((p+1:Nat):Int) (i+F5 c*w) (w*(36-N4 ((36*k:Nat):Int) 72)) ((k+1:Nat):Int) l a b:=by simp_all
      refine⟨λh=>?_,λh R a b=>by rw[j];exact W h R a b⟩;obtain⟨f,X,J,K,L⟩:=V h;exact⟨f,by omega,J,K,λR a b=>by rw[j];exact L R a b⟩
def TD(l:List Nat)(k:Nat):(C4 l).take k=C4 (l.take k):=by unfold C4;rw[List.map_take]
def TC(l:List Nat)(k:Nat):(C4 l).drop k=C4 (l.drop k):=by unfold C4;rw[List.map_drop]
def Bm0(s:By)(hs:s.length<=1000000)(l:LL):∀(r p f:Nat) (a:List Nat) (n i b:Nat),p+r=s.length->r<f->a.length<=256->n<=1114111->i<=1000->b<=500->
  ((J8 (s.drop p) a n i b false).2=0->∀(R:Type) (c:Int->LL->Option R) (d e:LL->LL->Option R),R4 LF f s (C4 a) (p:Int) (n:Int) (i:Int) (b:Int) l c d e=e (C4 (J8 (s.drop p) a n i b false).1) l)/\
  ((J8 (s.drop p) a n i b false).2≠0->(J8 (s.drop p) a n i b false).1=[]/\((∀(R:Type) (c:Int->LL->Option R) (d e:LL->LL->Option R),R4 LF f s (C4 a) (p:Int) (n:Int) (i:Int) (b:Int) l c d e=c ((J8 (s.drop p) a n i b false).2:Nat) l)\/
   ((J8 (s.drop p) a n i b false).2=3/\∃D,∀(R:Type) (c:Int->LL->Option R) (d e:LL->LL->Option R),R4 LF f s (C4 a) (p:Int) (n:Int) (i:Int) (b:Int) l c d e=d l D))):=by
 have a0:=C9;intro r
 induction r using ad7 with
 | _ r ih=>
  intro p f a n i b hp hf h2 h3 h4 h5;rcases f with _|f;omega
  by_cases hr:r=0
  ·rw[j4 (by omega),Ej];refine⟨λ_ R c d e=>?_,λh=>absurd rfl h⟩;rw[R4];rw[A5];rfl
  ·have q:s.drop p≠[]:=λh=>by
    have:=congrArg w8 h;rw[p6] at this;simp at this;omega
   obtain⟨z,H⟩:=Bm1 s hs (C4 a) (n:Int) (b:Int) (i:Int) l (by omega) (by omega) r p LF 0 (i:Int) 1 hp (by omega) (by omega) (by omega) (by omega) (by omega) (by omega);obtain⟨F,G⟩:=Xx b (s.drop p) i 1 0;have y:X2 (b:Int) (s.drop p) (i:Int) 1 ((36*0:Nat):Int)=X2 (b:Int) (s.drop p) (i:Int) ((1:Nat):Int) ((36*0:Nat):Int):=rfl;rw[y] at z H;by_cases o:(F3 b (s.drop p) i 1 0).2.2=0
   ·rw[Fs q a n i b false o];have T:=G o;have K:(X2 (b:Int) (s.drop p) (i:Int) ((1:Nat):Int) ((36*0:Nat):Int)).1=0:=by rw[F,o];rfl
    obtain⟨v,a1,a2,w,x⟩:=z K;obtain⟨L,O,_⟩:=Xw (b:Int) (s.drop p) (i:Int) ((1:Nat):Int) ((36*0:Nat):Int) (by omega) (by omega) (by omega) K;rw[T] at L O w x;simp only at L O w x;rw[w];generalize (F3 b (s.drop p) i 1 0).1=X at *;have el:A1 (((C4 a).length:Int)+1)=((a.length+1:Nat):Int):=by rw[E4,A4];rfl
    have U:A1 ((X:Int)-(i:Int))=((X-i:Nat):Int):=by rw[A4];omega
    have Z:af5 (X:Int) ((a.length+1:Nat):Int)=((X / (a.length+1):Nat):Int):=O2 _ _;have em:af6 (X:Int) ((a.length+1:Nat):Int)=((X % (a.length+1):Nat):Int):=Dy _ _;have a5:X / (a.length+1)<=X:=ab8 _ _;have J:=ae0 X (show 0<a.length+1 by omega);have A:=Qs (X-i) (a.length+1) false (by omega);generalize hQ:X / (a.length+1)=Q at *;generalize hM:X % (a.length+1)=M at *;have V:A1 (Q:Int)=(Q:Int):=A4;have W:A1 ((n:Int)+(Q:Int))=((n+Q:Nat):Int):=ah
    have Y:A1 ((M:Int)+1)=((M+1:Nat):Int):=ah
    have C:(((a.length+1:Nat):Int)!=0)=true:=by rw[bne_iff_ne];omega
    have P:cut (C4 a) 0 (M:Int)=C4 (a.take M):=by rw[M8,j0,TD]
    have S:cut (C4 a) (M:Int) ((C4 a).length:Int)=C4 (a.drop M):=by rw[R7,j0,TC]
    have t:∀N:Nat,C4 (a.take M)++[[SV.int .i64 (N:Int)]]++C4 (a.drop M)=C4 (Y9 a M N):=λN=>by
     unfold Y9;rw[Mp,w9];rfl
    have start:∀(R:Type) (c:Int->LL->Option R) (d e:LL->LL->Option R),R4 LF (f+1) s (C4 a) (p:Int) (n:Int) (i:Int) (b:Int) l c d e =
      cond (not (Z0 (n+Q))) (c 2 l) (cond (ltI 256 ((a.length+1:Nat):Int)) (d l (C4 (Y9 a M (n+Q))))
       (R4 LF f s (C4 (Y9 a M (n+Q))) (v:Int) ((n+Q:Nat):Int) ((M+1:Nat):Int) ((T4 (X-i) (a.length+1) false:Nat):Int) l c d e)):=by
     intro R c d e;rw[R4];rw[A7,aa];refine(x R _ _).trans ?_;have s1:J5 (0:Int) (M:Int) (C4 a).length=true:=W7 (by omega) (by omega) (by rw[E4];omega);have s2:J5 (M:Int) ((C4 a).length:Int) (C4 a).length=true:=W7 (by omega) (by rw[E4];omega) (by omega);have t1:ltN ((X-i:Nat):Int) 1152921504606846976=true:=O0;have t2:ltN ((a.length+1:Nat):Int) 1000000=true:=O0;have t3:ltI 0 ((a.length+1:Nat):Int)=true:=A7;have l1:(C4 (a.take M)).length=M:=by rw[E4,x7];omega
     have l2:(C4 (a.drop M)).length=a.length-M:=by rw[E4,p6]
     have r1:G0 (0+(C4 (a.take M)).length)=true:=E8 (by omega);have r2:G0 ((C4 (a.take M)).length+1)=true:=E8 (by omega);have r3:G0 ((C4 (a.take M)++[[SV.int .i64 ((n+Q:Nat):Int)]]).length+(C4 (a.drop M)).length)=true:=E8 (by rw[j7,v7];omega);have l3:(C4 (Y9 a M (n+Q))).length=a.length+1:=by rw[E4,Cq]
     simp only[vl,el,U,Z,em,V,W,Y,C,s1,s2,t1,t2,t3,P,S,r1,r2,r3,t,l3,aa,j0,Oo]
    cases g:Z0 (n+Q) with
    | false=>
     rw[ae (by simp)];refine⟨λh=>by simp at h,λ_=>⟨rfl,.inl λR c d e=>?_⟩⟩;rw[start,g];rfl
    | true=>
     rw[ac rfl];by_cases I:256<a.length+1
     ·rw[ac I];refine⟨λh=>by simp at h,λ_=>⟨rfl,.inr ⟨rfl,C4 (Y9 a M (n+Q)),λR c d e=>?_⟩⟩⟩;rw[start,g,A7];rfl
     ·rw[ae I];have B:n+Q<=1114111:=by
       unfold Z0 at g;simp only[p5,p7] at g;exact g.1
      have k:∀(R:Type) (c:Int->LL->Option R) (d e:LL->LL->Option R),R4 LF (f+1) s (C4 a) (p:Int) (n:Int) (i:Int) (b:Int) l c d e=R4 LF f s (C4 (Y9 a M (n+Q))) (v:Int) ((n+Q:Nat):Int) ((M+1:Nat):Int) ((T4 (X-i) (a.length+1) false:Nat):Int) l c d e:=by
       intro R c d e;rw[start,g,A5];rfl
      obtain⟨z1,z2⟩:=ih (s.length-v) (by omega) v f (Y9 a M (n+Q)) (n+Q) (M+1) (T4 (X-i) (a.length+1) false) (by omega) (by omega) (by rw[Cq];omega) B (by omega) A;refine⟨λh R c d e=>by rw[k];exact z1 h R c d e,λh=>?_⟩;obtain⟨y1,u⟩:=z2 h;refine⟨y1,?_⟩;rcases u with u|⟨u,D,y3⟩
      ·exact .inl λR c d e=>by rw[k];exact u R c d e
      ·exact .inr ⟨u,D,λR c d e=>by rw[k];exact y3 R c d e⟩
   ·rw[Ig q a n i b false o];clear z G;refine⟨λh=>absurd h o,λ_=>⟨rfl,.inl λR c d e=>?_⟩⟩;rw[R4];rw[A7,aa];have j:=congrArg Prod.fst F;simp only at j;refine(H (by rw[j];omega) R _ _).trans ?_;rw[j]
def Ca6:∀(r:Nat) (s:By) (a:List Nat) (n i b:Nat) (f:Bool),s.length<=r->0<a.length->(J8 s a n i b f).2=0->(J8 s a n i b f).1≠[]:=by
 intro r
 induction r with
 | zero=>
  intro s a n i b f d l h;obtain rfl:=o6.1 (Nat.le_zero.1 d);rw[Ej];grind
 | succ r m=>
  intro s a n i b f d l h;by_cases e:s=[]
  ·grind
  ·by_cases c:(F3 b s i 1 0).2.2=0
   ·rw[Fs e a n i b f c] at h ⊢;split at h
    ·rename_i g;rw[ac g];split at h
     ·omega
     ·rename_i j;rw[ae j];have k:=Th b s i 1 0 c;exact m _ _ _ _ _ _ (by omega) (by rw[Cq];omega) h
    omega
   ·rw[Ig e a n i b f c] at h;omega
def Bl9(s:By)(K:s.length<=1000000)(p:Nat)(a:List Nat)(h2:a.length<=256)(hp:p<=s.length) :
  (s.drop p=[]/\∀(R:Type) (b:Int->LL->Option R) (c d:LL->LL->Option R) (g:LL->Option R),N0 LF LF s (p:Int) (C4 a) b c d g=g (C4 a))\/
  ((J8 (s.drop p) a 128 0 72 true).2=0/\(J8 (s.drop p) a 128 0 72 true).1≠[]/\∀(R:Type) (b:Int->LL->Option R) (c d:LL->LL->Option R) (g:LL->Option R),N0 LF LF s (p:Int) (C4 a) b c d g=d (C4 (J8 (s.drop p) a 128 0 72 true).1) (C4 a))\/
  ((J8 (s.drop p) a 128 0 72 true).1=[]/\((∀(R:Type) (b:Int->LL->Option R) (c d:LL->LL->Option R) (g:LL->Option R),N0 LF LF s (p:Int) (C4 a) b c d g=b ((J8 (s.drop p) a 128 0 72 true).2:Nat) (C4 a))\/
   ((J8 (s.drop p) a 128 0 72 true).2=3/\∃F,∀(R:Type) (b:Int->LL->Option R) (c d:LL->LL->Option R) (g:LL->Option R),N0 LF LF s (p:Int) (C4 a) b c d g=c (C4 a) F))):=by
 have a0:=C9;obtain⟨f,B⟩:∃m,LF=m+1:=⟨LF-1,by omega⟩
 by_cases hr:s.length<=p
 ·refine .inl ⟨j4 hr,λR b c d g=>?_⟩;have e:N0 LF LF s (p:Int) (C4 a) b c d g=N0 LF (f+1) s (p:Int) (C4 a) b c d g:=by rw[<-B]
  rw[e,N0];rw[A5];rfl
 ·right
  have o:s.drop p≠[]:=λh=>by
   have:=congrArg w8 h;grind
  obtain⟨u,y⟩:=Bm2 s K (C4 a) (s.length-p) p LF 0 0 1 (by omega) (by omega) (by omega) (by omega) (by omega) (by omega) (by omega);obtain⟨G,x⟩:=Xx 72 (s.drop p) 0 1 0;have n:X2 72 (s.drop p) 0 1 ((36*0:Nat):Int)=X2 ((72:Nat):Int) (s.drop p) ((0:Nat):Int) ((1:Nat):Int) ((36*0:Nat):Int):=rfl;rw[n] at u y;by_cases A:(F3 72 (s.drop p) 0 1 0).2.2=0
  ·rw[Fs o a 128 0 72 true A];have H:=x A;have k:(X2 ((72:Nat):Int) (s.drop p) ((0:Nat):Int) ((1:Nat):Int) ((36*0:Nat):Int)).1=0:=by grind
   obtain⟨r,a1,a2,v,w⟩:=u k;obtain⟨L,O,_⟩:=Xw ((72:Nat):Int) (s.drop p) ((0:Nat):Int) ((1:Nat):Int) ((36*0:Nat):Int) (by omega) (by omega) (by omega) k;rw[H] at L O v w;simp only at L O v w;clear u y G x H k n;rw[v];generalize (F3 72 (s.drop p) 0 1 0).1=X at *;have Z:A1 (((C4 a).length:Int)+1)=((a.length+1:Nat):Int):=by rw[E4,A4];rfl
   have T:A1 ((X:Int)-0)=(X:Int):=by rw[A4];omega
   have Y:af5 (X:Int) ((a.length+1:Nat):Int)=((X / (a.length+1):Nat):Int):=O2 _ _;have em:af6 (X:Int) ((a.length+1:Nat):Int)=((X % (a.length+1):Nat):Int):=Dy _ _;have a5:X / (a.length+1)<=X:=ab8 _ _;have J:=ae0 X (show 0<a.length+1 by omega);have z:=Qs X (a.length+1) true (by omega);generalize hQ:X / (a.length+1)=Q at *;generalize hM:X % (a.length+1)=M at *;have U:A1 (Q:Int)=(Q:Int):=A4;have V:A1 ((128:Int)+(Q:Int))=((128+Q:Nat):Int):=ah
   have W:A1 ((M:Int)+1)=((M+1:Nat):Int):=ah
   have D:(((a.length+1:Nat):Int)!=0)=true:=by rw[bne_iff_ne];omega
   have P:ae8 (M-0) (List.drop 0 (C4 a))=C4 (a.take M):=by rw[ad2,p4,TD]
   have S:ae8 ((C4 a).length-M) (List.drop M (C4 a))=C4 (a.drop M):=by
    rw[List.take_of_length_le (by rw[p6];omega),TC]
   have q:∀N:Nat,C4 (a.take M)++[[SV.int .i64 (N:Int)]]++C4 (a.drop M)=C4 (Y9 a M N):=λN=>by
    unfold Y9;rw[Mp,w9];rfl
   have start:∀(R:Type) (b:Int->LL->Option R) (c d:LL->LL->Option R) (g:LL->Option R),N0 LF LF s (p:Int) (C4 a) b c d g =
     cond (not (Z0 (128+Q))) (b 2 (C4 a)) (cond (ltI 256 ((a.length+1:Nat):Int)) (c (C4 a) (C4 (Y9 a M (128+Q))))
      (R4 LF f s (C4 (Y9 a M (128+Q))) (r:Int) ((128+Q:Nat):Int) ((M+1:Nat):Int) ((T4 X (a.length+1) true:Nat):Int) (C4 a) b c d)):=by
    intro R b c d g;have e:N0 LF LF s (p:Int) (C4 a) b c d g=N0 LF (f+1) s (p:Int) (C4 a) b c d g:=by rw[<-B]
    rw[e,N0];rw[A7,aa];refine(w R _ _).trans ?_;have s1:J5 (0:Int) (M:Int) (C4 a).length=true:=W7 (by omega) (by omega) (by rw[E4];omega);have s2:J5 (M:Int) ((C4 a).length:Int) (C4 a).length=true:=W7 (by omega) (by rw[E4];omega) (by omega);have t1:ltN (X:Int) 1152921504606846976=true:=O0;have t2:ltN ((a.length+1:Nat):Int) 1000000=true:=O0;have t3:ltI 0 ((a.length+1:Nat):Int)=true:=A7;have l1:(C4 (a.take M)).length=M:=by rw[E4,x7];omega
    have l2:(C4 (a.drop M)).length=a.length-M:=by rw[E4,p6]
    have r1:G0 (0+(C4 (a.take M)).length)=true:=E8 (by omega);have r2:G0 ((C4 (a.take M)).length+1)=true:=E8 (by omega);have r3:G0 ((C4 (a.take M)++[[SV.int .i64 ((128+Q:Nat):Int)]]).length+(C4 (a.drop M)).length)=true:=E8 (by rw[j7,v7];omega);have l3:(C4 (Y9 a M (128+Q))).length=a.length+1:=by rw[E4,Cq]
    simp only[vl,Z,T,Y,em,U,V,W,D,s1,s2,t1,t2,t3,j0,P,S,r1,r2,r3,q,l3,aa,Oo]
   cases j:Z0 (128+Q) with
   | false=>
    rw[ae (by simp)];refine .inr ⟨rfl,.inl λR b c d g=>?_⟩;rw[start,j];rfl
   | true=>
    rw[ac rfl];by_cases I:256<a.length+1
    ·rw[ac I];refine .inr ⟨rfl,.inr ⟨rfl,C4 (Y9 a M (128+Q)),λR b c d g=>?_⟩⟩;rw[start,j,A7];rfl
    ·rw[ae I];have C:128+Q<=1114111:=by
      unfold Z0 at j;simp_all
     have l:∀(R:Type) (b:Int->LL->Option R) (c d:LL->LL->Option R) (g:LL->Option R),N0 LF LF s (p:Int) (C4 a) b c d g=R4 LF f s (C4 (Y9 a M (128+Q))) (r:Int) ((128+Q:Nat):Int) ((M+1:Nat):Int) ((T4 X (a.length+1) true:Nat):Int) (C4 a) b c d:=by
      intro R b c d g;rw[start,j,A5];rfl
     obtain⟨z1,z2⟩:=Bm0 s K (C4 a) (s.length-r) r f (Y9 a M (128+Q)) (128+Q) (M+1) (T4 X (a.length+1) true) (by omega) (by omega) (by rw[Cq];omega) C (by omega) z;have hX:X-0=X:=ad2 X;rw[hX];by_cases k:(J8 (s.drop r) (Y9 a M (128+Q)) (128+Q) (M+1) (T4 X (a.length+1) true) false).2=0
     ·refine .inl ⟨k,?_,λR b c d g=>by rw[l];exact z1 k R b c d⟩;exact Ca6 _ _ _ _ _ _ _ (Nat.le_refl _) (by rw[Cq];omega) k
     ·obtain⟨y1,t⟩:=z2 k;refine .inr ⟨y1,?_⟩;rcases t with t|⟨t,F,y3⟩
      ·exact .inl λR b c d g=>by rw[l];exact t R b c d
      ·exact .inr ⟨t,F,λR b c d g=>by rw[l];exact y3 R b c d⟩
  ·rw[Ig o a 128 0 72 true A];clear u x;refine .inr ⟨rfl,.inl λR b c d g=>?_⟩;have e:N0 LF LF s (p:Int) (C4 a) b c d g=N0 LF (f+1) s (p:Int) (C4 a) b c d g:=by rw[<-B]
   rw[e,N0];rw[A7,aa];have i:=congrArg Prod.fst G;simp only at i;refine(y (by rw[i];omega) R _ _).trans ?_;rw[i]
def C68(s:By)(M:A2 s.length=true):∃r H,B61 LF s (λi f=>rv (.tup [.fl 0,.s (.int .i64 i)]) [.arr true 3 1 f]) (λi f=>rv (.tup [.fl 1,.s (.int .i64 i)]) [.arr true 3 1 f,.arr true 3 1 []]) (λx f=>rv (.tup [.fl 2,.s (.int .i64 3)]) [.arr true 3 1 x,.arr false 3 1 f,.arr true 3 1 []]) (λi f=>rv (.tup [.s (.sl false false 1 i),.s (.int .i64 0)]) [.arr true 3 1 f])=rv r H/\
  r.stab [1,0] H = .tup [.s (.sl (P6 s).1.isEmpty (P6 s).1.isEmpty 1 (Oi (P6 s).1)),.s (.int .i64 ((P6 s).2:Nat))]:=by
 have G:=C9;unfold B61 P6;by_cases z:1024<s.length
 ·rw[ac z,A7];exact⟨_,_,rfl,rfl⟩
 ·rw[ae z,A5,ab];have e:=λ(R:Type) (C:Unit->Option R) (D:By->Int->Option R)=>Bm3 (k0:=C) (k1:=D) s (by omega) s.length 0 LF 0 (by omega) (by omega)
  rw[p4] at e;cases y:s.any (λb=>v8 128 b.toNat) with
  | true=>
   rw[ac rfl];refine⟨.tup [.fl 0,.s (.int .i64 4)],[.arr true 3 1 []],(e _ _ _).trans ?_,rfl⟩;rw[y,ac rfl]
  | false=>
   rw[ae (by simp)];obtain⟨L,F⟩:=Rg s;have I:=Rh s;have q:(if (45:UInt8)∈s then 0+J2 s else 0)=J2 s:=by
    split
    ·omega
    ·rename_i h;exact(F h).2.symm
   rw[y,q] at e;have c:=λ(R:Type) (K:By->Int->LL->Option R)=>Bl8 (k0:=K) s (by omega) (J2 s) (by omega) (J2 s) 0 LF [] (by omega) (by omega) rfl
   rw[p4] at c;have g:((s.take (J2 s)).map (·.toNat)).length=J2 s:=by rw[o8,x7];omega
   generalize N:J2 s=m at *;generalize A:(s.take m).map (·.toNat)=d at *;by_cases k:256<m
   ·rw[ac k];refine⟨.tup [.fl 1,.s (.int .i64 3)],[.arr true 3 1 (C4 d),.arr true 3 1 []],(e _ _ _).trans ?_,rfl⟩;rw[ae (by simp)];refine(c _ _).trans ?_;rw[x8,E4,g,A7];rfl
   ·rw[ae k];have o:∀p:Nat,p<=s.length->∀(X:Option (PV × List Blk × Unit)),X=N0 LF LF s (p:Int) (C4 d) (λi f=>rv (.tup [.fl 1,.s (.int .i64 i)]) [.arr true 3 1 f,.arr true 3 1 []]) (λx f=>rv (.tup [.fl 2,.s (.int .i64 3)]) [.arr true 3 1 x,.arr false 3 1 f,.arr true 3 1 []]) (λi f=>rv (.tup [.s (.sl false false 1 i),.s (.int .i64 0)]) [.arr true 3 1 f]) (λl=>rv (.tup [.fl 0,.s (.int .i64 0)]) [.arr true 3 1 l])->
      ∃r H,X=rv r H/\r.stab [1,0] H = .tup [.s (.sl (J8 (s.drop p) d 128 0 72 true).1.isEmpty (J8 (s.drop p) d 128 0 72 true).1.isEmpty 1 (Oi (J8 (s.drop p) d 128 0 72 true).1)),.s (.int .i64 ((J8 (s.drop p) d 128 0 72 true).2:Nat))]:=by
     intro p J X t;rcases Bl9 s (by omega) p d (by omega) J with⟨j,n⟩|⟨j,u,n⟩|⟨j,n|⟨u,O,n⟩⟩
     ·refine⟨_,_,t.trans (n _ _ _ _ _),?_⟩;rw[j,Ej,Ew];simp[PV.stab,Nv,Md,PV.snap,Q3,Yu]
     ·refine⟨_,_,t.trans (n _ _ _ _ _),?_⟩;rw[j,Ew];have:(J8 (s.drop p) d 128 0 72 true).1.isEmpty=false:=by
       cases h:(J8 (s.drop p) d 128 0 72 true).1 with
       | nil=>exact absurd h u
       | cons a r=>rfl
      rw[this];rfl
     ·refine⟨_,_,t.trans (n _ _ _ _ _),?_⟩;rw[j];rfl
     ·refine⟨_,_,t.trans (n _ _ _ _ _),?_⟩;rw[j,u];rfl
    by_cases B:m=0
    ·subst B;rw[ac rfl];have:=o 0 (by omega) _ rfl;rw[p4] at this;obtain⟨r,H,v,w⟩:=this;refine⟨r,H,(e _ _ _).trans ?_,w⟩;rw[ae (by simp)];refine(c _ _).trans ?_;rw[x8,E4,g,A5,ab,A5,ab];exact v
    ·rw[ae B];obtain⟨r,H,v,w⟩:=o (m+1) (by omega) _ rfl;refine⟨r,H,(e _ _ _).trans ?_,w⟩;rw[ae (by simp)];refine(c _ _).trans ?_;have j:A1 ((m:Int)+1)=((m+1:Nat):Int):=ah
     rw[x8,E4,g,A5,ab,A7,aa,j];exact v
def Ay{d:LL->Option R}{e:Kcb R}(s:By)(u:s.length<=1000000000)(n i m v c a:Nat)(l:LL)(q:a<m)(r:m<=4)(p:i+a<s.length)(w:v<=100000)(t:0<n) :
  Hh LF n s i m v c a l d e=if 128<=(s.getD (i+a) 0).toNat/\(s.getD (i+a) 0).toNat<=191 then Hh LF (n-1) s i m ((v*64+(s.getD (i+a) 0).toNat-128:Nat):Int) c ((a+1:Nat):Int) l d e else d l:=by
 have o:=(s.getD (i+a) 0).toNat_lt;rcases n with _|n;omega
 rw[Hh];have f:A1 ((i:Int)+a)=((i+a:Nat):Int):=ah
 have g:A1 ((a:Int)+1)=((a+1:Nat):Int):=ah
 rw[A7,f,g,G2,E1];generalize (s.getD (i+a) 0).toNat=b at *;simp only[aa,vl];rw[E0 (n:=(b:Int)) (by omega) (by omega),Nat.add_sub_cancel];by_cases j:b<128
 ·rw[A7,I6];rfl
 ·rw[A5,ab];by_cases k:191<b
  ·rw[A7,I6];rfl
  ·rw[A5,ab,W4];have h:A1 (A1 (A1 ((v:Int)*64)+(b:Int))-128)=((v*64+b-128:Nat):Int):=by
    rw[E0 (n:=(v:Int)*64) (by omega) (by omega),E0 (n:=(v:Int)*64+b) (by omega) (by omega),A4];omega
   rw[h]
def Rq{c:LL->Option R}{b:Kcb R}(s:By)(n i m v a:Nat)(l:LL)(d:0<n) :
  Hh LF n s i m v a m l c b=b s i m v a l:=by
 rcases n with _|n;omega
 rw[Hh];rw[A5];rfl
def Uk{b:LL->Option R}{c:By->Int->LL->Option R}(s:By)(k:s.length<=1000000000)(i m v a:Nat)(P:List Nat)(e:P.length<=1000000000)(f:i+m<=s.length)(l:v<=10000000)(g:m<=4) :
  cond (ltI (v:Int) (a:Int)) (b (C4 P)) (cond (not (ptI v)) (b (C4 P)) (cond (G0 ((C4 P).length+1)) (c s (A1 ((i:Int)+m)) (C4 P++[[SV.int .i64 (v:Int)]])) none)) =
   if a<=v/\Z0 v=true then c s ((i+m:Nat):Int) (C4 (P++[v])) else b (C4 P):=by
 have d:A1 ((i:Int)+m)=((i+m:Nat):Int):=ah
 rw[d,E4,E8 (by omega),Mp,show ptI (v:Int)=Z0 v from rfl];by_cases h:v<a
 ·rw[A7,I6];rfl
 ·rw[A5,ab];cases j:Z0 v with
  | false=>rw[ae (by simp)];rfl
  | true=>rw[ac ⟨by omega,rfl⟩];rfl
def Ck1{d:LL->Option R}{f:By->Int->LL->Option R}(s:By)(e:s.length<=1000000000)(i v a:Nat)(P:List Nat)(k:P.length<=1000000000)(m:i<s.length)(n:v<=32) :
  Fo LF s i 2 v a (C4 P) d f=if 2<=s.length-i/\128<=(s.getD (i+1) 0).toNat/\(s.getD (i+1) 0).toNat<=191 then
   (if a<=v*64+(s.getD (i+1) 0).toNat-128/\Z0 (v*64+(s.getD (i+1) 0).toNat-128)=true then f s ((i+2:Nat):Int) (C4 (P++[v*64+(s.getD (i+1) 0).toNat-128])) else d (C4 P)) else d (C4 P):=by
 have l:=(s.getD (i+1) 0).toNat_lt;have j:=C9;unfold Fo;have g:A1 ((s.length:Int)-i)=((s.length-i:Nat):Int):=by rw[A4];omega
 rw[g];simp only[vl];by_cases h:s.length-i<2
 ·rw[A7,I6];rfl
 ·rw[A5,ab];refine j9 (Ay s e LF i 2 v a 1 (C4 P) (by omega) (by omega) (by omega) (by omega) (by omega)) ?_;generalize (s.getD (i+1) 0).toNat=b at *;by_cases c:128<=b/\b<=191
  ·rw[ac c,ac ⟨by omega,c⟩];refine j9 (Rq s (LF-1) i 2 _ a (C4 P) (by omega)) ?_;exact Uk s e i 2 _ a P k (by omega) (by omega) (by omega)
  ·rw[ae c,ae (λh=>c h.2)]
def Ck2{e:LL->Option R}{f:By->Int->LL->Option R}(s:By)(d:s.length<=1000000000)(i v a:Nat)(P:List Nat)(k:P.length<=1000000000)(n:i<s.length)(o:v<=32) :
  Fo LF s i 3 v a (C4 P) e f=if 3<=s.length-i/\(128<=(s.getD (i+1) 0).toNat/\(s.getD (i+1) 0).toNat<=191)/\(128<=(s.getD (i+2) 0).toNat/\(s.getD (i+2) 0).toNat<=191) then
   (if a<=(v*64+(s.getD (i+1) 0).toNat-128)*64+(s.getD (i+2) 0).toNat-128/\Z0 ((v*64+(s.getD (i+1) 0).toNat-128)*64+(s.getD (i+2) 0).toNat-128)=true then f s ((i+3:Nat):Int) (C4 (P++[(v*64+(s.getD (i+1) 0).toNat-128)*64+(s.getD (i+2) 0).toNat-128])) else e (C4 P)) else e (C4 P):=by
 have m:=(s.getD (i+1) 0).toNat_lt;have l:=(s.getD (i+2) 0).toNat_lt;have j:=C9;unfold Fo;have g:A1 ((s.length:Int)-i)=((s.length-i:Nat):Int):=by rw[A4];omega
 rw[g];simp only[vl];by_cases h:s.length-i<3
 ·rw[A7,I6];rfl
 ·rw[A5,ab];refine j9 (Ay s d LF i 3 v a 1 (C4 P) (by omega) (by omega) (by omega) (by omega) (by omega)) ?_;by_cases b:128<=(s.getD (i+1) 0).toNat/\(s.getD (i+1) 0).toNat<=191
  ·rw[ac b];refine j9 (Ay s d (LF-1) i 3 _ a 2 (C4 P) (by omega) (by omega) (by omega) (by omega) (by omega)) ?_;by_cases c:128<=(s.getD (i+2) 0).toNat/\(s.getD (i+2) 0).toNat<=191
   ·rw[ac c,ac ⟨by omega,b,c⟩];refine j9 (Rq s (LF-2) i 3 _ a (C4 P) (by omega)) ?_;exact Uk s d i 3 _ a P k (by omega) (by omega) (by omega)
   ·rw[ae c,ae (λh=>c h.2.2)]
  ·rw[ae b,ae (λh=>b h.2.1)]
def Ck3{f:LL->Option R}{g:By->Int->LL->Option R}(s:By)(e:s.length<=1000000000)(i v a:Nat)(P:List Nat)(l:P.length<=1000000000)(p:i<s.length)(q:v<=20) :
  Fo LF s i 4 v a (C4 P) f g=if 4<=s.length-i/\(128<=(s.getD (i+1) 0).toNat/\(s.getD (i+1) 0).toNat<=191)/\(128<=(s.getD (i+2) 0).toNat/\(s.getD (i+2) 0).toNat<=191)/\(128<=(s.getD (i+3) 0).toNat/\(s.getD (i+3) 0).toNat<=191) then
   (if a<=((v*64+(s.getD (i+1) 0).toNat-128)*64+(s.getD (i+2) 0).toNat-128)*64+(s.getD (i+3) 0).toNat-128/\Z0 (((v*64+(s.getD (i+1) 0).toNat-128)*64+(s.getD (i+2) 0).toNat-128)*64+(s.getD (i+3) 0).toNat-128)=true then g s ((i+4:Nat):Int) (C4 (P++[((v*64+(s.getD (i+1) 0).toNat-128)*64+(s.getD (i+2) 0).toNat-128)*64+(s.getD (i+3) 0).toNat-128])) else f (C4 P)) else f (C4 P):=by
 have o:=(s.getD (i+1) 0).toNat_lt;have m:=(s.getD (i+2) 0).toNat_lt;have n:=(s.getD (i+3) 0).toNat_lt;have k:=C9;unfold Fo;have j:A1 ((s.length:Int)-i)=((s.length-i:Nat):Int):=by rw[A4];omega
 rw[j];simp only[vl];by_cases h:s.length-i<4
 ·rw[A7,I6];rfl
 ·rw[A5,ab];refine j9 (Ay s e LF i 4 v a 1 (C4 P) (by omega) (by omega) (by omega) (by omega) (by omega)) ?_;by_cases b:128<=(s.getD (i+1) 0).toNat/\(s.getD (i+1) 0).toNat<=191
  ·rw[ac b];refine j9 (Ay s e (LF-1) i 4 _ a 2 (C4 P) (by omega) (by omega) (by omega) (by omega) (by omega)) ?_;by_cases c:128<=(s.getD (i+2) 0).toNat/\(s.getD (i+2) 0).toNat<=191
   ·rw[ac c];refine j9 (Ay s e (LF-2) i 4 _ a 3 (C4 P) (by omega) (by omega) (by omega) (by omega) (by omega)) ?_;by_cases d:128<=(s.getD (i+3) 0).toNat/\(s.getD (i+3) 0).toNat<=191
    ·rw[ac d,ac ⟨by omega,b,c,d⟩];refine j9 (Rq s (LF-3) i 4 _ a (C4 P) (by omega)) ?_;exact Uk s e i 4 _ a P l (by omega) (by omega) (by omega)
    ·rw[ae d,ae (λh=>d h.2.2.2)]
   ·rw[ae c,ae (λh=>c h.2.2.1)]
  ·rw[ae b,ae (λh=>b h.2.1)]
def Bn5{a:Kbh R}(n:Nat)(b:0<n)(s:By)(i v:Int)(l:LL):Zn LF n s i v l a=a s i v l:=by
 rcases n with _|n;omega
 rw[Zn]
def Bm9{a:LL->Option R}{b:By->Int->LL->Option R}(s:By)(e:s.length<=1000000000)(i v:Nat)(P:List Nat)(d:P.length<=1000000000)(f:i<s.length)(g:v<128) :
  Zm LF s i v (C4 P) a b=b s ((i+1:Nat):Int) (C4 (P++[v])):=by
 unfold Zm;have c:A1 ((s.length:Int)-i)=((s.length-i:Nat):Int):=by rw[A4];omega
 rw[c];simp only[vl];rw[A5,ab];refine j9 (show _=cond (ltI (v:Int) ((0:Nat):Int)) (a (C4 P)) (cond (not (ptI v)) (a (C4 P)) (cond (G0 ((C4 P).length+1)) (b s (A1 ((i:Int)+(1:Nat))) (C4 P++[[SV.int .i64 (v:Int)]])) none)) from Bn5 LF (by have:=C9;omega) _ _ _ _) ?_;rw[Uk s e i 1 v 0 P d (by omega) (by omega) (by omega),ac];refine⟨ad4 _,?_⟩;simp only[Z0,p5,ad5,p7,Nat.blt_eq];omega
def C09{v:Nat}(h:v<2048):Z0 v=true:=by simp only[Z0,p5,ad5,p7,Nat.blt_eq];omega
def Bn8{k0 k1:LL->Option R}(s:By)(h:s.length<=1000000000)(n i:Nat)(P:List Nat)(d:P.length<=1000000000)(f:i<s.length) :
  Az LF (n+1) s i (C4 P) k0 k1=if (w6 (s.drop i)).1=65533/\(w6 (s.drop i)).2=1 then k0 (C4 P) else Az LF n s ((i+(w6 (s.drop i)).2:Nat):Int) (C4 (P++[(w6 (s.drop i)).1])) k0 k1:=by
 have g:∀k,(s.drop i).getD k 0=s.getD (i+k) 0:=λk=>by grind
 have r:w6 (s.drop i)=y7 (s.length-i) (s.getD i 0).toNat (s.getD (i+1) 0).toNat (s.getD (i+2) 0).toNat (s.getD (i+3) 0).toNat:=by
  rw[Lib.decodeL_N,g,g,g,g,p6];rfl
 have v:=(s.getD i 0).toNat_lt;have j:=(s.getD (i+1) 0).toNat_lt;have m:=(s.getD (i+2) 0).toNat_lt;have t:=(s.getD (i+3) 0).toNat_lt;rw[r];rw[Az,A7,G2,E1,E0 (n:=((s.getD i 0).toNat:Int)) (by omega) (by omega)];simp only[aa];generalize (s.getD i 0).toNat=b at *;by_cases l:b<128
 ·rw[A7,aa];have e:y7 (s.length-i) b (s.getD (i+1) 0).toNat (s.getD (i+2) 0).toNat (s.getD (i+3) 0).toNat=(b,1):=by unfold y7;rw[ac l]
  rw[e];simp only;rw[I6];exact Bm9 s h i b P d f l
 ·rw[D8 (show(128:Int)<=b by omega),ab];by_cases u:b<194
  ·rw[C5 (show(b:Int)<194 by omega)];have e:y7 (s.length-i) b (s.getD (i+1) 0).toNat (s.getD (i+2) 0).toNat (s.getD (i+3) 0).toNat=(65533,1):=by
    unfold y7;grind
   rw[e,ac ⟨rfl,rfl⟩];simp only[j8,ab];unfold Pb;unfold Pa;rw[ab,C5 (show(b:Int)<224 by omega),C5 (show(b:Int)<240 by omega)];rfl
  ·rw[D8 (show(194:Int)<=b by omega)];simp only[j5,aa];by_cases o:b<224
   ·rw[C5 (show(b:Int)<224 by omega)];unfold Pb;have c:A1 ((b:Int)-192)=((b-192:Nat):Int):=by rw[A4];omega
    rw[aa,c,Eh4 _ _ _ _ _ ⟨by omega,o⟩ j];simp only[vl];refine j9 (Ck1 s h i (b-192) 128 P d f (by omega)) ?_;by_cases a:2<=s.length-i/\128<=(s.getD (i+1) 0).toNat/\(s.getD (i+1) 0).toNat<=191
    ·rw[ac a,ac a];simp only;rw[ac ⟨by omega,C09 (by omega)⟩,I6]
    ·rw[ae a,ae a,ac ⟨rfl,rfl⟩]
   ·rw[D8 (show(224:Int)<=b by omega)];unfold Pb;rw[ab,D8 (show(224:Int)<=b by omega)];simp only[j5,aa];by_cases p:b<240
    ·rw[C5 (show(b:Int)<240 by omega)];unfold Pa;have c:A1 ((b:Int)-224)=((b-224:Nat):Int):=by rw[A4];omega
     rw[aa,c,Eh5 _ _ _ _ _ ⟨by omega,p⟩ j m];simp only[vl];refine j9 (Ck2 s h i (b-224) 2048 P d f (by omega)) ?_;by_cases a:3<=s.length-i/\(128<=(s.getD (i+1) 0).toNat/\(s.getD (i+1) 0).toNat<=191)/\(128<=(s.getD (i+2) 0).toNat/\(s.getD (i+2) 0).toNat<=191)
     ·rw[ac a,ac a];split
      ·simp only;rw[I6]
      ·rw[ac ⟨rfl,rfl⟩]
     ·rw[ae a,ae a,ac ⟨rfl,rfl⟩]
    ·rw[D8 (show(240:Int)<=b by omega)];unfold Pa;rw[ab,D8 (show(240:Int)<=b by omega)];simp only[j5,aa];by_cases q:b<245
     ·rw[C5 (show(b:Int)<245 by omega),aa];have c:A1 ((b:Int)-240)=((b-240:Nat):Int):=by rw[A4];omega
      rw[c,Eh6 _ _ _ _ _ ⟨by omega,q⟩ j m t];simp only[vl];refine j9 (Ck3 s h i (b-240) 65536 P d f (by omega)) ?_;by_cases a:4<=s.length-i/\(128<=(s.getD (i+1) 0).toNat/\(s.getD (i+1) 0).toNat<=191)/\(128<=(s.getD (i+2) 0).toNat/\(s.getD (i+2) 0).toNat<=191)/\(128<=(s.getD (i+3) 0).toNat/\(s.getD (i+3) 0).toNat<=191)
      ·rw[ac a,ac a];split
       ·simp only;rw[I6]
       ·rw[ac ⟨rfl,rfl⟩]
      ·rw[ae a,ae a,ac ⟨rfl,rfl⟩]
     ·rw[D8 (show(245:Int)<=b by omega),ab];have e:y7 (s.length-i) b (s.getD (i+1) 0).toNat (s.getD (i+2) 0).toNat (s.getD (i+3) 0).toNat=(65533,1):=by
       unfold y7;grind
      rw[e,ac ⟨rfl,rfl⟩]
def Ck4(s:By)(k:s.length<=1000000000):∀(r i n:Nat) (P:List Nat),i+r=s.length->r<n->P.length<=i->
  (Ey (s.drop i)=none->∃l,∀(R:Type) (k0 k1:LL->Option R),Az LF n s i (C4 P) k0 k1=k0 l)/\
  (∀q,Ey (s.drop i)=some q->∀(R:Type) (k0 k1:LL->Option R),Az LF n s i (C4 P) k0 k1=k1 (C4 (P++q))):=by
 intro r
 induction r using ad7 with
 | _ r o=>
  intro i n P v w u;rcases n with _|n;omega
  by_cases j:i<s.length
  ·have d:s.drop i≠[]:=by rw[ne_eq,<-o6,p6];omega
   have c:=λ(R:Type) (k0 k1:LL->Option R)=>Bn8 (k0:=k0) (k1:=k1) s k n i P (by omega) j
   have x:=Lib.decodeL_width (s.drop i);have g:=Lib.decodeL_le (s.drop i) d;rw[p6] at g;rw[Ch1 _ d];by_cases a:(w6 (s.drop i)).1=65533/\(w6 (s.drop i)).2=1
   ·rw[ac a];refine⟨λ_=>⟨C4 P,λR k0 k1=>?_⟩,λq b=>by cases b⟩;refine(c R k0 k1).trans ?_;rw[ac a]
   ·rw[ae a,ad9];obtain⟨w1,t⟩:=o (r-(w6 (s.drop i)).2) (by omega) (i+(w6 (s.drop i)).2) n (P++[(w6 (s.drop i)).1]) (by omega) (by omega) (by rw[j7,v7];omega);constructor
    ·intro h;cases b:Ey (s.drop (i+(w6 (s.drop i)).2)) with
     | some q=>rw[b] at h;cases h
     | none=>
      obtain⟨l,e⟩:=w1 b;refine⟨l,λR k0 k1=>?_⟩;refine(c R k0 k1).trans ?_;rw[ae a];exact e R k0 k1
    ·intro q h R k0 k1;cases b:Ey (s.drop (i+(w6 (s.drop i)).2)) with
     | none=>rw[b] at h;cases h
     | some p=>
      rw[b] at h;simp only[x4,o0] at h;subst h;refine(c R k0 k1).trans ?_;rw[ae a];refine(t p b R k0 k1).trans ?_;rw[w9];rfl
  ·have f:s.drop i=[]:=by rw[<-o6,p6];omega
   have e:∀(R:Type) (k0 k1:LL->Option R),Az LF (n+1) s i (C4 P) k0 k1=k1 (C4 P):=λR k0 k1=>by
    rw[Az];rw[A5];rfl
   rw[f,show Ey []=some [] from rfl];refine⟨λh=>(by cases h),λq b R k0 k1=>?_⟩;simp only[o0] at b;subst b;rw[ab7];exact e R k0 k1
def Dt4(s:By)(d:A2 s.length=true):∃r H,Dt1 LF s (λa=>rv (.tup [.fl 1,.s (.bool false)]) [.arr true 3 1 a,.arr true 3 1 []]) (λa=>rv (.tup [.fl 0,.s (.bool true)]) [.arr true 3 1 a])=rv r H/\
  r.stab [1,0] H = .tup [.s (.sl (Ut s).isEmpty (Ut s).isEmpty 1 (Oi (Ut s))),.s (.bool (Ey s).isSome)]:=by
 have f:=L4 d;obtain⟨w1,c⟩:=Ck4 s f s.length 0 LF [] (by omega) (by have:=C9;omega) (ad4 _);rw[p4] at w1 c;unfold Ut;cases b:Ey s with
 | none=>
  obtain⟨l,e⟩:=w1 b;exact⟨_,_,e _ _ _,rfl⟩
 | some q=>
  refine⟨_,_,c q b _ _ _,?_⟩;cases q<;>rfl
def Bm6{a:Unit->Option R}{d:Kdc R}(s:By)(z:Bool)(p:List Nat)(t:p.length<=1000000000):∀(r i n:Nat) (b:Bool),i+r=p.length->r<n->
  Ap LF n s z (C4 p) b (i:Int) a d=if (p.drop i).any (λp=>v8 65 p&&v8 p 90) then a () else d s z (C4 p) (b||((p.drop i).any λp=>v8 128 p)):=by
 intro r
 induction r with
 | zero=>
  intro i n b h j;rcases n with _|n;omega
  rw[Ap];rw[E4,A5,j4 (by omega)];simp
 | succ r k=>
  intro i n b h j;rcases n with _|n;omega
  rw[Ap];have f:A1 ((i:Int)+1)=((i+1:Nat):Int):=ah
  have g:p.drop i=p.getD i 0::p.drop (i+1):=by
   rw[k9,o7 (by omega),x9,aa1]
  rw[E4,A7,G2,j0,Tq (by omega),CX _ _ (by omega),g,ac6,ac6,f];simp only[aa];generalize p.getD i 0=q;have go:∀c:Bool,Ap LF n s z (C4 p) c ((i+1:Nat):Int) a d=_:=λc=>k (i+1) n c (by omega) (by omega)
  simp only[go];by_cases l:q<65
  ·rw[show ltI (q:Int) (65:Int)=true from A7,show v8 65 q=false by rw[s8,ne_eq,p7];omega];have e:v8 128 q=false:=by rw[s8,ne_eq,p7];omega
   rw[show ltI (q:Int) (128:Int)=true from A7,e];cases b<;>simp
  ·rw[show ltI (q:Int) (65:Int)=false from A5,show v8 65 q=true by rw[p7];omega];by_cases e:90<q
   ·rw[show ltI (90:Int) (q:Int)=true from A7,show v8 q 90=false by rw[s8,ne_eq,p7];omega];by_cases o:q<128
    ·rw[show ltI (q:Int) (128:Int)=true from A7,show v8 128 q=false by rw[s8,ne_eq,p7];omega];cases b<;>simp
    ·rw[show ltI (q:Int) (128:Int)=false from A5,show v8 128 q=true by rw[p7];omega];cases b<;>simp
   ·rw[show ltI (90:Int) (q:Int)=false from A5,show v8 q 90=true by rw[p7];omega];cases b<;>simp
def Bm7{a:Bool->Option R}(s:By)(b:A2 s.length=true):B63 LF s a=a (Fl s):=by
 have c:=C9;unfold B63 Fl;rw[b,aa];simp only[vl];by_cases h:(P6 s).2=0
 ·have e:(((P6 s).2:Int)!=(0:Int))=false:=by rw[h];rfl
  rw[e,ab,Ew,h];have g:=Ao5 s;refine j9 (Bm6 s _ (P6 s).1 (by omega) (P6 s).1.length 0 LF false (by omega) (by omega)) ?_;rw[p4];cases d:(P6 s).1.any (λp=>v8 65 p&&v8 p 90) with
  | true=>simp
  | false=>
   rw[ae (by simp),Fi,Xz,Yb];simp only[aa,vl,ae4,j5];by_cases f:(El (P6 s).1).2=0;all_goals grind
 grind
def Bk5{g:Unit->Option R}{j:By->Option R}(s:By)(v:s.length<=1000000000):∀(r i n:Nat),i+r=s.length->r<n->
  Q1 LF n s (i:Int) g j=if (s.drop i).all X7 then j s else g ():=by
 intro r
 induction r with
 | zero=>
  intro i n l c;rcases n with _|n;omega
  rw[Q1];rw[A5,j4 (by omega)];rfl
 | succ r o=>
  intro i n l c;rcases n with _|n;omega
  rw[Q1];have k:A1 ((i:Int)+1)=((i+1:Nat):Int):=ah
  rw[A7,G2,E1,E6 s i (by omega),k,ab0];simp only[aa];rw[o (i+1) n (by omega) (by omega)];generalize s.getD i 0=b;have f:=Ri b;have t:((b.toNat:Int)==45)=(b==45):=T7 b 45 (by omega);have u:((b.toNat:Int)==95)=(b==95):=T7 b 95 (by omega);rw[t,u];cases a:X7 b with
  | true=>
   rw[f] at a;simp only[y5];by_cases d:b=45
   ·subst d;simp (disch:=decide) [ltI]
   ·by_cases e:b=95
    ·subst e;simp (disch:=decide) [ltI]
    ·rcases a with a|a|a|a
     ·rw[show ltI (b.toNat:Int) 97=false from A5,show ltI (122:Int) b.toNat=false from A5];rfl
     ·rw[show ltI (b.toNat:Int) 97=true from A7,show ltI (b.toNat:Int) 48=false from A5,show ltI (57:Int) b.toNat=false from A5];rfl
     ·exact absurd a d
     ·exact absurd a e
  | false=>
   have c:¬((97<=b.toNat/\b.toNat<=122)\/(48<=b.toNat/\b.toNat<=57)\/b=45\/b=95):=λh=>by rw[f.2 h] at a;cases a
   have p:(b==45)=false:=by simpa using λh=>c (.inr (.inr (.inl h)))
   have q:(b==95)=false:=by simpa using λh=>c (.inr (.inr (.inr h)))
   rw[p,q];simp only[j5,aa,ab,Bool.false_and,ac7,if_false];by_cases d:b.toNat<48
   ·rw[show ltI (b.toNat:Int) 97=true from A7,show ltI (b.toNat:Int) 48=true from A7];rfl
   ·by_cases e:b.toNat<97
    ·rw[show ltI (b.toNat:Int) 97=true from A7,show ltI (b.toNat:Int) 48=false from A5,show ltI (57:Int) b.toNat=true from A7];rfl
    ·rw[show ltI (b.toNat:Int) 97=false from A5,show ltI (122:Int) b.toNat=true from A7,show ltI (b.toNat:Int) 48=false from A5,show ltI (57:Int) b.toNat=true from A7];rfl
def C95(s:By)(h:4<=s.length):(s.take 4==([120,110,45,45]:By))=xnB.isPrefixOf s:=by
 match s,h with
 | a::b::c::d::t,_=>
  simp only[List.take_succ_cons,List.take_zero,xnB,List.isPrefixOf,ac5];rw[show((a::b::c::d::[])==([120,110,45,45]:By))=(a==120&&(b==110&&(c==45&&(d==45&&true)))) from rfl,ac5];rw[aa6];simp only[p5,beq_iff_eq];exact⟨λh=>⟨h.1.symm,h.2.1.symm,h.2.2.1.symm,h.2.2.2.symm⟩,λh=>⟨h.1.symm,h.2.1.symm,h.2.2.1.symm,h.2.2.2.symm⟩⟩
def Bk6{c:Bool->Option R}(s:By)(e:A2 s.length=true):B59 LF s c=c (N5 s):=by
 have k:=L4 e;have i:=C9;unfold B59 N5;by_cases a:s=[]
 ·grind
 ·have r:0<s.length:=x5.2 a;have j:s.isEmpty=false:=by simpa using a
  have b:(s==([]:By))=false:=by simpa using a
  rw[b,ab,j];by_cases n:63<s.length
  ·rw[A7,show v8 s.length 63=false by rw[s8,ne_eq,p7];omega];rfl
  ·rw[A5,ab,show v8 s.length 63=true by rw[p7];omega,G2];have m:(bAt s 0==(45:Int))=(s.getD 0 0==45):=by rw[Bk];exact T7 _ 45 (by omega)
   have d:A1 ((s.length:Int)-1)=((s.length-1:Nat):Int):=by rw[A4];omega
   rw[m,d];simp only[aa,vl];rw[G2,E1,show((((s.getD (s.length-1) 0).toNat:Nat):Int)==45)=(s.getD (s.length-1) 0==45) from T7 _ 45 (by omega)];cases f:(s.getD 0 0==45) with
   | true=>
    grind
   | false=>
    rw[show(s.getD 0 0 !=45)=true by unfold bne;rw[f];rfl];simp only[aa,ab];cases g:(s.getD (s.length-1) 0==45) with
    | true=>
     grind
    | false=>
     rw[show(s.getD (s.length-1) 0 !=45)=true by unfold bne;rw[g];rfl];simp only[ab];refine j9 (Bk5 s k s.length 0 LF (by omega) (by omega)) ?_;rw[p4];cases o:s.all X7 with
     | false=>simp
     | true=>
      rw[ac rfl];simp only[j5,y5,ac5];by_cases p:s.length<4
      ·rw[A7];have:xnB.isPrefixOf s=false:=by
        rw[s8,ne_eq,List.isPrefixOf_iff_prefix];intro h;have:=h.length_le;simp only[xnB,o9,p9] at this;omega
       grind
      ·rw[A5,ab,K2,aa,M8];have l:(ae8 (x3 4) s==([120,110,45,45]:By))=xnB.isPrefixOf s:=C95 s (by omega);rw[l];cases q:xnB.isPrefixOf s with
       | false=>rfl
       | true=>
        rw[K2,R7];simp only[j8,ab,aa];rw[D5 (by rw[p6];omega)];rfl
def Bk3{h:By->Int->Option R}(s:By)(c:A2 s.length=true):B58 LF s h=h (K9 s).1 ((K9 s).2:Nat):=by
 have m:=L4 c;have j:=C9;unfold B58 K9;rw[c,aa];cases f:Ey s with
 | none=>rfl
 | some p=>
  have hN:(Ut s)=p:=by unfold Ut;rw[f];rfl
  rw[hN,Ew,E4];simp only[ac8,j8,ab,aa];by_cases d:256<p.length
  ·rw[ac d,A7];rfl
  ·rw[ae d,A5,ab,D5 (by rw[Cu];exact m)];by_cases e:p.length<s.length
   ·rw[ac e,A7];have a:=Au3 (l:=s) (by rw[f];rfl);cases g:Ey (C6 s) with
    | none=>rw[g] at a;cases a
    | some q=>
     have b:Ut (C6 s)=q:=by unfold Ut;rw[g];rfl
     have k:=Ap3 q;rw[b,Ew,Fi,Xz,Yb];simp only[aa,vl];rw[I1 (by omega),aa,D5 (by rw[j7];simp only[o9,p9];omega),aa];by_cases i:(El q).2=0
     ·rw[i,ac rfl];show cond (not (N5 (xnB++(El q).1))) _ _=_;cases n:N5 (xnB++(El q).1) with
      | true=>rfl
      | false=>rfl
     grind
   ·rw[ae e,A5];grind
section
variable {W R : Type} (L : Nat) (Q : G1) (Y : Yh W) (s : W) (k : Out -> St W -> Option R)
noncomputable def D20(L:Nat):=mkC L 147 [] [(7,[2]),(2,[2]),(4,[2]),(6,[2]),(5,[0,23]),(3,[0,12]),(1,[0,2]),(0,[0])] [(0,[])] [2]
def Bj9(a:Int)(h:Bool)(f:Int->Option R)(g:Int->Bool->Option R):Option R:=cond h (vl (A1 (wu8 (a-97))) λb=>vl (A1 (b+10)) λc=>f c) (cond (not (ltI a 65)) (cond (not (ltI 70 a)) (vl (A1 (wu8 (a-65))) λd=>vl (A1 (d+10)) λe=>f e) (g a (not (ltI 70 a)))) (g a false))
def Bk0(b:Int)(l:Bool)(f:Int->Option R)(j:Int->Bool->Option R):Option R:=cond l (vl (A1 (wu8 (b-48))) λg=>f g) (cond (not (ltI b 97)) (Bj9 b (not (ltI 102 b)) (λh=>f h) (λc d=>j c d)) (Bj9 b false (λi=>f i) (λe a=>j e a)))
def rhx(L:Nat)(c:Int)(d:Int->Option R):Option R:=cond (not (ltI c 48)) (Bk0 c (not (ltI 57 c)) (λa=>d a) (λe f=>d (-1))) (Bk0 c false (λb=>d b) (λg h=>d (-1)))
def D76(d:Nat)(b0):evC (D20 L) (d+1) W Y 147 [p8 b0] [] s=rhx L b0 (λa=>some (pI a,[],s)):=evT Tryz.f147 λQ=>by
 unfold rhx;kernel_rfl
noncomputable abbrev Bx5:Code:=D7 ae9
noncomputable def So(L:Nat):=mkC L 110 [(3,[0,1,0,0,0])] [(11,[2,0]),(4,[0,3,0]),(10,[0,3,0]),(9,[0,3,0]),(8,[2,0]),(7,[0,3,0,36]),(6,[0,3,0]),(5,[0,3,0,9]),(3,[0,3,0,3]),(2,[0,3,0]),(1,[0,3]),(0,[0])] [(0,[4]),(1,[0,3,0])] [2,0] [(147,D08)] [147]
def R3(L n:Nat)(b:By)(a:Int)(c:LL)(d:LL->Option R)(j:LL->Option R):Option R:=match n with|0=>none|n+1=>cond (ltI a (b.length:Int)) (cond (inR a b.length) (cond ((bAt b a)!=37) (cond (inR a b.length) (cond (G0 (c.length+1)) (R3 L n b (A1 (a+1)) (c++[[(SV.int .u8 (bAt b a))]]) d j) none) none) (vl (A1 ((b.length:Int)-a)) λl=>cond (ltI l 3) (d c) (cond (inR (A1 (a+1)) b.length) (vl (bAt b (A1 (a+1))) λf=>cond (inR f 256) (cond (ltI (Gq (u8n f)) (0:Int)) (d c) (cond (inR (A1 (a+2)) b.length) (vl (bAt b (A1 (a+2))) λg=>cond (inR g 256) (cond (ltI (Gq (u8n g)) (0:Int)) (d c) (cond (inR (A1 (a+1)) b.length) (vl (bAt b (A1 (a+1))) λh=>cond (inR h 256) (vl (A1 ((16:Int)*(Gq (u8n h)))) λm=>cond (inR (A1 (a+2)) b.length) (vl (bAt b (A1 (a+2))) λi=>cond (inR i 256) (vl (A1 (m+(Gq (u8n i)))) λo=>cond (G0 (c.length+1)) (vl (A1 ((A1 (a+2))+1)) λe=>R3 L n b e (c++[[(SV.int .u8 (wu8 o))]]) d j) none) none) none) none) none)) none) none)) none) none))) none) (j c)
def Av4(n s0 i1 l2):D4 1 ((So L).keep 3) (bd (So L) Q Y (cd [1,1,0,1,0,0] Bx5)) n ⟨gp [(0,pS s0),(3,.fl 0),(0,pI i1)] 57,[.arr true 5 1 l2],s⟩ k =
 R3 L n s0 i1 l2 (λa=>k .ret ⟨gp [(2,pS ([]:By)),(0,pB false)] 59,[.arr true 5 1 a],s⟩) (λa=>k (.exit 0) ⟨gp [(4,.fl 0)] 58,[.arr true 5 1 a],s⟩):=by
 induction n generalizing s0 i1 l2 with
 | zero=>rfl
 | succ n b=>rw[R3];simp only[<-b];kernel_rfl
def B53(L:Nat)(d:By)(c:By->Bool->LL->Option R):Option R:=R3 L L d 0 [] (λb=>c ([]:By) false b) (λa=>cond (aa0 a Qh) (c (aa3 Nu a) true a) none)
def C51(d:Nat)(s0):evC (So L) (d+1) W Y 110 [pS s0] [] s=B53 L s0 (λb c a=>some (.tup [pS b,pB c],[.arr true 5 1 a],s)):=evT ae9 λQ=>by
 unfold B53;exact(j9 (by kernel_rfl) (ag (Av4 L Q Y s (F2 0 (F6 (So L) Q Y (cd [1,1,1] Bx5) (I8 (So L) ae9))) L s0 0 [])))
noncomputable abbrev Cu4:Code:=D7 af9
noncomputable def CL(L:Nat):=mkC L 80 [(5,[2,0,0])] [(9,[2]),(6,[3,0]),(8,[2]),(7,[3,0,24]),(5,[3,0,16]),(4,[3,0]),(3,[3]),(2,[2]),(1,[0,14]),(0,[0])] [(0,[]),(1,[3,0])] [2] [(111,Vn),(75,Fp),(115,WN)] [111,115]
def Ox(L n:Nat)(b:LL)(a:Int)(c:Unit->Option R)(d:Unit->Option R):Option R:=match n with|0=>none|n+1=>cond (ltI a (b.length:Int)) (cond (inR a b.length) (cond (okE Aa b (x3 a) 0) (cond (A2 (w8 (gX b (x3 a) 0))) (cond (not (N5 (gX b (x3 a) 0))) (c ()) (Ox L n b (A1 (a+1)) c d)) none) none) none) (d ())
def Bj8(n p0 i1):D4 0 ((CL L).keep 5) (bd (CL L) Q Y (cd [1,1,1,0,1,0,0] Cu4)) n ⟨gp [(3,.s (.sl false false 1 p0)),(0,pI i1)] 25,[],s⟩ k =
 Ox L n p0 i1 (λ_=>k .ret ⟨gp [(2,pB false)] 27,[],s⟩) (λ_=>k (.exit 0) ⟨gp [] 30,[],s⟩):=by
 induction n generalizing p0 i1 with
 | zero=>rfl
 | succ n a=>rw[Ox];simp only[<-a];kernel_rfl
def Ds4(L:Nat)(a:By)(b:Bool->Option R):Option R:=cond (a==[]) (b false) (cond (ltI 253 (a.length:Int)) (b false) (cond (A2 a.length) (cond (I7 a) (b false) (cond (A2 a.length) (vl (A9 (pcs (u8n (46:Int)) a)) λc=>Ox L L c 0 (λ_=>b false) (λ_=>b true)) none)) none))
def Ds5(d:Nat)(name0):evC (CL L) (d+1) W Y 80 [pS name0] [] s=Ds4 L name0 (λb=>some (pB b,[],s)):=evT af9 λQ=>by
 unfold Ds4;exact(j9 (by kernel_rfl) (A0 rfl (A0 rfl (A0 (A0 rfl (A0 (A6 λa=>(ag (Bj8 L Q Y s (F2 0 (F6 (CL L) Q Y (cd [1,1,1,1] Cu4) (I8 (CL L) af9))) L a 0))) rfl)) rfl))))
noncomputable def B00(L:Nat):=mkC L 40 [] [(9,[2]),(4,[2]),(6,[2]),(8,[2]),(7,[1,32]),(5,[1,1,2,16]),(3,[1,1,2,0]),(2,[1,1,2]),(1,[1,1]),(0,[1])] [(0,[])] [2] [(80,A63)] [80]
def C57(L:Nat)(c:Int)(b:By)(d e f g h i j l a:Int)(m:Kcd R):Option R:=cond (c==1) (cond (A2 b.length) (cond (W9 b) (cond (d==0) (m ((e==0)&&((f==0)&&((g==0)&&((h==0)&&((i==0)&&((j==0)&&((l==0)&&((a==0)&&true)))))))) c b d e f g h i j l a (s9 8 [(SV.int .u16 0)])) (m false c b d e f g h i j l a (s9 8 [(SV.int .u16 0)]))) (m false c b d e f g h i j l a (s9 8 [(SV.int .u16 0)]))) none) (cond (c==2) (cond (b==[]) (m ((e==0)&&((f==0)&&((g==0)&&((h==0)&&((i==0)&&((j==0)&&((l==0)&&((a==0)&&true)))))))) c b d e f g h i j l a (s9 8 [(SV.int .u16 0)])) (m false c b d e f g h i j l a (s9 8 [(SV.int .u16 0)]))) (cond (c==3) (cond (b==[]) (m (d==0) c b d e f g h i j l a (s9 8 [(SV.int .u16 0)])) (m false c b d e f g h i j l a (s9 8 [(SV.int .u16 0)]))) (m false c b d e f g h i j l a (s9 8 [(SV.int .u16 0)]))))
def C58(d:Nat)(h0 h1 h2 h3 h4 h5 h6 h7 h8 h9 h10):evC (B00 L) (d+1) W Y 40 [.agg [pI h0,pS h1,p32 h2,p16 h3,p16 h4,p16 h5,p16 h6,p16 h7,p16 h8,p16 h9,p16 h10]] [] s=C57 L h0 h1 h2 h3 h4 h5 h6 h7 h8 h9 h10 (λn f o g h i j l e m b c a=>some (pB n,[.box [pI f,pS o,p32 g,p16 h,p16 i,p16 j,p16 l,p16 e,p16 m,p16 b,p16 c],.arr false 38 1 a],s)):=evT Tryz.f40 λQ=>by
 unfold C57;kernel_rfl
noncomputable def Bz9(L:Nat):=mkC L 23 [] [(8,[2]),(5,[2]),(7,[2]),(6,[1,10]),(4,[1,5,0]),(3,[1,5]),(2,[2]),(1,[1,3]),(0,[1])] [(0,[1])] [2] [(40,WK),(41,Cs3),(42,Cs5)] [40,41,42]
def C54(L:Nat)(j:Int)(l:By)(b c d e f g h i a:Int)(o:Kch R):Option R:=cond (A2 l.length) (cond (ltN b 4294967296) (cond (ok8 c d e f g h i a) (cond (not (P3 (mkH j l b (n8 c d e f g h i a)))) (o ([]:By) j l b c d e f g h i a) (cond (j==1) (o l j l b c d e f g h i a) (cond (j==2) (cond (ltN b 4294967296) (o (Jj (x3 b)) j l b c d e f g h i a) none) (cond (ok8 c d e f g h i a) (vl (Qd (n8 c d e f g h i a)) λm=>cond (F7 1 m.length) (vl (([91]:By)++m) λn=>cond (F7 n.length 1) (vl (n++[93]) λp=>o p j l b c d e f g h i a) none) none) none)))) none) none) none
def C55(d:Nat)(h0 h1 h2 h3 h4 h5 h6 h7 h8 h9 h10):evC (Bz9 L) (d+1) W Y 23 [.agg [pI h0,pS h1,p32 h2,p16 h3,p16 h4,p16 h5,p16 h6,p16 h7,p16 h8,p16 h9,p16 h10]] [] s=C54 L h0 h1 h2 h3 h4 h5 h6 h7 h8 h9 h10 (λm e n f g h i j c l a b=>some (pS m,[.box [pI e,pS n,p32 f,p16 g,p16 h,p16 i,p16 j,p16 c,p16 l,p16 a,p16 b]],s)):=evT Tryz.f23 λQ=>by
 unfold C54;kernel_rfl
noncomputable def Bz8(L:Nat):=mkC L 79 [] [(3,[4]),(2,[4]),(1,[0,0,10]),(0,[0,0])] [] [4] [(80,A63)] [80]
def B52(L:Nat)(b a:By)(c:Bool->Option R):Option R:=cond (A2 b.length) (cond (not (W9 b)) (c false) (cond (A2 a.length) (cond (not (W9 a)) (c false) (cond (b==a) (c true) (cond (ltI (b.length:Int) (a.length:Int)) (vl (A1 ((a.length:Int)-(b.length:Int))) λd=>cond (J5 (A1 (d-1)) (a.length:Int) a.length) (vl (cut a (A1 (d-1)) (a.length:Int)) λe=>cond (F7 1 b.length) (vl (([46]:By)++b) λf=>c (e==f)) none) none) (c false)))) none)) none
def C50(d:Nat)(super0 name1):evC (Bz8 L) (d+1) W Y 79 [pS super0,pS name1] [] s=B52 L super0 name1 (λa=>some (pB a,[],s)):=evT Tryz.f79 λQ=>by
 unfold B52;kernel_rfl
end
section
variable {W R : Type} (L : Nat) (Q : G1) (Y : Yh W) (s : W) (k : Out -> St W -> Option R)
noncomputable abbrev U3:Code:=D7 ae2
noncomputable def M7(L:Nat):=mkC L 73 [(23,[2,0,6,0,0])] [(35,[2,0]),(34,[2,0]),(33,[2,7,108]),(32,[2,0]),(31,[2,7,105]),(24,[2,7,0,0]),(30,[2,7,0,0]),(29,[2,7,0,0,0]),(28,[2,7,0,0,0,94]),(27,[2,0]),(26,[2,7,0,0,0,0,89]),(25,[2,7,0,0,0,0]),(23,[2,7,0,0,79]),(22,[2,7,0,0]),(21,[2,7,0]),(20,[2,3,3]),(19,[2,0]),(18,[2,0]),(17,[2,5,74]),(16,[2,5,0]),(15,[2,3,69]),(14,[2,3]),(13,[2,3,62]),(12,[2,0]),(11,[2,3,51]),(10,[2,3,0]),(9,[2,0]),(8,[2,0]),(7,[2,1,43]),(6,[2,1,0]),(5,[2,0]),(4,[0,1,33]),(3,[0,1,22]),(2,[2,0]),(1,[0,1,14]),(0,[0,1])] [(0,[2,7]),(1,[2,7,0,0])] [2,0] [(109,Cs6),(110,Bv6),(111,Vn),(112,Bw2),(75,Fp),(113,Bw0)] [110,111,112,113]
abbrev Kcj(R:Type):=Int->Int->Int->Int->Int->Int->Int->Int->Int->Int->LL->Option R
def It(b:By)(e:Bool)(f:Unit->Option R)(g:Kcj R)(h:By->Bool->Option R):Option R:=cond e (vl (A1 ((b.length:Int)-1)) λd=>cond (inR d b.length) (cond ((bAt b d)!=93) (f ()) (cond (ltI (b.length:Int) (2:Int)) (f ()) (vl (A1 ((b.length:Int)-1)) λc=>cond (J5 1 c b.length) (vl (cut b 1 c) λa=>cond (A2 a.length) (cond (not (ab1 (v6B a))) (g 14 0 0 0 0 0 0 0 0 0 [[(SV.int .u16 (↑(v6c 0 a):Int))],[(SV.int .u16 (↑(v6c 1 a):Int))],[(SV.int .u16 (↑(v6c 2 a):Int))],[(SV.int .u16 (↑(v6c 3 a):Int))],[(SV.int .u16 (↑(v6c 4 a):Int))],[(SV.int .u16 (↑(v6c 5 a):Int))],[(SV.int .u16 (↑(v6c 6 a):Int))],[(SV.int .u16 (↑(v6c 7 a):Int))]]) (g 0 3 (↑(v6c 0 a):Int) (↑(v6c 1 a):Int) (↑(v6c 2 a):Int) (↑(v6c 3 a):Int) (↑(v6c 4 a):Int) (↑(v6c 5 a):Int) (↑(v6c 6 a):Int) (↑(v6c 7 a):Int) [[(SV.int .u16 (↑(v6c 0 a):Int))],[(SV.int .u16 (↑(v6c 1 a):Int))],[(SV.int .u16 (↑(v6c 2 a):Int))],[(SV.int .u16 (↑(v6c 3 a):Int))],[(SV.int .u16 (↑(v6c 4 a):Int))],[(SV.int .u16 (↑(v6c 5 a):Int))],[(SV.int .u16 (↑(v6c 6 a):Int))],[(SV.int .u16 (↑(v6c 7 a):Int))]])) none) none))) none) (h b e)
abbrev Zg(b:Code):Prop:=∀(k:Out->St W->Option R) a c,C3 (M7 L) Q Y b ⟨gp [(0,pS a),(1,.ptr 0 0 0),(22,pB c)] 97,[.box [pI 0,pS ([]:By),p32 0,p16 0,p16 0,p16 0,p16 0,p16 0,p16 0,p16 0,p16 0]],s⟩ k=It a c (λ_=>k .ret ⟨gp [(2,.ptr 0 0 0),(0,pI 14)] 119,[.box [pI 0,pS ([]:By),p32 0,p16 0,p16 0,p16 0,p16 0,p16 0,p16 0,p16 0,p16 0]],s⟩) (λn0 e f g h i j l d m l10=>k .ret ⟨gp [(2,.ptr 0 0 0),(0,pI n0)] 119,[.box [pI e,pS ([]:By),p32 0,p16 f,p16 g,p16 h,p16 i,p16 j,p16 l,p16 d,p16 m],.arr false 38 1 l10],s⟩) (λa c=>k .normal ⟨gp [(0,pS a),(1,.ptr 0 0 0),(22,pB c)] 97,[.box [pI 0,pS ([]:By),p32 0,p16 0,p16 0,p16 0,p16 0,p16 0,p16 0,p16 0,p16 0]],s⟩)
def PM:Zg (R:=R) L Q Y s (cd [1,1,0,1] U3):=by intro k a b;unfold It;kernel_rfl
def L5(L n:Nat)(a:By)(e:LL)(c:Int)(g:Int->Option R)(h:By->Option R):Option R:=match n with|0=>none|n+1=>cond (ltI c (e.length:Int)) (cond (inR c e.length) (cond (okE Aa e (x3 c) 0) (cond (A2 (w8 (gX e (x3 c) 0))) (vl ((K9 (gX e (x3 c) 0))).1 λb=>vl (↑((K9 (gX e (x3 c) 0))).2:Int) λd=>cond (d !=0) (g d) (cond (ltI 0 c) (cond (F7 a.length 1) (vl (a++[46]) λf=>cond (F7 f.length b.length) (L5 L n (f++b) e (A1 (c+1)) g h) none) none) (cond (F7 a.length b.length) (L5 L n (a++b) e (A1 (c+1)) g h) none))) none) none) none) (h a)
def Vd(n a p1 i2):D4 1 ((M7 L).keep 23) (bd (M7 L) Q Y (cd [1,1,1,1,1,1,1,1,1,0,1,0,0] U3)) n ⟨gp [(2,.ptr 0 0 0),(7,pS a),(0,.s (.sl false false 1 p1)),(0,pI i2)] 110,[.box [pI 0,pS ([]:By),p32 0,p16 0,p16 0,p16 0,p16 0,p16 0,p16 0,p16 0,p16 0]],s⟩ k =
 L5 L n a p1 i2 (λn0=>k .ret ⟨gp [(2,.ptr 0 0 0),(0,pI n0)] 119,[.box [pI 0,pS ([]:By),p32 0,p16 0,p16 0,p16 0,p16 0,p16 0,p16 0,p16 0,p16 0]],s⟩) (λa=>k (.exit 0) ⟨gp [(2,.ptr 0 0 0),(7,pS a)] 112,[.box [pI 0,pS ([]:By),p32 0,p16 0,p16 0,p16 0,p16 0,p16 0,p16 0,p16 0,p16 0]],s⟩):=by
 induction n generalizing a p1 i2 with
 | zero=>rfl
 | succ n b=>rw[L5];simp only[<-b];kernel_rfl
abbrev Kdd(R:Type):=Int->Int->By->Int->Option R
def Ez(L:Nat)(b:By)(c:Kdd R):Option R:=cond (A2 b.length) (cond (I7 b) (cond (A2 b.length) (cond (not (ab1 (pnB b))) (c 14 0 ([]:By) 0) (c 0 2 ([]:By) (↑(O9 (pnB b)):Int))) none) (cond (A2 b.length) (vl (A9 (pcs (u8n (46:Int)) b)) λd=>L5 L L ([]:By) d 0 (λe=>c e 0 ([]:By) 0) (λa=>cond (ltI 253 (a.length:Int)) (c 3 0 ([]:By) 0) (cond (A2 a.length) (cond (I7 a) (c 14 0 ([]:By) 0) (c 0 1 a 0)) none))) none)) none
abbrev Zh(b:Code):Prop:=∀(k:Out->St W->Option R) s0,C3 (M7 L) Q Y b ⟨gp [(2,.ptr 0 0 0),(3,pS s0)] 116,[.box [pI 0,pS ([]:By),p32 0,p16 0,p16 0,p16 0,p16 0,p16 0,p16 0,p16 0,p16 0]],s⟩ k=Ez L s0 (λn0 a d c=>k .ret ⟨gp [(2,.ptr 0 0 0),(0,pI n0)] 119,[.box [pI a,pS d,p32 c,p16 0,p16 0,p16 0,p16 0,p16 0,p16 0,p16 0,p16 0]],s⟩)
def PN:Zh (R:=R) L Q Y s (cd [1,1,1,1,1,1] U3):=by intro k b;unfold Ez;exact(j9 (by kernel_rfl) (A0 (A0 (A0 (A0 rfl rfl) rfl) (A0 (A6 λa=>(ag (Vd L Q Y s (F2 0 (F6 (M7 L) Q Y (cd [1,1,1,1,1,1,1,1,1,1] U3) k)) L ([]:By) a 0))) rfl)) rfl))
def Ov(L:Nat)(b:By)(c:Kdd R):Option R:=cond (A2 b.length) (cond (I7 b) (cond (A2 b.length) (cond (not (ab1 (pnB b))) (c 14 0 ([]:By) 0) (c 0 2 ([]:By) (↑(O9 (pnB b)):Int))) none) (cond (A2 b.length) (vl (A9 (pcs (u8n (46:Int)) b)) λd=>L5 L L ([]:By) d 0 (λe=>c e 0 ([]:By) 0) (λa=>cond (ltI 253 (a.length:Int)) (c 3 0 ([]:By) 0) (cond (A2 a.length) (cond (I7 a) (c 14 0 ([]:By) 0) (c 0 1 a 0)) none))) none)) none
abbrev Zi(b:Code):Prop:=∀(k:Out->St W->Option R) s0 b1,C3 (M7 L) Q Y b ⟨gp [(2,.ptr 0 0 0),(3,pS s0),(62,pB b1)] 53,[.box [pI 0,pS ([]:By),p32 0,p16 0,p16 0,p16 0,p16 0,p16 0,p16 0,p16 0,p16 0]],s⟩ k=Ov L s0 (λn0 a d c=>k .ret ⟨gp [(2,.ptr 0 0 0),(0,pI n0)] 119,[.box [pI a,pS d,p32 c,p16 0,p16 0,p16 0,p16 0,p16 0,p16 0,p16 0,p16 0]],s⟩)
def PP:Zi (R:=R) L Q Y s (cd [1,1,1,1,1,1] U3):=by intro k c b;unfold Ov;exact(j9 (by kernel_rfl) (A0 (A0 (A0 (A0 rfl rfl) rfl) (A0 (A6 λa=>(ag (Vd L Q Y s (F2 0 (F6 (M7 L) Q Y (cd [1,1,1,1,1,1,1,1,1,1] U3) k)) L ([]:By) a 0))) rfl)) rfl))
def Fa(L:Nat)(a:By)(r:Kdd R):Option R:=cond (A2 a.length) (cond (not (ab1 (V3 a))) (r 14 0 ([]:By) 0) (cond (not ((Gy a)==[])) (vl (A1 ((↑(w8 (Gy a)):Int)-1)) λb=>cond (inR b (w8 (Gy a))) (cond ((bAt (Gy a) b)==46) (vl (A1 ((↑(w8 (Gy a)):Int)-1)) λc=>cond (J5 0 c (w8 (Gy a))) (vl (cut (Gy a) (0:Int) c) λn=>Ez L n (λd e o f=>r d e o f)) none) (Ov L (Gy a) (λg h p i=>r g h p i))) none) (Ov L (Gy a) (λj l q m=>r j l q m)))) none
abbrev Ow(b:Code):Prop:=∀(k:Out->St W->Option R) raw0 b1,C3 (M7 L) Q Y b ⟨gp [(0,pS raw0),(1,.ptr 0 0 0),(22,pB b1)] 97,[.box [pI 0,pS ([]:By),p32 0,p16 0,p16 0,p16 0,p16 0,p16 0,p16 0,p16 0,p16 0]],s⟩ k=Fa L raw0 (λn0 a d c=>k .ret ⟨gp [(2,.ptr 0 0 0),(0,pI n0)] 119,[.box [pI a,pS d,p32 c,p16 0,p16 0,p16 0,p16 0,p16 0,p16 0,p16 0,p16 0]],s⟩)
def PQ(b:Code)(c:Zh (R:=R) L Q Y s b)(a:Zi (R:=R) L Q Y s b):Ow (R:=R) L Q Y s (cd [1,1,1] (Q9 [1,1,1,1,1,1] b U3)):=by intro k d h;unfold Fa;exact(j9 (by kernel_rfl) (A0 (A0 rfl (A0 (A6 λe=>(A0 (A0 (A6 λg=>(A0 (A6 λf=>(ag (c k f))) rfl)) (ag (a k (Gy d) ((bAt (Gy d) e)==46)))) rfl)) (ag (a k (Gy d) false)))) rfl))
def PS:Ow (R:=R) L Q Y s (cd [1,1,1] U3):=by intro k a b;exact j9 (by kernel_rfl) (PQ L Q Y s (cd [1,1,1,1,1,1] U3) (PN L Q Y s) (PP L Q Y s) k a b)
def Zf(L:Nat)(a:By)(j:Int->By->Int->Int->Int->By->Int->Option R)(O:Kcj R):Option R:=cond (ltI 1024 (a.length:Int)) (j 0 ([]:By) 0 3 0 ([]:By) 0) (cond (not (a==[])) (cond (inR 0 a.length) (It a ((bAt a (0:Int))==91) (λ_=>j 0 ([]:By) 0 14 0 ([]:By) 0) (λn o p q r t u v w x l=>O o p q r t u v w x n l) (λb M=>Fa L b (λy d h e=>j d h e y d h e))) none) (It a false (λ_=>j 0 ([]:By) 0 14 0 ([]:By) 0) (λz A B C D F G H I J m=>O A B C D F G H I J z m) (λc N=>Fa L c (λK f i g=>j f i g K f i g))))
def Bj5(e:Code)(a:Zg (R:=PV × List Blk × W) L Q Y s e)(d:Code)(b:Ow (R:=PV × List Blk × W) L Q Y s d)(c:By):C3 (M7 L) Q Y (cd [] (Q9 [1,1,1] d (Q9 [1,1,0,1] e U3))) ⟨[pS c]++tps 122,[],s⟩ (I8 (M7 L) ae2)=Zf L c (λj l m n v y w=>some (.tup [.agg [pI j,pS l,p32 m,p16 0,p16 0,p16 0,p16 0,p16 0,p16 0,p16 0,p16 0],pI n],[.box [pI v,pS y,p32 w,p16 0,p16 0,p16 0,p16 0,p16 0,p16 0,p16 0,p16 0]],s)) (λj l m n q r t u r8 x l10=>some (.tup [.agg [pI j,pS ([]:By),p32 0,p16 l,p16 m,p16 n,p16 q,p16 r,p16 t,p16 u,p16 r8],pI x],[.box [pI j,pS ([]:By),p32 0,p16 l,p16 m,p16 n,p16 q,p16 r,p16 t,p16 u,p16 r8],.arr false 38 1 l10],s)):=by unfold Zf;exact let o:=(I8 (M7 L) ae2);let p:=(F6 (M7 L) Q Y d o);(j9 (by kernel_rfl) (A0 rfl (A0 (A0 ((a p c ((bAt c (0:Int))==91)).trans (congr (congr (congr rfl (by kernel_rfl)) (by kernel_rfl)) (fx2 λf h=>(j9 (by kernel_rfl) (ag (b o f h)))))) rfl) ((a p c false).trans (congr (congr (congr rfl (by kernel_rfl)) (by kernel_rfl)) (fx2 λg i=>(j9 (by kernel_rfl) (ag (b o g i)))))))))
def Bj6(d:Nat)(raw0):evC (M7 L) (d+1) W Y 73 [pS raw0] [] s=Zf L raw0 (λa b c e j n l=>some (.tup [.agg [pI a,pS b,p32 c,p16 0,p16 0,p16 0,p16 0,p16 0,p16 0,p16 0,p16 0],pI e],[.box [pI j,pS n,p32 l,p16 0,p16 0,p16 0,p16 0,p16 0,p16 0,p16 0,p16 0]],s)) (λa b c e f g h i r8 m l10=>some (.tup [.agg [pI a,pS ([]:By),p32 0,p16 b,p16 c,p16 e,p16 f,p16 g,p16 h,p16 i,p16 r8],pI m],[.box [pI a,pS ([]:By),p32 0,p16 b,p16 c,p16 e,p16 f,p16 g,p16 h,p16 i,p16 r8],.arr false 38 1 l10],s)):=
 (evE (fn:=ae2) (by kernel_rfl)).trans (j9 (by kernel_rfl) (Bj5 L (evC (M7 L) d) Y s (cd [1,1,0,1] U3) (PM L (evC (M7 L) d) Y s) (cd [1,1,1] U3) (PS L (evC (M7 L) d) Y s) raw0))
end
def C60{g:Int->Option R}(b:Int)(h:inR b 256=true):rhx LF b g=g (Gq (u8n b)):=by
 simp only[inR,p5,af] at h;have j:b=((u8n b).toNat:Int):=by
  unfold u8n;simp;omega
 generalize u8n b=c at *;subst j;have i:=c.toNat_lt;unfold rhx;simp only[Bk0,Bj9,vl,Gq];rcases Ek c with⟨d,f,e⟩|⟨d,f,e⟩|⟨d,f,e⟩|⟨d,f,o,e⟩
 ·have a:A1 (wu8 ((c.toNat:Int)-48))=((dig c:Nat):Int):=by
   rw[O4,A4];omega
  rw[W4];simp (disch:=omega) only[C5,D8,j8,j5,ab,aa,a]
 ·have a:A1 (A1 (wu8 ((c.toNat:Int)-97))+10)=((dig c:Nat):Int):=by
   rw[O4,E0 (n:=(c.toNat:Int)-97) (by omega) (by omega),A4];omega
  rw[W4];simp (disch:=omega) only[C5,D8,j8,j5,ab,aa,a]
 ·have a:A1 (A1 (wu8 ((c.toNat:Int)-65))+10)=((dig c:Nat):Int):=by
   rw[O4,E0 (n:=(c.toNat:Int)-65) (by omega) (by omega),A4];omega
  rw[W4];simp (disch:=omega) only[C5,D8,j8,j5,ab,aa,a]
 ·rw[e,ae (by decide)];by_cases k:c.toNat<48
  ·simp (disch:=omega) only[C5,D8,j8,j5,ab,aa]
  ·by_cases l:c.toNat<65
   ·simp (disch:=omega) only[C5,D8,j8,j5,ab,aa]
   ·by_cases m:c.toNat<97
    ·simp (disch:=omega) only[C5,D8,j8,j5,ab,aa]
    ·simp (disch:=omega) only[C5,D8,j8,j5,ab,aa]
def Bj2(s:By)(Q:s.length<=1000000000):∀(m i n:Nat) (a:By),i<=s.length->s.length-i<=m->m<n->a.length<=i->
  (∀t,V3 (s.drop i)=some t->∀(R:Type) (c:LL->Option R) (d:LL->Option R),R3 LF n s (i:Int) (a.map F4) c d=d ((a++t).map F4))/\
  (V3 (s.drop i)=none->∃l,∀(R:Type) (c:LL->Option R) (d:LL->Option R),R3 LF n s (i:Int) (a.map F4) c d=c l):=by
 intro m
 induction m with
 | zero=>
  intro i n a K L M J;rcases n with _|n;omega
  rw[j4 (by omega)];refine⟨λt f R c d=>?_,λh=>(by cases h)⟩;simp only[V3,o0] at f;subst f;rw[R3];rw[A5,ab7];rfl
 | succ m G=>
  intro i n a K L M J;rcases n with _|n;omega
  by_cases z:i<s.length
  ·have D:A1 ((i:Int)+1)=((i+1:Nat):Int):=ah
   have H:A1 ((i:Int)+2)=((i+2:Nat):Int):=ah
   have I:A1 (((i+2:Nat):Int)+1)=((i+3:Nat):Int):=by rw[A4];omega
   have F:A1 ((s.length:Int)-i)=((s.length-i:Nat):Int):=by rw[A4];omega
   have p:(a.map F4).length=a.length:=o8 _;have v:∀b:UInt8,a.map F4++[[SV.int .u8 (b.toNat:Int)]]=(a++[b]).map F4:=λb=>by rw[aa7];rfl
   have C:(((s.getD i 0).toNat:Int)!=37) = !(s.getD i 0==37):=congrArg _ (T7 _ 37 (by omega));rw[E6 s i z];by_cases g:s.getD i 0=37
   ·by_cases P:i+2<s.length
    ·rw[E6 s (i+1) (by omega),E6 s (i+1+1) (by omega),g,NF];obtain⟨A,B⟩:=G (i+3) n (a++[y9 (16*dig (s.getD (i+1) 0)+dig (s.getD (i+2) 0))]) (by omega) (by omega) (by omega) (by simp;omega);have top:∀(R:Type) (c:LL->Option R) (d:LL->Option R),R3 LF (n+1) s (i:Int) (a.map F4) c d=cond (decide (dig (s.getD (i+1) 0)<16)&&decide (dig (s.getD (i+2) 0)<16)) (R3 LF n s ((i+3:Nat):Int) ((a++[y9 (16*dig (s.getD (i+1) 0)+dig (s.getD (i+2) 0))]).map F4) c d) (c (a.map F4)):=by
      intro R c d;rw[R3];rw[A7,G2,E1,C,g,p,H,F,D,G2,G2,E1,E1];simp only[vl];rw[D8 (show(3:Int)<=((s.length-i:Nat):Int) by omega)];simp only[aa,j8,ab,beq_self_eq_true,Ag4,Kf,Ao7,E8 (show a.length+1<=68719476736 by omega),I];generalize s.getD (i+1) 0=x at *;generalize s.getD (i+2) 0=y at *;by_cases N:dig x<16
      ·by_cases O:dig y<16
       ·have w1:Gq x=(dig x:Int):=by unfold Gq;rw[ac N]
        have T:Gq y=(dig y:Int):=by unfold Gq;rw[ac O]
        have U:A1 ((16:Int)*(dig x:Int))=((16*dig x:Nat):Int):=by rw[A4];omega
        have V:A1 (((16*dig x:Nat):Int)+(dig y:Int))=((16*dig x+dig y:Nat):Int):=by rw[A4];omega
        have W:wu8 ((16*dig x+dig y:Nat):Int)=((y9 (16*dig x+dig y)).toNat:Int):=by
         rw[O4];simp;omega
        grind
       grind
      grind
     by_cases o:dig (s.getD (i+1) 0)<16/\dig (s.getD (i+2) 0)<16
     ·rw[ac o];have w:(decide (dig (s.getD (i+1) 0)<16)&&decide (dig (s.getD (i+2) 0)<16))=true:=by rw[decide_eq_true o.1,decide_eq_true o.2];rfl
      refine⟨λt f R c d=>?_,λh=>?_⟩
      ·cases j:V3 (s.drop (i+3)) with
       | none=>rw[j] at f;cases f
       | some q=>
        rw[j] at f;simp only[x4,o0] at f;subst f;rw[top,w,aa,A q j,w9];rfl
      ·cases j:V3 (s.drop (i+3)) with
       | some q=>rw[j] at h;cases h
       | none=>
        obtain⟨l,e⟩:=B j;exact⟨l,λR c d=>by rw[top,w,aa,e]⟩
     ·rw[ae o];have w:(decide (dig (s.getD (i+1) 0)<16)&&decide (dig (s.getD (i+2) 0)<16))=false:=by grind
      exact⟨λt h=>(by cases h),λ_=>⟨_,λR c d=>by rw[top,w,ab]⟩⟩
    ·have k:V3 (s.getD i 0::s.drop (i+1))=none:=by
      rw[g];cases o:s.drop (i+1) with
      | nil=>rfl
      | cons x r=>
       cases r with
       | nil=>rfl
       | cons y S=>
        exfalso;have:=congrArg w8 o;rw[p6,o9,o9] at this;omega
     rw[k];refine⟨λt h=>(by cases h),λ_=>⟨a.map F4,λR c d=>?_⟩⟩;rw[R3];rw[A7,G2,E1,C,g,F];simp only[vl];rw[C5 (show((s.length-i:Nat):Int)<3 by omega)];rfl
   ·rw[Aa5 _ g];obtain⟨A,B⟩:=G (i+1) n (a++[s.getD i 0]) (by omega) (by omega) (by omega) (by simp;omega);have u:(s.getD i 0==37)=false:=by simpa using g
    have top:∀(R:Type) (c:LL->Option R) (d:LL->Option R),R3 LF (n+1) s (i:Int) (a.map F4) c d=R3 LF n s ((i+1:Nat):Int) ((a++[s.getD i 0]).map F4) c d:=by
     intro R c d;rw[R3];rw[A7,G2,E1,C,u,p,E8 (by omega),D,v];rfl
    refine⟨λt f R c d=>?_,λh=>?_⟩
    ·cases j:V3 (s.drop (i+1)) with
     | none=>rw[j] at f;cases f
     | some q=>
      rw[j] at f;simp only[x4,o0] at f;subst f;rw[top,A q j,w9];rfl
    ·cases j:V3 (s.drop (i+1)) with
     | some q=>rw[j] at h;cases h
     | none=>
      obtain⟨l,e⟩:=B j;exact⟨l,λR c d=>by rw[top,e]⟩
  ·rw[j4 (by omega)];refine⟨λt f R c d=>?_,λh=>(by cases h)⟩;simp only[V3,o0] at f;subst f;rw[R3];rw[A5,ab7];rfl
def C52(s:By)(d:A2 s.length=true):∃r H,B53 LF s (λi j h=>rv (.tup [.s (.str i),.s (.bool j)]) [.arr true 5 1 h])=rv r H/\
  r.stab [0,0] H = .tup [.s (.str (Gy s)),.s (.bool (V3 s).isSome)]:=by
 have g:=L4 d;have f:=C9;obtain⟨b,c⟩:=Bj2 s g s.length 0 LF [] (by omega) (by omega) (by omega) (by simp);rw[p4] at b c;unfold Gy;cases a:V3 s with
 | none=>
  obtain⟨l,e⟩:=c a;exact⟨.tup [.s (.str []),.s (.bool false)],[.arr true 5 1 l],e _ _ _,rfl⟩
 | some t=>
  refine⟨.tup [.s (.str t),.s (.bool true)],[.arr true 5 1 (t.map F4)],?_,rfl⟩;unfold B53;refine j9 (b t a _ _ _) ?_;rw[x8,Af,An];rfl
def Ci7{a b:Unit->Option R}(l:List By)(k:l.length<=1000000001)(h:∀x∈l,x.length<=1000000000):∀(r i n:Nat),i+r=l.length->r<n->
  Ox LF n (A9 l) (i:Int) a b=if (l.drop i).all N5 then b () else a ():=by
 intro r
 induction r with
 | zero=>
  intro i n e f;rcases n with _|n;omega
  rw[Ox];rw[A8,A5,j4 (by omega)];rfl
 | succ r j=>
  intro i n e f;rcases n with _|n;omega
  rw[Ox];have c:A1 ((i:Int)+1)=((i+1:Nat):Int):=ah
  have d:l.drop i=l.getD i []::l.drop (i+1):=by
   rw[k9,o7 (by omega),x9,aa1]
  have g:(l.getD i []).length<=1000000000:=h _ (by
   rw[k9,o7 (by omega),x9];exact ab4 _)
  rw[A8,A7,G2,j0,K5 (by omega),L9,D5 g,d,ab0,c];simp only[aa];rw[j (i+1) n (by omega) (by omega)];cases N5 (l.getD i []) with
  | true=>rw[y5];rfl
  | false=>rfl
def Ci8{c:Bool->Option R}(s:By)(b:A2 s.length=true):Ds4 LF s c=c (W9 s):=by
 have k:=L4 b;have d:=C9;unfold Ds4;by_cases a:s=[]
 ·subst a;rfl
 ·have f:(s==([]:By))=false:=by simpa using a
  rw[f,ab];unfold W9;by_cases i:253<s.length
  ·rw[A7,show v8 s.length 253=false by rw[s8,ne_eq,p7];omega];rfl
  ·rw[A5,ab,b,aa,show v8 s.length 253=true by rw[p7];omega];cases j:I7 s with
   | true=>rfl
   | false=>
    rw[ab,aa];have g:=Dp 46 s;have e:=Bm 46 s;refine j9 (Ci7 (pcs 46 s) (by omega) (λx h=>by have:=(Ad h).2;omega) (pcs 46 s).length 0 LF (by omega) (by omega)) ?_;grind
def C59(j:Int)(i:By)(v4 a b c d e f g h:Int)(n:A2 i.length=true)(o:ltN v4 4294967296=true)(p:ok8 a b c d e f g h=true) :
  ∃r H,C57 LF j i v4 a b c d e f g h (λz q A t u v w x n8 y l m k=>rv (.s (.bool z)) [.box (Up q A t u v w x n8 y l m),.arr false 38 1 k])=rv r H/\
   r.stab [] H = .s (.bool (P3 (mkH j i v4 (n8 a b c d e f g h)))):=B26 j i v4 a b c d e f g h n o p
def C56(j:Int)(i:By)(v4 a b c d e f g h:Int)(m:A2 i.length=true)(n:ltN v4 4294967296=true)(o:ok8 a b c d e f g h=true) :
  ∃r H,C54 LF j i v4 a b c d e f g h (λy p z q t u v w n8 x k l=>rv (.s (.str y)) [.box (Up p z q t u v w n8 x k l)])=rv r H/\
   r.stab [] H = .s (.str (Y7 (mkH j i v4 (n8 a b c d e f g h)))):=B25 j i v4 a b c d e f g h m n o
def Dv5(p s:By):p.isSuffixOf s=(v8 p.length s.length&&s.drop (s.length-p.length)==p):=by
 rw[aa6,List.isSuffixOf_iff_suffix,p5,p7,beq_iff_eq];constructor
 ·rintro⟨t,rfl⟩;simp_all
 ·rintro⟨b,a⟩;rw[<-a];exact List.drop_suffix _ _
def Bj1{c:Bool->Option R}(p s:By)(a:A2 p.length=true)(b:A2 s.length=true):B52 LF p s c=c (Gp p s):=by
 have e:=L4 a;have f:=L4 b;unfold B52 Gp;rw[a,b,I1 (by omega)];cases W9 p with
 | false=>rfl
 | true=>
  cases W9 s with
  | false=>rfl
  | true=>
   simp only[j8,ab,aa,y5];cases (p==s) with
   | true=>rfl
   | false=>
    rw[Dv5,o9];by_cases h:p.length<s.length
    ·have d:A1 (A1 ((s.length:Int)-p.length)-1)=((s.length-(p.length+1):Nat):Int):=by
      rw[E0 (n:=(s.length:Int)-p.length) (by omega) (by omega),A4];omega
     rw[A7];simp only[vl,aa,ab];rw[d,K2,R7,j0,show v8 (p.length+1) s.length=true by rw[p7];omega];rfl
    ·rw[A5,show v8 (p.length+1) s.length=false by rw[s8,ne_eq,p7];omega];rfl
def jn:Nat->By->List By->By
 | _,name,[]=>name
 | 0,name,x::r=>jn 1 (name++x) r
 | i+1,name,x::r=>jn (i+2) (name++[46]++x) r
def B32:∀(l:List By) (i:Nat) (name:By),jn (i+1) name l=name++ac9 [46] l
 | [],i,name=>by simp[jn,ac9]
 | x::r,i,name=>by
  rw[jn,B32 r];simp[ac9]
def Dm7(l:List By):jn 0 [] l=ac2 l [46]:=by
 cases l with
 | nil=>rfl
 | cons x r=>rw[jn,B32,Lib.join_cons,x8]
def C98{x:By}(h:(K9 x).2=0):(K9 x).1.length<=63:=by
 have a:G8 [x]=([(K9 x).1],0):=by simp[G8,h]
 have:=(Lh [x] (by rw[a])).1 (K9 x).1 (by rw[a];simp);exact(Uo this).le
def Ac7(e:List By)(C:e.length<=1000000)(D:∀x∈e,x.length<=1000000000):∀(c:List By) (i n:Nat) (name:By),e.drop i=c->i+c.length=e.length->c.length<n->name.length<=64*i->
  ((G8 c).2=0->∀(R:Type) (a:Int->Option R) (b:By->Option R),L5 LF n name (A9 e) (i:Int) a b=b (jn i name (G8 c).1))/\
  ((G8 c).2≠0->∀(R:Type) (a:Int->Option R) (b:By->Option R),L5 LF n name (A9 e) (i:Int) a b=a ((G8 c).2:Nat)):=by
 intro c
 induction c with
 | nil=>
  intro i n name p q y t;rcases n with _|n;omega
  simp only[p9] at q;refine⟨λ_ R a b=>?_,λh=>absurd rfl h⟩;rw[L5];rw[A8,A5];simp only[G8,jn];rfl
 | cons x r z=>
  intro i n name p q y t;simp only[o9] at q y;rcases n with _|n;omega
  have A:A1 ((i:Int)+1)=((i+1:Nat):Int):=ah
  have k:e.getD i []=x:=by
   have:=congrArg (λl=>l.getD 0 []) p;simpa[k9,List.getElem?_drop] using this
  have g:e.drop (i+1)=r:=by
   rw[<-ad9,p];rfl
  have u:x.length<=1000000000:=D x (by
   rw[<-k,k9,o7 (by omega),x9];exact ab4 _)
  have top:∀(R:Type) (a:Int->Option R) (b:By->Option R),L5 LF (n+1) name (A9 e) (i:Int) a b=cond (((K9 x).2:Int)!=0) (a ((K9 x).2:Nat)) (cond (ltI 0 (i:Int)) (cond (F7 name.length 1) (cond (F7 (name++[46]).length (K9 x).1.length) (L5 LF n (name++[46]++(K9 x).1) (A9 e) ((i+1:Nat):Int) a b) none) none) (cond (F7 name.length (K9 x).1.length) (L5 LF n (name++(K9 x).1) (A9 e) ((i+1:Nat):Int) a b) none)):=by
   intro R a b;rw[L5];rw[A8,A7,G2,j0,K5 (by omega),L9,k,D5 u,A];rfl
  unfold G8;by_cases h:(K9 x).2=0
  ·rw[ac h];have B:=C98 h;have o:(((K9 x).2:Int)!=0)=false:=by rw[h];rfl
   cases i with
   | zero=>
    obtain⟨v,w⟩:=z 1 n (name++(K9 x).1) g (by omega) (by omega) (by rw[j7];omega);have d:∀(R:Type) (a:Int->Option R) (b:By->Option R),L5 LF (n+1) name (A9 e) ((0:Nat):Int) a b=L5 LF n (name++(K9 x).1) (A9 e) ((1:Nat):Int) a b:=by
     intro R a b;rw[top,o,A5,I1 (m:=name.length) (n:=(K9 x).1.length) (by omega)];rfl
    exact⟨λf R a b=>(d R a b).trans (v f R a b),λf R a b=>(d R a b).trans (w f R a b)⟩
   | succ j=>
    obtain⟨v,w⟩:=z (j+2) n (name++[46]++(K9 x).1) g (by omega) (by omega) (by rw[j7,j7,v7];omega);have d:∀(R:Type) (a:Int->Option R) (b:By->Option R),L5 LF (n+1) name (A9 e) ((j+1:Nat):Int) a b=L5 LF n (name++[46]++(K9 x).1) (A9 e) ((j+2:Nat):Int) a b:=by
     intro R a b;rw[top,o,A7,I1 (by omega),I1 (by rw[j7,v7];omega)];rfl
    exact⟨λf R a b=>(d R a b).trans (v f R a b),λf R a b=>(d R a b).trans (w f R a b)⟩
  ·rw[ae h];have o:(((K9 x).2:Int)!=0)=true:=by simpa using h
   exact⟨λf=>absurd f h,λ_ R a b=>by rw[top,o,aa]⟩
def PO{b:Kdd R}(u:By)(q:u.length<=1024):Ez LF u b =
  if I7 u then (match pnB u with
   | some v=>b 0 2 [] (v:Nat)
   | none=>b 14 0 [] 0)
  else if (G8 (pcs 46 u)).2=0 then (
   if 253<(ac2 (G8 (pcs 46 u)).1 [46]).length then b 3 0 [] 0 else if I7 (ac2 (G8 (pcs 46 u)).1 [46]) then b 14 0 [] 0 else b 0 1 (ac2 (G8 (pcs 46 u)).1 [46]) 0)
  else b ((G8 (pcs 46 u)).2:Nat) 0 [] 0:=by
 have h:=C9;unfold Ez;rw[M5,aa];cases o:I7 u with
 | true=>
  rw[ac rfl,aa,aa];cases p:pnB u with
  | none=>rfl
  | some v=>rfl
 | false=>
  rw[ae (by simp),ab,aa];have l:=Dp 46 u;have i:=Bm 46 u;obtain⟨f,m⟩:=Ac7 (pcs 46 u) (by omega) (λx d=>by have:=(Ad d).2;omega) (pcs 46 u) 0 LF [] (p4) (by omega) (by omega) (by simp);rw[Dm7] at f;by_cases c:(G8 (pcs 46 u)).2=0
  ·rw[ac c];refine j9 (f c _ _ _) ?_;obtain⟨g,n⟩:=Lh _ c;have j:=ZD [46] 63 (G8 (pcs 46 u)).1 (λx d=>(Uo (g x d)).le);have e:(63+([46]:By).length)*(G8 (pcs 46 u)).1.length<=64*1025:=ae1 (by simp) (by omega);generalize ac2 (G8 (pcs 46 u)).1 [46]=name at *;by_cases a:253<name.length
   ·rw[ac a,A7,aa]
   ·rw[ae a,A5,ab,M5,aa];cases k:I7 name with
    | true=>rfl
    | false=>rfl
  ·rw[ae c];exact m c _ _ _
abbrev D77:Int->By->Int->Int->Int->By->Int->Option (PV × List Blk × Unit):=λc d e f a g b=>rv (.tup [.agg (Up c d e 0 0 0 0 0 0 0 0),.s (.int .i64 f)]) [.box (Up a g b 0 0 0 0 0 0 0 0)]
abbrev Eh9:Int->Int->Int->Int->Int->Int->Int->Int->Int->Int->LL->Option (PV × List Blk × Unit):=λa b c d e f g h r8 i l10=>rv (.tup [.agg (Up a [] 0 b c d e f g h r8),.s (.int .i64 i)]) [.box (Up a [] 0 b c d e f g h r8),.arr false 38 1 l10]
def Ag0{t:By}(h:t≠[])(a:t.getD (t.length-1) 0=46):K7 t=t.take (t.length-1):=by unfold K7;rw[ac ((GY t 46 h).2 a),List.dropLast_eq_take]
def A26{t:By}(h:t≠[])(a:¬t.getD (t.length-1) 0=46):K7 t=t:=by unfold K7;grind
def Vb(s:By)(x:s.length<=1024)(j:s.head?≠some 91):∃r H,Fa LF s (λh b d c=>D77 b d c h b d c)=rv r H/\r.stab [0,0] H = .tup [EX (E2 s).1,.s (.int .i64 ((E2 s).2:Nat))]:=by
 have l:=C9;unfold Fa;rw[M5,aa];cases i:V3 s with
 | none=>
  have e:E2 s=(N3,14):=by unfold E2;rw[I6,ae j,i]
  rw[e];exact⟨_,_,rfl,rfl⟩
 | some t=>
  have p:t.length<=s.length:=HD s t i;have q:Gy s=t:=by unfold Gy;rw[i];rfl
  have o:(K7 t).length<=t.length:=by unfold K7;split<;>simp
  have m:E2 s=if I7 (K7 t) then (match pnB (K7 t) with
      | some v=>(⟨2,[],v,z8⟩,0)
      | none=>(N3,14))
     else if (G8 (pcs 46 (K7 t))).2=0 then (
      let name:=ac2 (G8 (pcs 46 (K7 t))).1 [46]
      if 253<name.length then (N3,3) else if I7 name then (N3,14) else (⟨1,name,0,z8⟩,0))
     else (N3,(G8 (pcs 46 (K7 t))).2):=by
   unfold E2;rw[I6,ae j,i];rfl
  have f:∃r H,Ez LF (K7 t) (λh b d c=>D77 b d c h b d c)=rv r H/\r.stab [0,0] H = .tup [EX (E2 s).1,.s (.int .i64 ((E2 s).2:Nat))]:=by
   rw[PO _ (by omega),m];split
   ·split<;>exact⟨_,_,rfl,rfl⟩
   ·split
    ·simp only;split
     ·exact⟨_,_,rfl,rfl⟩
     ·split<;>exact⟨_,_,rfl,rfl⟩
    ·exact⟨_,_,rfl,rfl⟩
  rw[q];simp only[ac8,j8,ab];by_cases a:t=[]
  ·subst a;exact f
  ·have w:0<t.length:=x5.2 a;have n:(t==([]:By))=false:=by simpa using a
   have k:A1 ((t.length:Int)-1)=((t.length-1:Nat):Int):=by rw[A4];omega
   have u:(((t.getD (t.length-1) 0).toNat:Int)==46)=(t.getD (t.length-1) 0==46):=T7 _ 46 (by omega);rw[n,k];simp only[j5,aa,vl];rw[G2,E1,u,aa];by_cases g:t.getD (t.length-1) 0=46
   ·rw[g,beq_self_eq_true,aa,K2,aa,M8,j0,<-Ag0 a g];exact f
   ·rw[show(t.getD (t.length-1) 0==46)=false by simpa using g,ab];rw[A26 a g] at f;exact f
def Bj7(s:By)(k:A2 s.length=true):∃r H,Zf LF s D77 Eh9=rv r H/\r.stab [0,0] H = .tup [EX (E2 s).1,.s (.int .i64 ((E2 s).2:Nat))]:=by
 have u:=L4 k;have l:=C9;unfold Zf;by_cases i:1024<s.length
 ·have e:E2 s=(N3,3):=by unfold E2;rw[ac i]
  rw[e,A7,aa];exact⟨_,_,rfl,rfl⟩
 ·rw[A5,ab];by_cases c:s=[]
  ·subst c;exact Vb [] (by simp) (by simp)
  ·have q:0<s.length:=x5.2 c;have m:(s==([]:By))=false:=by simpa using c
   have o:(bAt s 0==(91:Int))=(s.getD 0 0==91):=by rw[Bk];exact T7 _ 91 (by omega)
   have g:s.head? = some (s.getD 0 0):=by
    cases s with
    | nil=>exact absurd rfl c
    | cons b t=>rfl
   rw[m,j5,aa,G2,aa,o];by_cases f:s.getD 0 0=91
   ·have e:E2 s=S8 s:=by unfold E2 S8;rw[ae i,ac (by rw[g,f])]<;>rfl
    have j:A1 ((s.length:Int)-1)=((s.length-1:Nat):Int):=by rw[A4];omega
    have p:(((s.getD (s.length-1) 0).toNat:Int)!=93) = !(s.getD (s.length-1) 0==93):=congrArg _ (T7 _ 93 (by omega));rw[e,f,beq_self_eq_true];unfold It S8;simp only[vl,j,aa];rw[G2,E1,p,aa];by_cases d:s.getD (s.length-1) 0=93
    ·have f:2<=s.length:=by grind
     rw[ac ⟨(GY s 93 c).2 d,f⟩,d,beq_self_eq_true,j8,ab,A5,ab,show(1:Int)=((1:Nat):Int) from rfl,K2,aa,Fj];have n:((s.take (s.length-1)).drop 1).length<=s.length:=by rw[p6,x7];omega
     rw[M5,aa];unfold v6c;cases v:v6B ((s.take (s.length-1)).drop 1) with
     | none=>exact⟨_,_,rfl,rfl⟩
     | some a=>exact⟨_,_,rfl,rfl⟩
    ·rw[ae (λh=>d ((GY s 93 c).1 h.1)),show(s.getD (s.length-1) 0==93)=false by simpa using d];exact⟨_,_,rfl,rfl⟩
   ·rw[show(s.getD 0 0==91)=false by simpa using f];exact Vb s (by omega) (by rw[g];simpa using f)
section
def OQ:C0 c9 GX 175 Xk:=xf [] (Am3 LF) BF rfl trivial rfl follows λargs=>by
 unfold BF;split
 ·rename_i n;exact⟨rfl,rfl,rfl,_,_,(Ck0 LF noY () 0 n).trans (Ax1 n ),rfl⟩
 ·trivial
def A44:C0 c9 GX 178 IR:=xf [] (Ah LF) AZ rfl trivial rfl follows λargs=>by
 unfold AZ;split
 ·rename_i d c f;exact λa=>λb=>λe=>⟨rfl,rfl,rfl,_,_,(Ch4 LF noY () 0 d c f).trans (Au8 d c f a b e),rfl⟩
 ·trivial
def De5:C0 c9 GX 176 A66:=xf [] (Cx2 LF) WR rfl trivial rfl follows λargs=>by
 unfold WR;split
 ·rename_i k b;exact λa=>λc=>⟨rfl,rfl,rfl,_,_,(Dt6 LF noY () 0 k b).trans (Ck6 k b a c),rfl⟩
 ·trivial
def Dy5:C0 c9 GX 177 Bv3:=xf [] (Bz7 LF) IT rfl trivial rfl follows λargs=>by
 unfold IT;split
 ·rename_i d;exact λa=>⟨rfl,rfl,rfl,_,_,(C41 LF noY () 0 d).trans (Bh4 d a),rfl⟩
 ·trivial
def Ec4:C0 c9 GX 196 Cs7:=xf [] (Cx4 LF) WY rfl trivial rfl follows λargs=>by
 unfold WY;split
 ·rename_i b;exact λa=>⟨rfl,rfl,rfl,_,_,(Du7 LF noY () 0 b).trans (Cl8 b a),rfl⟩
 ·trivial
def Dd9:C0 c9 GX 152 A62:=xf [0,0] (P9 LF) WH rfl ⟨OQ,De5,Dy5,A44,trivial⟩ rfl follows λargs=>by
 unfold WH;split
 ·rename_i b a p;exact λd=>(let⟨g,e,c,f⟩:=Ds1 b a p d;⟨rfl,rfl,rfl,g,e,(Dr9 LF noY () 0 b a p).trans c,f⟩)
 ·trivial
def Dz3:C0 c9 GX 179 Bw1:=xf [1,0] (L8 LF) JG rfl ⟨Ec4,De5,A44,OQ,trivial⟩ rfl follows λargs=>by
 unfold JG;split
 ·rename_i s;exact λb=>(let⟨e,c,a,d⟩:=C68 s b;⟨rfl,rfl,rfl,e,c,(C67 LF noY () 0 s).trans a,d⟩)
 ·trivial
def Eb9:C0 c9 GX 151 Cs2:=xf [1,0] (Q8 LF) WQ rfl ⟨OQ,trivial⟩ rfl follows λargs=>by
 unfold WQ;split
 ·rename_i s;exact λb=>(let⟨e,c,a,d⟩:=Dt4 s b;⟨rfl,rfl,rfl,e,c,(Dt3 LF noY () 0 s).trans a,d⟩)
 ·trivial
def Dz5:C0 c9 GX 154 Bw3:=xf [] (Su LF) JI rfl ⟨Dz3,Dd9,trivial⟩ rfl follows λargs=>by
 unfold JI;split
 ·rename_i s;exact λa=>⟨rfl,rfl,rfl,_,_,(C70 LF noY () 0 s).trans (Bm7 s a),rfl⟩
 ·trivial
def B82:C0 c9 GX 115 WN:=xf [] (Sr LF) JE rfl ⟨Dz5,trivial⟩ rfl follows λargs=>by
 unfold JE;split
 ·rename_i s;exact λa=>⟨rfl,rfl,rfl,_,_,(C63 LF noY () 0 s).trans (Bk6 s a),rfl⟩
 ·trivial
def Dz2:C0 c9 GX 113 Bw0:=xf [0,0] (B02 LF) JC rfl ⟨Eb9,Bt5,Dd9,B82,trivial⟩ rfl follows λargs=>by
 unfold JC;split
 ·rename_i s;exact λa=>⟨rfl,rfl,rfl,_,_,(C62 LF noY () 0 s).trans (Bk3 s a),rfl⟩
 ·trivial
def Eg2:C0 c9 GX 147 D08:=xf [] (D20 LF) A64 rfl trivial rfl follows λargs=>by
 unfold A64;split
 ·rename_i b;exact λa=>⟨rfl,rfl,rfl,_,_,(D76 LF noY () 0 b).trans (C60 b a),rfl⟩
 ·trivial
def Dy8:C0 c9 GX 110 Bv6:=xf [0,0] (So LF) IW rfl ⟨Eg2,trivial⟩ rfl follows λargs=>by
 unfold IW;split
 ·rename_i s;exact λb=>(let⟨e,c,a,d⟩:=C52 s b;⟨rfl,rfl,rfl,e,c,(C51 LF noY () 0 s).trans a,d⟩)
 ·trivial
def Cp8:C0 c9 GX 73 QG:=xf [0,0] (M7 LF) Vm rfl ⟨Ec3,Dy8,OP,Dz4,Nh,Dz2,trivial⟩ rfl follows λargs=>by
 unfold Vm;split
 ·rename_i s;exact λb=>(let⟨e,c,a,d⟩:=Bj7 s b;⟨rfl,rfl,rfl,e,c,(Bj6 LF noY () 0 s).trans a,d⟩)
 ·trivial
def De0:C0 c9 GX 80 A63:=xf [] (CL LF) WL rfl ⟨OP,Nh,B82,trivial⟩ rfl follows λargs=>by
 unfold WL;split
 ·rename_i s;exact λa=>⟨rfl,rfl,rfl,_,_,(Ds5 LF noY () 0 s).trans (Ci8 s a),rfl⟩
 ·trivial
def B81:C0 c9 GX 40 WK:=xf [] (B00 LF) IZ rfl ⟨De0,trivial⟩ rfl follows λargs=>by
 unfold IZ;split
 ·rename_i i j v4 a b c d e f g h;exact λl=>λm=>λn=>(let⟨q,o,k,p⟩:=C59 i j v4 a b c d e f g h l m n;⟨rfl,rfl,rfl,q,o,(C58 LF noY () 0 i j v4 a b c d e f g h).trans k,p⟩)
 ·trivial
def B80:C0 c9 GX 23 WJ:=xf [] (Bz9 LF) IY rfl ⟨B81,Ec0,Ec2,trivial⟩ rfl follows λargs=>by
 unfold IY;split
 ·rename_i i j v4 a b c d e f g h;exact λl=>λm=>λn=>(let⟨q,o,k,p⟩:=C56 i j v4 a b c d e f g h l m n;⟨rfl,rfl,rfl,q,o,(C55 LF noY () 0 i j v4 a b c d e f g h).trans k,p⟩)
 ·trivial
def Dy7:C0 c9 GX 79 Bv5:=xf [] (Bz8 LF) IV rfl ⟨De0,trivial⟩ rfl follows λargs=>by
 unfold IV;split
 ·rename_i p s;exact λa=>λb=>⟨rfl,rfl,rfl,_,_,(C50 LF noY () 0 p s).trans (Bj1 p s a b),rfl⟩
 ·trivial
def OR:C0 c9 GX 20 Xl:=xf [] (Am4 LF) BH rfl trivial rfl follows λargs=>by
 unfold BH;split
 ·rename_i s;exact⟨rfl,rfl,rfl,_,_,(Ck9 LF noY () 0 s).trans (Az8 s ),rfl⟩
 ·trivial
def Dz8:C0 c9 GX 74 Bw6:=xf [] (B03 LF) JM rfl trivial rfl follows λargs=>by
 unfold JM;split
 ·rename_i s;exact⟨rfl,rfl,rfl,_,_,(C79 LF noY () 0 s).trans (Bo7 s ),rfl⟩
 ·trivial
def Dz6:C0 c9 GX 72 Bw4:=xf [] (Dg LF) JJ rfl trivial rfl follows λargs=>by
 unfold JJ;split
 ·rename_i s t;exact λa=>λb=>⟨rfl,rfl,rfl,_,_,(C72 LF noY () 0 s t).trans (Bo0 s t a b),rfl⟩
 ·trivial
def Dz7:C0 c9 GX 71 Bw5:=xf [0,0,0] (N8 LF) JL rfl ⟨Bt5,trivial⟩ rfl follows λargs=>by
 unfold JL;split
 ·rename_i s;exact λa=>⟨rfl,rfl,rfl,_,_,(C78 LF noY () 0 s).trans (Bo6 s a),rfl⟩
 ·trivial
def B83:C0 c9 GX 36 WS:=xf [0,0] (L2 LF) JK rfl ⟨Dz7,OR,Dz6,Cp8,Dz8,trivial⟩ rfl follows λargs=>by
 unfold JK;split
 ·rename_i s;exact λb=>(let⟨e,c,a,d⟩:=C76 s b;⟨rfl,rfl,rfl,e,c,(C75 LF noY () 0 s).trans a,d⟩)
 ·trivial
def Cq0:C0 c9 GX 18 QI:=xf [0,0] (RC LF) Vp rfl ⟨B83,trivial⟩ rfl follows λargs=>by
 unfold Vp;split
 ·rename_i s;exact λb=>(let⟨e,c,a,d⟩:=Bo3 s b;⟨rfl,rfl,rfl,e,c,(Bo2 LF noY () 0 s).trans a,d⟩)
 ·trivial
end
def Cn4{u:X1}(h:-1<=u.port):Ji u=Cz u:=by unfold Ji;rw[I6]
def Cn5{m n:By}{kd:Int}{a:By}{v4 b c d e f g h i k:Int}{l:By}(h0:smU m n a l=true)(h1:ltN v4 4294967296=true)(j:ok8 b c d e f g h i=true)(o:Eb k=true) :
  (Ji (mkU m n kd a v4 (n8 b c d e f g h i) k l)).length<=400000000:=by
 obtain⟨r,t,u,v⟩:=Kc h0;have p:=Yg (GV (h0:=kd) (h1:=a) h1 j);rw[EW] at p;have q:=UC (kd:=kd) h0 h1 j o;unfold Ji;split
 ·unfold mkU;simp only;split
  ·split<;>simp only[j7,o9,p9]<;>omega
  ·simp only[j7,o9];omega
 ·exact q
def Cl1(d b:By)(o:Int)(c:By)(v4 f g i j k l m n a:Int)(e:By)(h0:smU d b c e=true)(h1:ltN v4 4294967296=true)(y:ok8 f g i j k l m n=true)(B:Eb a=true) :
  ∃r H,Xc LF d b o c v4 f g i j k l m n a e (λu p=>rv (.s (.str u)) p)=rv r H/\r.stab [] H = .s (.str (Ji (mkU d b o c v4 (n8 f g i j k l m n) a e))):=by
 obtain⟨G,I,J,K⟩:=Kc h0;have F:=Yg (GV (h0:=o) (h1:=c) h1 y);obtain⟨L,M⟩:=Yo.1 B;have D:=Hp 19 a.toNat (by omega) (by omega);have key:∀T:By,Xc LF d b o c v4 f g i j k l m n a e (λu p=>rv (.s (.str u)) p)=rv (.s (.str T)) [bU d b o c v4 f g i j k l m n a e]->T=Ji (mkU d b o c v4 (n8 f g i j k l m n) a e)->∃r H,Xc LF d b o c v4 f g i j k l m n a e (λu p=>rv (.s (.str u)) p)=rv r H/\r.stab [] H = .s (.str (Ji (mkU d b o c v4 (n8 f g i j k l m n) a e))):=λT v w=>⟨_,_,v,by rw[<-w];rfl⟩
 have C:A2 c.length=true:=M5;cases t:D2 d with
 | false=>
  refine key (d++[58]++e) ?_ ?_
  ·unfold Xc;rw[t,I1 (by omega)];simp only[vl,aa,j5];rw[I1 (by simp;omega)];rfl
  ·unfold Ji Cz mkU;simp[t]
 | true=>
  have v:(b==([]:By))=decide (b=[]):=by rw[aa6];simp
  have w:ltI a 0=decide (a<0):=Y0 ..;have z:ltI a (-1)=decide (a < -1):=Y0 ..;have A:0<=a->ltN a 9223372036854775808=true:=λh=>E9.2 ⟨h,by omega⟩
  by_cases x:b=[]<;>rcases(show a < -1\/a=-1\/0<=a by omega) with q|q|q
  all_goals
   apply key
   ·unfold Xc;rw[t,C,h1,y,v,w,z];simp only[x,decide_true,decide_false,vl,aa,ab,j8,j5]
    first|rw[decide_eq_true (show a<0 by omega),decide_eq_true q]|rw[decide_eq_true (show a<0 by omega),decide_eq_false (show ¬a < -1 by omega)]|rw[decide_eq_false (show ¬a<0 by omega),A q]
    simp only[vl,aa,ab,j8,j5]
    repeat rw[I1 (by first|omega|(simp only[j7,o9,p9];omega))]
    simp only[vl,aa];rfl
   ·unfold Ji Cz mkU KK Mh
    first
     | (simp[t,EW,x,q];done)
     | simp[t,EW,x,show ¬a < -1 by omega,show ¬a<0 by omega,show ¬a=-1 by omega]
def D97(u:X1):((D3 (Ji u)).2==0&&eqU (D3 (Ji u)).1 u)=Fe u:=by
 by_cases h:-1<=u.port
 ·rw[Cn4 h];rfl
 ·have a:∀s,eqU (D3 s).1 u=false:=λs=>by
   have b:=(Yz s).port.1;unfold eqU;rw[show((D3 s).1.port==u.port)=false by rw[beq_eq_false_iff_ne];omega];simp
  unfold Fe;rw[a,a,ad8,ad8]
def A00(sc us:By)(kd:Int)(nm:By)(v4 a b c d f g h i po:Int)(re:By)(m:smU sc us nm re=true)(k:ltN v4 4294967296=true)(l:ok8 a b c d f g h i=true)(n:Eb po=true) :
  ∃r H,Zq LF sc us kd nm v4 a b c d f g h i po re (λu o=>rv (.s (.bool u)) o)=rv r H/\r.stab [] H = .s (.bool (Fe (mkU sc us kd nm v4 (n8 a b c d f g h i) po re))):=by
 have v:=Cn5 (kd:=kd) m k l n;unfold Zq;rw[<-D97,m,k,l,n];simp only[vl,aa];rw[M5,aa];have q:=Yz (Ji (mkU sc us kd nm v4 (n8 a b c d f g h i) po re));have j:=RM (sc:=sc) (us:=us) (kd:=kd) (nm:=nm) (po:=po) (re:=re) k l q;simp only[Qy sc,Qy us,Qy nm,Qy re,Bx kd,Bx v4,Bx a,Bx b,Bx c,Bx d,Bx f,Bx g,Bx h,Bx i,Bx po] at j;rw[j];generalize D3 (Ji (mkU sc us kd nm v4 (n8 a b c d f g h i) po re))=p;obtain⟨t,e⟩:=p;by_cases j:e=0
 ·subst j;exact⟨_,_,rfl,rfl⟩
 ·rw[show(uE (t,e)==(0:Int))=false by simpa using j,show(e==0)=false by simpa using j];exact⟨_,_,rfl,rfl⟩
section
def De6:C0 c9 GX 78 Aj1:=xf [] (Am5 LF) BI rfl ⟨OR,B80,Bt0,trivial⟩ rfl follows λargs=>by
 unfold BI;split
 ·rename_i m n i j v4 a b c d e f g h k l;exact λp=>λq=>λr=>λt=>(let⟨w,u,o,v⟩:=Cl1 m n i j v4 a b c d e f g h k l p q r t;⟨rfl,rfl,rfl,w,u,(Cl0 LF noY () 0 m n i j v4 a b c d e f g h k l).trans o,v⟩)
 ·trivial
def Bt6:C0 c9 GX 38 JN:=xf [] (KX LF) Qq rfl ⟨De6,B83,trivial⟩ rfl follows λargs=>by
 unfold Qq;split
 ·rename_i m n i j v4 a b c d e f g h k l;exact λp=>λq=>λr=>λt=>(let⟨w,u,o,v⟩:=A00 m n i j v4 a b c d e f g h k l p q r t;⟨rfl,rfl,rfl,w,u,(Az9 LF noY () 0 m n i j v4 a b c d e f g h k l).trans o,v⟩)
 ·trivial
end
section
variable {Q R : Type} (L : Nat) (W : G1) (Y : Yh Q) (s : Q) (k : Out -> St Q -> Option R)
noncomputable abbrev Ak7:Code:=D7 ag1
noncomputable def Lo(L:Nat):=mkC L 9 [(2,[0,0,2,0])] [(6,[4]),(3,[0,0,3]),(5,[4]),(4,[0,0,3,12]),(2,[0,0,3,3]),(1,[0,0,3]),(0,[0,0])] [(0,[]),(1,[0,0,3])] [4]
def Er(L n:Nat)(n0:Int)(d c:Bool)(b:LL)(a:Int)(e:Unit->Option R)(f:Unit->Option R):Option R:=match n with|0=>none|n+1=>cond (ltI a (b.length:Int)) (cond (inR a b.length) (cond (okE Aa b (x3 a) 0) (cond (ltI n0 (↑(w8 (gX b (x3 a) 0)):Int)) (e ()) (Er L n n0 d c b (A1 (a+1)) e f)) none) none) (f ())
def ZF(n n0 l_z1 l_t2 l3 i4):D4 0 ((Lo L).keep 2) (bd (Lo L) W Y (cd [1,0,1,0,0] Ak7)) n ⟨gp [(0,pI n0),(0,.s (.sl l_z1 l_t2 1 l3)),(3,pI i4)] 13,[],s⟩ k =
 Er L n n0 l_z1 l_t2 l3 i4 (λ_=>k .ret ⟨gp [(4,pB false)] 14,[],s⟩) (λ_=>k (.exit 0) ⟨gp [] 19,[],s⟩):=by
 induction n generalizing n0 l_z1 l_t2 l3 i4 with
 | zero=>rfl
 | succ n a=>rw[Er];simp only[<-a];kernel_rfl
def ZE(L:Nat)(n0:Int)(b a:Bool)(d:LL)(c:Bool->Option R):Option R:=Er L L n0 b a d 0 (λ_=>c false) (λ_=>c true)
def Cd6(d:Nat)(n0 l_z1 l_t2 l3):evC (Lo L) (d+1) Q Y 9 [pI n0,.s (.sl l_z1 l_t2 1 l3)] [] s=ZE L n0 l_z1 l_t2 l3 (λa=>some (pB a,[],s)):=evT ag1 λW=>by
 unfold ZE;exact(j9 (by kernel_rfl) (ag (ZF L W Y s (F2 0 (F6 (Lo L) W Y (cd [1,1] Ak7) (I8 (Lo L) ag1))) L n0 l_z1 l_t2 l3 0)))
end
end
section
open Go Go.Proofs Go.Sort
def EZ(n:Int)(z t:Bool)(l:List By)(c d:Unit->Option R)(j:l.length<=1000000000):∀(r:List By) (i m:Nat),l.drop i=r->r.length<m->Er LF m n z t (A9 l) (i:Int) c d=if La n r then d () else c ()
 | [],i,m,h,b=>by
  obtain⟨m,rfl⟩:∃q,m=q+1:=⟨m-1,by simp at b;omega⟩
  rw[Er];have:l.length<=i:=ac3.1 h;rw[D8 (by rw[A8];omega)];rfl
 | x::r,i,m,h,b=>by
  obtain⟨m,rfl⟩:∃q,m=q+1:=⟨m-1,by simp at b;omega⟩
  rw[Er];have a:i<l.length:=Decidable.byContradiction λg=>by
   rw[ac3.2 (by omega)] at h;cases h
  have o:l.getD i []=x:=by
   have:=aa9 a;rw[h] at this;rw[k9,o7 a];exact(ae5 this).1.symm
  have k:l.drop (i+1)=r:=by
   have:=aa9 a;rw[h] at this;exact(ae5 this).2.symm
  rw[C5 (by rw[A8];omega),aa,G9 (by omega) (by rw[A8];omega),aa,j0,K5 a,aa,L9,o];have e:La n (x::r)=(!(ltI n (x.length:Int))&&La n r):=rfl;rw[e];by_cases f:n<(x.length:Int)
  ·rw[C5 f];rfl
  ·rw[A5,ab,A4,j5,y5];exact EZ n z t l c d j r (i+1) m k (by simp at b;omega)
def Ar7{b:Bool->Option R}(n:Int)(z t:Bool)(l:LL)(c:l.all isS=true)(d:A2 l.length=true):ZE LF n z t l b=b (La n (l.map elS)):=by
 have e:=C9;have a:=L4 d;rw[Ca c] at a ⊢;generalize l.map elS=q at a ⊢;rw[A8] at a;unfold ZE;rw[show(0:Int)=((0:Nat):Int) from rfl,EZ n z t q _ _ a q 0 LF rfl (by omega)];have:aa3 elS (A9 q)=q:=by
  unfold A9;rw[af2];exact ae6 (λ_=>rfl) q
 rw[this];cases La n q<;>rfl
end
section
open Go Go.Proofs
section
def Dd1:C0 c9 GX 9 Ai6:=xf [] (Lo LF) AU rfl trivial rfl follows λargs=>by
 unfold AU;split
 ·rename_i n b a l;exact λc=>λd=>⟨rfl,rfl,rfl,_,_,(Cd6 LF noY () 0 n b a l).trans (Ar7 n b a l c d),rfl⟩
 ·trivial
end
def C92{a:LL}(h:∀b∈a,Ty.ofL [.str] b):a.all isS=true:=by rw[x6];intro b c;have:=h b c;simp only[Ty.ofL,Ty.of] at this;obtain⟨_,_,rfl,⟨l,rfl,_⟩,rfl⟩:=this;rfl
def Dk4{b:LL}(h:∀a∈b,Ty.ofL [.str,.slice [.str]] a):b.all Qg=true:=by
 rw[x6];intro a f;have:=h a f;simp only[Ty.ofL,Ty.of] at this;obtain⟨_,_,rfl,⟨u,rfl,_⟩,x,_,rfl,e,rfl⟩:=this;simp only[o9,p9] at e;rcases e with rfl|⟨d,rfl,_,c⟩
 ·rfl
 ·have g:d.all isS=true:=C92 (λa h=>by simpa only[Ty.ofL,Ty.of] using c a h);show((Nat.beq 1 1||(false&&d.isEmpty))&&d.all isS)=true;rw[g];rfl
def A79{P:Program}{t:Nat}{v:PV}(h:QC P t v)(e:Nd P 20 t=some [.slice [.str,.slice [.str]]])(d:EK P t=false):∃z l,v = .s (.sl z false 2 l)/\l.all Qg=true:=by
 obtain⟨x,rfl,c⟩:=Dh8 h e d;simp only[Ty.of,o9,p9] at c;rcases c with rfl|⟨b,rfl,f,a⟩
 ·exact⟨true,[],rfl,rfl⟩
 ·exact⟨false,b,rfl,Dk4 a⟩
def Dv1{l:LL}(g:l.all Qg=true)(h:Pl (l.map M0)=true):l.all Zw=true/\A2 l.length=true:=by unfold Pl at h;simp only[p5,o8] at h;obtain⟨i,j⟩:=h;refine⟨x6.2 λx b=>?_,D5 (by have:=ac1 i;omega)⟩;have m:=x6.1 g x b;have a:=x6.1 j (M0 x) (List.mem_map.2 ⟨x,b,rfl⟩);simp only[p5] at a;obtain⟨c,e,k⟩:=a;have d:=(E9.1 c).2;have f:=ac1 e;unfold Zw;rw[p5];refine⟨aa5 (show(M0 x).1.length<=10000000 by omega),aa5 ?_⟩;have:((x.getD 1 .nilp).gE).length=(M0 x).2.length:=(o8 _).symm;omega
def Al5:∀(l:List FrV) (d c up b e:Bool) (a:List By),(Qw l d c up b e a).h.length<=a.length+l.length
 | [],d,c,up,b,e,a=>by
  show(o5 (N6 a)).length<=_;have:=YE (N6 a);rw[Zy] at this;omega
 | f::r,d,c,up,b,e,a=>by
  rw[B93,o9];cases (uE (C1 f.1)!=0) with
  | true=>show 0<=_;omega
  | false=>
   cases ((F0 f.2).2 !=0) with
   | true=>show 0<=_;omega
   | false=>
    simp only[ab];refine af3 (Al5 r _ _ _ _ _ _) ?_;cases (upF f.2&&D2 (uS (C1 f.1)))<;>simp<;>omega
def B96(l:List FrV):(cH (L3 l)).length<=16:=by
 rw[A85];cases b:(l.isEmpty||ltI 16 (l.length:Int)) with
 | true=>show 0<=16;omega
 | false=>
  simp only[Bool.or_eq_false_iff] at b;have a:=b.2;rw[Y0,decide_eq_false_iff_not] at a;have:=Al5 l true false false false false [];simp only[p9] at this;simp only[ab];show(Qw l true false false false false []).h.length<=16;omega
section
variable {σ R : Type} (L : Nat) (Q : G1) (Y : Yh σ) (s : σ) (k : Out -> St σ -> Option R)
noncomputable def Bz0(L:Nat):=mkC L 3 [] [(5,[2]),(4,[3,0,0,0]),(3,[0,2,0]),(2,[2]),(1,[0,8]),(0,[0])] [] [2] [(4,A56),(5,AM),(6,Ql),(7,IS),(8,A55)] [4,5,8] (nt:=[(27,4,9,1)])
def lcx(L:Nat)(e d:Bool)(a:LL)(f:Bool->(List Blk)->Option R):Option R:=
 cond (aa0 a Qg)
 (cond (not (Pl (aa3 M0 a)))
  (f true [])
  (cond (aa0 a Qg)
  (cond (aa0 a Zw)
   (cond (A2 a.length)
   (vl (L3 (aa3 M0 a)) λc=>
    cond (aa0 a Qg)
    (cond (aa0 a Zw)
     (cond (A2 a.length)
     (vl (L3 (aa3 M0 a)) λb=>
      cond (aa0 (A9 (cH c)) isS)
      (cond (A2 (w8 (A9 (cH c))))
       (cond (aa0 (A9 (cH b)) isS)
       (cond (A2 (w8 (A9 (cH b))))
        (cond ((((((cS c)==(cS b))&&((cP c)==(cP b)))&&((cU c)==(cU b)))&&((cB c)==(cB b)))&&((aa3 elS (A9 (cH c)))==(aa3 elS (A9 (cH b)))))
        (cond ((cE c)==(cE b))
         (f true [(Blk.arr true 9 1 (A9 (cH c))),(Blk.arr true 9 1 []),(Blk.box [(PV.s (SV.bool (cS c))),(PV.s (SV.bool (cP c))),(PV.s (SV.bool (cU c))),(PV.s (SV.bool (cB c))),(PV.fl 0)]),(Blk.arr true 9 1 []),(Blk.box [(PV.s (SV.bool (cS b))),(PV.s (SV.bool (cP b))),(PV.s (SV.bool (cU b))),(PV.s (SV.bool (cB b))),(PV.s (SV.sl (aa2 (cH b)) (aa2 (cH b)) 1 (A9 (cH b))))])])
         (f false [(Blk.arr true 9 1 (A9 (cH c))),(Blk.arr true 9 1 []),(Blk.box [(PV.s (SV.bool (cS c))),(PV.s (SV.bool (cP c))),(PV.s (SV.bool (cU c))),(PV.s (SV.bool (cB c))),(PV.fl 0)]),(Blk.arr true 9 1 []),(Blk.box [(PV.s (SV.bool (cS b))),(PV.s (SV.bool (cP b))),(PV.s (SV.bool (cU b))),(PV.s (SV.bool (cB b))),(PV.s (SV.sl (aa2 (cH b)) (aa2 (cH b)) 1 (A9 (cH b))))])]))
        (f false [(Blk.arr true 9 1 (A9 (cH c))),(Blk.arr true 9 1 []),(Blk.box [(PV.s (SV.bool (cS c))),(PV.s (SV.bool (cP c))),(PV.s (SV.bool (cU c))),(PV.s (SV.bool (cB c))),(PV.fl 0)]),(Blk.arr true 9 1 []),(Blk.box [(PV.s (SV.bool (cS b))),(PV.s (SV.bool (cP b))),(PV.s (SV.bool (cU b))),(PV.s (SV.bool (cB b))),(PV.s (SV.sl (aa2 (cH b)) (aa2 (cH b)) 1 (A9 (cH b))))])]))
        none)
       none)
       none)
      none)
     none)
     none)
    none)
   none)
   none)
  none))
 none
def D67(d:Nat)(frames_z0 frames_t1 frames2):evC (Bz0 L) (d+1) σ Y 3 [.s (.sl frames_z0 frames_t1 2 frames2)] [] s=lcx L frames_z0 frames_t1 frames2 (λb a=>some (pB b,a,s)):=evT ac4 λQ=>by
 unfold lcx;kernel_rfl
end
def C16(z t:Bool)(l:LL)(a:l.all Qg=true):Tru (evC (Bz0 LF) 1 Unit noY 3 [.s (.sl z t 2 l)] [] ()):=by
 refine Eq.subst (motive:=Tru) (D67 (σ:=Unit) LF noY () 0 z t l).symm ?_;unfold lcx;rw[a];simp only[aa];cases c:Pl (l.map M0) with
 | false=>exact⟨_,rfl⟩
 | true=>
  obtain⟨b,d⟩:=Dv1 a c;have e:=B96 (l.map M0);rw[b,d];simp only[aa,ab,j8,vl,Z3,A8,D5 (show(cH (L3 (l.map M0))).length<=1000000000 by omega),beq_self_eq_true,Bool.and_self];exact⟨_,rfl⟩
def Dn7(args:List PV)(h:Ni c9 [22] args):∃d a,evC (Bz0 LF) d Unit noY 3 args [] ()=some (.s (.bool true),a,()):=by obtain⟨v1,e,rfl,b,rfl⟩:=h;obtain⟨z,l,rfl,c⟩:=A79 b (by kernel_rfl) (by kernel_rfl);exact⟨1,C16 z false l c⟩
end
section
open Go Go.Proofs Go.Sort
def TJ{w:World}{a e:Nat}{b:Array Value}{c:Nat × Nat}(h:w.heap[a]? = some (.cells b e c))(d:Array By) :
  (putRow encStr w a 0 d).heap[a]? = some (.cells (putCells encStr 0 d b) e c)/\(∀k,k≠a->(putRow encStr w a 0 d).heap[k]? = w.heap[k]?):=by
 unfold putRow mapBlock;constructor
 ·simp only[ac0,if_true,h,x4,onCells]
 ·intro k f;simp only[ac0];rw[ae (λe=>f e.symm)]
def Au5{a:Array Value}{d:Array By}{i:Nat}(c:i<d.size)(e:d.size<=a.size):(putCells encStr 0 d a)[i]? = some (encStr d[i]!):=by
 have b:i<a.size:=by omega
 unfold putCells;rw[Array.getElem?_mapIdx,Array.getElem?_eq_getElem b];simp only[x4,ad4,true_and,ad3,c,if_true,ad2]
def DR(a:Array Value)(d:Array By):(putCells encStr 0 d a).size=a.size:=by simp[putCells]
def SJ{St:Nat->Prop}{w:World}{g e:Nat}{b:Array Value}{E:List By}{f:Nat}(l:w.heap[g]? = some (.cells b e (0,0)))(d:∀i (h:i<(A9 E).length),((A9 E)[i]).length=f)
  (q:∀i (h:i<(A9 E).length) j (t:j<((A9 E)[i]).length),∃V,b[i*f+j]? = some V/\VS St w ((A9 E)[i][j]) V):Holds encStr w g 0 E.toArray:=by
 intro i m;have c:i<E.length:=by simpa using m
 have n:i<(A9 E).length:=by rw[A8];exact c
 have a:(A9 E)[i]=[SV.str E[i]]:=by simp[A9]
 have p:f=1:=by rw[<-d i n,a];rfl
 subst p;constructor
 ·obtain⟨V,k,o⟩:=q i n 0 (by rw[a];exact Nat.one_pos);rw[y8,ad1] at k;simp only[a,ab5] at o;obtain⟨s,rfl,r⟩:=o.inv_str;simp only[World.cell?,l,ad3];rw[k,getElem!_pos E.toArray i m];simp only[List.getElem_toArray,encStr,Option.isSome_none,ac7,if_false];rw[<-r]
 ·simp[World.frozen?,l]
def Dg8:Aj8 c9 16 Xn:=by
 intro St w x X o S h;generalize z:Xn x o=pr at h ⊢;obtain⟨b,L⟩:=pr;dsimp only at h ⊢;unfold Xn at z;split at z
 case h_2=>
  obtain⟨rfl,_⟩:=af7 z;cases h
 obtain⟨B,M⟩:=af7 z;rw[<-B] at h;simp only[p5] at h;obtain⟨T,U⟩:=h;have d:∀(p:Option Addr) cap,R5 c9 ((callFunc 16 #[.slice p 0 cap]).run c9 w) λV w'=>V=undef/\w'=w:=λp cap=>
  Bt (fn:=Tryz.f16) (by kernel_rfl) (by kernel_rfl) (by kernel_rfl) ((Any.slices_Sort_string_none Tryz.lays190 p cap w).mono λe w' ⟨D,m⟩=>⟨_,D,rfl,m⟩)
 obtain⟨E,rfl⟩:∃E,o=A9 E:=⟨_,Ca T⟩
 rw[S7] at M;subst M;have c:=Zy E;refine⟨λy=>?_,?_⟩
 ·have A:E=[]:=by
   cases E with
   | nil=>rfl
   | cons a r=>cases y
  subst A;refine(d none 0).mono λV w' ⟨J,m⟩=>⟨J,?_,m▸O7.refl _⟩
  have:N6 []=[]:=o6.1 c;rw[this];rfl
 intro u k e sz cap v C G N a0 Z t f;by_cases y:E=[]
 ·subst y;have H:N6 []=[]:=o6.1 c;refine(d _ cap).mono λV w' ⟨J,m⟩=>?_
  rw[m,H];exact⟨J,rfl,w,k,v,rfl,λ_ _=>rfl,rfl,rfl,rfl,rfl,λi h=>absurd h (ad6 _),λi h=>absurd h (ad6 _),O7.refl _⟩
 have A:0<E.length:=x5.2 y;have I:sz=1:=by
  rw[<-t 0 (by rw[A8];exact A)];simp[A9]
 have W:=SJ v t f;subst I;have q:u<w.heap.size:=(aa8.1 v).1;have B:E.length<4611686018427387904:=by
  have:=L4 U;rw[A8] at this;omega
 have P:=Any.slices_Sort_string Tryz.lays190 u 0 cap E w W q B;rw[<-Zx] at P;rw[A8];refine Bt (fn:=Tryz.f16) (by kernel_rfl) (by kernel_rfl) (by kernel_rfl) (P.mono λe' w' ⟨D,n,os,m⟩=>⟨_,D,rfl,by rw[A8,c],?_⟩);obtain⟨p1,p2⟩:=TJ v (N6 E).toArray;have O:k.size=cap:=by rw[C,y8]
 have R:E.length<=cap:=by rw[<-A8];exact G
 have l:∀i (h:i<(A9 (N6 E)).length),(A9 (N6 E))[i]=[SV.str ((N6 E)[i]'(by rw[A8] at h;exact h))]:=λi h=>by simp[A9]
 refine⟨putRow encStr w u 0 (N6 E).toArray,putCells encStr 0 (N6 E).toArray k,p1,DR _ _,p2,by simp[putRow,mapBlock],rfl,rfl,rfl,λi h=>by rw[l];rfl,λi h j K=>?_,?_⟩
 ·have Y:j=0:=by
   have:j<1:=by rw[l] at K;exact K
   omega
  subst Y;have Q:i<(N6 E).length:=by rw[A8] at h;exact h
  refine⟨_,by rw[y8,ad1];exact Au5 (by simpa using Q) (by simp;omega),?_⟩;have S:(A9 (N6 E))[i][0] = .str (N6 E)[i]:=by simp only[l];rfl
  rw[S,getElem!_pos (N6 E).toArray i (by simpa using Q)];have:=VS.str (St:=St) (w:=putRow encStr w u 0 (N6 E).toArray) ⟨((N6 E)[i]).toArray⟩;simpa using this
 ·rw[m];refine⟨⟨λg F=>heap_grow_old _ _ F,by simp only[grow,Array.size_append];exact Nat.le_add_right _ _⟩,rfl,rfl,rfl⟩
def C65{C:Cfg}{R:Type}{I:R->(Nat->Prop)->(Nat->Prop)->World->Prop}(D:HI I){f:Ctx}{p:Nat->Prop}{w w':World}{z:Bool}{E:Nat}{l l':LL}{s:R}(g cap:Nat)(B:List Value)(i:Array Value)
  (L:Ij C E=false) (n:HR f [.arr z E 1 l] w) (K:I s f.St p w) (H:∀b g,f.nm b=some g->¬p g)
  (d:f.nm 0=some g) (J:g<w'.heap.size) (e:∀k,k<w.heap.size->f.nm 0≠some k->w'.heap[k]? = w.heap[k]?) (m:w.heap.size<=w'.heap.size) (M:w'.os=w.os) (N:w'.tape=w.tape) (O:w'.output=w.output)
  (j:w'.heap[g]? = some (.cells i E (0,0))) (T:Els f.St w' 1 l' B) (v:l'≠[]) (o:∀q,q<B.length->i[q]? = B[q]?) (U:B.length<=i.size) (u:l'.length<=cap) (V:cap<=maxLen) (G:i.size=cap) :
  Cb C I f [.arr z E 1 l] w p (.fl 0) [.arr z E 1 l'] s (.slice (some ⟨g,0,none⟩) l'.length cap) w':=by
 have t:0<[Blk.arr z E 1 l].length:=by simp
 have A:(f.re 0 (some g)).nm 0=some g:=by simp[Ctx.re]
 have x:¬Kq C (A3 [Blk.arr z E 1 l] 0):=by simp[A3,Blk.shp,Kq,L]
 have a:([Blk.arr z E 1 l].map (Blk.kill 0)).set 0 (.arr z E 1 l')=[.arr z E 1 l']:=rfl;obtain⟨P,Q,X⟩:=NN (C:=C) (y:=.arr z E 1 l') (ng:=some g) (w':=w') n t x (λk a=>by
   simp only[o0] at a;subst a;exact⟨J,(n.lt 0 g d).2.2,λc o F=>o (n.inj c 0 _ F d)⟩)
  (λk a=>by
   simp only[o0] at a;subst a;exact .inl d) e m M N O
  (BR.els A j T (by rintro⟨_,h⟩;exact v h) o U) rfl
 rw[a] at P Q;refine⟨_,p,P.lift p,Q,?_,λc o=>?_,?_,λb S r=>?_⟩
 ·refine .fl 0 g z E 1 l'.length cap rfl (λ_ h=>v (o6.1 h)) A u V ?_;simp only[af4,j,G,y8]
 ·simp only[PV.nms,List.mem_singleton] at o;subst o;simp
 ·refine D.mono s f.St p w f.St w' K (λ_ h=>h) (λk a W=>(D.foot _ _ _ _ K k W).2 a) (λk a=>Nat.lt_of_lt_of_le (n.stlt k a) m) (λk a=>?_) m M N O;rcases a with a|a
  ·exact e k (n.stlt k a) (λh=>(n.lt 0 k h).2.2 a)
  ·exact e k (D.foot _ _ _ _ K k a).1 (λh=>H 0 k h a)
 ·simp only[Ctx.re] at r;split at r
  ·simp only[o0] at r;subst r;exact H 0 _ d
  ·exact H b S r
def Bu0:Uv c9 GX 17 Nk:=by
 intro C hP hG σ I yh yv hI hy args H s ret Hc c W Φ w Vs a2 y hg f Y hc hn;unfold Nk at c;split at c
 ·rename_i z l;obtain⟨h0,c⟩:=C8 c;obtain⟨h1,c⟩:=C8 c;obtain⟨rfl,rfl⟩:=J6 c;obtain⟨S,rfl,Z⟩:=hc.arr1;obtain⟨E,rfl⟩:∃E,l=A9 E:=⟨_,Ca h0⟩
  rw[S7];have P:Ij C 9=false:=by
   unfold Ij Cfg.sh;rw[hP];kernel_rfl
  refine Bt (fn:=Tryz.f17) (by kernel_rfl) (by kernel_rfl) (by kernel_rfl) ?_;have empty:∀a cap,E=[]->S = .slice a 0 cap->Calls c9 17 #[S] w λe w'=>∃V,e = .returned V/\Cb C I W [.arr z 9 1 (A9 E)] w Φ (.fl 0) [.arr z 9 1 (A9 (o5 E))] s V w':=by
   rintro a cap rfl rfl;refine(Any.slices_Compact_string_empty Tryz.lays194 a cap w).mono ?_;rintro e w' ⟨rfl,rfl⟩;exact⟨_,rfl,W,Φ,Stp.refl y,y,Z,by simp[PV.nms],f,Y⟩
  cases Z with
  | flv _ e2 U r=>
   simp only[A3,ab3,x4,Blk.shp,o0,Shp.arr.injEq] at r;obtain⟨q1,q2,q3,X⟩:=r;rw[A8] at X;exact empty none 0 (o6.1 X) rfl
  | fl _ g z' e2 U n' cap r a1 o h hm Q=>
   simp only[A3,ab3,x4,Blk.shp,o0,Shp.arr.injEq] at r;obtain⟨rfl,rfl,rfl,rfl⟩:=r;by_cases d:E=[]
   ·subst d;exact empty _ cap rfl rfl
   have O:¬(z=true/\A9 E=[]):=by
    rintro⟨q1,q2⟩;exact d (o6.1 (by rw[<-A8,q2];rfl))
   obtain⟨g',j,u,A,R,p,t⟩:=y.arr' (b:=0) rfl O;obtain rfl:g=g':=by
    rw[o] at u;exact ab9 u
   have G:j.size=cap:=by
    have:=Q;simp only[af4,A,o0,ae7,true_and,y8] at this;exact this
   have F:=SJ A p t;rw[A8] at h ⊢;have hb:=L4 h1;rw[A8] at hb;refine(Any.slices_Compact_string Tryz.lays194 g 0 cap E w F (by omega) h).mono ?_;rintro e w' ⟨rfl,q,rfl⟩;have a0:=YE E;have B:(o5 E++s9 (E.length-(o5 E).length) []).toArray.size=E.length:=by simp;omega
   generalize hD:(o5 E++s9 (E.length-(o5 E).length) ([]:By)).toArray=D at B ⊢;have v:∀i,i<(o5 E).length->D[i]! = (o5 E)[i]!:=λi f=>by
    rw[<-hD,getElem!_pos ((o5 E++s9 (E.length-(o5 E).length) ([]:By)).toArray) i (by simp;omega),getElem!_pos (o5 E) i f];simp[List.getElem_append_left f]
   obtain⟨p1,p2⟩:=TJ (w:=ab6 w q) (show(ab6 w q).heap[g]? = some (.cells j 9 (0,0)) from A) D;have J:g<w.heap.size:=(aa8.1 A).1;have T:(putRow encStr (ab6 w q) g 0 D).heap.size=w.heap.size:=by simp[putRow,mapBlock]
   have m:((o5 E).map encStr).length=(o5 E).length:=o8 _;have:=C65 (C:=C) (w':=putRow encStr (ab6 w q) g 0 D) (l':=A9 (o5 E)) (s:=s) hI g cap ((o5 E).map encStr) (putCells encStr 0 D j) P y f Y o (by rw[T];exact J) (λk L N=>p2 k (λe=>N (e▸o))) (by omega) rfl rfl rfl p1
    ⟨by rw[m,A8,y8],λi x=>by
     have K:i<(o5 E).length:=by rw[A8] at x;exact x
     have n:(A9 (o5 E))[i]=[SV.str (o5 E)[i]]:=by simp[A9]
     refine⟨by rw[n];rfl,λk L=>?_⟩;have M:k=0:=by
      have:k<1:=by rw[n] at L;exact L
      omega
     subst M;refine⟨encStr (o5 E)[i],by rw[y8,ad1,ad0,o7 K];rfl,?_⟩;simp only[n,ab5];have:=VS.str (St:=W.St) (w:=putRow encStr (ab6 w q) g 0 D) ⟨((o5 E)[i]).toArray⟩;simpa using this⟩
    (λe=>D50 d (o6.1 (by rw[<-A8,e];rfl)))
    (λi f=>by
     rw[m] at f;rw[Au5 (by omega) (by omega),v i f,ad0,o7 f,getElem!_pos (o5 E) i f];rfl)
    (by rw[m,DR];omega) (by rw[A8];omega) hm (by rw[DR];exact G)
   rw[A8] at this;exact⟨_,rfl,this⟩
 ·cases c
end
section
open Go Go.Proofs
section
variable {Y R : Type} (L : Nat) (W : G1) (Q : Yh Y) (s : Y) (k : Out -> St Y -> Option R)
noncomputable def Bz4(L:Nat):=mkC L 31 [] [(8,[2]),(5,[2]),(7,[2]),(6,[1,12]),(4,[1,5,0]),(3,[1,5]),(2,[2]),(1,[1,3]),(0,[1])] [(0,[1])] [2] [(25,VC),(56,Cq9)] [25,56]
def B45(L:Nat)(c:Int)(b:By)(d e f g h i j l a:Int)(m:Bool->(List Blk)->Option R):Option R:=cond (A2 b.length) (cond (ltN d 4294967296) (cond (ok8 e f g h i j l a) (cond (not (P3 (mkH c b d (n8 e f g h i j l a)))) (m false [(bH c b d e f g h i j l a)]) (cond (c==2) (vl (Qi .u32 d (24:Int)) λn=>m (n==127) [(bH c b d e f g h i j l a)]) (cond (c==3) (m ((e==0)&&((f==0)&&((g==0)&&((h==0)&&((i==0)&&((j==0)&&((l==0)&&((a==1)&&true)))))))) [(bH c b d e f g h i j l a)]) (cond (A2 b.length) (m (Gp ([108,111,99,97,108,104,111,115,116]:By) b) [(bH c b d e f g h i j l a)]) none)))) none) none) none
def C33(d:Nat)(h0 h1 h2 h3 h4 h5 h6 h7 h8 h9 h10):evC (Bz4 L) (d+1) Y Q 31 [(gH h0 h1 h2 h3 h4 h5 h6 h7 h8 h9 h10)] [] s=B45 L h0 h1 h2 h3 h4 h5 h6 h7 h8 h9 h10 (λb a=>some (pB b,a,s)):=evT Tryz.f31 λW=>by
 unfold B45;kernel_rfl
noncomputable def Al8(L:Nat):=mkC L 14 [] [(10,[2]),(7,[2]),(9,[2]),(8,[1,10]),(6,[1,5,0]),(5,[1,5,0]),(4,[1,5,0]),(3,[1,5]),(2,[2]),(1,[1,3]),(0,[1])] [(0,[1])] [2] [(30,QL),(13,Sf),(31,Bv2)] [30,13,31]
abbrev Kbf(R:Type):=Bool->By->By->Int->By->Int->Int->Int->Int->Int->Int->Int->Int->Int->Int->By->Option R
def Ts(h:By)(r:Bool)(o:By)(i:Int)(p:By)(j l m g n b c d e f:Int)(a:By)(q:Bool->(List Blk)->Option R)(t:Kbf R):Option R:=cond r (q true [(bU h o i p j l m g n b c d e f a)]) (cond (h==[97,98,111,117,116]) (cond (a==[98,108,97,110,107]) (q true [(bU h o i p j l m g n b c d e f a)]) (q (a==[115,114,99,100,111,99]) [(bU h o i p j l m g n b c d e f a)])) (t (h==[97,98,111,117,116]) h o i p j l m g n b c d e f a))
def Tt(o q:By)(n:Int)(m:By)(h i j e l a b c d f:Int)(g:By)(p:Bool->(List Blk)->Option R):Option R:=cond (D2 o) (cond (A2 m.length) (cond (ltN h 4294967296) (cond (ok8 i j e l a b c d) (p (FF n m h i j e l a b c d) [(bU o q n m h i j e l a b c d f g)]) none) none) none) (p false [(bU o q n m h i j e l a b c d f g)])
def Aa1(L:Nat)(f h:By)(u2:Int)(i:By)(j l m n u8 o a b c d:Int)(e:By)(g:Bool->(List Blk)->Option R):Option R:=cond (smU f h i e) (cond (ltN j 4294967296) (cond (ok8 l m n u8 o a b c) (cond (Eb d) (cond (not (Fe (mkU f h u2 i j (n8 l m n u8 o a b c) d e))) (g false [(bU f h u2 i j l m n u8 o a b c d e)]) (cond (f==[104,116,116,112,115]) (Ts f (f==[104,116,116,112,115]) h u2 i j l m n u8 o a b c d e g (λb7 b2 b3 a8 b4 a9 b0 b1 p q r t u v w Z=>Tt b2 b3 a8 b4 a9 b0 b1 p q r t u v w Z g)) (cond (f==[119,115,115]) (Ts f (f==[119,115,115]) h u2 i j l m n u8 o a b c d e g (λb5 a0 a1 x a2 y z A B C D F G H I a3=>Tt a0 a1 x a2 y z A B C D F G H I a3 g)) (Ts f (f==[102,105,108,101]) h u2 i j l m n u8 o a b c d e g (λb6 a4 a5 J a6 K M N O P S T U V X a7=>Tt a4 a5 J a6 K M N O P S T U V X a7 g))))) none) none) none) none
def Cf3(d:Nat)(u0 u1 u2 u3 u4 u5 u6 u7 u8 u9 u10 u11 u12 u13 u14):evC (Al8 L) (d+1) Y Q 14 [(gU u0 u1 u2 u3 u4 u5 u6 u7 u8 u9 u10 u11 u12 u13 u14)] [] s=Aa1 L u0 u1 u2 u3 u4 u5 u6 u7 u8 u9 u10 u11 u12 u13 u14 (λb a=>some (pB b,a,s)):=evT Tryz.f14 λW=>by
 unfold Aa1;kernel_rfl
noncomputable def Am1(L:Nat):=mkC L 39 [] [(8,[2]),(5,[2]),(7,[2]),(6,[1,12]),(4,[1,5,0]),(3,[1,5]),(2,[2]),(1,[1,3]),(0,[1])] [(0,[1])] [2] [(40,WK),(79,Bv5)] [40,79]
def Ad2(L:Nat)(c:Int)(b:By)(d e f g h i j l a:Int)(m:Bool->(List Blk)->Option R):Option R:=cond (A2 b.length) (cond (ltN d 4294967296) (cond (ok8 e f g h i j l a) (cond (not (P3 (mkH c b d (n8 e f g h i j l a)))) (m false [(bH c b d e f g h i j l a)]) (cond (c==2) (vl (Qi .u32 d (24:Int)) λn=>m (n==127) [(bH c b d e f g h i j l a)]) (cond (c==3) (m ((e==0)&&((f==0)&&((g==0)&&((h==0)&&((i==0)&&((j==0)&&((l==0)&&((a==1)&&true)))))))) [(bH c b d e f g h i j l a)]) (cond (A2 b.length) (m (Gp ([108,111,99,97,108,104,111,115,116]:By) b) [(bH c b d e f g h i j l a)]) none)))) none) none) none
def Cj5(d:Nat)(h0 h1 h2 h3 h4 h5 h6 h7 h8 h9 h10):evC (Am1 L) (d+1) Y Q 39 [(gH h0 h1 h2 h3 h4 h5 h6 h7 h8 h9 h10)] [] s=Ad2 L h0 h1 h2 h3 h4 h5 h6 h7 h8 h9 h10 (λb a=>some (pB b,a,s)):=evT Tryz.f39 λW=>by
 unfold Ad2;kernel_rfl
noncomputable def RA(L:Nat):=mkC L 21 [] [(13,[2]),(7,[2]),(10,[2]),(12,[2]),(11,[1,16]),(9,[1,5,4]),(8,[1,5,4]),(6,[1,5,0]),(5,[1,5,0]),(4,[1,5,0]),(3,[1,5]),(2,[2]),(1,[1,3]),(0,[1])] [(0,[])] [2] [(38,JN),(39,Aj0)] [38,39]
def Wq(m:By)(r:Bool)(p:By)(o:Int)(n:By)(h i j e l a b c d g:Int)(f:By)(q:Bool->(List Blk)->Option R)(t:Kbf R):Option R:=cond r (cond (A2 n.length) (cond (ltN h 4294967296) (cond (ok8 i j e l a b c d) (q (FF o n h i j e l a b c d) [(bU m p o n h i j e l a b c d g f)]) none) none) none) (cond (m==[97,98,111,117,116]) (cond (f==[98,108,97,110,107]) (q true [(bU m p o n h i j e l a b c d g f)]) (q (f==[115,114,99,100,111,99]) [(bU m p o n h i j e l a b c d g f)])) (t (m==[97,98,111,117,116]) m p o n h i j e l a b c d g f))
def Oz(h:By)(t:Bool)(p:By)(j:Int)(q:By)(l m n f o a b c d e:Int)(g:By)(i:Bool->(List Blk)->Option R)(r:Kbf R):Option R:=cond t (i true [(bU h p j q l m n f o a b c d e g)]) (cond (h==[104,116,116,112]) (Wq h (h==[104,116,116,112]) p j q l m n f o a b c d e g i r) (Wq h (h==[119,115]) p j q l m n f o a b c d e g i r))
def HM(L:Nat)(f h:By)(u2:Int)(i:By)(j l m n u8 o a b c d:Int)(e:By)(g:Bool->(List Blk)->Option R):Option R:=cond (smU f h i e) (cond (ltN j 4294967296) (cond (ok8 l m n u8 o a b c) (cond (Eb d) (cond (not (Fe (mkU f h u2 i j (n8 l m n u8 o a b c) d e))) (g false [(bU f h u2 i j l m n u8 o a b c d e)]) (cond (f==[104,116,116,112,115]) (Oz f (f==[104,116,116,112,115]) h u2 i j l m n u8 o a b c d e g (λb5 a3 a4 p a5 q r t u v w x y z A a6=>g false [(bU a3 a4 p a5 q r t u v w x y z A a6)])) (cond (f==[119,115,115]) (Oz f (f==[119,115,115]) h u2 i j l m n u8 o a b c d e g (λb6 a7 a8 B a9 C D F G H I J K M N b0=>g false [(bU a7 a8 B a9 C D F G H I J K M N b0)])) (Oz f (f==[102,105,108,101]) h u2 i j l m n u8 o a b c d e g (λb7 b1 b2 O b3 P S T U V X Z a0 a1 a2 b4=>g false [(bU b1 b2 O b3 P S T U V X Z a0 a1 a2 b4)]))))) none) none) none) none
def Bl4(d:Nat)(u0 u1 u2 u3 u4 u5 u6 u7 u8 u9 u10 u11 u12 u13 u14):evC (RA L) (d+1) Y Q 21 [(gU u0 u1 u2 u3 u4 u5 u6 u7 u8 u9 u10 u11 u12 u13 u14)] [] s=HM L u0 u1 u2 u3 u4 u5 u6 u7 u8 u9 u10 u11 u12 u13 u14 (λb a=>some (pB b,a,s)):=evT Tryz.f21 λW=>by
 unfold HM;kernel_rfl
end
abbrev D30(f:Int->By->Int->Int->Int->Int->Int->Int->Int->Int->Int->(Bool->List Blk->Option (PV × List Blk × Unit))->Option (PV × List Blk × Unit))(k:Int)(j:By)(v4 a b c d e g h i:Int):Prop:=
 A2 j.length=true->ltN v4 4294967296=true->ok8 a b c d e g h i=true->∃r H,f k j v4 a b c d e g h i (λm l=>rv (.s (.bool m)) l)=rv r H/\r.stab [] H = .s (.bool (FF k j v4 a b c d e g h i))
def C34(a:Int)(j:By)(v4 b c d e f g h i:Int):D30 (B45 LF) a j v4 b c d e f g h i:=λk l m=>by
 unfold B45 FF;rw[k,l,m];cases P3 (mkH a j v4 (n8 b c d e f g h i))<;>cases a==2<;>cases a==3<;>exact⟨_,_,rfl,rfl⟩
def Cj6(a:Int)(j:By)(v4 b c d e f g h i:Int):D30 (Ad2 LF) a j v4 b c d e f g h i:=λk l m=>by
 unfold Ad2 FF;rw[k,l,m];cases P3 (mkH a j v4 (n8 b c d e f g h i))<;>cases a==2<;>cases a==3<;>exact⟨_,_,rfl,rfl⟩
def Cf4(a m:By)(n:Int)(b:By)(v4 d e f g h i j k l:Int)(c:By)(o:smU a m b c=true)(q:ltN v4 4294967296=true)(t:ok8 d e f g h i j k=true)(u:Eb l=true) :
  ∃r H,Aa1 LF a m n b v4 d e f g h i j k l c (λv p=>rv (.s (.bool v)) p)=rv r H/\r.stab [] H = .s (.bool (Pn a m n b v4 d e f g h i j k l c)):=by
 obtain⟨x,y,z,A⟩:=Kc o;have w:A2 b.length=true:=M5;unfold Aa1 Ts Tt Pn;simp only[o,q,t,u,w,show(a==([104,116,116,112,115]:By))=(a==Eg) from rfl,show(a==([119,115,115]:By))=(a==BW) from rfl,show(a==([102,105,108,101]:By))=(a==Ak2) from rfl,show(a==([97,98,111,117,116]:By))=(a==Kl) from rfl];cases Fe (mkU a m n b v4 (n8 d e f g h i j k) l c)<;>cases a==Eg<;>cases a==BW<;>cases a==Ak2<;>cases a==Kl<;>cases D2 a<;>cases c==([98,108,97,110,107]:By)<;>exact⟨_,_,rfl,rfl⟩
def Bl5(g v:By)(x:Int)(i:By)(v4 k l m n o p q t u:Int)(j:By)(y:smU g v i j=true)(B:ltN v4 4294967296=true)(C:ok8 k l m n o p q t=true)(D:Eb u=true) :
  ∃r H,HM LF g v x i v4 k l m n o p q t u j (λG A=>rv (.s (.bool G)) A)=rv r H/\r.stab [] H = .s (.bool (Pn g v x i v4 k l m n o p q t u j)):=by
 obtain⟨J,K,L,M⟩:=Kc y;have I:A2 i.length=true:=M5;have z:∀a b:By,a≠b->(g==a)=true->(g==b)=false:=λa b h e=>by
  obtain rfl:g=a:=by simpa using e
  simpa using h
 have w:D2 g=(g==Pt||g==bWs||(g==Eg||g==BW)):=rfl;have hA:=z Pt Kl (by decide);have F:=z bWs Kl (by decide);unfold HM Oz Wq Pn;rw[w];simp only[y,B,C,D,I,show(g==([104,116,116,112,115]:By))=(g==Eg) from rfl,show(g==([119,115,115]:By))=(g==BW) from rfl,show(g==([102,105,108,101]:By))=(g==Ak2) from rfl,show(g==([97,98,111,117,116]:By))=(g==Kl) from rfl,show(g==([104,116,116,112]:By))=(g==Pt) from rfl,show(g==([119,115]:By))=(g==bWs) from rfl];generalize (g==Eg)=a,(g==BW)=b,(g==Ak2)=c,(g==Pt)=d,(g==bWs)=e,(g==Kl)=f at *;cases Fe (mkU g v x i v4 (n8 k l m n o p q t) u j)
 ·exact⟨_,_,rfl,rfl⟩
 ·cases a<;>cases b<;>cases c<;>cases d<;>cases e<;>cases f<;>first|(exact absurd (hA rfl) (by decide))|(exact absurd (F rfl) (by decide))|exact⟨_,_,rfl,rfl⟩|(cases j==([98,108,97,110,107]:By)<;>exact⟨_,_,rfl,rfl⟩)
section
def Dy4:C0 c9 GX 31 Bv2:=xf [] (Bz4 LF) IN rfl ⟨Bt2,Ea4,trivial⟩ rfl follows λargs=>by
 unfold IN;split
 ·rename_i i j v4 a b c d e f g h;exact λl=>λm=>λn=>(let⟨q,o,k,p⟩:=C34 i j v4 a b c d e f g h l m n;⟨rfl,rfl,rfl,q,o,(C33 LF noY () 0 i j v4 a b c d e f g h).trans k,p⟩)
 ·trivial
def De4:C0 c9 GX 39 Aj0:=xf [] (Am1 LF) BD rfl ⟨B81,Dy7,trivial⟩ rfl follows λargs=>by
 unfold BD;split
 ·rename_i i j v4 a b c d e f g h;exact λl=>λm=>λn=>(let⟨q,o,k,p⟩:=Cj6 i j v4 a b c d e f g h l m n;⟨rfl,rfl,rfl,q,o,(Cj5 LF noY () 0 i j v4 a b c d e f g h).trans k,p⟩)
 ·trivial
def Dd5:C0 c9 GX 14 IO:=xf [] (Al8 LF) AW rfl ⟨Cq3,HT,Dy4,trivial⟩ rfl follows λargs=>by
 unfold AW;split
 ·rename_i m n i j v4 a b c d e f g h k l;exact λp=>λq=>λr=>λt=>(let⟨w,u,o,v⟩:=Cf4 m n i j v4 a b c d e f g h k l p q r t;⟨rfl,rfl,rfl,w,u,(Cf3 LF noY () 0 m n i j v4 a b c d e f g h k l).trans o,v⟩)
 ·trivial
def Cp9:C0 c9 GX 21 QH:=xf [] (RA LF) Vo rfl ⟨Bt6,De4,trivial⟩ rfl follows λargs=>by
 unfold Vo;split
 ·rename_i m n i j v4 a b c d e f g h k l;exact λp=>λq=>λr=>λt=>(let⟨w,u,o,v⟩:=Bl5 m n i j v4 a b c d e f g h k l p q r t;⟨rfl,rfl,rfl,w,u,(Bl4 LF noY () 0 m n i j v4 a b c d e f g h k l).trans o,v⟩)
 ·trivial
end
section
variable {Q R : Type} (L : Nat) (W : G1) (Y : Yh Q) (s : Q) (k : Out -> St Q -> Option R)
noncomputable abbrev By1:Code:=D7 af8
noncomputable def Sv(L:Nat):=mkC L 44 [(2,[0,0,2,2,0])] [(7,[4]),(6,[0,0,5,0]),(5,[4]),(4,[0,0,3,1,0,7]),(3,[0,0,3,1,0]),(2,[0,0,5,0,0]),(1,[0,0,5,0]),(0,[0,0])] [(0,[]),(1,[0,0,5,0])] [4]
def Jg(L n:Nat)(c b:Bool)(d:LL)(h:By)(g a:Int)(e:Int->Option R)(f:Unit->Option R):Option R:=match n with|0=>none|n+1=>cond (ltI a g) (cond (inR a d.length) (cond (okE Aa d (x3 a) 0) (cond (h==(gX d (x3 a) 0)) (e a) (Jg L n c b d h g (A1 (a+1)) e f)) none) none) (f ())
def A20(n s_z0 s_t1 s2 v3 n4 n5):D4 0 ((Sv L).keep 2) (bd (Sv L) W Y (cd [1,0,1,0,0] By1)) n ⟨gp [(0,.s (.sl s_z0 s_t1 1 s2)),(0,pS v3),(5,pI n4),(0,pI n5)] 10,[],s⟩ k =
 Jg L n s_z0 s_t1 s2 v3 n4 n5 (λn0=>k .ret ⟨gp [(4,pI n0)] 14,[],s⟩) (λ_=>k (.exit 0) ⟨gp [] 19,[],s⟩):=by
 induction n generalizing s_z0 s_t1 s2 v3 n4 n5 with
 | zero=>rfl
 | succ n a=>rw[Jg];simp only[<-a];kernel_rfl
def B67(L:Nat)(b a:Bool)(d:LL)(e:By)(c:Int->Option R):Option R:=Jg L L b a d e (d.length:Int) 0 c (λ_=>c (-1))
def C89(d:Nat)(s_z0 s_t1 s2 v3):evC (Sv L) (d+1) Q Y 44 [.s (.sl s_z0 s_t1 1 s2),pS v3] [] s=B67 L s_z0 s_t1 s2 v3 (λa=>some (pI a,[],s)):=evT af8 λW=>by
 unfold B67;exact(j9 (by kernel_rfl) (ag (A20 L W Y s (F2 0 (F6 (Sv L) W Y (cd [1,1] By1) (I8 (Sv L) af8))) L s_z0 s_t1 s2 v3 (s2.length:Int) 0)))
noncomputable def B04(L:Nat):=mkC L 26 [] [(1,[4]),(0,[0,0])] [] [4] [(44,Bw7)] [44]
def B66(L:Nat)(d c:Bool)(b:LL)(f:By)(e:Bool->Option R):Option R:=cond (aa0 b isS) (cond (A2 b.length) (vl (Cd0 (aa3 elS b) f) λa=>e (not (ltI a 0))) none) none
def C87(d:Nat)(s_z0 s_t1 s2 v3):evC (B04 L) (d+1) Q Y 26 [.s (.sl s_z0 s_t1 1 s2),pS v3] [] s=B66 L s_z0 s_t1 s2 v3 (λa=>some (pB a,[],s)):=evT Tryz.f26 λW=>by
 unfold B66;kernel_rfl
noncomputable def Cv4(L:Nat):=mkC L 10 [] [(1,[4]),(0,[2,0])] [] [4] [(25,VC),(15,IA),(26,GQ)] [25,15,26] (nt:=[(27,4,9,1)])
def Di2(L:Nat)(q r t u j i:Bool)(n:LL)(o:Int)(l:By)(m a b c d e f g h:Int)(v:Bool->(List Blk)->Option R):Option R:=cond (A2 l.length) (cond (ltN m 4294967296) (cond (ok8 a b c d e f g h) (cond (P3 (mkH o l m (n8 a b c d e f g h))) (cond (A2 l.length) (cond (ltN m 4294967296) (cond (ok8 a b c d e f g h) (vl (Y7 (mkH o l m (n8 a b c d e f g h))) λp=>cond (aa0 n isS) (cond (A2 n.length) (v (I5 (aa3 elS n) p) [(bCx q r t u j i n),(bH o l m a b c d e f g h)]) none) none) none) none) none) (v false [(bCx q r t u j i n),(bH o l m a b c d e f g h)])) none) none) none
def Di3(d:Nat)(c0 c1 c2 c3 c_z4 c_t5 c6 h7 h8 h9 h10 h11 h12 h13 h14 h15 h16 h17):evC (Cv4 L) (d+1) Q Y 10 [(gCx c0 c1 c2 c3 c_z4 c_t5 c6),(gH h7 h8 h9 h10 h11 h12 h13 h14 h15 h16 h17)] [] s=Di2 L c0 c1 c2 c3 c_z4 c_t5 c6 h7 h8 h9 h10 h11 h12 h13 h14 h15 h16 h17 (λb a=>some (pB b,a,s)):=evT Tryz.f10 λW=>by
 unfold Di2;kernel_rfl
end
def Bq5(z t:Bool)(l:List By)(v:By)(a:Int->Option R)(b:Unit->Option R)(k:l.length<=1000000000):∀(r i m:Nat),i+r=l.length->r<m->
  Jg LF m z t (A9 l) v (l.length:Int) (i:Int) a b=match (l.drop i).findIdx? (· == v) with|some j=>a ((i+j:Nat):Int)|none=>b ():=by
 intro r
 induction r with
 | zero=>
  intro i m e f;rcases m with _|m;omega
  rw[Jg,A5,j4 (by omega)];rfl
 | succ r g=>
  intro i m e f;rcases m with _|m;omega
  have c:A1 ((i:Int)+1)=((i+1:Nat):Int):=ah
  have d:l.drop i=l.getD i []::l.drop (i+1):=by
   rw[k9,o7 (by omega),x9,aa1]
  rw[Jg,A7,G9 (by omega) (by rw[A8];omega),j0,K5 (by omega),L9,c,d,List.findIdx?_cons];simp only[aa];by_cases h:l.getD i []=v
  ·rw[h,beq_self_eq_true];simp
  ·rw[show(v==l.getD i [])=false by simpa using λq=>h q.symm,show(l.getD i []==v)=false by simpa using h,ab,g (i+1) m (by omega) (by omega)];cases (l.drop (i+1)).findIdx? (· == v) with
   | none=>rfl
   | some j=>simp[Nat.add_assoc,Nat.add_comm 1 j]
def Bq6{b:Int->Option R}(z t:Bool)(l:LL)(v:By)(c:l.all isS=true)(d:A2 l.length=true):B67 LF z t l v b=b (Cd0 (l.map elS) v):=by
 have f:=C9;have a:=L4 d;rw[Ca c] at a ⊢;generalize l.map elS=q at a ⊢;rw[A8] at a;have e:aa3 elS (A9 q)=q:=by
  unfold A9;rw[af2];exact ae6 (λ_=>rfl) q
 unfold B67 Cd0;rw[A8,e];refine(Bq5 z t q v _ _ a q.length 0 LF (by omega) (by omega)).trans ?_;rw[p4];cases q.findIdx? (· == v) with
 | none=>rfl
 | some j=>
  show b ((0+j:Nat):Int)=b (j:Int);rw[ad3]
def Dm3(l:List By)(v:By):(!ltI (Cd0 l v) 0)=I5 l v:=by
 unfold Cd0 I5;cases h:l.findIdx? (· == v) with
 | none=>
  rw[List.findIdx?_eq_none_iff] at h;show(!ltI (-1) 0)=_;rw[A7];exact(List.any_eq_false.2 λx c=>by rw[h x c];simp).symm
 | some j=>
  show(!ltI (j:Int) 0)=_;rw[A5];exact(List.any_eq_true.2 (by
   obtain⟨a,b,_⟩:=List.findIdx?_eq_some_iff_getElem.1 h;exact⟨_,ab4 a,b⟩)).symm
def Bq1{a:Bool->Option R}(z t:Bool)(l:LL)(v:By)(b:l.all isS=true)(c:A2 l.length=true):B66 LF z t l v a=a (I5 (l.map elS) v):=by unfold B66;rw[b,c,<-Dm3];rfl
def Di4(x v up m z t:Bool)(l:LL)(j:Int)(i:By)(v4 a b c d e f g h:Int)(n:l.all isS=true)(o:A2 l.length=true)(p:A2 i.length=true)(q:ltN v4 4294967296=true)(u:ok8 a b c d e f g h=true) :
  ∃r H,Di2 LF x v up m z t l j i v4 a b c d e f g h (λw k=>rv (.s (.bool w)) k)=rv r H/\r.stab [] H = .s (.bool (D68 (l.map elS) (mkH j i v4 (n8 a b c d e f g h)))):=by
 unfold Di2 D68;rw[n,o,p,q,u];cases P3 (mkH j i v4 (n8 a b c d e f g h))<;>exact⟨_,_,rfl,rfl⟩
section
def D00:C0 c9 GX 44 Bw7:=xf [] (Sv LF) JV rfl trivial rfl follows λargs=>by
 unfold JV;split
 ·rename_i b a l s;exact λc=>λd=>⟨rfl,rfl,rfl,_,_,(C89 LF noY () 0 b a l s).trans (Bq6 b a l s c d),rfl⟩
 ·trivial
def B85:C0 c9 GX 26 GQ:=xf [] (B04 LF) JT rfl ⟨D00,trivial⟩ rfl follows λargs=>by
 unfold JT;split
 ·rename_i b a l s;exact λc=>λd=>⟨rfl,rfl,rfl,_,_,(C87 LF noY () 0 b a l s).trans (Bq1 b a l s c d),rfl⟩
 ·trivial
def Ea1:C0 c9 GX 10 A49:=xf [] (Cv4 LF) UN rfl ⟨Bt2,Bt1,B85,trivial⟩ rfl follows λargs=>by
 unfold UN;split
 ·rename_i p o up k b a l m n v4 c d e f g h i j;exact λr=>λt=>λu=>λv=>λw=>(let⟨z,x,q,y⟩:=Di4 p o up k b a l m n v4 c d e f g h i j r t u v w;⟨rfl,rfl,rfl,z,x,(Di3 LF noY () 0 p o up k b a l m n v4 c d e f g h i j).trans q,y⟩)
 ·trivial
def Ea8:C0 c9 GX 137 Cr4:=xf [] (Cw4 LF) VF rfl trivial rfl follows λargs=>by
 unfold VF;split
 ·rename_i c;exact⟨rfl,rfl,rfl,_,_,(Dm6 LF noY () 0 c).trans (Cd4 c ),rfl⟩
 ·trivial
def Dx7:C0 c9 GX 98 Bu6:=xf [] (By7 LF) IE rfl ⟨Ea8,trivial⟩ rfl follows λargs=>by
 unfold IE;split
 ·rename_i c;exact⟨rfl,rfl,rfl,_,_,(C11 LF noY () 0 c).trans (Bb3 c ),rfl⟩
 ·trivial
def Dd2:C0 c9 GX 24 Ai7:=xf [] (Lp LF) AV rfl trivial rfl follows λargs=>by
 unfold AV;split
 ·rename_i d c a f e b;exact λg=>λh=>λi=>λj=>⟨rfl,rfl,rfl,_,_,(Cd9 LF noY () 0 d c a f e b).trans (Ar9 d c a f e b g h i j),rfl⟩
 ·trivial
def Eb0:C0 c9 GX 4 A56:=xf [] (CE LF) VJ rfl ⟨Dd1,trivial⟩ rfl follows λargs=>by
 unfold VJ;split
 ·rename_i b a l;exact λc=>⟨rfl,rfl,rfl,_,_,(Dn3 LF noY () 0 b a l).trans (Cd8 b a l c),rfl⟩
 ·trivial
def D03:C0 c9 GX 54 XL:=xf [1] (Sw LF) KC rfl ⟨Dx7,trivial⟩ rfl follows λargs=>by
 unfold KC;split
 ·rename_i s;exact λb=>(let⟨e,c,a,d⟩:=A36 s b;⟨rfl,rfl,rfl,e,c,(Dc3 LF noY () 0 s).trans a,d⟩)
 ·trivial
def Ea9:C0 c9 GX 8 A55:=xf [] (Cw5 LF) VI rfl ⟨Dd2,trivial⟩ rfl follows λargs=>by
 unfold VI;split
 ·rename_i k j up i c b l g f h a e d m;exact λo=>λp=>λq=>λr=>(let⟨v,t,n,u⟩:=Dn0 k j up i c b l g f h a e d m o p q r;⟨rfl,rfl,rfl,v,t,(Dm9 LF noY () 0 k j up i c b l g f h a e d m).trans n,u⟩)
 ·trivial
def Ea0:C0 c9 GX 28 A48:=by
 refine C0.fix (pf:=UM) _ (Bc (C₀:=Cv3 LF) (M3.ok (l:=[]) rfl trivial) (H7 rfl (by kernel_rfl)) follows ?_);intro args ret a h;unfold UM at h;split at h
 ·rename_i t;obtain⟨rfl,rfl⟩:=J6 h;have e:=(Di0 LF noY () 0 t).trans (B99 t );exact⟨rfl,1,_,[],e,rfl,rfl⟩
 ·cases h
end
def D06:Ah9 c9 GX 52 GN:=by
 refine FY (C₀:=X4 LF) (Le (lx:=[(53,JU),(54,XL),(47,II)]) (ly:=[]) (ls:=[(134,Se)]) rfl rfl rfl ⟨Df4,D03,Bt3,trivial⟩ trivial ⟨B89,trivial⟩) (H7 rfl (by kernel_rfl)) follows ?_;intro args H L h e a s d c;unfold GN at h;split at h
 ·rename_i t;simp only[o0,ae7] at h;obtain⟨b,rfl⟩:=h;exact⟨1,_,(Cx9 LF a 0 t s).trans (A89 a t s d b c _)⟩
 ·cases h
def Dc4:C0 c9 GX 12 HU:=by
 refine C0.fix (pf:=AO) _ (J0 [0,0] (C₀:=R1 LF) (Le (lx:=[(28,A48),(26,GQ)]) (ly:=[]) (ls:=[(52,GN)]) rfl rfl rfl ⟨Ea0,B85,trivial⟩ trivial ⟨D06,trivial⟩) (H7 rfl (by kernel_rfl)) follows ?_);intro args ret j h;unfold AO at h;split at h
 ·rename_i b a l;obtain⟨d,h⟩:=C8 h;obtain⟨e,h⟩:=C8 h;obtain⟨rfl,rfl⟩:=J6 h;obtain⟨i,f,c,g⟩:=Ca4 b a l d e;exact⟨rfl,rfl,rfl,1,i,f,(Ca3 LF noY () 0 b a l).trans c,g⟩
 ·cases h
def A41:C0 c9 GX 6 Ql:=by
 refine C0.fix (pf:=AN) _ (QA (C₀:=Ll LF) (Eg8 (lx:=[(11,JX),(12,HU),(13,Sf),(14,IO),(15,IA)]) (ly:=[(17,Nk)]) (ls:=[]) (lz:=[(16,Xn)]) rfl rfl rfl rfl ⟨Df6,Dc4,HT,Dd5,Bt1,trivial⟩ ⟨Bu0,trivial⟩ trivial ⟨Dg8,trivial⟩) (H7 rfl (by kernel_rfl)) follows ?_);intro args ret o h;unfold AN at h;split at h
 ·rename_i b a l;obtain⟨d,h⟩:=C8 h;obtain⟨e,h⟩:=C8 h;obtain⟨f,h⟩:=C8 h;obtain⟨rfl,rfl⟩:=J6 h;obtain⟨n,g,i,c,j,k,m⟩:=B98 b a l d e f;exact⟨rfl,1,n,g,i,(B97 LF noY () 0 b a l).trans c,j,k,m⟩
 ·cases h
section
def Dz1:C0 c9 GX 153 Bv9:=xf [] (B01 LF) JB rfl trivial rfl follows λargs=>by
 unfold JB;split
 ·rename_i c;exact⟨rfl,rfl,rfl,_,_,(C61 LF noY () 0 c).trans (Bk2 c ),rfl⟩
 ·trivial
def De1:C0 c9 GX 114 Ai8:=xf [] (Am0 LF) BB rfl ⟨Dz1,trivial⟩ rfl follows λargs=>by
 unfold BB;split
 ·rename_i c;exact⟨rfl,rfl,rfl,_,_,(Ci9 LF noY () 0 c).trans (Av9 c ),rfl⟩
 ·trivial
def De7:C0 c9 GX 76 JO:=xf [1] (Lt LF) BJ rfl ⟨De1,trivial⟩ rfl follows λargs=>by
 unfold BJ;split
 ·rename_i s;exact λb=>(let⟨e,c,a,d⟩:=Cm0 s b;⟨rfl,rfl,rfl,e,c,(Cl9 LF noY () 0 s).trans a,d⟩)
 ·trivial
def Dz0:C0 c9 GX 22 Bv8:=xf [1] (Sq LF) JA rfl trivial rfl follows λargs=>by
 unfold JA;split
 ·rename_i b a l s;exact λh=>λi=>⟨λd=>(let⟨g,e,c,f⟩:=Av8 b a l s h i d;⟨rfl,rfl,rfl,g,e,(Av6 LF noY () 0 b a l s).trans c,f⟩),λd=>(let⟨g,e,c,f⟩:=Av8 b a l s h i d;⟨rfl,rfl,rfl,g,e,(Av6 LF noY () 0 b a l s).trans c,f⟩)⟩
 ·trivial
def Ed0:Uv c9 GX 37 WE:=by
 refine Dz (C₀:=Ai LF) (M3.ok (l:=[(75,Fp),(76,JO),(77,JD)]) rfl ⟨Nh,De7,Bt5,trivial⟩) (H7 rfl (by kernel_rfl)) follows ?_;intro args H ret g h;unfold WE at h;split at h
 ·rename_i up a v z l;obtain⟨b,h⟩:=C8 h;obtain⟨c,h⟩:=C8 h;obtain⟨d,h⟩:=C8 h;obtain⟨rfl,rfl⟩:=J6 h;refine⟨rfl,rfl,λi f s=>?_⟩;have e:=(Dr2 LF f s 0 up a v z l).trans (Ch5 up a v z l b c d);exact⟨1,_,e,rfl⟩
 ·cases h
def De2:C0 c9 GX 19 Ai9:=by
 refine C0.fix (pf:=BC) _ (J0 [0,0] (C₀:=Lr LF) (Le (lx:=[]) (ly:=[(37,WE)]) (ls:=[]) rfl rfl rfl trivial ⟨Ed0,trivial⟩ trivial) (H7 rfl (by kernel_rfl)) follows ?_);intro args ret j h;unfold BC at h;split at h
 ·rename_i b a l;obtain⟨d,h⟩:=C8 h;obtain⟨e,h⟩:=C8 h;obtain⟨rfl,rfl⟩:=J6 h;obtain⟨i,f,c,g⟩:=Cj3 b a l d e;exact⟨rfl,rfl,rfl,1,i,f,(Cj2 LF noY () 0 b a l).trans c,g⟩
 ·cases h
def Dd8:C0 c9 GX 7 IS:=xf [0,0] (Lq LF) BA rfl ⟨Cq0,De2,OR,Cp9,B80,Dz0,trivial⟩ rfl follows λargs=>by
 unfold BA;split
 ·rename_i b a l;exact λd=>λe=>λf=>(let⟨i,g,c,h⟩:=Ch8 b a l d e f;⟨rfl,rfl,rfl,i,g,(Ch7 LF noY () 0 b a l).trans c,h⟩)
 ·trivial
end
section
variable {L R : Type} (Y : Nat) (W : G1) (Q : Yh L) (s : L) (k : Out -> St L -> Option R)
noncomputable def QX(Y:Nat):=mkC Y 5 [] [(3,[0]),(2,[1,0,0,0]),(1,[1,0]),(0,[])] [] [0] [(6,Ql),(10,A49)] [10] (nt:=[(27,4,9,1)]) (sb:=[25])
end
def Ak1:HJ (evC (QX LF) 1 Unit noY 5 [] [] ())=true:=by kernel_rfl
def Cp4:C0 c9 GX 5 AM:=
 C0.fix (pf:=Vh) _ (by
  have h:=Bt9 (C₀:=QX LF) (M3.ok (l:=[(6,Ql),(10,A49)]) rfl ⟨A41,Ea1,trivial⟩) (H7 rfl (by kernel_rfl)) follows Ak1;have e:(λargs:List PV=>match args with|[]=>Tr.ret (.s (.bool true)) []|_=>.fail)=Vh:=by
   funext args
   cases args<;>rfl
  rw[<-e];exact h)
end
section
open Go Go.ChangeAt Go.ChangeShapes Go.Proofs Go.RowKit Go.WideShapes
section
def Bc2(os:Os)(a:os.Started)(H:Type)(enc:TypeId × Value->H) :
  ReturnsInHanded {} Tryz.checked os 3 .any (λw args=>(Rows.contextMatchesSpecSpec.pre enc c9 ac4 Rows.contextMatchesSpecRow.domain false w args/\laidMetH c9 Gl w)/\sizedMet enc c9 ac4 (OpenSpec.ofChange Rows.contextMatchesSpecSpec) false w args) (Rows.contextMatchesSpecSpec.post enc c9 ac4 false true false false):=
 Bb9 a (C:=Bz0 LF) (tb:=4) rfl rfl (M3.ok (l:=[(4,A56),(5,AM),(6,Ql),(7,IS),(8,A55)]) rfl ⟨Eb0,Cp4,A41,Dd8,Ea9,trivial⟩) (H7 rfl (by kernel_rfl)) (by kernel_rfl) ae3 (c:=D7 ac4) rfl (by kernel_rfl)
  (by
   intro t d;obtain rfl:t=22:=by simpa using(show t∈[22] from d)
   exact⟨⟨by kernel_rfl,of_decide_eq_true (by kernel_rfl)⟩,by kernel_rfl⟩) rfl (by kernel_rfl) rfl
  (λds b=>by
   match ds,b with
   | [e],_=>rfl)
  #[(.slice none 0 0)] 8 (by kernel_rfl) (by kernel_rfl) (by kernel_rfl)
  (λargs h=>Dn7 args h)
set_option maxHeartbeats 4000000 in theorem Ce1:Rows.ContextMatchesSpecSaid:=
 OpenClaim.holds_of_wide 3 ac4 rfl rfl rfl rfl rfl rfl rfl ⟨rfl,rfl,rfl,rfl,rfl⟩ rfl rfl rfl rfl rfl (by kernel_rfl) ae3 (by unfold joinedFacts;simp only[p5];(repeat' apply And.intro)<;>as_aux_lemma=>kernel_rfl)
  (of_decide_eq_true (by as_aux_lemma=>kernel_rfl)) (by unfold Func.isWrapper;first|(rw[ac (by decide +kernel)];kernel_rfl)|(rw[ae (by decide +kernel)];exact⟨rfl,rfl⟩))
  (λos a H enc _=>Bc2 os a H enc)
theorem lcx_card:Rows.ContextMatchesSpecCardSaid:=
 Claim7.holds_tied_plain_at .later [] [.data,.data,.data,.data,.pinned] true (true, "95c656dbe8ca09c9a4dc638ffc4fcc9bea81b955785b2cd0f40fabf9b6797efa") false Ce1 (λ_ h=>by cases h) (by as_aux_lemma=>kernel_rfl) (λ_ h=>by cases h) contextMatchesSpec_row_tie rfl ⟨rfl,rfl⟩ (by as_aux_lemma=>kernel_rfl) rfl
  (λf fn c b=>by
   obtain rfl:f=3:=ab9 ((show c9.funcNamed "hstsstore/hstsstorelaw28.ContextMatchesSpec" = some 3 by as_aux_lemma=>kernel_rfl).symm.trans c) |>.symm
   obtain rfl:fn=ac4:=(ab9 (ae3.symm.trans b)).symm;exact⟨by as_aux_lemma=>kernel_rfl,λj t e=>by
    have d:t∈[22]:=Array.mem_toList_iff.2 (Array.mem_of_getElem? e);have a:([22].all λu=>!c9.wantsStandIn u)=true:=by as_aux_lemma=>kernel_rfl
    exact(show c9.wantsStandIn t=false by simpa using x6.1 a t d)⟩)
  (by as_aux_lemma=>kernel_rfl)
end
end
#print axioms lcx_card
end Go.Proofs.YteickfjoihhgkaaGreatDoor.E
