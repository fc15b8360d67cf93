/-
  OriginSame, as its tied card says. Conditions: what the card itself names (the package-level variables that are listed, tied to the program's text).
-/
import Derived.Test.YtcfingekgbbclaaGreatDoorKOS5
import Derived.Test.YtcfingekgbbclaaGreatDoorCards
import Derived.Test.YtcfingekgbbclaaGreatDoorTie
open Eq renaming trans->a8
open Int renaming toNat_natCast->b8,toNat->b9,tmod->s8,tdiv->x3,eq_ofNat_of_zero_le->x5,mul->ab7,mul_comm->ag0
open Bool renaming not_true->c9,not_false->j0,eq_false_iff->j8,and_eq_true->p7,and_true->x9,true_and->y5,or_eq_true->aa9,eq_iff_iff->ac3,false_or->ad2,false_eq_true->ad3,not_eq_true'->ad7,not_and->af9
open List renaming drop_of_length_le->j1,length_append->j2,getD_eq_getElem?_getD->j4,length->j5,length_drop->j7,drop_zero->j9,getElem?_eq_getElem->k9,length_cons->p5,length_map->p6,length_take->p9,length_singleton->s9,append_assoc->w6,length_nil->w9,nil_append->x6,length_pos_iff->x8,length_eq_zero_iff->z7,map->aa1,countP_le_length->aa2,getElem_mem->aa3,take->aa4,all_cons->aa7,append_nil->ab0,map_append->ab1,drop->ab3,drop_drop->ab4,isPrefixOf_iff_prefix->ab5,drop_eq_getElem_cons->ab6,any_cons->ab9,all->ac0,countP_cons_of_neg->ac1,getElem_cons_drop->ac2,drop_eq_nil_iff->ac7,take_left->ac8,getD_cons_zero->ad1,contains_cons->ad4,drop_length->ae0,take_length->ae1,drop_left'->ae9,head?_cons->af0,isPrefixOf->af1,drop_left->af2,isEmpty->ag1
open Go.Proofs.Tryz renaming prog->j6,f10->y7,f156->ad0,f115->ae2,f119->ae3,f120->ae4,f151->ae5,f176->ae6,func10->ae7,f35->af5,f63->af6,f127->af8,f37->ag3,f85->ag4,f94->ag5
open Nat renaming ble_eq->p4,ble->w8,le_trans->x7,div_le_self->y8,le_refl->ab8,strongRecOn->ac4,zero_le->ac9,blt_eq->ad5,mod_lt->af3,mul_le_mul->af4,sub_zero->ag2
open Option.some renaming injEq->s7,inj->ab2
open Int.ofNat renaming inj->v7
open Go.Lib renaming decodeL->v8,decodeN->y9,join->ac6,cut->ad8,joinTail->ad9
open Exists renaming intro->x4
open UInt8 renaming ofNat->aa0,toNat->ae8
open Option renaming bind_some->aa5,getD_some->aa6,isSome->aa8,map_some->ac5,isSome_some->ad6
open List.cons renaming inj->af7
namespace Go.Proofs.YtcfingekgbbclaaGreatDoor.E
set_option linter.all false
section
open Go Go.Proofs
set_option maxRecDepth 100000
def LM:Int->By->Option Int
 | n,[]=>some n
 | n,b::r=>if 48<=b.toNat/\b.toNat<=57 then LM (min (n*10+((b.toNat-48:Nat):Int)) 1048576) r else none
theorem Ab4:∀(l:By) (n v:Int),0<=v->v<=65536->n<=1048576->(v<65536->n=v)->(v=65536->65536<=n)->Gv v l=(LM n l).bind λm=>if 65535<m then none else some m
 | [],n,v,d,e,f,c,g=>by
  unfold Gv LM;rw[aa5];by_cases h:v<65536
  ·rw[if_pos h,F7,c h]
  ·rw[if_neg h,P9]
 | b::r,n,v,d,e,f,c,g=>by
  unfold Gv LM;by_cases a:48<=b.toNat/\b.toNat<=57
  ·rw[if_pos a,if_pos a];exact Ab4 r _ _ (by omega) (by omega) (by omega) (by omega) (by omega)
  ·rw[if_neg a,if_neg a];rfl
theorem Ay1(b:UInt8)(r:By):Gv (-1) (b::r)=Gv 0 (b::r):=rfl
theorem Ad6:∀(l:By) (n m:Int),0<=n->n<=1048576->LM n l=some m->0<=m/\m<=1048576
 | [],n,m,a,c,h=>by
  obtain rfl:n=m:=ab2 h;exact⟨a,c⟩
 | b::r,n,m,a,c,h=>by
  unfold LM at h;split at h
  ·exact Ad6 r _ m (by omega) (by omega) h
  ·cases h
theorem Ag9{R:Type}(q u t:By)(d:Int)(e:By)(f g h j k l o p c:Int)(a:By)(L:a.length<=1000000000)(w:List Blk->Option R)(x:By->Int->By->Int->By->Int->Int->Int->Int->Int->Int->Int->Int->Int->By->Option R):∀(r i n:Nat) (v:Int),i+r=a.length->r<n->0<=v->v<=1048576->
  Ef LF n q a v (i:Int) u d e f g h j k l o p c t w x=match LM v (a.drop i) with
   | none=>w [bU q u d e f g h j k l o p c (-1) t,bH d e f g h j k l o p c]
   | some m=>x q m u d e f g h j k l o p c t:=by
 intro r
 induction r with
 | zero=>
  intro i n v I J D F;obtain⟨n,rfl⟩:∃m,n=m+1:=⟨n-1,by omega⟩
  rw[Ef];rw[A6,j1 (by omega)];rfl
 | succ r K=>
  intro i n v I J D F;obtain⟨n,rfl⟩:∃m,n=m+1:=⟨n-1,by omega⟩
  have y:A1 ((i:Int)+1)=((i+1:Nat):Int):=by rw[A7];rfl
  rw[Ef];rw[A8,E9,D1,D2 a i (by omega),y];have M:=(a.getD i 0).toNat_lt;generalize a.getD i 0=b at *;unfold LM;simp only[cond_true,vl];by_cases G:b.toNat<48
  ·rw[A8,cond_true,F7]
  ·rw[A6,cond_false];by_cases H:57<b.toNat
   ·rw[A8,cond_true,F7]
   ·rw[A6,cond_false,if_pos (show 48<=b.toNat/\b.toNat<=57 by omega)];have z:A1 (v*10)=v*10:=A7;have A:wu8 ((b.toNat:Int)-48)=((b.toNat-48:Nat):Int):=by rw[M3];omega
    have B:A1 ((b.toNat-48:Nat):Int)=((b.toNat-48:Nat):Int):=A7;have C:A1 (v*10+((b.toNat-48:Nat):Int))=v*10+((b.toNat-48:Nat):Int):=A7;rw[z,A,B,C,show(if (1048576:Int)<v*10+((b.toNat-48:Nat):Int) then (1048576:Int) else v*10+((b.toNat-48:Nat):Int))=min (v*10+((b.toNat-48:Nat):Int)) 1048576 by omega];exact K (i+1) n _ (by omega) (by omega) (by omega) (by omega)
abbrev KE(R:Type):=Int->By->By->Int->By->Int->Int->Int->Int->Int->Int->Int->Int->Int->Int->By->List Blk->Option R
abbrev MV{R:Type}(a:KE R)(q:R7 × Nat)(H:List Blk):Option R:=a (uE q) (uS q) (uU q) (uK q) (uN q) (uV q) (uA q 0) (uA q 1) (uA q 2) (uA q 3) (uA q 4) (uA q 5) (uA q 6) (uA q 7) (uP q) (uR q) H
theorem Io(c l j a:By)(e:Nat)(q:a.length<=1000000000)(w:e<=a.length):∃H,∀(R:Type) (f:KE R),S8 LF c a (e:Int) l j f=MV f (hpT (a.take e) (a.drop e) c l j) H:=by
 have p:=C4;have n:A1 ((e:Int)+1)=((e+1:Nat):Int):=by rw[A7];rfl
 have k:A2 (a.take e).length=true:=D6 (by rw[p9];omega);by_cases h:(B9 (a.take e)).2=0
 ·by_cases t:e+1<a.length
  ·have i:(a.drop e).drop 1=a.drop (e+1):=by rw[ab4]
   have r:=D2 a (e+1) t;have u:Gv (-1) (a.drop (e+1))=(LM 0 (a.drop (e+1))).bind λm=>if 65535<m then none else some m:=by
    rw[r,Ay1];exact Ab4 _ 0 0 (by omega) (by omega) (by omega) (by omega) (by omega)
   have x:=@Ad6 (a.drop (e+1)) 0;generalize v:LM 0 (a.drop (e+1))=g at *;have o:g=none\/(∃m,g=some m/\65535<m)\/(∃m,g=some m/\¬ 65535<m/\m=G7 c)\/∃m,g=some m/\¬ 65535<m/\m≠G7 c:=by
    cases g with
    | none=>exact .inl rfl
    | some m=>
     by_cases b:65535<m
     ·exact .inr (.inl ⟨m,rfl,b⟩)
     ·by_cases d:m=G7 c
      ·exact .inr (.inr (.inl ⟨m,rfl,b,d⟩))
      ·exact .inr (.inr (.inr ⟨m,rfl,b,d⟩))
   rcases o with rfl|⟨m,rfl,b⟩|⟨m,rfl,b,d⟩|⟨m,rfl,b,d⟩
   all_goals
    apply x4;intro R f;unfold S8 hpT;rw[I4,K4,b8,i,u];simp only[vl,cond_true,k,h,n];rw[A8,Ag9 c l j _ _ _ _ _ _ _ _ _ _ _ a q _ _ (a.length-(e+1)) (e+1) LF 0 (by omega) (by omega) (by omega) (by omega),v]
   ·rfl
   ·simp only[aa5,if_pos b];rw[A8];rfl
   ·simp only[aa5,if_neg b,if_pos d];rw[A6,show(m==G7 c)=true by simpa using d];rfl
   ·simp only[aa5,if_neg b,if_neg d];rw[A6,show(m==G7 c)=false by simpa using d];rfl
  ·have i:(a.drop e).drop 1=[]:=by rw[ab4,j1 (by omega)]
   apply x4;intro R f;unfold S8 hpT;rw[I4,K4,b8,i];simp only[vl,cond_true,k,h,n];rw[A6];simp only[Gv,show((-1:Int)<65536)=True by simp,if_true,ite_self,show((((0:Nat):Int)!=0))=false from rfl,cond_false,ne_eq,not_true_eq_false,if_false];cases (-1:Int)==G7 c<;>rfl
 ·apply x4;intro R f;unfold S8 hpT;rw[I4,K4,b8];simp only[vl,cond_true,k];rw[show(((B9 (a.take e)).2:Int)!=0)=true by simpa using h,cond_true,if_pos h];rfl
theorem Ct6{c:UInt8}{a:By}(h:Gs c a=none):c∉a:=λd=>by
 rcases Q1 c a with b|⟨p,r,rfl,b⟩
 ·exact b d
 ·rw[Vk r b] at h;cases h
theorem ZG(c:UInt8)(a:By):R1 a [c]=match Gs c a with|some k=>k|none=>a.length:=by
 have e:R1 a [c]=(a.takeWhile λb=>b !=c).length:=by
  unfold R1
  congr 2
  funext b
  simp[ad4,bne];rfl
 rw[e];cases h:Gs c a with
 | none=>rw[WU (Ct6 h)]
 | some k=>
  obtain⟨p,r,rfl,d,rfl⟩:=Qb h;rw[Cj1 r d]
theorem JX(c f d a:By)(w:a.length<=1000000000):∃H,∀(R:Type) (g:KE R),(cond (not (a==([]:By)))
   (cond (inR (0:Int) (j5 a))
   (Cd c a (R1 a [58]:Int) (bAt a 0==(91:Int)) f d (λH=>MV g (Z5,4) H) (λo t n y u v=>S8 LF o t n u v g) (λo t n y u v=>S8 LF o t n u v g))
   none)
   (Cd c a (R1 a [58]:Int) false f d (λH=>MV g (Z5,4) H) (λo t n y u v=>S8 LF o t n u v g) (λo t n y u v=>S8 LF o t n u v g)))=MV g (M7 c f d a) H:=by
 cases a with
 | nil=>
  obtain⟨H,e⟩:=Io c f d [] 0 w (ab8 _);exact⟨H,e⟩
 | cons b r=>
  have F:(((b.toNat:Int))==91)=(b==91):=Kd b 91;have z:(!((b::r)==([]:By)))=true:=rfl;have G:inR (0:Int) (b::r).length=true:=L9 (by omega) (by simp);have A:A2 (b::r).length=true:=D6 w;rw[Vi];unfold Eb Cd;simp only[z,G,A,cond_true,cond_false,vl,Ag,ad1,F,af0,s7,ZG];by_cases j:b=91
  ·rw[show(b==91)=true by simpa using j,if_pos j];simp only[cond_true];cases B:Gs 93 (b::r) with
   | none=>
    apply x4;intro R g;simp only;rw[A7,A8];rfl
   | some k=>
    obtain⟨_,K⟩:=UB B;have C:A1 ((k:Int)+1)=((k+1:Nat):Int):=by rw[A7];rfl
    simp only[C];rw[A6];simp only[cond_false];obtain⟨H,e⟩:=Io c f d (b::r) (k+1) w (by omega);by_cases I:k+1<(b::r).length
    ·rw[A8,E9];simp only[cond_true,D1];have m:=D2 (b::r) (k+1) I;by_cases i:(b::r).getD (k+1) 0=58
     ·have l:hpC ((b::r).take (k+1)) ((b::r).drop (k+1)) c f d=hpT ((b::r).take (k+1)) ((b::r).drop (k+1)) c f d:=if_neg (λh=>h.2 (by rw[m,i];rfl));rw[l];refine⟨H,λR g=>a8 ?_ (e R g)⟩;rw[i];rfl
     ·have l:hpC ((b::r).take (k+1)) ((b::r).drop (k+1)) c f d=(Z5,4):=if_pos ⟨by rw[m];simp,by rw[m];simpa using i⟩;rw[l];apply x4;intro R g;rw[show((((b::r).getD (k+1) 0).toNat:Int)!=58)=true by rw[bne,B62];simpa using i];rfl
    ·have m:(b::r).drop (k+1)=[]:=j1 (by omega);rw[A6];have l:hpC ((b::r).take (k+1)) ((b::r).drop (k+1)) c f d=hpT ((b::r).take (k+1)) ((b::r).drop (k+1)) c f d:=if_neg (λh=>h.1 m);rw[l];exact⟨H,e⟩
  ·rw[show(b==91)=false by simpa using j,if_neg j];simp only[cond_false];cases B:Gs 58 (b::r) with
   | none=>
    obtain⟨H,e⟩:=Io c f d (b::r) (b::r).length w (ab8 _);rw[ae1,ae0] at e;exact⟨H,e⟩
   | some k=>
    obtain⟨p,q,x,J,D⟩:=Qb B;obtain⟨H,e⟩:=Io c f d (b::r) k w (by rw[x,j2];omega);have m:(b::r).drop k=58::q:=by rw[x,<-D,af2]
    have l:hpC ((b::r).take k) ((b::r).drop k) c f d=hpT ((b::r).take k) ((b::r).drop k) c f d:=if_neg (λh=>h.2 (by rw[m];rfl));refine⟨H,λR g=>(e R g).trans ?_⟩;show _=MV g (hpC _ _ c f d) H;rw[l]
theorem Ag8{R:Type}{c:By->By->By->By->Option R}(d a f:By)(l:a.length<=1000000000)(b:(64:UInt8)∉a):∀(j n:Nat),j<=a.length->j<n->Y0 LF n d a ((j:Int)-1) f c=c d a [] f:=by
 intro j
 induction j with
 | zero=>
  intro n g i;obtain⟨n,rfl⟩:∃m,n=m+1:=⟨n-1,by omega⟩
  rw[Y0];rw[A8];rfl
 | succ j k=>
  intro n g i;obtain⟨n,rfl⟩:∃m,n=m+1:=⟨n-1,by omega⟩
  rw[Y0];have h:a.getD j 0≠64:=λe=>b (by
   rw[<-e,j4,k9 (by omega)];exact aa3 _)
  rw[show((j+1:Nat):Int)-1=(j:Int) by omega,A6,E9,D1,show(((a.getD j 0).toNat:Int)==64)=(a.getD j 0==64) from Kd _ 64,show(a.getD j 0==64)=false by simpa using h];simp only[j0,cond_true,cond_false];rw[C7 (n:=(j:Int)-1) (by omega) (by omega)];exact k n (by omega) (by omega)
theorem Ag7{R:Type}{b:By->By->By->By->Option R}(c p r d:By)(l:(p++64::r).length<=1000000000)(a:(64:UInt8)∉r):∀(k n:Nat),k<=r.length->p.length+k<n->Y0 LF n c (p++64::r) ((p.length+k:Nat):Int) d b=b c r p d:=by
 have o:(p++64::r).length=p.length+r.length+1:=by rw[j2,p5];omega
 intro k
 induction k with
 | zero=>
  intro n g i;obtain⟨n,rfl⟩:∃m,n=m+1:=⟨n-1,by omega⟩
  have f:A1 ((p.length:Int)+1)=((p.length+1:Nat):Int):=by rw[A7];rfl
  rw[Y0];rw[Nat.add_zero,A6,E9,D1,show(p++64::r).getD p.length 0=64 by simp[j4]];simp only[vl,cond_true,j0];rw[I4,K4,b8,ac8,f,I4,R0,b8,show p++64::r=(p++[64])++r by simp,ae9 (by simp)];rfl
 | succ k j=>
  intro n g i;obtain⟨n,rfl⟩:∃m,n=m+1:=⟨n-1,by omega⟩
  rw[Y0];have h:(p++64::r).getD (p.length+(k+1)) 0≠64:=λe=>a (by
   rw[<-e,j4,List.getElem?_append_right (by omega),show p.length+(k+1)-p.length=k+1 by omega,List.getElem?_cons_succ,k9 (by omega)];exact aa3 _)
  rw[A6,E9,D1,show((((p++64::r).getD (p.length+(k+1)) 0).toNat:Int)==64)=((p++64::r).getD (p.length+(k+1)) 0==64) from Kd _ 64,show((p++64::r).getD (p.length+(k+1)) 0==64)=false by simpa using h,show((p.length+(k+1):Nat):Int)-1=((p.length+k:Nat):Int) by omega];simp only[j0,cond_true,cond_false];rw[C7 (n:=((p.length+k:Nat):Int)) (by omega) (by omega)];exact j n (by omega) (by omega)
theorem Ag3(c d a:By)(f:a.length<=1000000000):∃H,∀(R:Type) (b:KE R),Hg LF c a d b=MV b (G0 c d a) H:=by
 have j:=C4;unfold G0;by_cases h:0<=K5 64 a
 ·obtain⟨p,r,rfl,g,k⟩:=IL h;rw[if_pos h,k,b8,ac8,show p++64::r=(p++[64])++r by simp,ae9 (by simp),show(p++[64])++r=p++64::r by simp];have m:(p++64::r).length=p.length+r.length+1:=by rw[j2,p5];omega
  obtain⟨H,e⟩:=JX c p d r (by omega);refine⟨H,λR b=>a8 ?_ (e R b)⟩;unfold Hg;simp only[vl];rw[A7,show((p++64::r).length:Int)-1=((p.length+r.length:Nat):Int) by omega,Ag7 c p r d f g r.length LF (ab8 _) (by omega),N6];rfl
 ·rw[if_neg h];have i:(64:UInt8)∉a:=λl=>by
   obtain⟨p,r,rfl,g⟩:=AE l;rw[Qd p g] at h;omega
  obtain⟨H,e⟩:=JX c [] d a f;refine⟨H,λR b=>a8 ?_ (e R b)⟩;unfold Hg;simp only[vl];rw[A7,Ag8 c a d f i a.length LF (ab8 _) (by omega),D6 f];rfl
theorem A80{R:Type}{a:List Blk->Option R}{b:By->Option R}(s:By)(g:s.length<=1000000000):∀(r i n:Nat),i+r=s.length->r<n->
  Ee LF n s (i:Int) a b=if (s.drop i).any ctl then a [] else b s:=by
 intro r
 induction r with
 | zero=>
  intro i n d e;obtain⟨n,rfl⟩:∃m,n=m+1:=⟨n-1,by omega⟩
  rw[Ee];rw[A6,j1 (by omega)];rfl
 | succ r f=>
  intro i n d e;obtain⟨n,rfl⟩:∃m,n=m+1:=⟨n-1,by omega⟩
  have c:A1 ((i:Int)+1)=((i+1:Nat):Int):=by rw[A7];rfl
  rw[Ee];rw[A8,E9,D1,D2 s i (by omega),c,ab9,Bg5];simp only[cond_true];rw[f (i+1) n (by omega) (by omega)];cases ltI 32 ((s.getD i 0).toNat:Int) with
  | false=>rfl
  | true=>cases (((s.getD i 0).toNat:Int)==127)<;>rfl
theorem TU(t:By):R1 t [47,63,35]=I1 t:=by
 unfold R1 I1
 congr 2
 funext b
 simp[L5,ad4,Bool.or_assoc];rfl
theorem Dj2(r:By):([47,47]:By).isPrefixOf r=(r.take 2==[47,47]):=by rw[ac3,ab5,List.prefix_iff_eq_take,beq_iff_eq];exact eq_comm
theorem Bx2(s:By)(i:A2 s.length=true):∃H,∀(R:Type) (d:KU R),Pb LF s d=HF d (B8 s) H:=by
 have P:=L8 i;have M:=C4;have L:∀{R:Type} (d:List Blk->Option R) (y:By->Option R),Ee LF LF s 0 d y=if s.any ctl then d [] else y s:=λd y=>A80 s P s.length 0 LF (by omega) (by omega)
 unfold B8;by_cases g:s.any ctl=true
 ·rw[if_pos g];apply x4;intro R d;unfold Pb;rw[L,if_pos g];rfl
 rw[if_neg g];have x:(ad8 s [58]).2.1.length<=s.length:=by
  rcases Q1 58 s with h|⟨p,r,rfl,h⟩
  ·rw[Ju h];exact ac9 _
  ·rw[Q5 h,j2,p5];show r.length<=_;omega
 have a:Di s=if (ad8 s [58]).2.2&&S9 (ad8 s [58]).1 then (B3 (ad8 s [58]).1,(ad8 s [58]).2.1,true) else ([],[],false):=rfl
 generalize ad8 s [58]=q at *;obtain⟨p,r,f⟩:=q;simp only at a x ⊢;cases v:(f&&S9 p) with
 | false=>
  rw[v] at a;rw[if_pos (by rw[<-af9,v];rfl)];apply x4;intro R d;unfold Pb;rw[L,if_neg g,i,a];rfl
 | true=>
 rw[v] at a;rw[if_neg (by rw[<-af9,v];simp)];simp only[if_true] at a;cases c:C8 (B3 p) with
 | false=>
  apply x4;intro R d;unfold Pb;rw[L,if_neg g,i,a];simp only[vl,cond_true,c9,cond_false];rw[c];rfl
 | true=>
 rw[if_neg (by simp)];by_cases U:r.length<2
 ·rw[if_pos (by rw[Dj2];simp only[ad7,beq_eq_false_iff_ne];intro e;have:=congrArg j5 e;rw[p9] at this;simp at this;omega)];apply x4;intro R d;unfold Pb;rw[L,if_neg g,i,a];simp only[vl,cond_true,c9,cond_false];rw[c,A8];rfl
 have z:cut r (0:Int) (2:Int)=r.take 2:=K4 r 2;have K:cut r (2:Int) (r.length:Int)=r.drop 2:=R0 r 2;rw[Dj2];cases Om:(r.take 2==([47,47]:By)) with
 | false=>
  apply x4;intro R d;unfold Pb;rw[L,if_neg g,i,a];simp only[vl,cond_true,c9,cond_false];rw[c,A6,I4];simp only[vl,cond_true,c9,cond_false,z];rw[Om];rfl
 | true=>
 rw[if_neg (by simp)];generalize S:r.drop 2=t at *;have lt:t.length<=r.length:=by rw[<-S,j7];omega
 have Q:=Xd t;obtain⟨H,e⟩:=Ag3 (B3 p) (R2 (t.drop (I1 t))) (t.take (I1 t)) (by rw[p9];omega);refine⟨(λq=>bU (uS q) (uU q) (uK q) (uN q) (uV q) (uA q 0) (uA q 1) (uA q 2) (uA q 3) (uA q 4) (uA q 5) (uA q 6) (uA q 7) (uP q) (uR q)::H) (G0 (B3 p) (R2 (t.drop (I1 t))) (t.take (I1 t))),λR d=>?_⟩;refine a8 ?_ (e R λn0 G I A J B C D n8 F j k l m n o w=>d G I A J B C D n8 F j k l m n o n0 (bU G I A J B C D n8 F j k l m n o::w));unfold Pb;rw[L,if_neg g,i,a];simp only[vl,cond_true,c9,cond_false];rw[c,A6,I4];simp only[vl,cond_true,c9,cond_false,z];rw[Om,I4];simp only[vl,cond_true,c9,cond_false,K];rw[N6,TU,I4,I4,K4,R0,b8];simp only[cond_true];have V:(t.drop (I1 t)).length<=t.length:=by rw[j7];omega
 generalize t.drop (I1 t)=X at *;generalize t.take (I1 t)=T at *;unfold R2;cases X with
 | nil=>rfl
 | cons b X=>
  have N:inR (0:Int) (b::X).length=true:=L9 (by omega) (by simp);have O:((((b::X).getD 0 0).toNat:Int)!=47)=(b !=47):=by rw[bne,bne];exact congrArg _ (Kd b 47)
  rw[show((b::X)==([]:By))=false from rfl,N,Ag,O];simp only[cond_true,cond_false,af0,s7];by_cases u:b=47
  ·rw[show(b !=47)=false by simpa using u,if_pos u];rfl
  ·rw[show(b !=47)=true by simpa using u,if_neg u,J8 (by omega)];rfl
theorem Cg6(s:By)(a:A2 s.length=true):∃r H,Pb LF s rvU=rv r H/\r.stab [0,0] H=pvU (B8 s):=by obtain⟨H,e⟩:=Bx2 s a;exact⟨_,_,e _ _,rfl⟩
theorem A79(s:By)(a:A2 s.length=true):∃r H,EI LF s rvU=rv r H/\r.stab [0,0] H=pvU (E1 s):=by
 unfold EI E1;by_cases h:2048<s.length
 ·rw[A8,if_pos h];exact⟨_,_,rfl,rfl⟩
 ·rw[A6,if_neg h,a];exact⟨_,_,rfl,rfl⟩
section
variable {Z R : Type} (L : Nat) (Q : G1) (Y : Yh Z) (s : Z) (k : Out -> St Z -> Option R)
noncomputable def GY(L:Nat):Cfg:=B6 L [148] (A3 []) [] (A3 [(1,[2]),(0,[0])]) [] (A3 []) (some [2]) [] [] []
noncomputable def VW{R:Type}(L:Nat)(n0:Int)(a:Bool->Option R):Option R:=cond (not (ltI n0 0)) (cond (not (ltI 1114111 n0)) (cond (ltI n0 55296) (a true) (a (ltI 57343 n0))) (a false)) (a false)
theorem Bw4(d:Nat)(n0):evC (GY L) (d+1) Z Y 148 [pI n0] [] s=VW L n0 (λa=>some (pB a,[],s)):=by refine(evE (fn:=Tryz.f148) (by kernel_rfl)).trans ?_;generalize evC (GY L) d=Q;unfold VW;kernel_rfl
noncomputable abbrev Oa:Code:=C6 ae5
noncomputable def X3(L:Nat):Cfg:=B6 L [151] (A3 [(6,[0,5,0])]) [] (A3 [(9,[6]),(8,[0,6]),(7,[0,6]),(6,[0,6,11]),(5,[0,6]),(4,[0]),(2,[0,0]),(3,[0,0]),(1,[0,0,6]),(0,[0,0,0])]) [] (A3 [(0,[0,6]),(1,[0,6])]) (some [6]) [] [] []
noncomputable def Fz{R:Type}(L n:Nat)(a b:Int)(e:Int->Int->Option R):Option R:=match n with|0=>none|n+1=>cond (ltI 455 a) (vl (A1 (x3 a (35:Int))) λc=>vl (A1 (b+36)) λd=>Fz L n c d e) (e a b)
theorem VH(n a b):D0 0 ((X3 L).keep 6) (bd (X3 L) Q Y (cd [1,1,1,1,0,0,0] Oa)) n ⟨gp [(0,pI a),(6,pI b)] 23,[],s⟩ k =
 Fz L n a b (λa b=>k (.exit 0) ⟨gp [(0,pI a),(6,pI b)] 23,[],s⟩):=by
 induction n generalizing a b with
 | zero=>rfl
 | succ n c=>rw[Fz];simp only[<-c];kernel_rfl
noncomputable def Fy{R:Type}(L:Nat)(b h:Int)(i:Int->Option R):Option R:=cond (h !=0) (vl (A1 (x3 b h)) λg=>Fz L L (A1 (b+g)) 0 (λa d=>vl (A1 ((36:Int)*a)) λe=>vl (A1 (a+38)) λc=>cond (c !=0) (vl (A1 (x3 e c)) λf=>i (A1 (d+f))) none)) none
abbrev CG(b:Code):Prop:=∀(k:Out->St Z->Option R) delta0 n1,A9 (X3 L) Q Y b ⟨gp [(0,pI delta0),(0,pI n1)] 29,[],s⟩ k=Fy L delta0 n1 (λn0=>k .ret ⟨gp [(6,pI n0)] 24,[],s⟩)
theorem VG:CG (R:=R) L Q Y s (cd [1,1] Oa):=by intro k a c;unfold Fy;exact(a8 (by kernel_rfl) (A0 (A4 λb=>((VH L Q Y s (E6 0 (E5 (X3 L) Q Y (cd [1,1,1,1,1] Oa) k)) L (A1 (a+b)) 0).trans (by kernel_rfl))) rfl))
noncomputable def JN{R:Type}(L:Nat)(a h:Int)(b:Bool)(g:Int->Option R):Option R:=cond b (vl (A1 (x3 a (700:Int))) λe=>Fy L e h (λc=>g c)) (vl (A1 (x3 a (2:Int))) λf=>Fy L f h (λd=>g d))
theorem Bu4(d:Code)(a:CG (R:=PV × List Blk × Z) L Q Y s d)(b e:Int)(c:Bool):A9 (X3 L) Q Y (cd [] (G3 [1,1] d Oa)) ⟨[pI b,pI e,pB c]++tps 28,[],s⟩ (F5 (X3 L) ae5)=JN L b e c (λi=>some (pI i,[],s)):=by unfold JN;exact let h:=(F5 (X3 L) ae5);(a8 (by kernel_rfl) (A0 (A4 λf=>((a h f e).trans (by kernel_rfl))) (A4 λg=>((a h g e).trans (by kernel_rfl)))))
theorem Bu5(d:Nat)(delta0 n1 first2):evC (X3 L) (d+1) Z Y 151 [pI delta0,pI n1,pB first2] [] s=JN L delta0 n1 first2 (λa=>some (pI a,[],s)):=
 (evE (fn:=ae5) (by kernel_rfl)).trans (a8 (by kernel_rfl) (Bu4 L (evC (X3 L) d) Y s (cd [1,1] Oa) (VG L (evC (X3 L) d) Y s) delta0 n1 first2))
noncomputable def Ar6(L:Nat):Cfg:=B6 L [149] (A3 []) [] (A3 [(1,[4]),(0,[0,0])]) [] (A3 []) (some [4]) [] [] []
noncomputable def Cz9{R:Type}(L:Nat)(c a:Int)(e:Int->Option R):Option R:=vl (A1 ((36:Int)*(A1 (c+1)))) λb=>vl (if ((if ((A1 (b-a))<(26:Int)) then (A1 (b-a)) else (26:Int)) > (1:Int)) then (if ((A1 (b-a))<(26:Int)) then (A1 (b-a)) else (26:Int)) else (1:Int)) λd=>e d
theorem C00(d:Nat)(kk0 bias1):evC (Ar6 L) (d+1) Z Y 149 [pI kk0,pI bias1] [] s=Cz9 L kk0 bias1 (λa=>some (pI a,[],s)):=by refine(evE (fn:=Tryz.f149) (by kernel_rfl)).trans ?_;generalize evC (Ar6 L) d=Q;unfold Cz9;kernel_rfl
noncomputable def TG(L:Nat):Cfg:=B6 L [150] (A3 []) [] (A3 [(3,[2]),(2,[2]),(1,[0,3]),(0,[0])]) [] (A3 []) (some [2]) [] [] []
noncomputable def Bk0{R:Type}(L:Nat)(a:Int)(d:Int->Option R):Option R:=cond (ltI a 26) (vl (wu8 (A1 ((97:Int)+a))) λb=>d b) (vl (A1 ((A1 ((48:Int)+a))-26)) λc=>d (wu8 c))
theorem Ce0(d:Nat)(d0):evC (TG L) (d+1) Z Y 150 [pI d0] [] s=Bk0 L d0 (λa=>some (p8 a,[],s)):=by refine(evE (fn:=Tryz.f150) (by kernel_rfl)).trans ?_;generalize evC (TG L) d=Q;unfold Bk0;kernel_rfl
noncomputable abbrev Sd:Code:=C6 ae6
noncomputable def Ja(L:Nat):Cfg:=B6 L [176] (A3 []) [] (A3 [(7,[2]),(2,[2]),(4,[2]),(6,[2]),(5,[0,22]),(3,[0,12]),(1,[0,2]),(0,[0])]) [] (A3 [(0,[])]) (some [2]) [] [] []
noncomputable def Ww{R:Type}(a:Int)(g:Bool)(e:Int->Option R)(f:Int->Bool->Option R):Option R:=cond g (vl (A1 (wu8 (a-65))) λb=>e b) (cond (not (ltI a 48)) (cond (not (ltI 57 a)) (vl (A1 (wu8 (a-48))) λc=>vl (A1 (c+26)) λd=>e d) (f a (not (ltI 57 a)))) (f a false))
abbrev OZ(b:Code):Prop:=∀(k:Out->St Z->Option R) a c,A9 (Ja L) Q Y b ⟨gp [(0,p8 a),(12,pB c)] 20,[],s⟩ k=Ww a c (λn0=>k .ret ⟨gp [(2,pI n0)] 31,[],s⟩) (λa c=>k .normal ⟨gp [(0,p8 a),(22,pB c)] 10,[],s⟩)
theorem A88:OZ (R:=R) L Q Y s (cd [1,0,0,1,1,1] Sd):=by intro k a b;unfold Ww;kernel_rfl
noncomputable def Wx{R:Type}(a:Int)(l:Bool)(f:Int->Option R)(j:Int->Bool->Option R):Option R:=cond l (vl (A1 (wu8 (a-97))) λg=>f g) (cond (not (ltI a 65)) (Ww a (not (ltI 90 a)) (λh=>f h) (λb c=>j b c)) (Ww a false (λi=>f i) (λd e=>j d e)))
abbrev AR(b:Code):Prop:=∀(k:Out->St Z->Option R) a c,A9 (Ja L) Q Y b ⟨gp [(0,p8 a),(2,pB c)] 30,[],s⟩ k=Wx a c (λn0=>k .ret ⟨gp [(2,pI n0)] 31,[],s⟩) (λa c=>k .normal ⟨gp [(0,p8 a),(22,pB c)] 10,[],s⟩)
theorem A89(a:Code)(b:OZ (R:=R) L Q Y s a):AR (R:=R) L Q Y s (cd [1,0,0,1] (G3 [1,0,0,1,1,1] a Sd)):=by intro k c d;unfold Wx;simp only[<-b k];kernel_rfl
theorem A90:AR (R:=R) L Q Y s (cd [1,0,0,1] Sd):=by intro k a b;exact a8 (by kernel_rfl) (A89 L Q Y s (cd [1,0,0,1,1,1] Sd) (A88 L Q Y s) k a b)
noncomputable def Ch1{R:Type}(L:Nat)(c:Int)(d:Int->Option R):Option R:=cond (not (ltI c 97)) (Wx c (not (ltI 122 c)) (λa=>d a) (λe f=>d (-1))) (Wx c false (λb=>d b) (λg h=>d (-1)))
theorem C05(b:Code)(a:AR (R:=PV × List Blk × Z) L Q Y s b)(c:Int):A9 (Ja L) Q Y (cd [] (G3 [1,0,0,1] b Sd)) ⟨[p8 c]++tps 33,[],s⟩ (F5 (Ja L) ae6)=Ch1 L c (λe=>some (pI e,[],s)):=by unfold Ch1;exact let d:=(E6 0 (E5 (Ja L) Q Y (cd [1,1] Sd) (F5 (Ja L) ae6)));(a8 (by kernel_rfl) (A0 ((a d c (not (ltI 122 c))).trans (by kernel_rfl)) ((a d c false).trans (by kernel_rfl))))
theorem C06(d:Nat)(b0):evC (Ja L) (d+1) Z Y 176 [p8 b0] [] s=Ch1 L b0 (λa=>some (pI a,[],s)):=
 (evE (fn:=ae6) (by kernel_rfl)).trans (a8 (by kernel_rfl) (C05 L (evC (Ja L) d) Y s (cd [1,0,0,1] Sd) (A90 L (evC (Ja L) d) Y s) b0))
noncomputable abbrev Bp:Code:=C6 ae4
noncomputable def M9(L:Nat):Cfg:=B6 L [120] (A3 [(32,[0,1,0,0,1,0,0,0,0,2,0,0]),(25,[0,1,0,0,1,0,0,0,0,2]),(18,[0,1,0,0,1,0,0,0,0,0,0]),(15,[0,1,0,0,1,0,0,0,0]),(5,[0,1,0,0,0])]) [(148,Ua),(149,Ao1),(150,Be1),(151,FK)] (A3 [(43,[2,0]),(42,[0,3,1,0,0,0,0]),(41,[0,3,1,0,0,0,0]),(26,[0,3,1,0,0,0,0,2]),(40,[0,3,1,0,0,0,0,2]),(39,[0,3,1,0,0,0,0,2]),(38,[0,3,1,0,0,1,2]),(37,[0,3,1,0,0,0,3]),(36,[0,3,1,0,0,0,0,2,0,0]),(35,[0,3,1,0,0,0,0,2,0,0]),(34,[0,3,1,0,0,0,0,2,0,0,0]),(33,[0,3,1,0,0,0,0,2,0,0,0]),(32,[0,3,1,0,0,0,0,2,0,0,94]),(31,[0,3,1,0,0,0,0,2,0,0]),(30,[0,3,1,0,0,0,0,2,0]),(29,[0,3,1,0,0,0,0,2,90]),(28,[0,3,1,0,0,0,0,2]),(27,[0,3,1,0,0,0,0,2,82]),(25,[0,3,1,0,0,0,0,2,74]),(24,[0,3,1,0,0,0,0,2]),(23,[0,3,1,0,0,0,0]),(22,[0,3,1,0,1,0,0]),(19,[0,3,1,0,0,0,0,0,0]),(21,[0,3,1,0,0,0,0,0,0]),(20,[0,3,1,0,0,0,0,0,0,56]),(18,[0,3,1,0,0,0,0,0,0,48]),(17,[0,3,1,0,0,0,0,0,0]),(16,[0,3,1,0,0,0,0,0]),(15,[0,3,1,0,0,0,0,46]),(14,[0,3,1,0,0,0,0]),(13,[0,3,1,0]),(12,[0,3,1,0,42]),(11,[0,3,1,0]),(6,[0,3,0]),(10,[0,3,0]),(9,[0,3,0,30]),(8,[2,0]),(7,[0,3,0,25]),(5,[0,3,0,17]),(4,[0,3,0]),(3,[0,3]),(2,[2,0]),(1,[0,18]),(0,[0])]) [148,149,150,151] (A3 [(2,[4]),(3,[0,3,1,0,0,0,0]),(6,[0,3,1,0,0,0,0]),(7,[0,3,1,0,0,0,0,2]),(8,[0,3,1,0,0,0,3,0]),(9,[0,3,1,0,0,0,0,2,0,0]),(4,[0,3,1,0,0,0,0,0]),(5,[0,3,1,0,0,0,0,0,0]),(0,[0,3]),(1,[0,3,0])]) (some [2,0]) [] [] []
noncomputable def U6{R:Type}(L n:Nat)(c b:Bool)(a:LL)(d:Int)(e:LL)(f:LL->Option R)(g:Bool->Bool->LL->LL->Option R):Option R:=match n with|0=>none|n+1=>cond (ltI d (a.length:Int)) (cond (inR d a.length) (cond (okE Kr a (b9 d) 0) (vl (gE a (b9 d) 0) λh=>cond (not (ptI h)) (f e) (cond (inR d a.length) (cond (okE Kr a (b9 d) 0) (vl (gE a (b9 d) 0) λi=>cond (ltI i 128) (cond (inR d a.length) (cond (okE Kr a (b9 d) 0) (vl (gE a (b9 d) 0) λj=>cond (F8 (e.length+1)) (U6 L n c b a (A1 (d+1)) (e++[[(SV.int .u8 (wu8 j))]]) f g) none) none) none) (U6 L n c b a (A1 (d+1)) e f g)) none) none)) none) none) (g c b a e)
theorem A24(n b a c i3 l4):D0 1 ((M9 L).keep 5) (bd (M9 L) Q Y (cd [1,1,1,0,1,0,0] Bp)) n ⟨gp [(0,.s (.sl b a 1 c)),(3,.fl 0),(0,pI i3)] 148,[.arr true 5 1 l4],s⟩ k =
 U6 L n b a c i3 l4 (λe=>k .ret ⟨gp [(2,pS ([]:List UInt8)),(0,pI (2:Int))] 150,[.arr true 5 1 e],s⟩) (λb a c f=>k (.exit 0) ⟨gp [(0,.s (.sl b a 1 c)),(3,.fl 0)] 149,[.arr true 5 1 f],s⟩):=by
 induction n generalizing b a c i3 l4 with
 | zero=>rfl
 | succ n d=>rw[U6];simp only[<-d];kernel_rfl
noncomputable def Il{R:Type}(L n:Nat)(c b:Bool)(a:LL)(h e o f g d i:Int)(l10:LL)(p:Bool->Bool->LL->Int->Int->Int->Int->Int->Int->LL->Option R):Option R:=match n with|0=>none|n+1=>cond (ltI i (a.length:Int)) (cond (inR i a.length) (cond (okE Kr a (b9 i) 0) (vl (gE a (b9 i) 0) λl=>cond (not (ltI l o)) (cond (inR i a.length) (cond (okE Kr a (b9 i) 0) (vl (gE a (b9 i) 0) λj=>vl (if (j<d) then j else d) λm=>Il L n c b a h e o f g m (A1 (i+1)) l10 p) none) none) (Il L n c b a h e o f g d (A1 (i+1)) l10 p)) none) none) (p c b a h e o f g d l10)
theorem A25(n b a c h d i e g f i9 l10):D0 1 ((M9 L).keep 18) (bd (M9 L) Q Y (cd [1,1,1,1,1,1,1,0,0,0,1,0,1,0,1,0,0] Bp)) n ⟨gp [(0,.s (.sl b a 1 c)),(3,.fl 0),(1,pI h),(0,pI d),(0,pI i),(0,pI e),(0,pI g),(0,pI f),(0,pI i9)] 141,[.arr true 5 1 l10],s⟩ k =
 Il L n b a c h d i e g f i9 l10 (λb a c h d i e g f l=>k (.exit 4) ⟨gp [(0,.s (.sl b a 1 c)),(3,.fl 0),(1,pI h),(0,pI d),(0,pI i),(0,pI e),(0,pI g),(0,pI f)] 142,[.arr true 5 1 l],s⟩):=by
 induction n generalizing b a c h d i e g f i9 l10 with
 | zero=>rfl
 | succ n j=>rw[Il];simp only[<-j];kernel_rfl
noncomputable def Fd{R:Type}(L n:Nat)(c b:Bool)(f:LL)(i g w h a i8 u e:Int)(o:LL)(v:Bool->Bool->LL->Int->Int->Int->Int->Int->Int->LL->Option R):Option R:=match n with|0=>none|n+1=>cond (ltN e 10000000000) (cond (ltN a 1000000) (vl (L1 (ab7 (36:Int) e) a) λp=>cond (not (ltI u p)) (cond (ltN e 10000000000) (cond (ltN a 1000000) (vl (L1 (ab7 (36:Int) e) a) λd=>vl (A1 ((36:Int)-d)) λj=>cond (j !=0) (vl (s8 (A1 (u-d)) j) λl=>cond (ltN (A1 (d+l)) 36) (vl (↑(ae8 (Ai (b9 (A1 (d+l))))):Int) λq=>cond (F8 (o.length+1)) (vl (A1 ((36:Int)-d)) λm=>cond (m !=0) (vl (A1 (x3 (A1 (u-d)) m)) λr=>vl (A1 (e+1)) λt=>Fd L n c b f i g w h a i8 r t (o++[[(SV.int .u8 q)]]) v) none) none) none) none) none) none) (v c b f i g w h i8 u o)) none) none
theorem JP(n b a c f d g e bias7 i8 q9 kk10 l11):D0 1 ((M9 L).keep 32) (bd (M9 L) Q Y (cd [1,1,1,1,1,1,1,0,0,0,1,0,1,1,1,1,0,1,0,0,1,0,0,1,1,1,1,0,0,0] Bp)) n ⟨gp [(0,.s (.sl b a 1 c)),(3,.fl 0),(1,pI f),(0,pI d),(0,pI g),(0,pI e),(0,pI bias7),(2,pI i8),(0,pI q9),(0,pI kk10)] 138,[.arr true 5 1 l11],s⟩ k =
 Fd L n b a c f d g e bias7 i8 q9 kk10 l11 (λb a c f d g e h l j=>k (.exit 8) ⟨gp [(0,.s (.sl b a 1 c)),(3,.fl 0),(1,pI f),(0,pI d),(0,pI g),(0,pI e),(3,pI h),(0,pI l)] 139,[.arr true 5 1 j],s⟩):=by
 induction n generalizing b a c f d g e bias7 i8 q9 kk10 l11 with
 | zero=>rfl
 | succ n i=>rw[Fd];simp only[<-i];kernel_rfl
noncomputable def An{R:Type}(L n:Nat)(c b:Bool)(a:LL)(i d B e f i8:Int)(I:LL)(H:Bool->Bool->LL->Int->Int->Int->Int->Int->LL->Option R):Option R:=match n with|0=>none|n+1=>cond (ltI i8 (a.length:Int)) (cond (inR i8 a.length) (cond (okE Kr a (b9 i8) 0) (vl (gE a (b9 i8) 0) λJ=>cond (ltI J B) (vl (A1 (e+1)) λw=>cond (inR i8 a.length) (cond (okE Kr a (b9 i8) 0) (vl (gE a (b9 i8) 0) λK=>cond (K !=B) (An L n c b a i d B w f (A1 (i8+1)) I H) (Fd L L c b a i d B w f i8 w 0 I (λr p u g j N m F C z=>cond (ltN C 36) (vl (↑(ae8 (Ai (b9 C))):Int) λO=>cond (F8 (z.length+1)) (vl (A1 (g+1)) λx=>cond (ltN m 1152921504606846976) (cond (ltN x 1000000) (cond (ltI 0 x) (vl (↑(Q3 (b9 m) (b9 x) (g==j)):Int) λP=>vl (A1 (g+1)) λS=>vl (A1 (F+1)) λT=>An L n r p u S j N 0 P T (z++[[(SV.int .u8 O)]]) H) none) none) none) none) none))) none) none) (cond (inR i8 a.length) (cond (okE Kr a (b9 i8) 0) (vl (gE a (b9 i8) 0) λM=>cond (M !=B) (An L n c b a i d B e f (A1 (i8+1)) I H) (Fd L L c b a i d B e f i8 e 0 I (λt q v h l U o G D A=>cond (ltN D 36) (vl (↑(ae8 (Ai (b9 D))):Int) λV=>cond (F8 (A.length+1)) (vl (A1 (h+1)) λy=>cond (ltN o 1152921504606846976) (cond (ltN y 1000000) (cond (ltI 0 y) (vl (↑(Q3 (b9 o) (b9 y) (h==l)):Int) λW=>vl (A1 (h+1)) λX=>vl (A1 (G+1)) λa0=>An L n t q v X l U 0 W a0 (A++[[(SV.int .u8 V)]]) H) none) none) none) none) none))) none) none)) none) none) (H c b a i d B e f I)
theorem A26(n b a c g d t e f i8 l9):D0 1 ((M9 L).keep 25) (bd (M9 L) Q Y (cd [1,1,1,1,1,1,1,0,0,0,1,0,1,1,1,1,0,1,0,0] Bp)) n ⟨gp [(0,.s (.sl b a 1 c)),(3,.fl 0),(1,pI g),(0,pI d),(0,pI t),(0,pI e),(0,pI f),(2,pI i8)] 140,[.arr true 5 1 l9],s⟩ k =
 An L n b a c g d t e f i8 l9 (λb a c g d t e f l8=>k (.exit 6) ⟨gp [(0,.s (.sl b a 1 c)),(3,.fl 0),(1,pI g),(0,pI d),(0,pI t),(0,pI e),(0,pI f)] 143,[.arr true 5 1 l8],s⟩):=by
 induction n generalizing b a c g d t e f i8 l9 with
 | zero=>rfl
 | succ n M=>rw[An];exact let N:=(E6 8 (E5 (M9 L) Q Y (cd [1,1,1,1,1,1,1,0,0,0,1,0,1,1,1,1,0,1,0,0,1,0,0,1,1,1,1,1] Bp) (E6 7 (E5 (M9 L) Q Y (cd [1,1,1,1,1,1,1,0,0,0,1,0,1,1,1,1,0,1,0,0,1,1] Bp) (lpK 1 ((M9 L).keep 25) (bd (M9 L) Q Y (cd [1,1,1,1,1,1,1,0,0,0,1,0,1,1,1,1,0,1,0,0] Bp)) n k)))));(a8 (by kernel_rfl) (A0 (A0 (A0 (A4 λS=>(A0 (A4 λr=>(A0 (A0 (A4 λT=>(A0 (M b a c g d t r f (A1 (i8+1)) l9) ((JP L Q Y s N L b a c g d t r f i8 r 0 l9).trans (congr rfl (Cr5 λj h m w p A u O X y=>(a8 (by kernel_rfl) (A0 (A4 λB=>(A0 (A4 λV=>(A0 (A0 (A0 (A4 λC=>(A4 λD=>(A4 λF=>(M j h m D p A 0 C F (y++[[(SV.int .u8 B)]]))))) rfl) rfl) rfl)) rfl)) rfl))))))) rfl) rfl)) (A0 (A0 (A4 λU=>(A0 (M b a c g d t e f (A1 (i8+1)) l9) ((JP L Q Y s N L b a c g d t e f i8 e 0 l9).trans (congr rfl (Cr5 λl i o x q G v P a0 z=>(a8 (by kernel_rfl) (A0 (A4 λH=>(A0 (A4 λW=>(A0 (A0 (A0 (A4 λI=>(A4 λJ=>(A4 λK=>(M l i o J q G 0 I K (z++[[(SV.int .u8 H)]]))))) rfl) rfl) rfl)) rfl)) rfl))))))) rfl) rfl))) rfl) rfl) rfl))
noncomputable def Fe{R:Type}(L n:Nat)(l j:Bool)(g:LL)(v w K x y:Int)(J:LL)(I:LL->Option R):Option R:=match n with|0=>none|n+1=>cond (ltI v (g.length:Int)) (Il L L l j g v w K x y 1073741824 0 J (λd b h f m B p r a z=>vl (A1 (f+1)) λC=>vl (A1 ((A1 (a-B))*C)) λD=>An L L d b h f m a (A1 (p+D)) r 0 z (λe c i u o F q t A=>vl (A1 (q+1)) λG=>vl (A1 (F+1)) λH=>Fe L n e c i u o H G t A I))) (I J)
theorem JQ(n points_z0 points_t1 points2 done3 basic4 n5 delta6 bias7 l8):D0 1 ((M9 L).keep 15) (bd (M9 L) Q Y (cd [1,1,1,1,1,1,1,0,0,0] Bp)) n ⟨gp [(0,.s (.sl points_z0 points_t1 1 points2)),(3,.fl 0),(1,pI done3),(0,pI basic4),(0,pI n5),(0,pI delta6),(0,pI bias7)] 143,[.arr true 5 1 l8],s⟩ k =
 Fe L n points_z0 points_t1 points2 done3 basic4 n5 delta6 bias7 l8 (λB=>k (.exit 2) ⟨gp [(4,.fl 0)] 149,[.arr true 5 1 B],s⟩):=by
 induction n generalizing points_z0 points_t1 points2 done3 basic4 n5 delta6 bias7 l8 with
 | zero=>rfl
 | succ n A=>rw[Fe];exact(a8 (by kernel_rfl) (A0 ((A25 L Q Y s (E6 4 (E5 (M9 L) Q Y (cd [1,1,1,1,1,1,1,0,0,0,1,0,1,1] Bp) (E6 3 (lpK 1 ((M9 L).keep 15) (bd (M9 L) Q Y (cd [1,1,1,1,1,1,1,0,0,0] Bp)) n k)))) L points_z0 points_t1 points2 done3 basic4 n5 delta6 bias7 1073741824 0 l8).trans (congr rfl (Cr5 λc a e o g x i l j r=>(a8 (by kernel_rfl) (A4 λy=>(A4 λu=>((A26 L Q Y s (E6 6 (E5 (M9 L) Q Y (cd [1,1,1,1,1,1,1,0,0,0,1,0,1,1,1,1,1] Bp) (E6 3 (lpK 1 ((M9 L).keep 15) (bd (M9 L) Q Y (cd [1,1,1,1,1,1,1,0,0,0] Bp)) n k)))) L c a e o g j (A1 (i+u)) l 0 r).trans (congr rfl (fx9 λd b f p h z q m t=>(a8 (by kernel_rfl) (A4 λv=>(A4 λw=>(A d b f p h w v m t))))))))))))) rfl))
noncomputable def Ad7{R:Type}(L:Nat)(f e:Bool)(d:LL)(o:Unit->Option R)(m:By->Int->LL->Option R):Option R:=cond (ltI 256 (d.length:Int)) (o ()) (U6 L L f e d 0 [] (λn=>m ([]:List UInt8) 2 n) (λb a c g=>vl (g.length:Int) λl=>vl (g.length:Int) λj=>cond (ltI 0 j) (cond (F8 (g.length+1)) (Fe L L b a c l j 128 0 72 (g++[[(SV.int .u8 (45:Int))]]) (λh=>cond (ac0 h Nn) (m (aa1 Lk h) 0 h) none)) none) (Fe L L b a c l j 128 0 72 g (λi=>cond (ac0 i Nn) (m (aa1 Lk i) 0 i) none))))
theorem Cy5(d:Nat)(points_z0 points_t1 points2):evC (M9 L) (d+1) Z Y 120 [.s (.sl points_z0 points_t1 1 points2)] [] s=Ad7 L points_z0 points_t1 points2 (λ_=>some (.tup [pS ([]:List UInt8),pI (3:Int)],[],s)) (λj l i=>some (.tup [pS j,pI l],[.arr true 5 1 i],s)):=by refine(evE (fn:=ae4) (by kernel_rfl)).trans ?_;generalize evC (M9 L) d=Q;unfold Ad7;exact let h:=(E6 2 (E5 (M9 L) Q Y (cd [1,1,1,1,1,1,1,1] Bp) (F5 (M9 L) ae4)));(a8 (by kernel_rfl) (A0 rfl ((A24 L Q Y s (E6 0 (E5 (M9 L) Q Y (cd [1,1,1,1] Bp) (F5 (M9 L) ae4))) L points_z0 points_t1 points2 0 []).trans (congr (congr rfl (by kernel_rfl)) (fx4 λb a c g=>(a8 (by kernel_rfl) (A4 λe=>(A4 λf=>(A0 (A0 ((JQ L Q Y s h L b a c e f 128 0 72 (g++[[(SV.int .u8 (45:Int))]])).trans (by kernel_rfl)) rfl) ((JQ L Q Y s h L b a c e f 128 0 72 g).trans (by kernel_rfl)))))))))))
noncomputable abbrev Y3:Code:=C6 ad0
noncomputable def J4(L:Nat):Cfg:=B6 L [156] (A3 [(27,[0,1,0,2,1,0,0,0,0,0,0,0]),(23,[0,1,0,2,1,0,0,0,0]),(13,[0,1,0,0,1,0]),(5,[0,1,0,0,0])]) [(176,B41),(149,Ao1),(151,FK),(148,Ua)] (A3 [(51,[2,0]),(50,[0,5,1,0,0,0,0]),(49,[2,0]),(48,[0,5,1,0,0,0,0,118]),(47,[0,5,1,0,0,0,0]),(46,[2,0]),(45,[0,5,1,0,0,0,0,103]),(44,[0,5,1,0,0,0,0]),(43,[0,5,1,0,0,0,0]),(42,[0,5,1,0,0,0,0]),(41,[0,5,1,0,0,0]),(26,[0,5,1,0,0,0,0,0,0,0]),(40,[2,0]),(39,[0,5,1,0,0,0,0,0,0,0,77]),(38,[0,5,1,0,0,0,0,0,0,0]),(37,[0,5,1,0,0,0,0,0,0,0,1,69]),(36,[0,5,1,0,0,0,0,0,0,0,0,0]),(35,[2,0]),(34,[0,5,1,0,0,0,0,0,0,0,0,64]),(33,[0,5,1,0,0,0,0,0,0,0,0]),(32,[2,0]),(31,[0,5,1,0,0,0,0,0,0,0,0,57]),(30,[0,5,1,0,0,0,0,0,0,0,0]),(29,[0,5,1,0,0,0,0,0,0,0,0]),(28,[2,0]),(27,[0,5,1,0,0,0,0,0,0,0,50]),(25,[0,5,1,0,0,0,0,0,0,0]),(24,[0,5,1,0,0,0,0,0,0]),(23,[0,5,1,0,0,0,0,46]),(22,[0,5,1,0,0,0,0]),(21,[0,5,1,0,0,0]),(20,[0,5,1]),(19,[0,5,1,44]),(18,[0,3,1,1]),(17,[2,0]),(16,[0,3,1,43]),(14,[0,3,1,0]),(15,[0,3,1,0]),(13,[0,3,1,0,30]),(12,[0,3,1,0]),(11,[0,3,1]),(6,[0,3,0]),(10,[0,3,0]),(9,[0,3,0,28]),(8,[2,0]),(7,[0,3,0,24]),(5,[0,3,0,18]),(4,[0,3,0]),(3,[0,3]),(2,[2,0]),(1,[0,19]),(0,[0])]) [176,149,151,148] (A3 [(4,[6]),(5,[0,5,1,0,0,0,0]),(6,[0,5,1,0,0,1,0]),(7,[0,5,1,0,0,0,0,0,0,0]),(2,[0,3,1]),(3,[0,3,1,0]),(0,[0,3]),(1,[0,3,0])]) (some [2,0]) [] [] [] (rw:=[(47,6)])
noncomputable def Ec{R:Type}(L n:Nat)(c:By)(a b:Int)(d:Unit->Option R)(e:By->Int->Option R):Option R:=match n with|0=>none|n+1=>cond (ltI b (c.length:Int)) (cond (inR b c.length) (cond (not (ltI (bAt c b) (128:Int))) (d ()) (cond (inR b c.length) (cond ((bAt c b)==45) (Ec L n c b (A1 (b+1)) d e) (Ec L n c a (A1 (b+1)) d e)) none)) none) (e c a)
theorem Ae8(n b a i2):D0 0 ((J4 L).keep 5) (bd (J4 L) Q Y (cd [1,1,1,0,1,0,0] Y3)) n ⟨gp [(0,pS b),(3,pI a),(0,pI i2)] 129,[],s⟩ k =
 Ec L n b a i2 (λ_=>k .ret ⟨gp [(2,.fl 0),(0,pI (4:Int))] 131,[.arr true 3 1 []],s⟩) (λb a=>k (.exit 0) ⟨gp [(0,pS b),(3,pI a)] 130,[],s⟩):=by
 induction n generalizing b a i2 with
 | zero=>rfl
 | succ n c=>rw[Ec];simp only[<-c];kernel_rfl
noncomputable def Ha{R:Type}(L n:Nat)(c:By)(a b:Int)(d:LL)(e:By->Int->LL->Option R):Option R:=match n with|0=>none|n+1=>cond (ltI b a) (cond (inR b c.length) (cond (F8 (d.length+1)) (Ha L n c a (A1 (b+1)) (d++[[(SV.int .i64 (A1 (bAt c b)))]]) e) none) none) (e c a d)
theorem Ae9(n b a i2 l3):D0 1 ((J4 L).keep 13) (bd (J4 L) Q Y (cd [1,1,1,1,1,0,1,0,0] Y3)) n ⟨gp [(0,pS b),(3,pI a),(1,.fl 0),(0,pI i2)] 127,[.arr true 3 1 l3],s⟩ k =
 Ha L n b a i2 l3 (λb a d=>k (.exit 2) ⟨gp [(0,pS b),(3,pI a),(1,.fl 0)] 128,[.arr true 3 1 d],s⟩):=by
 induction n generalizing b a i2 l3 with
 | zero=>rfl
 | succ n c=>rw[Ha];simp only[<-c];kernel_rfl
noncomputable def V3{R:Type}(L n:Nat)(l:By)(g:LL)(b q r a f o h:Int)(j:LL)(m:Int->LL->Option R)(p:By->LL->Int->Int->Int->Int->LL->Option R):Option R:=match n with|0=>none|n+1=>cond (not (ltI b (l.length:Int))) (m 4 j) (cond (inR b l.length) (cond (inR (bAt l b) 256) (vl (E0 (u8n (bAt l b))) λi=>cond (ltI i 0) (m 4 j) (vl (A1 (r+(A1 (i*o)))) λc=>cond (ltI 1099511627776 c) (m 19 j) (cond (ltN h 10000000000) (cond (ltN a 1000000) (vl (L1 (ab7 (36:Int) h) a) λd=>cond (ltI i d) (p l g (A1 (b+1)) q c f j) (vl (A1 ((36:Int)-d)) λe=>cond (ltI 1099511627776 (A1 (o*e))) (m 19 j) (V3 L n l g (A1 (b+1)) q c a f (A1 (o*e)) (A1 (h+1)) j m p))) none) none))) none) none)
theorem Af0(n f a b d c bias5 old6 w7 kk8 l9):D0 1 ((J4 L).keep 27) (bd (J4 L) Q Y (cd [1,1,1,1,1,1,1,1,1,1,1,0,0,0,1,0,1,0,1,0,0] Y3)) n ⟨gp [(0,pS f),(5,.s (.sl false false 1 a)),(1,pI b),(0,pI d),(0,pI c),(0,pI bias5),(0,pB false),(0,pI old6),(0,pI w7),(0,pI kk8)] 119,[.arr true 3 1 l9],s⟩ k =
 V3 L n f a b d c bias5 old6 w7 kk8 l9 (λn0 h=>k .ret ⟨gp [(2,.fl 1),(0,pI n0)] 131,[.arr true 3 1 h,.arr true 3 1 []],s⟩) (λf a b d c e i=>k (.exit 6) ⟨gp [(0,pS f),(5,.s (.sl false false 1 a)),(1,pI b),(0,pI d),(0,pI c),(1,pB false),(0,pI e)] 121,[.arr true 3 1 i],s⟩):=by
 induction n generalizing f a b d c bias5 old6 w7 kk8 l9 with
 | zero=>rfl
 | succ n g=>rw[V3];simp only[<-g];kernel_rfl
noncomputable def P2{R:Type}(L n:Nat)(C:By)(m:LL)(q D y p:Int)(B:LL)(x:Int->LL->Option R)(z:LL->LL->Option R)(A:LL->LL->Option R):Option R:=match n with|0=>none|n+1=>cond (ltI q (C.length:Int)) (V3 L L C m q D y p y 1 0 B (λt r=>x t r) (λw a o d b h i=>vl (A1 ((a.length:Int)+1)) λj=>cond (ltN (A1 (b-h)) 1152921504606846976) (cond (ltN j 1000000) (cond (ltI 0 j) (vl (↑(Q3 (b9 (A1 (b-h))) (b9 j) false):Int) λu=>vl (A1 ((a.length:Int)+1)) λl=>cond (l !=0) (vl (A1 (x3 b l)) λe=>vl (A1 ((a.length:Int)+1)) λf=>cond (f !=0) (cond (not (ptI (A1 (d+e)))) (x 2 i) (cond (I7 0 (s8 b f) a.length) (vl (cut a 0 (s8 b f)) λc=>cond (I7 (s8 b f) (a.length:Int) a.length) (vl (cut a (s8 b f) (a.length:Int)) λg=>cond (F8 (0+c.length)) (cond (F8 (c.length+1)) (cond (F8 ((j5 (c++[[(SV.int .i64 (A1 (d+e)))]]))+g.length)) (cond (ltI 256 (↑(j5 ((c++[[(SV.int .i64 (A1 (d+e)))]])++g)):Int)) (z i ((c++[[(SV.int .i64 (A1 (d+e)))]])++g)) (vl (A1 ((s8 b f)+1)) λv=>P2 L n w ((c++[[(SV.int .i64 (A1 (d+e)))]])++g) o (A1 (d+e)) v u i x z A)) none) none) none) none) none)) none) none) none) none) none)) (A m B)
theorem Af1(n s0 out1 at2 n3 i4 bias5 l6):D0 1 ((J4 L).keep 23) (bd (J4 L) Q Y (cd [1,1,1,1,1,1,1,1,1,1,1,0,0,0] Y3)) n ⟨gp [(0,pS s0),(5,.s (.sl false false 1 out1)),(1,pI at2),(0,pI n3),(0,pI i4),(0,pI bias5),(0,pB false)] 122,[.arr true 3 1 l6],s⟩ k =
 P2 L n s0 out1 at2 n3 i4 bias5 l6 (λn0 g=>k .ret ⟨gp [(2,.fl 1),(0,pI n0)] 131,[.arr true 3 1 g,.arr true 3 1 []],s⟩) (λv g=>k .ret ⟨gp [(2,.fl 2),(0,pI (3:Int))] 131,[.arr true 3 1 v,.arr false 3 1 g,.arr true 3 1 []],s⟩) (λj g=>k (.exit 4) ⟨gp [(6,.s (.sl false false 1 j))] 128,[.arr true 3 1 g],s⟩):=by
 induction n generalizing s0 out1 at2 n3 i4 bias5 l6 with
 | zero=>rfl
 | succ n u=>rw[P2];exact(a8 (by kernel_rfl) (A0 ((Af0 L Q Y s (E6 6 (E5 (J4 L) Q Y (cd [1,1,1,1,1,1,1,1,1,1,1,0,0,0,1,0,1,1] Y3) (E6 5 (lpK 1 ((J4 L).keep 23) (bd (J4 L) Q Y (cd [1,1,1,1,1,1,1,1,1,1,1,0,0,0] Y3)) n k)))) L s0 out1 at2 n3 i4 bias5 i4 1 0 l6).trans (congr (congr rfl (by kernel_rfl)) (fx7 λl o c a p m d=>(a8 (by kernel_rfl) (A4 λq=>(A0 (A0 (A0 (A4 λh=>(A4 λr=>(A0 (A4 λb=>(A4 λt=>(A0 (A0 rfl (A0 (A4 λe=>(A0 (A4 λf=>(A0 (A0 (A0 (A0 rfl (A4 λi=>(u l ((e++[[(SV.int .i64 (A1 (a+b)))]])++f) c (A1 (a+b)) i h d))) rfl) rfl) rfl)) rfl)) rfl)) rfl))) rfl))) rfl) rfl) rfl)))))) rfl))
noncomputable def V4{R:Type}(L n:Nat)(h:By)(a m j f:Int)(g:LL)(i:Int->LL->Option R)(l:By->Int->Int->LL->Option R):Option R:=match n with|0=>none|n+1=>cond (not (ltI a (h.length:Int))) (i 4 g) (cond (inR a h.length) (cond (inR (bAt h a) 256) (vl (E0 (u8n (bAt h a))) λb=>cond (ltI b 0) (i 4 g) (vl (A1 (m+(A1 (b*j)))) λc=>cond (ltI 1099511627776 c) (i 19 g) (cond (ltN f 10000000000) (cond (ltN 72 1000000) (vl (L1 (ab7 (36:Int) f) (72:Int)) λd=>cond (ltI b d) (l h (A1 (a+1)) c g) (vl (A1 ((36:Int)-d)) λe=>cond (ltI 1099511627776 (A1 (j*e))) (i 19 g) (V4 L n h (A1 (a+1)) c (A1 (j*e)) (A1 (f+1)) g i l))) none) none))) none) none)
theorem Af2(n c a b w3 kk4 l5):D0 1 ((J4 L).keep 27) (bd (J4 L) Q Y (cd [1,1,1,1,1,1,1,1,1,1,1,0,0,0,1,0,1,0,1,0,0] Y3)) n ⟨gp [(0,pS c),(5,.fl 0),(1,pI a),(0,pI (128:Int)),(0,pI b),(0,pI (72:Int)),(0,pB true),(0,pI (0:Int)),(0,pI w3),(0,pI kk4)] 119,[.arr true 3 1 l5],s⟩ k =
 V4 L n c a b w3 kk4 l5 (λn0 e=>k .ret ⟨gp [(2,.fl 1),(0,pI n0)] 131,[.arr true 3 1 e,.arr true 3 1 []],s⟩) (λc a b f=>k (.exit 6) ⟨gp [(0,pS c),(5,.fl 0),(1,pI a),(0,pI (128:Int)),(0,pI b),(1,pB true),(0,pI (0:Int))] 121,[.arr true 3 1 f],s⟩):=by
 induction n generalizing c a b w3 kk4 l5 with
 | zero=>rfl
 | succ n d=>rw[V4];simp only[<-d];kernel_rfl
noncomputable def K6{R:Type}(L n:Nat)(D:By)(m:Int)(C:LL)(A:Int->LL->Option R)(B:LL->LL->Option R)(F:LL->LL->Option R)(G:LL->Option R):Option R:=match n with|0=>none|n+1=>cond (ltI m (D.length:Int)) (V4 L L D m 0 1 0 C (λu o=>A u o) (λz l b a=>vl (A1 (b-0)) λi=>vl (A1 ((a.length:Int)+1)) λe=>cond (ltN i 1152921504606846976) (cond (ltN e 1000000) (cond (ltI 0 e) (vl (↑(Q3 (b9 i) (b9 e) true):Int) λv=>vl (A1 ((a.length:Int)+1)) λj=>cond (j !=0) (vl (A1 (x3 b j)) λw=>vl (A1 ((128:Int)+w)) λf=>vl (A1 ((a.length:Int)+1)) λc=>cond (c !=0) (cond (not (ptI f)) (A 2 a) (cond (I7 0 (s8 b c) a.length) (cond (I7 (s8 b c) (a.length:Int) a.length) (cond (F8 (0+(j5 (aa4 ((b9 (s8 b c))-0) (ab3 0 a))))) (cond (F8 ((j5 (aa4 ((b9 (s8 b c))-0) (ab3 0 a)))+1)) (vl ((aa4 ((b9 (s8 b c))-0) (ab3 0 a))++[[(SV.int .i64 f)]]) λh=>cond (F8 (h.length+(j5 (aa4 ((b9 (a.length:Int))-(b9 (s8 b c))) (ab3 (b9 (s8 b c)) a))))) (vl (h++(aa4 ((b9 (a.length:Int))-(b9 (s8 b c))) (ab3 (b9 (s8 b c)) a))) λd=>cond (ltI 256 (d.length:Int)) (B a d) (vl (A1 ((s8 b c)+1)) λx=>P2 L n z d l f x v a (λy p=>A y p) (λq r=>B q r) (λg t=>F g t))) none) none) none) none) none)) none) none) none) none) none)) (G C)
theorem CJ(n s0 at1 l2):D0 1 ((J4 L).keep 23) (bd (J4 L) Q Y (cd [1,1,1,1,1,1,1,1,1,1,1,0,0,0] Y3)) n ⟨gp [(0,pS s0),(5,.fl 0),(1,pI at1),(0,pI (128:Int)),(0,pI (0:Int)),(0,pI (72:Int)),(0,pB true)] 122,[.arr true 3 1 l2],s⟩ k =
 K6 L n s0 at1 l2 (λn0 d=>k .ret ⟨gp [(2,.fl 1),(0,pI n0)] 131,[.arr true 3 1 d,.arr true 3 1 []],s⟩) (λl d=>k .ret ⟨gp [(2,.fl 2),(0,pI (3:Int))] 131,[.arr true 3 1 l,.arr false 3 1 d,.arr true 3 1 []],s⟩) (λh d=>k (.exit 4) ⟨gp [(6,.s (.sl false false 1 h))] 128,[.arr true 3 1 d],s⟩) (λl=>k (.exit 4) ⟨gp [(6,.fl 0)] 128,[.arr true 3 1 l],s⟩):=by
 induction n generalizing s0 at1 l2 with
 | zero=>rfl
 | succ n A=>rw[K6];exact(a8 (by kernel_rfl) (A0 ((Af2 L Q Y s (E6 6 (E5 (J4 L) Q Y (cd [1,1,1,1,1,1,1,1,1,1,1,0,0,0,1,0,1,1] Y3) (E6 5 (lpK 1 ((J4 L).keep 23) (bd (J4 L) Q Y (cd [1,1,1,1,1,1,1,1,1,1,1,0,0,0] Y3)) n k)))) L s0 at1 0 1 0 l2).trans (congr (congr rfl (by kernel_rfl)) (fx4 λi a m b=>(a8 (by kernel_rfl) (A4 λu=>(A4 λv=>(A0 (A0 (A0 (A4 λe=>(A4 λw=>(A0 (A4 λx=>(A4 λf=>(A4 λy=>(A0 (A0 rfl (A0 (A0 (A0 (A0 (A4 λo=>(A0 (A4 λc=>(A0 rfl (A4 λg=>((Af1 L Q Y s k n i c a f g e b).trans (congr (congr (congr rfl (fx2 λz p=>rfl)) (fx2 λq r=>rfl)) (fx2 λj t=>rfl)))))) rfl)) rfl) rfl) rfl) rfl)) rfl)))) rfl))) rfl) rfl) rfl))))))) rfl))
noncomputable def Bk5{R:Type}(L:Nat)(A:By)(u:Int->LL->Option R)(v:Int->LL->Option R)(y:LL->LL->Option R)(z:LL->LL->Option R):Option R:=cond (ltI 1024 (A.length:Int)) (u 3 []) (Ec L L A 0 0 (λ_=>u 4 []) (λx e=>Ha L L x e 0 [] (λt a b=>cond (ltI 256 (b.length:Int)) (v 3 b) (cond (ltI 0 a) (vl (A1 (a+1)) λw=>K6 L L t w b (λq f=>v q f) (λg h=>y g h) (λc i=>z c i) (λj=>u 0 j)) (K6 L L t a b (λr l=>v r l) (λm n=>y m n) (λd o=>z d o) (λp=>u 0 p))))))
theorem Cf7(d:Nat)(s0):evC (J4 L) (d+1) Z Y 156 [pS s0] [] s=Bk5 L s0 (λf c=>some (.tup [.fl 0,pI f],[.arr true 3 1 c],s)) (λf c=>some (.tup [.fl 1,pI f],[.arr true 3 1 c,.arr true 3 1 []],s)) (λl c=>some (.tup [.fl 2,pI (3:Int)],[.arr true 3 1 l,.arr false 3 1 c,.arr true 3 1 []],s)) (λf c=>some (.tup [.s (.sl false false 1 f),pI (0:Int)],[.arr true 3 1 c],s)):=by refine(evE (fn:=ad0) (by kernel_rfl)).trans ?_;generalize evC (J4 L) d=Q;unfold Bk5;exact let j:=(E6 4 (E5 (J4 L) Q Y (cd [1,1,1,1,1,1,1,1,1,1,1,1] Y3) (F5 (J4 L) ad0)));(a8 (by kernel_rfl) (A0 rfl ((Ae8 L Q Y s (E6 0 (E5 (J4 L) Q Y (cd [1,1,1,1] Y3) (F5 (J4 L) ad0))) L s0 0 0).trans (congr (congr rfl (by kernel_rfl)) (fx2 λi a=>(a8 (by kernel_rfl) ((Ae9 L Q Y s (E6 2 (E5 (J4 L) Q Y (cd [1,1,1,1,1,1] Y3) (F5 (J4 L) ad0))) L i a 0 []).trans (congr rfl (fx3 λg b e=>(a8 (by kernel_rfl) (A0 rfl (A0 (A4 λh=>((CJ L Q Y s j L g h e).trans (by kernel_rfl))) ((CJ L Q Y s j L g b e).trans (by kernel_rfl))))))))))))))
noncomputable abbrev Z7:Code:=C6 ae3
noncomputable def O8(L:Nat):Cfg:=B6 L [119] (A3 [(17,[0,1,0,0,0,1,0,0,0]),(3,[0,1,0,0,0])]) [(148,Ua)] (A3 [(27,[2,0]),(26,[0,3,0]),(25,[0,3,0,1]),(24,[2,0]),(23,[0,3,0,1,0,77]),(18,[0,3,0,1,0,0,0]),(22,[0,3,0,1,0,0,0]),(21,[2,0]),(20,[0,3,0,1,0,0,0,0,61]),(19,[0,3,0,1,0,0,0,0]),(17,[0,3,0,1,0,0,0,48]),(16,[0,3,0,1,0,0,0]),(15,[2,0]),(14,[0,3,0,1,0,0,46]),(9,[0,3,0,1,0,0]),(11,[0,3,0,1,0,0]),(13,[0,3,0,1,0,0]),(6,[2,0]),(12,[0,3,0,0,35]),(10,[0,3,0,0,26]),(8,[0,3,0,0,17]),(7,[0,3,0,0,0,0,0,11]),(5,[0,3,0,0,0,0,0]),(4,[0,3,0,0]),(3,[0,3,0,9]),(2,[0,3,0]),(1,[0,3]),(0,[0])]) [148] (A3 [(0,[4]),(1,[0,3,0]),(3,[0,3,0,1,0,0]),(4,[0,3,0,1,0,0,0]),(2,[0,3,0,1,0,0])]) (some [2,0]) [] [] []
noncomputable def Wt{R:Type}(L n:Nat)(d:By)(a e:Int)(c:LL)(b:By->Int->Int->LL->Option R):Option R:=match n with|0=>none|n+1=>b d a e c
theorem A70(n c a d b):D0 1 ((O8 L).keep 17) (bd (O8 L) Q Y (cd [1,1,0,1,0,0,1,0,1,1,1,1,0,1,0,0] Z7)) n ⟨gp [(0,pS c),(3,.fl 0),(0,pI a),(1,pI (1:Int)),(0,pI d),(0,pI (0:Int)),(0,pI (1:Int))] 84,[.arr true 3 1 b],s⟩ k =
 Wt L n c a d b (λc a d b=>k (.exit 3) ⟨gp [(0,pS c),(3,.fl 0),(0,pI a),(1,pI (1:Int)),(0,pI d),(0,pI (0:Int))] 85,[.arr true 3 1 b],s⟩):=by
 induction n generalizing c a d b with
 | zero=>rfl
 | succ n e=>rw[Wt];kernel_rfl
noncomputable def Ws{R:Type}(L:Nat)(i:By)(g j:Int)(h:LL)(d:LL->Option R)(l:By->Int->LL->Option R):Option R:=vl (A1 ((i.length:Int)-g)) λe=>cond (ltI e 1) (d h) (Wt L L i g j h (λf c b a=>cond (ltI b 0) (d a) (cond (not (ptI b)) (d a) (cond (F8 (a.length+1)) (l f (A1 (c+1)) (a++[[(SV.int .i64 b)]])) none))))
abbrev AP(b:Code):Prop:=∀(k:Out->St Z->Option R) c a b2 b3 l4,A9 (O8 L) Q Y b ⟨gp [(0,pS c),(3,.fl 0),(0,pI a),(0,pI b2),(0,pI (1:Int)),(0,pI b2),(0,pI (0:Int)),(11,pB b3)] 73,[.arr true 3 1 l4],s⟩ k=Ws L c a b2 l4 (λd=>k .ret ⟨gp [(2,.fl 1),(0,pB false)] 91,[.arr true 3 1 d,.arr true 3 1 []],s⟩) (λc a e=>k .normal ⟨gp [(0,pS c),(3,.fl 0),(0,pI a)] 89,[.arr true 3 1 e],s⟩)
theorem A64:AP (R:=R) L Q Y s (cd [1,1,0,1,0,0,1,0,1,1,1] Z7):=by intro k e b a f c;unfold Ws;exact(a8 (by kernel_rfl) (A4 λd=>(A0 rfl ((A70 L Q Y s (E6 3 (E5 (O8 L) Q Y (cd [1,1,0,1,0,0,1,0,1,1,1,1,1] Z7) k)) L e b a c).trans (by kernel_rfl)))))
noncomputable def Me{R:Type}(h:By)(e c:Int)(i:Bool)(d:LL)(f:By->Int->Int->Int->Int->LL->Option R)(g:LL->Option R):Option R:=cond i (vl (A1 (c-224)) λa=>f h e 3 a 2048 d) (cond (not (ltI c 240)) (cond (ltI c 245) (vl (A1 (c-240)) λb=>f h e 4 b 65536 d) (g d)) (g d))
abbrev OW(b:Code):Prop:=∀(k:Out->St Z->Option R) d c b2 b3 l4,A9 (O8 L) Q Y b ⟨gp [(0,pS d),(3,.fl 0),(0,pI c),(0,pI b2),(26,pB b3)] 61,[.arr true 3 1 l4],s⟩ k=Me d c b2 b3 l4 (λd c g h a f=>k .normal ⟨gp [(0,pS d),(3,.fl 0),(0,pI c),(1,pI g),(0,pI h),(0,pI a)] 85,[.arr true 3 1 f],s⟩) (λe=>k .ret ⟨gp [(2,.fl 1),(0,pB false)] 91,[.arr true 3 1 e,.arr true 3 1 []],s⟩)
theorem A66:OW (R:=R) L Q Y s (cd [1,1,0,1,0,0,1,0,1,1,0,0,1,1,1,1,1] Z7):=by intro k e c a b d;unfold Me;kernel_rfl
noncomputable def Mg{R:Type}(v:By)(r c:Int)(x:Bool)(u:LL)(t:By->Int->Int->Int->Int->LL->Option R)(w:LL->Option R):Option R:=cond x (vl (A1 (c-192)) λj=>t v r 2 j 128 u) (cond (not (ltI c 224)) (Me v r c (ltI c 240) u (λn d l p a f=>t n d l p a f) (λg=>w g)) (Me v r c false u (λo e m q b h=>t o e m q b h) (λi=>w i)))
abbrev Qp(b:Code):Prop:=∀(k:Out->St Z->Option R) d c b2 b3 l4,A9 (O8 L) Q Y b ⟨gp [(0,pS d),(3,.fl 0),(0,pI c),(0,pI b2),(17,pB b3)] 70,[.arr true 3 1 l4],s⟩ k=Mg d c b2 b3 l4 (λd c g h a f=>k .normal ⟨gp [(0,pS d),(3,.fl 0),(0,pI c),(1,pI g),(0,pI h),(0,pI a)] 85,[.arr true 3 1 f],s⟩) (λe=>k .ret ⟨gp [(2,.fl 1),(0,pB false)] 91,[.arr true 3 1 e,.arr true 3 1 []],s⟩)
theorem A67(a:Code)(b:OW (R:=R) L Q Y s a):Qp (R:=R) L Q Y s (cd [1,1,0,1,0,0,1,0,1,1,0,0,1,1,1] (G3 [1,1,0,1,0,0,1,0,1,1,0,0,1,1,1,1,1] a Z7)):=by intro k g e c d f;unfold Mg;simp only[<-b k];kernel_rfl
theorem A68:Qp (R:=R) L Q Y s (cd [1,1,0,1,0,0,1,0,1,1,0,0,1,1,1] Z7):=by intro k e c a b d;exact a8 (by kernel_rfl) (A67 L Q Y s (cd [1,1,0,1,0,0,1,0,1,1,0,0,1,1,1,1,1] Z7) (A66 L Q Y s) k e c a b d)
noncomputable def Fi{R:Type}(L n:Nat)(h:By)(f j m a c:Int)(g:LL)(i:LL->Option R)(l:By->Int->Int->Int->Int->LL->Option R):Option R:=match n with|0=>none|n+1=>cond (ltI c j) (cond (inR (A1 (f+c)) h.length) (vl (bAt h (A1 (f+c))) λb=>cond (ltI (A1 b) (128:Int)) (i g) (cond (ltI 191 (A1 b)) (i g) (vl (A1 ((A1 (m*64))+(A1 b))) λd=>vl (A1 (d-128)) λe=>Fi L n h f j e a (A1 (c+1)) g i l))) none) (l h f j m a g)
theorem A72(n d b c e a kk5 l6):D0 1 ((O8 L).keep 17) (bd (O8 L) Q Y (cd [1,1,0,1,0,0,1,0,1,1,1,1,0,1,0,0] Z7)) n ⟨gp [(0,pS d),(3,.fl 0),(0,pI b),(1,pI c),(0,pI e),(0,pI a),(0,pI kk5)] 84,[.arr true 3 1 l6],s⟩ k =
 Fi L n d b c e a kk5 l6 (λg=>k .ret ⟨gp [(2,.fl 1),(0,pB false)] 91,[.arr true 3 1 g,.arr true 3 1 []],s⟩) (λd b c e a h=>k (.exit 3) ⟨gp [(0,pS d),(3,.fl 0),(0,pI b),(1,pI c),(0,pI e),(0,pI a)] 85,[.arr true 3 1 h],s⟩):=by
 induction n generalizing d b c e a kk5 l6 with
 | zero=>rfl
 | succ n f=>rw[Fi];simp only[<-f];kernel_rfl
noncomputable def Dr{R:Type}(L:Nat)(o:By)(l n q d:Int)(m:LL)(j:LL->Option R)(p:By->Int->LL->Option R):Option R:=vl (A1 ((o.length:Int)-l)) λg=>cond (ltI g n) (j m) (Fi L L o l n q d 1 m (λf=>j f) (λi e h c b a=>cond (ltI c b) (j a) (cond (not (ptI c)) (j a) (cond (F8 (a.length+1)) (p i (A1 (e+h)) (a++[[(SV.int .i64 c)]])) none))))
abbrev AQ(b:Code):Prop:=∀(k:Out->St Z->Option R) c a n2 v3 least4 l5,A9 (O8 L) Q Y b ⟨gp [(0,pS c),(3,.fl 0),(0,pI a),(1,pI n2),(0,pI v3),(0,pI least4)] 85,[.arr true 3 1 l5],s⟩ k=Dr L c a n2 v3 least4 l5 (λd=>k .ret ⟨gp [(2,.fl 1),(0,pB false)] 91,[.arr true 3 1 d,.arr true 3 1 []],s⟩) (λc a e=>k .normal ⟨gp [(0,pS c),(3,.fl 0),(0,pI a)] 89,[.arr true 3 1 e],s⟩)
theorem A69:AQ (R:=R) L Q Y s (cd [1,1,0,1,0,0,1,0,1,1,1] Z7):=by intro k f c e g a d;unfold Dr;exact(a8 (by kernel_rfl) (A4 λb=>(A0 rfl ((A72 L Q Y s (E6 3 (E5 (O8 L) Q Y (cd [1,1,0,1,0,0,1,0,1,1,1,1,1] Z7) k)) L f c e g a 1 d).trans (by kernel_rfl)))))
noncomputable def Z1{R:Type}(L n:Nat)(d:By)(c:Int)(D:LL)(e:LL->Option R)(C:LL->Option R):Option R:=match n with|0=>none|n+1=>cond (ltI c (d.length:Int)) (cond (inR c d.length) (cond (ltI (A1 (bAt d c)) (128:Int)) (Ws L d c (A1 (bAt d c)) D (λG=>e G) (λI F H=>Z1 L n I F H e C)) (cond (not (ltI (A1 (bAt d c)) (194:Int))) (Mg d c (A1 (bAt d c)) (ltI (A1 (bAt d c)) (224:Int)) D (λw f u A a j=>Dr L w f u A a j (λm=>e m) (λx g o=>Z1 L n x g o e C)) (λl=>e l)) (Mg d c (A1 (bAt d c)) false D (λy h v B b p=>Dr L y h v B b p (λr=>e r) (λz i t=>Z1 L n z i t e C)) (λq=>e q)))) none) (C D)
theorem A73(a:Code)(e:AP (R:=R) L Q Y s a)(d:AQ (R:=R) L Q Y s a)(b:Code)(c:Qp (R:=R) L Q Y s b)(n:Nat)(i:By)(h:Int)(j:LL):D0 1 ((O8 L).keep 3) (bd (O8 L) Q Y (cd [1,1,0,1,0,0] (G3 [1,1,0,1,0,0,1,0,1,1,0,0,1,1,1] b (G3 [1,1,0,1,0,0,1,0,1,1,1] a Z7)))) n ⟨gp [(0,pS i),(3,.fl 0),(0,pI h)] 89,[.arr true 3 1 j],s⟩ k =
 Z1 L n i h j (λI=>k .ret ⟨gp [(2,.fl 1),(0,pB false)] 91,[.arr true 3 1 I,.arr true 3 1 []],s⟩) (λI=>k (.exit 0) ⟨gp [(4,.fl 0)] 90,[.arr true 3 1 I],s⟩):=by
 induction n generalizing i h j with
 | zero=>rfl
 | succ n G=>rw[Z1];exact let D:=(E6 1 (lpK 1 ((O8 L).keep 3) (bd (O8 L) Q Y (cd [1,1,0,1,0,0] (G3 [1,1,0,1,0,0,1,0,1,1,0,0,1,1,1] b (G3 [1,1,0,1,0,0,1,0,1,1,1] a Z7)))) n k));let K:=(E6 2 (E5 (O8 L) Q Y a D));(a8 (by kernel_rfl) (A0 (A0 (A0 ((e D i h (A1 (bAt i h)) (ltI (A1 (bAt i h)) (128:Int)) j).trans (congr (congr rfl (by kernel_rfl)) (fx3 λJ F H=>(a8 (by kernel_rfl) (G J F H))))) (A0 ((c K i h (A1 (bAt i h)) (ltI (A1 (bAt i h)) (224:Int)) j).trans (congr (congr rfl (fx6 λx l v B f q=>(a8 (by kernel_rfl) ((d D x l v B f q).trans (congr (congr rfl (by kernel_rfl)) (fx3 λy m r=>(a8 (by kernel_rfl) (G y m r)))))))) (by kernel_rfl))) ((c K i h (A1 (bAt i h)) false j).trans (congr (congr rfl (fx6 λz o w C g t=>(a8 (by kernel_rfl) ((d D z o w C g t).trans (congr (congr rfl (by kernel_rfl)) (fx3 λA p u=>(a8 (by kernel_rfl) (G A p u)))))))) (by kernel_rfl))))) rfl) rfl))
noncomputable def Cz5{R:Type}(L:Nat)(e:By)(c:LL->Option R)(d:LL->Option R):Option R:=Z1 L L e 0 [] (λa=>c a) (λb=>d b)
theorem Cz6(b:Code)(c:AP (R:=PV × List Blk × Z) L Q Y s b)(e:AQ (R:=PV × List Blk × Z) L Q Y s b)(a:Code)(d:Qp (R:=PV × List Blk × Z) L Q Y s a)(g:By):A9 (O8 L) Q Y (cd [] (G3 [1,1,0,1,0,0,1,0,1,1,0,0,1,1,1] a (G3 [1,1,0,1,0,0,1,0,1,1,1] b Z7))) ⟨[pS g]++tps 94,[],s⟩ (F5 (O8 L) ae3)=Cz5 L g (λf=>some (.tup [.fl 1,pB false],[.arr true 3 1 f,.arr true 3 1 []],s)) (λf=>some (.tup [.fl 0,pB true],[.arr true 3 1 f],s)):=by unfold Cz5;exact(a8 (by kernel_rfl) ((A73 L Q Y s (E6 0 (E5 (O8 L) Q Y (cd [1,1,1] Z7) (F5 (O8 L) ae3))) b c e a d L g 0 []).trans (by kernel_rfl)))
theorem Cz7(d:Nat)(s0):evC (O8 L) (d+1) Z Y 119 [pS s0] [] s=Cz5 L s0 (λa=>some (.tup [.fl 1,pB false],[.arr true 3 1 a,.arr true 3 1 []],s)) (λa=>some (.tup [.fl 0,pB true],[.arr true 3 1 a],s)):=
 (evE (fn:=ae3) (by kernel_rfl)).trans (a8 (by kernel_rfl) (Cz6 L (evC (O8 L) d) Y s (cd [1,1,0,1,0,0,1,0,1,1,1] Z7) (A64 L (evC (O8 L) d) Y s) (A69 L (evC (O8 L) d) Y s) (cd [1,1,0,1,0,0,1,0,1,1,0,0,1,1,1] Z7) (A68 L (evC (O8 L) d) Y s) s0))
noncomputable abbrev Bg3:Code:=C6 af8
noncomputable def Li(L:Nat):Cfg:=B6 L [127] (A3 [(6,[0,1,0,1,0])]) [(156,Be6),(120,An7)] (A3 [(12,[2]),(11,[0,4,1,0]),(7,[0,2,1,0]),(10,[2]),(9,[0,2,1,0,34]),(8,[0,2,1,0]),(6,[0,2,1,0,12]),(5,[0,2,1,0]),(4,[0,2,1]),(3,[2]),(2,[0,2,11]),(1,[0,2,0]),(0,[0])]) [120] (A3 [(0,[0,2,1]),(1,[0,2,1,0])]) (some [2]) [] [] []
noncomputable def X9{R:Type}(L n:Nat)(a:By)(d:Bool)(b:LL)(e:Bool)(c:Int)(f:Unit->Option R)(g:By->Bool->LL->Bool->Option R):Option R:=match n with|0=>none|n+1=>cond (ltI c (b.length:Int)) (cond e (cond (inR c b.length) (cond (okE Kr b (b9 c) 0) (cond (not (ltI (gE b (b9 c) 0) (65:Int))) (cond (inR c b.length) (cond (okE Kr b (b9 c) 0) (cond (not (ltI 90 (gE b (b9 c) 0))) (f ()) (X9 L n a d b true (A1 (c+1)) f g)) none) none) (X9 L n a d b true (A1 (c+1)) f g)) none) none) (cond (inR c b.length) (cond (okE Kr b (b9 c) 0) (cond (inR c b.length) (cond (okE Kr b (b9 c) 0) (cond (not (ltI (gE b (b9 c) 0) (65:Int))) (cond (inR c b.length) (cond (okE Kr b (b9 c) 0) (cond (not (ltI 90 (gE b (b9 c) 0))) (f ()) (X9 L n a d b (not (ltI (gE b (b9 c) 0) (128:Int))) (A1 (c+1)) f g)) none) none) (X9 L n a d b (not (ltI (gE b (b9 c) 0) (128:Int))) (A1 (c+1)) f g)) none) none) none) none)) (g a d b e)
theorem Af5(n c b d a i4):D0 0 ((Li L).keep 6) (bd (Li L) Q Y (cd [1,1,1,1,0,1,0,0] Bg3)) n ⟨gp [(0,pS c),(2,.s (.sl b b 1 d)),(1,pB a),(0,pI i4)] 50,[],s⟩ k =
 X9 L n c b d a i4 (λ_=>k .ret ⟨gp [(2,pB false)] 54,[],s⟩) (λc b d a=>k (.exit 0) ⟨gp [(0,pS c),(2,.s (.sl b b 1 d)),(1,pB a)] 51,[],s⟩):=by
 induction n generalizing c b d a i4 with
 | zero=>rfl
 | succ n e=>rw[X9];simp only[<-e];kernel_rfl
noncomputable def Bk7{R:Type}(L:Nat)(a:By)(e:Bool->Option R):Option R:=cond (A2 a.length) (vl (↑((N5 a)).2:Int) λf=>cond (f !=0) (e false) (X9 L L a (ag1 ((N5 a)).1) (Lw ((N5 a)).1) false 0 (λ_=>e false) (λc h d b=>cond (ac0 d Nf) (vl ((W4 (aa1 elI d))).1 λi=>vl (↑((W4 (aa1 elI d))).2:Int) λg=>cond (g==0) (cond (i==c) (e b) (e false)) (e false)) none))) none
theorem Cg0(d:Nat)(rest0):evC (Li L) (d+1) Z Y 127 [pS rest0] [] s=Bk7 L rest0 (λb=>some (pB b,[],s)):=by refine(evE (fn:=af8) (by kernel_rfl)).trans ?_;generalize evC (Li L) d=Q;unfold Bk7;exact(a8 (by kernel_rfl) (A0 (A4 λa=>(A0 rfl ((Af5 L Q Y s (E6 0 (E5 (Li L) Q Y (cd [1,1,1,1,1] Bg3) (F5 (Li L) af8))) L rest0 (ag1 ((N5 rest0)).1) (Lw ((N5 rest0)).1) false 0).trans (by kernel_rfl)))) rfl))
noncomputable abbrev Bg1:Code:=C6 ag5
noncomputable def Lg(L:Nat):Cfg:=B6 L [94] (A3 [(4,[0,1,0])]) [(127,Be8)] (A3 [(9,[2]),(5,[0,2]),(8,[2]),(7,[0,2,52]),(6,[0,2,0]),(4,[0,2,24]),(3,[0,2]),(2,[2]),(1,[0,23]),(0,[0])]) [127] (A3 [(0,[0]),(1,[0,2])]) (some [2]) [] [] []
noncomputable def O2{R:Type}(L n:Nat)(a:By)(b:Int)(c:Unit->Option R)(d:By->Option R):Option R:=match n with|0=>none|n+1=>cond (ltI b (a.length:Int)) (cond (inR b a.length) (cond (not (ltI (bAt a b) (97:Int))) (cond (not (ltI 122 (bAt a b))) (O2 L n a (A1 (b+1)) c d) (cond (not (ltI (bAt a b) (48:Int))) (cond (not (ltI 57 (bAt a b))) (O2 L n a (A1 (b+1)) c d) (cond ((bAt a b)==45) (O2 L n a (A1 (b+1)) c d) (cond (not ((bAt a b)==95)) (c ()) (O2 L n a (A1 (b+1)) c d)))) (cond ((bAt a b)==45) (O2 L n a (A1 (b+1)) c d) (cond (not ((bAt a b)==95)) (c ()) (O2 L n a (A1 (b+1)) c d))))) (cond (not (ltI (bAt a b) (48:Int))) (cond (not (ltI 57 (bAt a b))) (O2 L n a (A1 (b+1)) c d) (cond ((bAt a b)==45) (O2 L n a (A1 (b+1)) c d) (cond (not ((bAt a b)==95)) (c ()) (O2 L n a (A1 (b+1)) c d)))) (cond ((bAt a b)==45) (O2 L n a (A1 (b+1)) c d) (cond (not ((bAt a b)==95)) (c ()) (O2 L n a (A1 (b+1)) c d))))) none) (d a)
theorem Ae4(n a i1):D0 0 ((Lg L).keep 4) (bd (Lg L) Q Y (cd [1,1,0,1,0,0] Bg1)) n ⟨gp [(0,pS a),(2,pI i1)] 66,[],s⟩ k =
 O2 L n a i1 (λ_=>k .ret ⟨gp [(2,pB false)] 67,[],s⟩) (λa=>k (.exit 0) ⟨gp [(0,pS a)] 69,[],s⟩):=by
 induction n generalizing a i1 with
 | zero=>rfl
 | succ n b=>rw[O2];simp only[<-b];kernel_rfl
noncomputable def Bk3{R:Type}(L:Nat)(c:By)(b:Bool->Option R):Option R:=cond (c==[]) (b false) (cond (ltI 63 (c.length:Int)) (b false) (cond (inR 0 c.length) (cond ((bAt c (0:Int))==45) (b false) (vl (A1 ((c.length:Int)-1)) λd=>cond (inR d c.length) (cond ((bAt c d)==45) (b false) (O2 L L c 0 (λ_=>b false) (λa=>cond (ltI (a.length:Int) (4:Int)) (b true) (cond (I7 0 (4:Int) a.length) (vl (cut a 0 (4:Int)) λf=>cond (not (f==[120,110,45,45])) (b true) (cond (I7 4 (a.length:Int) a.length) (vl (cut a 4 (a.length:Int)) λe=>cond (A2 e.length) (b (Dp e)) none) none)) none)))) none)) none))
theorem Cf4(d:Nat)(s0):evC (Lg L) (d+1) Z Y 94 [pS s0] [] s=Bk3 L s0 (λb=>some (pB b,[],s)):=by refine(evE (fn:=ag5) (by kernel_rfl)).trans ?_;generalize evC (Lg L) d=Q;unfold Bk3;exact(a8 (by kernel_rfl) (A0 rfl (A0 rfl (A0 (A0 rfl (A4 λa=>(A0 (A0 rfl ((Ae4 L Q Y s (E6 0 (E5 (Lg L) Q Y (cd [1,1,1] Bg1) (F5 (Lg L) ag5))) L s0 0).trans (by kernel_rfl))) rfl))) rfl))))
noncomputable def TH(L:Nat):Cfg:=B6 L [89] (A3 []) [(119,B38),(17,An9),(120,An7),(94,Be5)] (A3 [(15,[2,0]),(14,[2,0]),(13,[6,37]),(12,[6]),(11,[2,0]),(10,[9,29]),(9,[9,0]),(8,[7]),(7,[6,20]),(6,[0,3,1]),(5,[2,0]),(4,[0,3,15]),(3,[2,0]),(2,[0,3,12]),(1,[0,3,0]),(0,[0])]) [17,120,94] (A3 []) (some [2,0]) [] [] []
noncomputable def Bk2{R:Type}(L:Nat)(a:By)(b:By->Int->Option R):Option R:=cond (A2 a.length) (cond (not (aa8 (Ck a))) (b ([]:List UInt8) 4) (cond (ltI 256 (↑(j5 (Lw (Qw a))):Int)) (b ([]:List UInt8) 3) (cond (A2 a.length) (cond (ltI (↑(j5 (Lw (Qw a))):Int) (a.length:Int)) (cond (A2 (j5 (B3 a))) (cond (ac0 (Lw (Qw (B3 a))) Nf) (vl ((W4 (aa1 elI (Lw (Qw (B3 a)))))).1 λd=>vl (↑((W4 (aa1 elI (Lw (Qw (B3 a)))))).2:Int) λe=>cond (e !=0) (b ([]:List UInt8) 14) (cond (J7 4 d.length) (vl (([120,110,45,45]:List UInt8)++d) λc=>cond (A2 c.length) (cond (not (J6 c)) (b ([]:List UInt8) 14) (b c 0)) none) none)) none) none) (cond (A2 (j5 (B3 a))) (cond (not (J6 (B3 a))) (b ([]:List UInt8) 14) (b (B3 a) 0)) none)) none))) none
theorem Cf3(d:Nat)(s0):evC (TH L) (d+1) Z Y 89 [pS s0] [] s=Bk2 L s0 (λa b=>some (.tup [pS a,pI b],[],s)):=by refine(evE (fn:=Tryz.f89) (by kernel_rfl)).trans ?_;generalize evC (TH L) d=Q;unfold Bk2;kernel_rfl
end
theorem Af4{R:Type}{a:Bool->Option R}(n:Int):VW LF n a=a (ptI n):=by
 unfold VW;by_cases h:n<0
 ·rw[B5 h];have:ptI n=false:=by
   cases n with
   | ofNat m=>exact absurd h (by simp)
   | negSucc m=>rfl
  grind
 ·obtain⟨m,rfl⟩:=x5 (show 0<=n by omega);rw[A6,Lz];unfold V0;by_cases b:1114111<m
  ·rw[A8];have:w8 m 1114111=false:=by rw[j8,ne_eq,p4];omega
   grind
  ·rw[A6];have:w8 m 1114111=true:=by rw[p4];omega
   rw[this];by_cases c:m<55296
   ·rw[A8];have:Nat.blt m 55296=true:=by rw[ad5];omega
    grind
   ·rw[A6];have e:Nat.blt m 55296=false:=by rw[j8,ne_eq,ad5];omega
    rw[e];simp only[j0,cond_true,cond_false,ad2,y5]
    congr 1
theorem Ad3{R:Type}{k0:Int->Int->Option R}:∀(d n k:Nat),d<2305843009213693952->d<n->k+d<=4611686018427387904->
  ∃a b,a<=455/\b<=k+d/\Yr d k=b+36*a / (a+38)/\Fz LF n (d:Int) (k:Int) k0=k0 (a:Int) (b:Int):=by
 intro d
 induction d using ac4 with
 | _ d l=>
  intro n k p r q;obtain⟨n,rfl⟩:∃m,n=m+1:=⟨n-1,by omega⟩
  rw[Fz];by_cases h:455<d
  ·obtain⟨a,b,g,o,i,j⟩:=l (d / 35) (by omega) n (k+36) (by omega) (by omega) (by omega);refine⟨a,b,g,by omega,by rw[GK h];exact i,?_⟩;have e:x3 (d:Int) 35=((d / 35:Nat):Int):=M8 d 35;have c:A1 ((d / 35:Nat):Int)=((d / 35:Nat):Int):=A7;have f:A1 ((k:Int)+36)=((k+36:Nat):Int):=by rw[A7];rfl
   rw[A8];simp only[cond_true,vl,e,c,f];exact j
  ·refine⟨d,k,by omega,by omega,Rw h,?_⟩;rw[A6];rfl
theorem Ad4{R:Type}{k0:Int->Option R}(d c:Int)(f:Bool)(z:ltN d 1152921504606846976=true)(A:ltN c 1000000=true)(B:ltI 0 c=true):JN LF d c f k0=k0 (Q3 d.toNat c.toNat f:Nat):=by
 obtain⟨k,F⟩:=E2.1 z;obtain⟨j,D⟩:=E2.1 A;obtain⟨d,rfl⟩:=x5 k;obtain⟨c,rfl⟩:=x5 j;have J:=Lu.1 B;have C:=C4;have key:∀x:Nat,x<1152921504606846976->Fy LF (x:Int) (c:Int) k0=k0 ((Yr (x+x / c) 0:Nat):Int):=by
  intro x L;have G:x / c<=x:=y8 _ _;unfold Fy;have g:x3 (x:Int) (c:Int)=((x / c:Nat):Int):=M8 x c;generalize x / c=q at *;have h:A1 (q:Int)=(q:Int):=A7;have o:A1 ((x:Int)+(q:Int))=((x+q:Nat):Int):=by rw[A7];rfl
  rw[show((c:Int)!=0)=true by simp;omega];simp only[cond_true,vl,g,h,o];obtain⟨a,n,H,I,w,y⟩:=Ad3 (R:=R) (k0:=λb l=>vl (A1 ((36)*b)) λm=>vl (A1 (b+(38))) λe=>cond (e !=(0)) (vl (A1 (x3 m e)) λi=>k0 (A1 (l+i))) none) (x+q) LF 0 (by omega) (by omega) (by omega);refine a8 y ?_;have K:36*a / (a+38)<=36*a:=y8 _ _;have p:A1 (36*(a:Int))=((36*a:Nat):Int):=by rw[A7];rfl
  have r:A1 ((a:Int)+38)=((a+38:Nat):Int):=by rw[A7];rfl
  have t:x3 ((36*a:Nat):Int) ((a+38:Nat):Int)=((36*a / (a+38):Nat):Int):=M8 _ _;have u:A1 ((36*a / (a+38):Nat):Int)=((36*a / (a+38):Nat):Int):=A7;have v:A1 ((n:Int)+((36*a / (a+38):Nat):Int))=((n+36*a / (a+38):Nat):Int):=by rw[A7];rfl
  simp only[vl,p,r,t,u,v];rw[show(((a+38:Nat):Int)!=0)=true by simp;omega,w];rfl
 unfold JN Q3;rw[b8,b8];cases f with
 | true=>
  have g:x3 (d:Int) 700=((d / 700:Nat):Int):=M8 d 700;have h:A1 ((d / 700:Nat):Int)=((d / 700:Nat):Int):=A7;simp only[cond_true,vl,g,h,if_true];exact key _ (by omega)
 | false=>
  have g:x3 (d:Int) 2=((d / 2:Nat):Int):=M8 d 2;have h:A1 ((d / 2:Nat):Int)=((d / 2:Nat):Int):=A7;simp only[cond_false,vl,g,h,ad3,if_false];exact key _ (by omega)
theorem A12{R:Type}{b:Int->Option R}(d:Int)(c:ltN d 36=true):Bk0 LF d b=b ((Ai d.toNat).toNat:Nat):=by
 obtain⟨a,e⟩:=E2.1 c;obtain⟨d,rfl⟩:=x5 a;unfold Bk0;rw[b8,NB (by omega)];by_cases h:d<26
 ·rw[A8,if_pos h];simp only[cond_true,vl]
  congr 1
  rw[A7,M3];rfl
 ·rw[A6,if_neg h];simp only[cond_false,vl]
  congr 1
  rw[C7 (n:=48+(d:Int)) (by omega) (by omega),A7,M3];omega
theorem Bx7{R:Type}{g:Int->Option R}(b:Int)(h:inR b 256=true):Ch1 LF b g=g (E0 (u8n b)):=by
 simp only[inR,p7,decide_eq_true_eq] at h;have j:b=((u8n b).toNat:Int):=by
  unfold u8n;simp;omega
 generalize u8n b=c at *;subst j;have i:=c.toNat_lt;unfold Ch1 E0;simp only[Wx,Ww,vl];rcases DE c with⟨d,f,e⟩|⟨d,f,e⟩|⟨d,f,e⟩|⟨d,f,o,e⟩
 ·have a:A1 (wu8 ((c.toNat:Int)-97))=((c.toNat-97:Nat):Int):=by
   rw[M3,A7];omega
  simp (disch:=omega) only[B5,E3,c9,j0,cond_false,cond_true,a,e]
 ·have a:A1 (wu8 ((c.toNat:Int)-65))=((c.toNat-65:Nat):Int):=by
   rw[M3,A7];omega
  simp (disch:=omega) only[B5,E3,c9,j0,cond_false,cond_true,a,e]
 ·have a:A1 (A1 (wu8 ((c.toNat:Int)-48))+26)=((c.toNat-22:Nat):Int):=by
   rw[M3,C7 (n:=(c.toNat:Int)-48) (by omega) (by omega),A7];omega
  simp (disch:=omega) only[B5,E3,c9,j0,cond_false,cond_true,a,e]
 ·rw[e];by_cases k:c.toNat<48
  ·simp (disch:=omega) only[B5,E3,c9,j0,cond_false,cond_true]
  ·by_cases l:c.toNat<65
   ·simp (disch:=omega) only[B5,E3,c9,j0,cond_false,cond_true]
   ·by_cases m:c.toNat<97
    ·simp (disch:=omega) only[B5,E3,c9,j0,cond_false,cond_true]
    ·simp (disch:=omega) only[B5,E3,c9,j0,cond_false,cond_true]
theorem Bx0{R:Type}{a:Int->Option R}(k b:Int)(c:ltN k 10000000000=true)(d:ltN b 1000000=true):Cz9 LF k b a=a (L1 (ab7 36 k) b):=by obtain⟨j,l⟩:=E2.1 c;obtain⟨e,f⟩:=E2.1 d;unfold Cz9 L1;have g:A1 (k+1)=k+1:=A7;have h:A1 ((36:Int)*(k+1))=36*(k+1):=A7;have i:A1 (36*(k+1)-b)=36*(k+1)-b:=A7;grind
theorem Ce5(z t:Bool)(c:LL)(done a u delta i:Int)(b:Nat)(T:b<1000000):∀(r q k n:Nat) (l:LL),q<10 ^ r->q<1152921504606846976->k+r<=1000->r<n->l.length+r<=200000->
  ∃(d:Nat) (pre:By),d<36/\P4 q k b=pre++[Ai d]/\∀(R:Type) (g:Bool->Bool->LL->Int->Int->Int->Int->Int->Int->LL->Option R),Fd LF n z t c done a u delta (b:Int) i (q:Int) (k:Int) l g=g z t c done a u delta i (d:Int) (l++pre.map D9):=by
 have f:∀k:Nat,L1 (ab7 36 (k:Int)) (b:Int)=(thr k b:Int):=λk=>by
  rw[show ab7 36 (k:Int)=((36*k:Nat):Int) from rfl,Xh]
 have j:∀(q k n:Nat) (l:LL),q<thr k b->k<=1000->∃(d:Nat) (pre:By),d<36/\P4 q k b=pre++[Ai d]/\∀(R:Type) (g:Bool->Bool->LL->Int->Int->Int->Int->Int->Int->LL->Option R),Fd LF (n+1) z t c done a u delta (b:Int) i (q:Int) (k:Int) l g=g z t c done a u delta i (d:Int) (l++pre.map D9):=by
  intro q k n l p v;have x:=V8 k b;refine⟨q,[],by omega,by rw[Pz p];rfl,λR g=>?_⟩;rw[Fd];have o:ltI (q:Int) (thr k b:Int)=true:=A8;rw[N9,N9,f];grind
 intro r
 induction r with
 | zero=>
  intro q k n l h _ v P N;have x:=V8 k b;obtain⟨n,rfl⟩:∃m,n=m+1:=⟨n-1,by omega⟩
  exact j q k n l (by simp at h;omega) (by omega)
 | succ r Q=>
  intro q k n l h w v P N;have x:=V8 k b;obtain⟨n,rfl⟩:∃m,n=m+1:=⟨n-1,by omega⟩
  by_cases p:q<thr k b
  ·exact j q k n l p (by omega)
  ·have L:(q-thr k b) / (36-thr k b)<10 ^ r:=TR (by omega) (by rw[Nat.pow_succ] at h;omega);have M:(q-thr k b) / (36-thr k b)<=q:=x7 (y8 _ _) (by omega);have O:(q-thr k b) % (36-thr k b)<36-thr k b:=af3 _ (by omega);obtain⟨d,pre,e0,K,e⟩:=Q ((q-thr k b) / (36-thr k b)) (k+1) n (l++[D9 (Ai (thr k b+(q-thr k b) % (36-thr k b)))]) L (by omega) (by omega) (by omega) (by rw[j2,s9];omega);refine⟨d,Ai (thr k b+(q-thr k b) % (36-thr k b))::pre,e0,by rw[Zk p,K];rfl,λR g=>?_⟩;rw[Fd];have y:A1 ((q:Int)-(thr k b:Int))=((q-thr k b:Nat):Int):=by rw[A7];omega
   have C:A1 ((36:Int)-(thr k b:Int))=((36-thr k b:Nat):Int):=by rw[A7];omega
   have D:s8 ((q-thr k b:Nat):Int) ((36-thr k b:Nat):Int)=(((q-thr k b) % (36-thr k b):Nat):Int):=Ho _ _;have F:x3 ((q-thr k b:Nat):Int) ((36-thr k b:Nat):Int)=(((q-thr k b) / (36-thr k b):Nat):Int):=M8 _ _;have I:((((36-thr k b:Nat):Int))!=0)=true:=by rw[bne_iff_ne];omega
   have J:A1 ((k:Int)+1)=((k+1:Nat):Int):=by rw[A7];rfl
   have o:ltI (q:Int) (thr k b:Int)=false:=A6;rw[N9,N9,f];simp only[vl,o,y,C,D,F,I,J,cond_true,cond_false,j0];generalize hA:(q-thr k b) / (36-thr k b)=A at *;generalize S:(q-thr k b) % (36-thr k b)=B at *;have G:A1 ((thr k b:Int)+(B:Int))=((thr k b+B:Nat):Int):=by rw[A7];rfl
   have H:A1 (A:Int)=(A:Int):=A7;rw[G,H,N9,F3 (by omega),b8];refine a8 (e R g) ?_;simp[w6,D9]
theorem Cy6(z t:Bool)(c:List Nat)(a m:Nat)(Z:m<=1114112)(Y:c.length<=256):∀(r i n:Nat) (s:PN),i+r=c.length->r<n->s.delta+r<=1000000000000->s.bias<=500->s.out.length+20*r<=90000->s.done+r<=1000->a<=256->
  (∀(R:Type) (d:Bool->Bool->LL->Int->Int->Int->Int->Int->LL->Option R),An LF n z t (B4 c) (s.done:Int) (a:Int) (m:Int) (s.delta:Int) (s.bias:Int) (i:Int) (s.out.map D9) d =
   d z t (B4 c) ((H5 m a (c.drop i) s).done:Int) (a:Int) (m:Int) ((H5 m a (c.drop i) s).delta:Int) ((H5 m a (c.drop i) s).bias:Int) ((H5 m a (c.drop i) s).out.map D9))/\
  (H5 m a (c.drop i) s).bias<=500/\(H5 m a (c.drop i) s).out.length<=s.out.length+20*(c.drop i).countP (· == m)/\(H5 m a (c.drop i) s).done=s.done+(c.drop i).countP (· == m)/\
  (H5 m a (c.drop i) s).delta<=(if 0<(c.drop i).countP (· == m) then r else s.delta+r):=by
 have S:=C4;intro r
 induction r with
 | zero=>
  intro i n s T U O B P Q C;obtain⟨n,rfl⟩:∃m,n=m+1:=⟨n-1,by omega⟩
  rw[j1 (by omega)];refine⟨λR d=>?_,B,by simp[H5],by simp[H5],by simp[H5]⟩;rw[An];rw[C9,A6];rfl
 | succ r H=>
  intro i n s T U O B P Q C;obtain⟨n,rfl⟩:∃m,n=m+1:=⟨n-1,by omega⟩
  rw[Uq c i (by omega)];have F:=Zp c i (by omega);have ok:=Qf (l:=c) (i:=i) (by omega);have e:inR (i:Int) (B4 c).length=true:=L9 (by omega) (by rw[C9];omega);have f:ltI (i:Int) ((B4 c).length:Int)=true:=B5 (by rw[C9];omega);generalize c.getD i 0=p at *;have A:A1 ((i:Int)+1)=((i+1:Nat):Int):=by rw[A7];rfl
  have M:A1 ((s.delta:Int)+1)=((s.delta+1:Nat):Int):=by rw[A7];rfl
  have I:A1 ((s.done:Int)+1)=((s.done+1:Nat):Int):=by rw[A7];rfl
  by_cases G:p<m
  ·have g:(p==m)=false:=by rw[beq_eq_false_iff_ne];omega
   have u:H5 m a (p::c.drop (i+1)) s=H5 m a (c.drop (i+1)) { s with delta:=s.delta+1 }:=by rw[H5,if_pos G]
   obtain⟨v,w,x,y,h⟩:=H (i+1) n { s with delta:=s.delta+1 } (by omega) (by omega) (by simp only;omega) B (by simp only;omega) (by simp only;omega) C;rw[u,ac1 (by rw[g];simp)];refine⟨λR d=>?_,w,x,y,?_⟩
   ·rw[An];rw[b8];simp only[e,f,ok,cond_true,vl,F,A,M];rw[A8,cond_true,show((p:Int)!=(m:Int))=true by rw[bne_iff_ne];omega,cond_true];exact v R d
   ·simp only at h;split at h<;>split<;>omega
  ·by_cases L:p=m
   ·subst L;have K:=NE (q:=s.delta) (k:=0) (b:=s.bias) (by omega);have D:=Nx s.delta (s.done+1) (s.done==a) (by omega);have u:H5 p a (p::c.drop (i+1)) s=H5 p a (c.drop (i+1)) { delta:=0,bias:=Q3 s.delta (s.done+1) (s.done==a),done:=s.done+1,out:=s.out++P4 s.delta 0 s.bias }:=by rw[H5,if_neg G,if_pos rfl]
    obtain⟨v,w,x,y,h⟩:=H (i+1) n { delta:=0,bias:=Q3 s.delta (s.done+1) (s.done==a),done:=s.done+1,out:=s.out++P4 s.delta 0 s.bias } (by omega) (by omega) (by simp only;omega) D (by simp only[j2];omega) (by simp only;omega) C;obtain⟨W,pre,X,J,N⟩:=Ce5 z t (B4 c) (s.done:Int) (a:Int) (p:Int) (s.delta:Int) (i:Int) s.bias (by omega) 19 s.delta 0 LF (s.out.map D9) (by omega) (by omega) (by omega) (by omega) (by rw[p6];omega);rw[u,List.countP_cons_of_pos (by simp)];refine⟨λR d=>?_,w,?_,?_,?_⟩
    ·rw[An];have j:((s.done:Int)==(a:Int))=(s.done==a):=by
      rw[ac3,beq_iff_eq,beq_iff_eq];omega
     rw[b8];simp only[e,f,ok,cond_true,vl,F,A,I];rw[A6,cond_false,bne_self_eq_false,cond_false];refine a8 (N R _) ?_;have V:pre.length+1=(P4 s.delta 0 s.bias).length:=by rw[J];simp
     rw[N9,b8,F3 (by rw[j2,p6,p6];omega)];simp only[vl,cond_true,A,I];rw[N9,N9,A8,j];simp only[cond_true,b8];have o:s.out.map D9++pre.map D9++[[SV.int .u8 (((Ai W).toNat:Nat):Int)]]=(s.out++P4 s.delta 0 s.bias).map D9:=by
      rw[J,ab1,ab1,w6];rfl
     rw[o];exact v R d
    ·simp only[j2] at x;omega
    ·simp only at y;omega
    ·simp only at h;rw[P9];split at h<;>omega
   ·have g:(p==m)=false:=by rw[beq_eq_false_iff_ne];omega
    have u:H5 m a (p::c.drop (i+1)) s=H5 m a (c.drop (i+1)) s:=by rw[H5,if_neg G,if_neg L]
    obtain⟨v,w,x,y,h⟩:=H (i+1) n s (by omega) (by omega) (by omega) B (by omega) (by omega) C;rw[u,ac1 (by rw[g];simp)];refine⟨λR d=>?_,w,x,y,?_⟩
    ·rw[An];rw[b8];simp only[e,f,ok,cond_true,vl,F,A];rw[A6,cond_false,show((p:Int)!=(m:Int))=true by rw[bne_iff_ne];omega,cond_true];exact v R d
    ·split at h<;>split<;>omega
theorem A27{R:Type}{k0:Bool->Bool->LL->Int->Int->Int->Int->Int->Int->LL->Option R}(z t:Bool)(a:List Nat)(q:a.length<=256)(n0:Nat)(b delta c done:Int)(l:LL):∀(r i n m:Nat),i+r=a.length->r<n->
  Il LF n z t (B4 a) done b (n0:Int) delta c (m:Int) (i:Int) l k0=k0 z t (B4 a) done b (n0:Int) delta c ((H3 n0 (a.drop i) m:Nat):Int) l:=by
 intro r
 induction r with
 | zero=>
  intro i n m k o;obtain⟨n,rfl⟩:∃m,n=m+1:=⟨n-1,by omega⟩
  rw[Il];rw[C9,A6,j1 (by omega)];rfl
 | succ r f=>
  intro i n m k o;obtain⟨n,rfl⟩:∃m,n=m+1:=⟨n-1,by omega⟩
  have j:=Zp a i (by omega);have ok:=Qf (l:=a) (i:=i) (by omega);have d:inR (i:Int) (B4 a).length=true:=L9 (by omega) (by rw[C9];omega);have e:ltI (i:Int) ((B4 a).length:Int)=true:=B5 (by rw[C9];omega);rw[Il,Uq a i (by omega)];generalize a.getD i 0=p at *;have g:A1 ((i:Int)+1)=((i+1:Nat):Int):=by rw[A7];rfl
  rw[b8];simp only[d,e,ok,cond_true,vl,j,g,H3];by_cases h:n0<=p
  ·rw[if_pos h,A6,j0,cond_true];have:(if (p:Int)<(m:Int) then (p:Int) else (m:Int))=((min m p:Nat):Int):=by split<;>omega
   rw[this];exact f (i+1) n (min m p) (by omega) (by omega)
  ·rw[if_neg h,A8,c9,cond_false];exact f (i+1) n m (by omega) (by omega)
theorem Ce6(z t:Bool)(a:List Nat)(b:Nat)(B:a.length<=256)(T:b<=256)(i:∀p∈a,p<=1114111):∀(f n d:Nat) (s:PN),s.done=a.countP (λp=>decide (p<n))->a.length<=s.done+f->f<d->s.delta<=300->s.bias<=500->s.out.length+20*(a.length-s.done)<=80000->n<=1114112->
  ∀(R:Type) (k0:LL->Option R),Fe LF d z t (B4 a) (s.done:Int) (b:Int) (n:Int) (s.delta:Int) (s.bias:Int) (s.out.map D9) k0=k0 ((R4 a b f n s).out.map D9):=by
 intro f;have S:=C4
 induction f with
 | zero=>
  intro n d s V X Y O y P Q R k0;obtain⟨d,rfl⟩:∃m,d=m+1:=⟨d-1,by omega⟩
  rw[Fe];rw[C9,A6];rfl
 | succ f Z=>
  intro n d s V X Y O y P Q R k0;obtain⟨d,rfl⟩:∃m,d=m+1:=⟨d-1,by omega⟩
  rw[Fe];rw[C9];have U:a.countP (λp=>decide (p<n))<=a.length:=aa2;by_cases o:s.done<a.length
  ·obtain⟨v,g,q⟩:=As1 (n:=n) (l:=a) (by omega);obtain⟨g1,g2,x⟩:=Ea n a 1114112;obtain⟨D,F,w⟩:=Ea n a 1073741824;have g4:=x v g q;have G:=w v g q;have g5:=i v g;have e:H3 n a 1114112∈a/\n<=H3 n a 1114112:=by grind
   have h:H3 n a 1073741824∈a/\n<=H3 n a 1073741824:=by grind
   have heq:H3 n a 1073741824=H3 n a 1114112:=by grind
   have W:R4 a b (f+1) n s=R4 a b f (H3 n a 1114112+1) { H5 (H3 n a 1114112) b a { s with delta:=s.delta+(H3 n a 1114112-n)*(s.done+1) } with delta:=(H5 (H3 n a 1114112) b a { s with delta:=s.delta+(H3 n a 1114112-n)*(s.done+1) }).delta+1 }:=by
    rw[R4,if_pos o]
   rw[W,A8,cond_true];have c:=λ(K:Bool->Bool->LL->Int->Int->Int->Int->Int->Int->LL->Option R)=>A27 (k0:=K) z t a B n (b:Int) (s.delta:Int) (s.bias:Int) (s.done:Int) (s.out.map D9) a.length 0 LF 1073741824 (by omega) (by omega)
   rw[j9,heq] at c;refine a8 (c _) ?_;clear c heq D F w G h;generalize H3 n a 1114112=m at *;have C:(m-n)*(s.done+1)<=1114112*256:=af4 (by omega) (by omega);have H:A1 ((s.done:Int)+1)=((s.done+1:Nat):Int):=by rw[A7];rfl
   have I:A1 ((m:Int)-(n:Int))=((m-n:Nat):Int):=by rw[A7];omega
   have J:A1 (((m-n:Nat):Int)*((s.done+1:Nat):Int))=(((m-n)*(s.done+1):Nat):Int):=by
    rw[<-Int.natCast_mul];exact A7
   have L:A1 ((s.delta:Int)+(((m-n)*(s.done+1):Nat):Int))=((s.delta+(m-n)*(s.done+1):Nat):Int):=by
    rw[A7];rfl
   simp only[vl,H,I,J,L];have k:=Cy6 z t a b m (by omega) B a.length 0 LF { s with delta:=s.delta+(m-n)*(s.done+1) } (by omega) (by omega) (by simp only;omega) y (by simp only;omega) (by simp only;omega) T;rw[j9] at k;obtain⟨q1,q2,q3,q4,q5⟩:=k;refine a8 (q1 R _) ?_;have j:0<a.countP (· == m):=List.countP_pos_iff.2 ⟨m,e.1,by simp⟩;rw[if_pos j] at q5;have u:=Uj e.2 a x;generalize H5 m b a { s with delta:=s.delta+(m-n)*(s.done+1) } = r at *;simp only at q3 q4;have M:A1 ((r.delta:Int)+1)=((r.delta+1:Nat):Int):=by rw[A7];rfl
   have N:A1 ((m:Int)+1)=((m+1:Nat):Int):=by rw[A7];rfl
   have A:a.countP (λp=>decide (p<m+1))<=a.length:=aa2;simp only[M,N];exact Z (m+1) d { r with delta:=r.delta+1 } (by simp only;omega) (by simp only;omega) (by omega) (by simp only;omega) q2 (by simp only;omega) (by omega) R k0
  ·rw[A6];rw[R4,if_neg o];rfl
theorem A22(z t:Bool)(P:List Int)(C:P.length<=256):∀(r i n:Nat) (out:By),i+r=P.length->r<n->out.length+r<=1000->
  ((P.drop i).all ptI=true->∀(R:Type) (a:LL->Option R) (b:Bool->Bool->LL->LL->Option R),U6 LF n z t (Aq P) (i:Int) (out.map D9) a b=b z t (Aq P) ((out++W0 (P.drop i)).map D9))/\
  ((P.drop i).all ptI=false->∃l,∀(R:Type) (a:LL->Option R) (b:Bool->Bool->LL->LL->Option R),U6 LF n z t (Aq P) (i:Int) (out.map D9) a b=a l):=by
 intro r
 induction r with
 | zero=>
  intro i n out w y A;obtain⟨n,rfl⟩:∃m,n=m+1:=⟨n-1,by omega⟩
  rw[j1 (by omega)];refine⟨λ_ R a b=>?_,λh=>(by cases h)⟩;rw[U6];rw[U8,A6];simp[W0]
 | succ r v=>
  intro i n out w y A;obtain⟨n,rfl⟩:∃m,n=m+1:=⟨n-1,by omega⟩
  have o:=Au0 P i (by omega);have ok:=UU (l:=P) (i:=i) (by omega);have f:inR (i:Int) (Aq P).length=true:=L9 (by omega) (by rw[U8];omega);have g:ltI (i:Int) ((Aq P).length:Int)=true:=B5 (by rw[U8];omega);rw[YZ P i (by omega)];generalize P.getD i 0=x at *;have u:A1 ((i:Int)+1)=((i+1:Nat):Int):=by rw[A7];rfl
  cases j:ptI x with
  | false=>
   refine⟨λh=>?_,λ_=>⟨out.map D9,λR a b=>?_⟩⟩
   ·rw[aa7,j] at h;cases h
   ·rw[U6];rw[b8];simp only[f,g,ok,cond_true,vl,o,j,j0]
  | true=>
   obtain⟨B,D⟩:=Sz j;rw[aa7,j,y5];by_cases c:x<128
   ·have d:W0 (x::P.drop (i+1))=aa0 x.toNat::W0 (P.drop (i+1)):=by
     unfold W0;rw[List.filter_cons_of_pos (by simpa using c)];rfl
    have k:out.map D9++[[SV.int .u8 (wu8 x)]]=(out++[aa0 x.toNat]).map D9:=by rw[Cj3 x B c];simp
    obtain⟨p,q⟩:=v (i+1) n (out++[aa0 x.toNat]) (by omega) (by omega) (by simp;omega);have step:∀(R:Type) (a:LL->Option R) (b:Bool->Bool->LL->LL->Option R),U6 LF (n+1) z t (Aq P) (i:Int) (out.map D9) a b=U6 LF n z t (Aq P) ((i+1:Nat):Int) ((out++[aa0 x.toNat]).map D9) a b:=by
     intro R a b;rw[U6];rw[b8];simp only[f,g,ok,cond_true,vl,o,j,c9,cond_false,u];rw[B5 c,p6,F3 (by omega),k];rfl
    refine⟨λh R a b=>?_,λh=>?_⟩
    ·rw[step,p h,d];simp
    ·obtain⟨l,e⟩:=q h;exact⟨l,λR a b=>by rw[step];exact e R a b⟩
   ·have d:W0 (x::P.drop (i+1))=W0 (P.drop (i+1)):=by
     unfold W0;rw[List.filter_cons_of_neg (by simpa using c)]
    obtain⟨p,q⟩:=v (i+1) n out (by omega) (by omega) (by omega);have step:∀(R:Type) (a:LL->Option R) (b:Bool->Bool->LL->LL->Option R),U6 LF (n+1) z t (Aq P) (i:Int) (out.map D9) a b=U6 LF n z t (Aq P) ((i+1:Nat):Int) (out.map D9) a b:=by
     intro R a b;rw[U6];rw[b8];simp only[f,g,ok,cond_true,vl,o,j,c9,cond_false,u];rw[A6];rfl
    refine⟨λh R a b=>?_,λh=>?_⟩
    ·rw[step,p h,d]
    ·obtain⟨l,e⟩:=q h;exact⟨l,λR a b=>by rw[step];exact e R a b⟩
theorem A23(z t:Bool)(P:List Int):(W4 P=([],3)/\∀(R:Type) (b:Unit->Option R) (f:By->Int->LL->Option R),Ad7 LF z t (Aq P) b f=b ())\/
  (∃l,∀(R:Type) (b:Unit->Option R) (f:By->Int->LL->Option R),Ad7 LF z t (Aq P) b f=f (W4 P).1 ((W4 P).2:Nat) l):=by
 have x:=C4;by_cases i:256<P.length
 ·refine .inl ⟨by unfold W4;rw[if_pos i],λR b f=>?_⟩;unfold Ad7;rw[U8,A8];rfl
 ·right
  obtain⟨v,w⟩:=A22 z t P (by omega) P.length 0 LF [] (by omega) (by omega) (by simp;omega);rw[j9] at v w;cases g:P.all ptI with
  | false=>
   obtain⟨l,e⟩:=w g;refine⟨l,λR b f=>?_⟩;unfold Ad7;rw[U8,A6,cond_false];refine a8 (e R _ _) ?_;unfold W4;rw[if_neg i,g];rfl
  | true=>
   obtain⟨a,rfl,A,m⟩:=Bj9 g;rw[p6] at i;have k:W4 (a.map λn:Nat=>(n:Int))=Cv a:=by
    unfold W4;rw[p6,if_neg i,g];simp[Function.comp_def]
   have j:=Se a;have y:a.countP (λp=>decide (p<128))<=a.length:=aa2;have main:∀(o:By),o.length<=300->∀(R:Type) (b:LL->Option R),Fe LF LF z t (B4 a) ((I2 a).length:Int) ((I2 a).length:Int) 128 0 72 (o.map D9) b=b ((R4 a (I2 a).length 256 128 { delta:=0,bias:=72,done:=(I2 a).length,out:=o }).out.map D9):=by
    intro o B R b;exact Ce6 z t a (I2 a).length (by omega) (by omega) m 256 128 LF { delta:=0,bias:=72,done:=(I2 a).length,out:=o } j (by simp only;omega) (by omega) (by simp) (by simp) (by simp only;omega) (by omega) R b
   have d:Cv a=((R4 a (I2 a).length 256 128 { delta:=0,bias:=72,done:=(I2 a).length,out:=if (I2 a).isEmpty then [] else I2 a++[45] }).out,0):=by
    unfold Cv;grind
   refine⟨(Cv a).1.map D9,λR b f=>?_⟩;unfold Ad7;rw[U8,p6,A6,cond_false,k];have r:=v g R;refine a8 (r _ _) ?_;rw[x6,GQ,Qe];simp only[vl,p6];by_cases c:I2 a=[]
   ·rw[c,w9,A6,cond_false];have q:=main [] (by simp) R;rw[c,w9] at q;rw[List.map_nil] at q;refine a8 (q _) ?_;rw[c] at d;rw[d];simp only[List.isEmpty_nil,if_true,w9];rw[W9,X7];rfl
   ·have u:0<(I2 a).length:=x8.2 c;rw[A8,cond_true,F3 (by omega),cond_true];have h:(I2 a).map D9++[[SV.int .u8 (45:Int)]]=(I2 a++[45]).map D9:=by rw[ab1];rfl
    rw[h];refine a8 (main (I2 a++[45]) (by simp;omega) R _) ?_;rw[d,if_neg (by simpa using c)];rw[W9,X7];rfl
theorem Cy7(z t:Bool)(p:LL)(b:p.all Nf=true):∃r H,Ad7 LF z t p (λ_=>rv (.tup [.s (.str []),.s (.int .i64 3)]) []) (λd e l=>rv (.tup [.s (.str d),.s (.int .i64 e)]) [.arr true 5 1 l])=rv r H/\
  r.stab [0,0] H = .tup [.s (.str (W4 (p.map elI)).1),.s (.int .i64 ((W4 (p.map elI)).2:Nat))]:=by
 obtain⟨P,rfl⟩:=Bh5 b;rw[ZA];rcases A23 z t P with⟨c,a⟩|⟨l,a⟩
 ·exact⟨_,_,a _ _ _,by rw[c];rfl⟩
 ·exact⟨_,_,a _ _ _,rfl⟩
theorem A59{R:Type}{k0:Unit->Option R}{k1:By->Int->Option R}(s:By)(k:s.length<=1000000):∀(r i n cut:Nat),i+r=s.length->r<n->
  Ec LF n s (cut:Int) (i:Int) k0 k1=if (s.drop i).any (λb=>w8 128 b.toNat) then k0 () else k1 s ((if 45∈s.drop i then i+G5 (s.drop i) else cut:Nat):Int):=by
 intro r
 induction r with
 | zero=>
  intro i n cut g j;obtain⟨n,rfl⟩:∃m,n=m+1:=⟨n-1,by omega⟩
  rw[Ec];rw[A6,j1 (by omega)];rfl
 | succ r d=>
  intro i n cut g j;obtain⟨n,rfl⟩:∃m,n=m+1:=⟨n-1,by omega⟩
  rw[Ec];have e:A1 ((i:Int)+1)=((i+1:Nat):Int):=by rw[A7];rfl
  rw[A8,E9,D1,D2 s i (by omega),e,ab9];simp only[cond_true];generalize s.getD i 0=b;by_cases h:128<=b.toNat
  ·rw[A6,Nat.ble_eq_true_of_le h];rfl
  ·have:w8 128 b.toNat=false:=by rw[j8,ne_eq,p4];exact h
   rw[A8,this,ad2,c9,cond_false];have f:((b.toNat:Int)==45)=(b==45):=Q9 b 45 (by omega);rw[f];by_cases a:b=45
   ·subst a;rw[show((45:UInt8)==45)=true from rfl,cond_true];refine(d (i+1) n i (by omega) (by omega)).trans ?_;have c:(45:UInt8)∈45::s.drop (i+1):=by simp
    rw[if_pos c];have:(if (45:UInt8)∈s.drop (i+1) then i+1+G5 (s.drop (i+1)) else i)=i+G5 (45::s.drop (i+1)):=by
     rw[G5];grind
    rw[this]
   ·rw[show(b==45)=false from beq_eq_false_iff_ne.2 a,cond_false];refine(d (i+1) n cut (by omega) (by omega)).trans ?_;have c:((45:UInt8)∈b::s.drop (i+1))↔((45:UInt8)∈s.drop (i+1)):=by simp[Ne.symm a]
    have:(if (45:UInt8)∈s.drop (i+1) then i+1+G5 (s.drop (i+1)) else cut)=(if (45:UInt8)∈b::s.drop (i+1) then i+G5 (b::s.drop (i+1)) else cut):=by
     by_cases q:(45:UInt8)∈s.drop (i+1)
     ·rw[if_pos q,if_pos (c.2 q),G5,if_pos q];omega
     grind
    rw[this]
theorem A54{R:Type}{k0:By->Int->LL->Option R}(s:By)(q:s.length<=1000000)(k:Nat)(p:k<=s.length):∀(r i n:Nat) (l:List Nat),i+r=k->r<n->l.length=i->
  Ha LF n s (k:Int) (i:Int) (B4 l) k0=k0 s (k:Int) (B4 (l++((s.take k).drop i).map (·.toNat))):=by
 intro r
 induction r with
 | zero=>
  intro i n l f h g;obtain⟨n,rfl⟩:∃m,n=m+1:=⟨n-1,by omega⟩
  rw[Ha];rw[A6,j1 (by rw[p9];omega)];simp
 | succ r j=>
  intro i n l f h g;obtain⟨n,rfl⟩:∃m,n=m+1:=⟨n-1,by omega⟩
  rw[Ha];have c:A1 ((i:Int)+1)=((i+1:Nat):Int):=by rw[A7];rfl
  have e:(s.take k).drop i=s.getD i 0::(s.take k).drop (i+1):=by
   rw[D2 (s.take k) i (by rw[p9];omega)]
   congr 1
   rw[j4,j4,List.getElem?_take_of_lt (by omega)]
  rw[A8,E9,D1,e,C9,F3 (by omega),c];simp only[cond_true];generalize s.getD i 0=b;have o:=b.toNat_lt;have d:A1 (b.toNat:Int)=(b.toNat:Int):=A7;have a:B4 l++[[SV.int .i64 (A1 (b.toNat:Int))]]=B4 (l++[b.toNat]):=by rw[d,Kc];rfl
  rw[a];refine(j (i+1) n _ (by omega) (by omega) (by simp;omega)).trans ?_;simp
theorem A57(s:By)(hs:s.length<=1000000)(out:LL)(f b e:Int)(l:LL)(P:0<=b)(Q:b<1000000):∀(r p n k:Nat) (i w:Int),p+r=s.length->r<n->0<=i->i<=1099511627776->0<=w->w<=1099511627776->k+r<=10000000->
  ((T9 b (s.drop p) i w ((36*k:Nat):Int)).1=0->∃o,p<o/\o<=s.length/\(T9 b (s.drop p) i w ((36*k:Nat):Int)).2.1=s.drop o/\∀(R:Type) (a:Int->LL->Option R) (d:By->LL->Int->Int->Int->Int->LL->Option R),V3 LF n s out (p:Int) f i b e w (k:Int) l a d=d s out (o:Int) f (T9 b (s.drop p) i w ((36*k:Nat):Int)).2.2 e l)/\
  ((T9 b (s.drop p) i w ((36*k:Nat):Int)).1≠0->∀(R:Type) (a:Int->LL->Option R) (d:By->LL->Int->Int->Int->Int->LL->Option R),V3 LF n s out (p:Int) f i b e w (k:Int) l a d=a (T9 b (s.drop p) i w ((36*k:Nat):Int)).1 l):=by
 intro r
 induction r with
 | zero=>
  intro p n k i w X W U D G g V;obtain⟨n,rfl⟩:∃m,n=m+1:=⟨n-1,by omega⟩
  rw[j1 (by omega)];refine⟨λh=>by simp[T9] at h,λ_ R a d=>?_⟩;rw[V3];rw[A6];rfl
 | succ r Z=>
  intro p n k i w X W U D G g V;obtain⟨n,rfl⟩:∃m,n=m+1:=⟨n-1,by omega⟩
  have S:=D2 s p (by omega);have C:=D1 s p;rw[S];generalize s.getD p 0=c at *;have Y:=Fl c;have ht:=Mr ((36*k:Nat):Int) b;have e0:ab7 36 (k:Int)=((36*k:Nat):Int):=rfl;have J:A1 ((p:Int)+1)=((p+1:Nat):Int):=by rw[A7];rfl
  have K:A1 ((k:Int)+1)=((k+1:Nat):Int):=by rw[A7];rfl
  have start:∀(R:Type) (a:Int->LL->Option R) (d:By->LL->Int->Int->Int->Int->LL->Option R),V3 LF (n+1) s out (p:Int) f i b e w (k:Int) l a d =
    cond (ltI (E0 c) 0) (a 4 l)
     (vl (A1 (i+(A1 (E0 c*w)))) λj=>cond (ltI 1099511627776 j) (a 19 l)
      (cond (ltI (E0 c) (L1 ((36*k:Nat):Int) b)) (d s out ((p+1:Nat):Int) f j e l)
       (vl (A1 (36-(L1 ((36*k:Nat):Int) b))) λq=>cond (ltI 1099511627776 (A1 (w*q))) (a 19 l) (V3 LF n s out ((p+1:Nat):Int) f j b e (A1 (w*q)) ((k+1:Nat):Int) l a d)))):=by
   intro R a d;rw[V3];have T:=c.toNat_lt;rw[A8,E9,C,E9,It,N9,N9,e0,J,K];rfl
  unfold T9;by_cases y:E0 c<0
  ·rw[if_pos y];refine⟨λh=>by simp at h,λ_ R a d=>?_⟩;rw[start,B5 y];rfl
  ·rw[if_neg y];have hm:=Dd (by omega) Y.2 G g;have u:A1 (E0 c*w)=E0 c*w:=A7;have v:A1 (i+E0 c*w)=i+E0 c*w:=A7;by_cases z:1099511627776<i+E0 c*w
   ·rw[if_pos z];refine⟨λh=>by simp at h,λ_ R a d=>?_⟩;rw[start,A6,u,v];simp only[vl,cond_false];rw[B5 z];rfl
   ·rw[if_neg z];by_cases A:E0 c<L1 ((36*k:Nat):Int) b
    ·rw[if_pos A];refine⟨λ_=>⟨p+1,by omega,by omega,rfl,λR a d=>?_⟩,λh=>absurd rfl h⟩;rw[start,A6,u,v];simp only[vl,cond_false];rw[A6,B5 A];rfl
    ·rw[if_neg A];have H:A1 (36-L1 ((36*k:Nat):Int) b)=36-L1 ((36*k:Nat):Int) b:=A7;have F:=Dd (x:=36-L1 ((36*k:Nat):Int) b) (by omega) (by omega) G g;rw[ag0] at F;have I:A1 (w*(36-L1 ((36*k:Nat):Int) b))=w*(36-L1 ((36*k:Nat):Int) b):=A7;by_cases B:1099511627776<w*(36-L1 ((36*k:Nat):Int) b)
     ·rw[if_pos B];refine⟨λh=>by simp at h,λ_ R a d=>?_⟩;rw[start,A6,u,v];simp only[vl,cond_false];rw[A6,A6,H,I,B5 B];rfl
     ·rw[if_neg B];have L:((36*k:Nat):Int)+36=((36*(k+1):Nat):Int):=by omega
      rw[L];obtain⟨q1,q2⟩:=Z (p+1) n (k+1) (i+E0 c*w) (w*(36-L1 ((36*k:Nat):Int) b)) (by omega) (by omega) (by omega) (by omega) (by omega) (by omega) (by omega);have t:∀(R:Type) (a:Int->LL->Option R) (d:By->LL->Int->Int->Int->Int->LL->Option R),V3 LF (n+1) s out (p:Int) f i b e w (k:Int) l a d=V3 LF n s out ((p+1:Nat):Int) f (i+E0 c*w) b e (w*(36-L1 ((36*k:Nat):Int) b)) ((k+1:Nat):Int) l a d:=by simp_all
      refine⟨λh=>?_,λh R a d=>by rw[t];exact q2 h R a d⟩;obtain⟨o,g1,M,N,O⟩:=q1 h;exact⟨o,by omega,M,N,λR a d=>by rw[t];exact O R a d⟩
theorem A58(s:By)(Z:s.length<=1000000)(l:LL):∀(r p n k:Nat) (i w:Int),p+r=s.length->r<n->0<=i->i<=1099511627776->0<=w->w<=1099511627776->k+r<=10000000->
  ((T9 72 (s.drop p) i w ((36*k:Nat):Int)).1=0->∃f,p<f/\f<=s.length/\(T9 72 (s.drop p) i w ((36*k:Nat):Int)).2.1=s.drop f/\∀(R:Type) (a:Int->LL->Option R) (b:By->Int->Int->LL->Option R),V4 LF n s (p:Int) i w (k:Int) l a b=b s (f:Int) (T9 72 (s.drop p) i w ((36*k:Nat):Int)).2.2 l)/\
  ((T9 72 (s.drop p) i w ((36*k:Nat):Int)).1≠0->∀(R:Type) (a:Int->LL->Option R) (b:By->Int->Int->LL->Option R),V4 LF n s (p:Int) i w (k:Int) l a b=a (T9 72 (s.drop p) i w ((36*k:Nat):Int)).1 l):=by
 intro r
 induction r with
 | zero=>
  intro p n k i w S Q O A C d P;obtain⟨n,rfl⟩:∃m,n=m+1:=⟨n-1,by omega⟩
  rw[j1 (by omega)];refine⟨λh=>by simp[T9] at h,λ_ R a b=>?_⟩;rw[V4];rw[A6];rfl
 | succ r U=>
  intro p n k i w S Q O A C d P;obtain⟨n,rfl⟩:∃m,n=m+1:=⟨n-1,by omega⟩
  have M:=D2 s p (by omega);have z:=D1 s p;rw[M];generalize s.getD p 0=c at *;have T:=Fl c;have ht:=Mr ((36*k:Nat):Int) 72;have e0:ab7 36 (k:Int)=((36*k:Nat):Int):=rfl;have G:A1 ((p:Int)+1)=((p+1:Nat):Int):=by rw[A7];rfl
  have H:A1 ((k:Int)+1)=((k+1:Nat):Int):=by rw[A7];rfl
  have start:∀(R:Type) (a:Int->LL->Option R) (b:By->Int->Int->LL->Option R),V4 LF (n+1) s (p:Int) i w (k:Int) l a b =
    cond (ltI (E0 c) 0) (a 4 l)
     (vl (A1 (i+(A1 (E0 c*w)))) λe=>cond (ltI 1099511627776 e) (a 19 l)
      (cond (ltI (E0 c) (L1 ((36*k:Nat):Int) 72)) (b s ((p+1:Nat):Int) e l)
       (vl (A1 (36-(L1 ((36*k:Nat):Int) 72))) λg=>cond (ltI 1099511627776 (A1 (w*g))) (a 19 l) (V4 LF n s ((p+1:Nat):Int) e (A1 (w*g)) ((k+1:Nat):Int) l a b)))):=by
   intro R a b;rw[V4];have N:=c.toNat_lt;rw[A8,E9,z,E9,It,N9,N9,e0,G,H];rfl
  unfold T9;by_cases t:E0 c<0
  ·rw[if_pos t];refine⟨λh=>by simp at h,λ_ R a b=>?_⟩;rw[start,B5 t];rfl
  ·rw[if_neg t];have Y:=Dd (by omega) T.2 C d;have o:A1 (E0 c*w)=E0 c*w:=A7;have q:A1 (i+E0 c*w)=i+E0 c*w:=A7;by_cases u:1099511627776<i+E0 c*w
   ·rw[if_pos u];refine⟨λh=>by simp at h,λ_ R a b=>?_⟩;rw[start,A6,o,q];simp only[vl,cond_false];rw[B5 u];rfl
   ·rw[if_neg u];by_cases v:E0 c<L1 ((36*k:Nat):Int) 72
    ·rw[if_pos v];refine⟨λ_=>⟨p+1,by omega,by omega,rfl,λR a b=>?_⟩,λh=>absurd rfl h⟩;rw[start,A6,o,q];simp only[vl,cond_false];rw[A6,B5 v];rfl
    ·rw[if_neg v];have D:A1 (36-L1 ((36*k:Nat):Int) 72)=36-L1 ((36*k:Nat):Int) 72:=A7;have B:=Dd (x:=36-L1 ((36*k:Nat):Int) 72) (by omega) (by omega) C d;rw[ag0] at B;have F:A1 (w*(36-L1 ((36*k:Nat):Int) 72))=w*(36-L1 ((36*k:Nat):Int) 72):=A7;by_cases y:1099511627776<w*(36-L1 ((36*k:Nat):Int) 72)
     ·rw[if_pos y];refine⟨λh=>by simp at h,λ_ R a b=>?_⟩;rw[start,A6,o,q];simp only[vl,cond_false];rw[A6,A6,D,F,B5 y];rfl
     ·rw[if_neg y];have I:((36*k:Nat):Int)+36=((36*(k+1):Nat):Int):=by omega
      rw[I];obtain⟨V,W⟩:=U (p+1) n (k+1) (i+E0 c*w) (w*(36-L1 ((36*k:Nat):Int) 72)) (by omega) (by omega) (by omega) (by omega) (by omega) (by omega) (by omega);have j:∀(R:Type) (a:Int->LL->Option R) (b:By->Int->Int->LL->Option R),V4 LF (n+1) s (p:Int) i w (k:Int) l a b=V4 LF n s ((p+1:Nat):Int) (i+E0 c*w) (w*(36-L1 ((36*k:Nat):Int) 72)) ((k+1:Nat):Int) l a b:=by simp_all
      refine⟨λh=>?_,λh R a b=>by rw[j];exact W h R a b⟩;obtain⟨f,X,J,K,L⟩:=V h;exact⟨f,by omega,J,K,λR a b=>by rw[j];exact L R a b⟩
theorem OA(l:List Nat)(k:Nat):(B4 l).take k=B4 (l.take k):=by unfold B4;rw[List.map_take]
theorem NZ(l:List Nat)(k:Nat):(B4 l).drop k=B4 (l.drop k):=by unfold B4;rw[List.map_drop]
theorem A56(s:By)(hs:s.length<=1000000)(l:LL):∀(r p f:Nat) (a:List Nat) (n i b:Nat),p+r=s.length->r<f->a.length<=256->n<=1114111->i<=1000->b<=500->
  ((G9 (s.drop p) a n i b false).2=0->∀(R:Type) (c:Int->LL->Option R) (d e:LL->LL->Option R),P2 LF f s (B4 a) (p:Int) (n:Int) (i:Int) (b:Int) l c d e=e (B4 (G9 (s.drop p) a n i b false).1) l)/\
  ((G9 (s.drop p) a n i b false).2≠0->(G9 (s.drop p) a n i b false).1=[]/\((∀(R:Type) (c:Int->LL->Option R) (d e:LL->LL->Option R),P2 LF f s (B4 a) (p:Int) (n:Int) (i:Int) (b:Int) l c d e=c ((G9 (s.drop p) a n i b false).2:Nat) l)\/
   ((G9 (s.drop p) a n i b false).2=3/\∃D,∀(R:Type) (c:Int->LL->Option R) (d e:LL->LL->Option R),P2 LF f s (B4 a) (p:Int) (n:Int) (i:Int) (b:Int) l c d e=d l D))):=by
 have a0:=C4;intro r
 induction r using ac4 with
 | _ r ih=>
  intro p f a n i b hp hf h2 h3 h4 h5;obtain⟨f,rfl⟩:∃m,f=m+1:=⟨f-1,by omega⟩
  by_cases hr:r=0
  ·rw[j1 (by omega),Ct];refine⟨λ_ R c d e=>?_,λh=>absurd rfl h⟩;rw[P2];rw[A6];rfl
  ·have q:s.drop p≠[]:=λh=>by
    have:=congrArg j5 h;rw[j7] at this;simp at this;omega
   obtain⟨z,H⟩:=A57 s hs (B4 a) (n:Int) (b:Int) (i:Int) l (by omega) (by omega) r p LF 0 (i:Int) 1 hp (by omega) (by omega) (by omega) (by omega) (by omega) (by omega);obtain⟨F,G⟩:=Up b (s.drop p) i 1 0;have y:T9 (b:Int) (s.drop p) (i:Int) 1 ((36*0:Nat):Int)=T9 (b:Int) (s.drop p) (i:Int) ((1:Nat):Int) ((36*0:Nat):Int):=rfl;rw[y] at z H;by_cases o:(D7 b (s.drop p) i 1 0).2.2=0
   ·rw[Dv q a n i b false o];have T:=G o;have K:(T9 (b:Int) (s.drop p) (i:Int) ((1:Nat):Int) ((36*0:Nat):Int)).1=0:=by rw[F,o];rfl
    obtain⟨v,a1,a2,w,x⟩:=z K;obtain⟨L,O,_⟩:=Uo (b:Int) (s.drop p) (i:Int) ((1:Nat):Int) ((36*0:Nat):Int) (by omega) (by omega) (by omega) K;rw[T] at L O w x;simp only at L O w x;rw[w];generalize (D7 b (s.drop p) i 1 0).1=X at *;have el:A1 (((B4 a).length:Int)+1)=((a.length+1:Nat):Int):=by rw[C9,A7];rfl
    have U:A1 ((X:Int)-(i:Int))=((X-i:Nat):Int):=by rw[A7];omega
    have Z:x3 (X:Int) ((a.length+1:Nat):Int)=((X / (a.length+1):Nat):Int):=M8 _ _;have em:s8 (X:Int) ((a.length+1:Nat):Int)=((X % (a.length+1):Nat):Int):=Ho _ _;have a5:X / (a.length+1)<=X:=y8 _ _;have J:=af3 X (show 0<a.length+1 by omega);have A:=Nx (X-i) (a.length+1) false (by omega);generalize hQ:X / (a.length+1)=Q at *;generalize hM:X % (a.length+1)=M at *;have V:A1 (Q:Int)=(Q:Int):=A7;have W:A1 ((n:Int)+(Q:Int))=((n+Q:Nat):Int):=by rw[A7];rfl
    have Y:A1 ((M:Int)+1)=((M+1:Nat):Int):=by rw[A7];rfl
    have C:(((a.length+1:Nat):Int)!=0)=true:=by rw[bne_iff_ne];omega
    have P:cut (B4 a) 0 (M:Int)=B4 (a.take M):=by rw[K4,b8,OA]
    have S:cut (B4 a) (M:Int) ((B4 a).length:Int)=B4 (a.drop M):=by rw[R0,b8,NZ]
    have t:∀N:Nat,B4 (a.take M)++[[SV.int .i64 (N:Int)]]++B4 (a.drop M)=B4 (U9 a M N):=λN=>by
     unfold U9;rw[Kc,w6];rfl
    have start:∀(R:Type) (c:Int->LL->Option R) (d e:LL->LL->Option R),P2 LF (f+1) s (B4 a) (p:Int) (n:Int) (i:Int) (b:Int) l c d e =
      cond (not (V0 (n+Q))) (c 2 l) (cond (ltI 256 ((a.length+1:Nat):Int)) (d l (B4 (U9 a M (n+Q))))
       (P2 LF f s (B4 (U9 a M (n+Q))) (v:Int) ((n+Q:Nat):Int) ((M+1:Nat):Int) ((Q3 (X-i) (a.length+1) false:Nat):Int) l c d e)):=by
     intro R c d e;rw[P2];rw[A8,cond_true];refine(x R _ _).trans ?_;have s1:I7 (0:Int) (M:Int) (B4 a).length=true:=Ae (by omega) (by omega) (by rw[C9];omega);have s2:I7 (M:Int) ((B4 a).length:Int) (B4 a).length=true:=Ae (by omega) (by rw[C9];omega) (by omega);have t1:ltN ((X-i:Nat):Int) 1152921504606846976=true:=N9;have t2:ltN ((a.length+1:Nat):Int) 1000000=true:=N9;have t3:ltI 0 ((a.length+1:Nat):Int)=true:=A8;have l1:(B4 (a.take M)).length=M:=by rw[C9,p9];omega
     have l2:(B4 (a.drop M)).length=a.length-M:=by rw[C9,j7]
     have r1:F8 (0+(B4 (a.take M)).length)=true:=F3 (by omega);have r2:F8 ((B4 (a.take M)).length+1)=true:=F3 (by omega);have r3:F8 ((B4 (a.take M)++[[SV.int .i64 ((n+Q:Nat):Int)]]).length+(B4 (a.drop M)).length)=true:=F3 (by rw[j2,s9];omega);have l3:(B4 (U9 a M (n+Q))).length=a.length+1:=by rw[C9,Bd]
     simp only[vl,el,U,Z,em,V,W,Y,C,s1,s2,t1,t2,t3,P,S,r1,r2,r3,t,l3,cond_true,b8,Lz]
    cases g:V0 (n+Q) with
    | false=>
     rw[if_neg (by simp)];refine⟨λh=>by simp at h,λ_=>⟨rfl,.inl λR c d e=>?_⟩⟩;rw[start,g];rfl
    | true=>
     rw[if_pos rfl];by_cases I:256<a.length+1
     ·rw[if_pos I];refine⟨λh=>by simp at h,λ_=>⟨rfl,.inr ⟨rfl,B4 (U9 a M (n+Q)),λR c d e=>?_⟩⟩⟩;rw[start,g,A8];rfl
     ·rw[if_neg I];have B:n+Q<=1114111:=by
       unfold V0 at g;simp only[p7,p4] at g;exact g.1
      have k:∀(R:Type) (c:Int->LL->Option R) (d e:LL->LL->Option R),P2 LF (f+1) s (B4 a) (p:Int) (n:Int) (i:Int) (b:Int) l c d e=P2 LF f s (B4 (U9 a M (n+Q))) (v:Int) ((n+Q:Nat):Int) ((M+1:Nat):Int) ((Q3 (X-i) (a.length+1) false:Nat):Int) l c d e:=by
       intro R c d e;rw[start,g,A6];rfl
      obtain⟨z1,z2⟩:=ih (s.length-v) (by omega) v f (U9 a M (n+Q)) (n+Q) (M+1) (Q3 (X-i) (a.length+1) false) (by omega) (by omega) (by rw[Bd];omega) B (by omega) A;refine⟨λh R c d e=>by rw[k];exact z1 h R c d e,λh=>?_⟩;obtain⟨y1,u⟩:=z2 h;refine⟨y1,?_⟩;rcases u with u|⟨u,D,y3⟩
      ·exact .inl λR c d e=>by rw[k];exact u R c d e
      ·exact .inr ⟨u,D,λR c d e=>by rw[k];exact y3 R c d e⟩
   ·rw[Gn q a n i b false o];clear z G;refine⟨λh=>absurd h o,λ_=>⟨rfl,.inl λR c d e=>?_⟩⟩;rw[P2];rw[A8,cond_true];have j:=congrArg Prod.fst F;simp only at j;refine(H (by rw[j];omega) R _ _).trans ?_;rw[j]
theorem Bn4:∀(r:Nat) (s:By) (a:List Nat) (n i b:Nat) (f:Bool),s.length<=r->0<a.length->(G9 s a n i b f).2=0->(G9 s a n i b f).1≠[]:=by
 intro r
 induction r with
 | zero=>
  intro s a n i b f d l h;obtain rfl:=z7.1 (Nat.le_zero.1 d);rw[Ct];grind
 | succ r m=>
  intro s a n i b f d l h;by_cases e:s=[]
  ·grind
  ·by_cases c:(D7 b s i 1 0).2.2=0
   ·rw[Dv e a n i b f c] at h ⊢;split at h
    ·rename_i g;rw[if_pos g];split at h
     ·omega
     ·rename_i j;rw[if_neg j];have k:=Px b s i 1 0 c;exact m _ _ _ _ _ _ (by omega) (by rw[Bd];omega) h
    omega
   ·rw[Gn e a n i b f c] at h;omega
theorem A55(s:By)(K:s.length<=1000000)(p:Nat)(a:List Nat)(h2:a.length<=256)(hp:p<=s.length) :
  (s.drop p=[]/\∀(R:Type) (b:Int->LL->Option R) (c d:LL->LL->Option R) (g:LL->Option R),K6 LF LF s (p:Int) (B4 a) b c d g=g (B4 a))\/
  ((G9 (s.drop p) a 128 0 72 true).2=0/\(G9 (s.drop p) a 128 0 72 true).1≠[]/\∀(R:Type) (b:Int->LL->Option R) (c d:LL->LL->Option R) (g:LL->Option R),K6 LF LF s (p:Int) (B4 a) b c d g=d (B4 (G9 (s.drop p) a 128 0 72 true).1) (B4 a))\/
  ((G9 (s.drop p) a 128 0 72 true).1=[]/\((∀(R:Type) (b:Int->LL->Option R) (c d:LL->LL->Option R) (g:LL->Option R),K6 LF LF s (p:Int) (B4 a) b c d g=b ((G9 (s.drop p) a 128 0 72 true).2:Nat) (B4 a))\/
   ((G9 (s.drop p) a 128 0 72 true).2=3/\∃F,∀(R:Type) (b:Int->LL->Option R) (c d:LL->LL->Option R) (g:LL->Option R),K6 LF LF s (p:Int) (B4 a) b c d g=c (B4 a) F))):=by
 have a0:=C4;obtain⟨f,B⟩:∃m,LF=m+1:=⟨LF-1,by omega⟩
 by_cases hr:s.length<=p
 ·refine .inl ⟨j1 hr,λR b c d g=>?_⟩;have e:K6 LF LF s (p:Int) (B4 a) b c d g=K6 LF (f+1) s (p:Int) (B4 a) b c d g:=by rw[<-B]
  rw[e,K6];rw[A6];rfl
 ·right
  have o:s.drop p≠[]:=λh=>by
   have:=congrArg j5 h;grind
  obtain⟨u,y⟩:=A58 s K (B4 a) (s.length-p) p LF 0 0 1 (by omega) (by omega) (by omega) (by omega) (by omega) (by omega) (by omega);obtain⟨G,x⟩:=Up 72 (s.drop p) 0 1 0;have n:T9 72 (s.drop p) 0 1 ((36*0:Nat):Int)=T9 ((72:Nat):Int) (s.drop p) ((0:Nat):Int) ((1:Nat):Int) ((36*0:Nat):Int):=rfl;rw[n] at u y;by_cases A:(D7 72 (s.drop p) 0 1 0).2.2=0
  ·rw[Dv o a 128 0 72 true A];have H:=x A;have k:(T9 ((72:Nat):Int) (s.drop p) ((0:Nat):Int) ((1:Nat):Int) ((36*0:Nat):Int)).1=0:=by grind
   obtain⟨r,a1,a2,v,w⟩:=u k;obtain⟨L,O,_⟩:=Uo ((72:Nat):Int) (s.drop p) ((0:Nat):Int) ((1:Nat):Int) ((36*0:Nat):Int) (by omega) (by omega) (by omega) k;rw[H] at L O v w;simp only at L O v w;clear u y G x H k n;rw[v];generalize (D7 72 (s.drop p) 0 1 0).1=X at *;have Z:A1 (((B4 a).length:Int)+1)=((a.length+1:Nat):Int):=by rw[C9,A7];rfl
   have T:A1 ((X:Int)-0)=(X:Int):=by rw[A7];omega
   have Y:x3 (X:Int) ((a.length+1:Nat):Int)=((X / (a.length+1):Nat):Int):=M8 _ _;have em:s8 (X:Int) ((a.length+1:Nat):Int)=((X % (a.length+1):Nat):Int):=Ho _ _;have a5:X / (a.length+1)<=X:=y8 _ _;have J:=af3 X (show 0<a.length+1 by omega);have z:=Nx X (a.length+1) true (by omega);generalize hQ:X / (a.length+1)=Q at *;generalize hM:X % (a.length+1)=M at *;have U:A1 (Q:Int)=(Q:Int):=A7;have V:A1 ((128:Int)+(Q:Int))=((128+Q:Nat):Int):=by rw[A7];rfl
   have W:A1 ((M:Int)+1)=((M+1:Nat):Int):=by rw[A7];rfl
   have D:(((a.length+1:Nat):Int)!=0)=true:=by rw[bne_iff_ne];omega
   have P:aa4 (M-0) (ab3 0 (B4 a))=B4 (a.take M):=by rw[ag2,j9,OA]
   have S:aa4 ((B4 a).length-M) (ab3 M (B4 a))=B4 (a.drop M):=by
    rw[List.take_of_length_le (by rw[j7];omega),NZ]
   have q:∀N:Nat,B4 (a.take M)++[[SV.int .i64 (N:Int)]]++B4 (a.drop M)=B4 (U9 a M N):=λN=>by
    unfold U9;rw[Kc,w6];rfl
   have start:∀(R:Type) (b:Int->LL->Option R) (c d:LL->LL->Option R) (g:LL->Option R),K6 LF LF s (p:Int) (B4 a) b c d g =
     cond (not (V0 (128+Q))) (b 2 (B4 a)) (cond (ltI 256 ((a.length+1:Nat):Int)) (c (B4 a) (B4 (U9 a M (128+Q))))
      (P2 LF f s (B4 (U9 a M (128+Q))) (r:Int) ((128+Q:Nat):Int) ((M+1:Nat):Int) ((Q3 X (a.length+1) true:Nat):Int) (B4 a) b c d)):=by
    intro R b c d g;have e:K6 LF LF s (p:Int) (B4 a) b c d g=K6 LF (f+1) s (p:Int) (B4 a) b c d g:=by rw[<-B]
    rw[e,K6];rw[A8,cond_true];refine(w R _ _).trans ?_;have s1:I7 (0:Int) (M:Int) (B4 a).length=true:=Ae (by omega) (by omega) (by rw[C9];omega);have s2:I7 (M:Int) ((B4 a).length:Int) (B4 a).length=true:=Ae (by omega) (by rw[C9];omega) (by omega);have t1:ltN (X:Int) 1152921504606846976=true:=N9;have t2:ltN ((a.length+1:Nat):Int) 1000000=true:=N9;have t3:ltI 0 ((a.length+1:Nat):Int)=true:=A8;have l1:(B4 (a.take M)).length=M:=by rw[C9,p9];omega
    have l2:(B4 (a.drop M)).length=a.length-M:=by rw[C9,j7]
    have r1:F8 (0+(B4 (a.take M)).length)=true:=F3 (by omega);have r2:F8 ((B4 (a.take M)).length+1)=true:=F3 (by omega);have r3:F8 ((B4 (a.take M)++[[SV.int .i64 ((128+Q:Nat):Int)]]).length+(B4 (a.drop M)).length)=true:=F3 (by rw[j2,s9];omega);have l3:(B4 (U9 a M (128+Q))).length=a.length+1:=by rw[C9,Bd]
    simp only[vl,Z,T,Y,em,U,V,W,D,s1,s2,t1,t2,t3,b8,P,S,r1,r2,r3,q,l3,cond_true,Lz]
   cases j:V0 (128+Q) with
   | false=>
    rw[if_neg (by simp)];refine .inr ⟨rfl,.inl λR b c d g=>?_⟩;rw[start,j];rfl
   | true=>
    rw[if_pos rfl];by_cases I:256<a.length+1
    ·rw[if_pos I];refine .inr ⟨rfl,.inr ⟨rfl,B4 (U9 a M (128+Q)),λR b c d g=>?_⟩⟩;rw[start,j,A8];rfl
    ·rw[if_neg I];have C:128+Q<=1114111:=by
      unfold V0 at j;simp_all
     have l:∀(R:Type) (b:Int->LL->Option R) (c d:LL->LL->Option R) (g:LL->Option R),K6 LF LF s (p:Int) (B4 a) b c d g=P2 LF f s (B4 (U9 a M (128+Q))) (r:Int) ((128+Q:Nat):Int) ((M+1:Nat):Int) ((Q3 X (a.length+1) true:Nat):Int) (B4 a) b c d:=by
      intro R b c d g;rw[start,j,A6];rfl
     obtain⟨z1,z2⟩:=A56 s K (B4 a) (s.length-r) r f (U9 a M (128+Q)) (128+Q) (M+1) (Q3 X (a.length+1) true) (by omega) (by omega) (by rw[Bd];omega) C (by omega) z;have hX:X-0=X:=ag2 X;rw[hX];by_cases k:(G9 (s.drop r) (U9 a M (128+Q)) (128+Q) (M+1) (Q3 X (a.length+1) true) false).2=0
     ·refine .inl ⟨k,?_,λR b c d g=>by rw[l];exact z1 k R b c d⟩;exact Bn4 _ _ _ _ _ _ _ (ab8 _) (by rw[Bd];omega) k
     ·obtain⟨y1,t⟩:=z2 k;refine .inr ⟨y1,?_⟩;rcases t with t|⟨t,F,y3⟩
      ·exact .inl λR b c d g=>by rw[l];exact t R b c d
      ·exact .inr ⟨t,F,λR b c d g=>by rw[l];exact y3 R b c d⟩
  ·rw[Gn o a 128 0 72 true A];clear u x;refine .inr ⟨rfl,.inl λR b c d g=>?_⟩;have e:K6 LF LF s (p:Int) (B4 a) b c d g=K6 LF (f+1) s (p:Int) (B4 a) b c d g:=by rw[<-B]
   rw[e,K6];rw[A8,cond_true];have i:=congrArg Prod.fst G;simp only at i;refine(y (by rw[i];omega) R _ _).trans ?_;rw[i]
theorem Cf8(s:By)(M:A2 s.length=true):∃r H,Bk5 LF s (λi f=>rv (.tup [.fl 0,.s (.int .i64 i)]) [.arr true 3 1 f]) (λi f=>rv (.tup [.fl 1,.s (.int .i64 i)]) [.arr true 3 1 f,.arr true 3 1 []]) (λx f=>rv (.tup [.fl 2,.s (.int .i64 (3:Int))]) [.arr true 3 1 x,.arr false 3 1 f,.arr true 3 1 []]) (λi f=>rv (.tup [.s (.sl false false 1 i),.s (.int .i64 (0:Int))]) [.arr true 3 1 f])=rv r H/\
  r.stab [1,0] H = .tup [.s (.sl (N5 s).1.isEmpty (N5 s).1.isEmpty 1 (Lw (N5 s).1)),.s (.int .i64 ((N5 s).2:Nat))]:=by
 have G:=C4;unfold Bk5 N5;by_cases z:1024<s.length
 ·rw[if_pos z,A8];exact⟨_,_,rfl,rfl⟩
 ·rw[if_neg z,A6,cond_false];have e:=λ(R:Type) (C:Unit->Option R) (D:By->Int->Option R)=>A59 (k0:=C) (k1:=D) s (by omega) s.length 0 LF 0 (by omega) (by omega)
  rw[j9] at e;cases y:s.any (λb=>w8 128 b.toNat) with
  | true=>
   rw[if_pos rfl];refine⟨.tup [.fl 0,.s (.int .i64 4)],[.arr true 3 1 []],(e _ _ _).trans ?_,rfl⟩;rw[y,if_pos rfl]
  | false=>
   rw[if_neg (by simp)];obtain⟨L,F⟩:=Oq s;have I:=Ot s;have q:(if (45:UInt8)∈s then 0+G5 s else 0)=G5 s:=by
    split
    ·omega
    ·rename_i h;exact(F h).2.symm
   rw[y,q] at e;have c:=λ(R:Type) (K:By->Int->LL->Option R)=>A54 (k0:=K) s (by omega) (G5 s) (by omega) (G5 s) 0 LF [] (by omega) (by omega) rfl
   rw[j9] at c;have g:((s.take (G5 s)).map (·.toNat)).length=G5 s:=by rw[p6,p9];omega
   generalize N:G5 s=m at *;generalize A:(s.take m).map (·.toNat)=d at *;by_cases k:256<m
   ·rw[if_pos k];refine⟨.tup [.fl 1,.s (.int .i64 3)],[.arr true 3 1 (B4 d),.arr true 3 1 []],(e _ _ _).trans ?_,rfl⟩;rw[if_neg (by simp)];refine(c _ _).trans ?_;rw[x6,C9,g,A8];rfl
   ·rw[if_neg k];have o:∀p:Nat,p<=s.length->∀(X:Option (PV × List Blk × Unit)),X=K6 LF LF s (p:Int) (B4 d) (λi f=>rv (.tup [.fl 1,.s (.int .i64 i)]) [.arr true 3 1 f,.arr true 3 1 []]) (λx f=>rv (.tup [.fl 2,.s (.int .i64 (3:Int))]) [.arr true 3 1 x,.arr false 3 1 f,.arr true 3 1 []]) (λi f=>rv (.tup [.s (.sl false false 1 i),.s (.int .i64 (0:Int))]) [.arr true 3 1 f]) (λl=>rv (.tup [.fl 0,.s (.int .i64 0)]) [.arr true 3 1 l])->
      ∃r H,X=rv r H/\r.stab [1,0] H = .tup [.s (.sl (G9 (s.drop p) d 128 0 72 true).1.isEmpty (G9 (s.drop p) d 128 0 72 true).1.isEmpty 1 (Lw (G9 (s.drop p) d 128 0 72 true).1)),.s (.int .i64 ((G9 (s.drop p) d 128 0 72 true).2:Nat))]:=by
     intro p J X t;rcases A55 s (by omega) p d (by omega) J with⟨j,n⟩|⟨j,u,n⟩|⟨j,n|⟨u,O,n⟩⟩
     ·refine⟨_,_,t.trans (n _ _ _ _ _),?_⟩;rw[j,Ct,De];simp[PV.stab,Oi,Qu,PV.snap,M0,Vv]
     ·refine⟨_,_,t.trans (n _ _ _ _ _),?_⟩;rw[j,De];have:(G9 (s.drop p) d 128 0 72 true).1.isEmpty=false:=by
       cases h:(G9 (s.drop p) d 128 0 72 true).1 with
       | nil=>exact absurd h u
       | cons a r=>rfl
      rw[this];rfl
     ·refine⟨_,_,t.trans (n _ _ _ _ _),?_⟩;rw[j];rfl
     ·refine⟨_,_,t.trans (n _ _ _ _ _),?_⟩;rw[j,u];rfl
    by_cases B:m=0
    ·subst B;rw[if_pos rfl];have:=o 0 (by omega) _ rfl;rw[j9] at this;obtain⟨r,H,v,w⟩:=this;refine⟨r,H,(e _ _ _).trans ?_,w⟩;rw[if_neg (by simp)];refine(c _ _).trans ?_;rw[x6,C9,g,A6,cond_false,A6,cond_false];exact v
    ·rw[if_neg B];obtain⟨r,H,v,w⟩:=o (m+1) (by omega) _ rfl;refine⟨r,H,(e _ _ _).trans ?_,w⟩;rw[if_neg (by simp)];refine(c _ _).trans ?_;have j:A1 ((m:Int)+1)=((m+1:Nat):Int):=by rw[A7];rfl
     rw[x6,C9,g,A6,cond_false,A8,cond_true,j];exact v
theorem Z0{R:Type}{d:LL->Option R}{e:By->Int->Int->Int->Int->LL->Option R}(s:By)(u:s.length<=1000000000)(n i m v c a:Nat)(l:LL)(q:a<m)(r:m<=4)(p:i+a<s.length)(w:v<=100000)(t:0<n) :
  Fi LF n s i m v c a l d e=if 128<=(s.getD (i+a) 0).toNat/\(s.getD (i+a) 0).toNat<=191 then Fi LF (n-1) s i m ((v*64+(s.getD (i+a) 0).toNat-128:Nat):Int) c ((a+1:Nat):Int) l d e else d l:=by
 have o:=(s.getD (i+a) 0).toNat_lt;obtain⟨n,rfl⟩:∃m,n=m+1:=⟨n-1,by omega⟩
 rw[Fi];have f:A1 ((i:Int)+a)=((i+a:Nat):Int):=by rw[A7];rfl
 have g:A1 ((a:Int)+1)=((a+1:Nat):Int):=by rw[A7];rfl
 rw[A8,f,g,E9,D1];generalize (s.getD (i+a) 0).toNat=b at *;simp only[cond_true,vl];rw[C7 (n:=(b:Int)) (by omega) (by omega),Nat.add_sub_cancel];by_cases j:b<128
 ·rw[A8,F7];rfl
 ·rw[A6,cond_false];by_cases k:191<b
  ·rw[A8,F7];rfl
  ·rw[A6,cond_false,P9];have h:A1 (A1 (A1 ((v:Int)*64)+(b:Int))-128)=((v*64+b-128:Nat):Int):=by
    rw[C7 (n:=(v:Int)*64) (by omega) (by omega),C7 (n:=(v:Int)*64+b) (by omega) (by omega),A7];omega
   rw[h]
theorem Oz{R:Type}{c:LL->Option R}{b:By->Int->Int->Int->Int->LL->Option R}(s:By)(n i m v a:Nat)(l:LL)(d:0<n) :
  Fi LF n s i m v a m l c b=b s i m v a l:=by
 obtain⟨n,rfl⟩:∃m,n=m+1:=⟨n-1,by omega⟩
 rw[Fi];rw[A6];rfl
theorem Qq{R:Type}{b:LL->Option R}{c:By->Int->LL->Option R}(s:By)(k:s.length<=1000000000)(i m v a:Nat)(P:List Nat)(e:P.length<=1000000000)(f:i+m<=s.length)(l:v<=10000000)(g:m<=4) :
  cond (ltI (v:Int) (a:Int)) (b (B4 P)) (cond (not (ptI v)) (b (B4 P)) (cond (F8 ((B4 P).length+1)) (c s (A1 ((i:Int)+m)) (B4 P++[[SV.int .i64 (v:Int)]])) none)) =
   if a<=v/\V0 v=true then c s ((i+m:Nat):Int) (B4 (P++[v])) else b (B4 P):=by
 have d:A1 ((i:Int)+m)=((i+m:Nat):Int):=by rw[A7];rfl
 rw[d,C9,F3 (by omega),Kc,show ptI (v:Int)=V0 v from rfl];by_cases h:v<a
 ·rw[A8,F7];rfl
 ·rw[A6,cond_false];cases j:V0 v with
  | false=>rw[if_neg (by simp)];rfl
  | true=>rw[if_pos ⟨by omega,rfl⟩];rfl
theorem Bw5{R:Type}{d:LL->Option R}{f:By->Int->LL->Option R}(s:By)(e:s.length<=1000000000)(i v a:Nat)(P:List Nat)(k:P.length<=1000000000)(m:i<s.length)(n:v<=32) :
  Dr LF s i 2 v a (B4 P) d f=if 2<=s.length-i/\128<=(s.getD (i+1) 0).toNat/\(s.getD (i+1) 0).toNat<=191 then
   (if a<=v*64+(s.getD (i+1) 0).toNat-128/\V0 (v*64+(s.getD (i+1) 0).toNat-128)=true then f s ((i+2:Nat):Int) (B4 (P++[v*64+(s.getD (i+1) 0).toNat-128])) else d (B4 P)) else d (B4 P):=by
 have l:=(s.getD (i+1) 0).toNat_lt;have j:=C4;unfold Dr;have g:A1 ((s.length:Int)-i)=((s.length-i:Nat):Int):=by rw[A7];omega
 rw[g];simp only[vl];by_cases h:s.length-i<2
 ·rw[A8,F7];rfl
 ·rw[A6,cond_false];refine a8 (Z0 s e LF i 2 v a 1 (B4 P) (by omega) (by omega) (by omega) (by omega) (by omega)) ?_;generalize (s.getD (i+1) 0).toNat=b at *;by_cases c:128<=b/\b<=191
  ·rw[if_pos c,if_pos ⟨by omega,c⟩];refine a8 (Oz s (LF-1) i 2 _ a (B4 P) (by omega)) ?_;exact Qq s e i 2 _ a P k (by omega) (by omega) (by omega)
  ·rw[if_neg c,if_neg (λh=>c h.2)]
theorem Bw6{R:Type}{e:LL->Option R}{f:By->Int->LL->Option R}(s:By)(d:s.length<=1000000000)(i v a:Nat)(P:List Nat)(k:P.length<=1000000000)(n:i<s.length)(o:v<=32) :
  Dr LF s i 3 v a (B4 P) e f=if 3<=s.length-i/\(128<=(s.getD (i+1) 0).toNat/\(s.getD (i+1) 0).toNat<=191)/\(128<=(s.getD (i+2) 0).toNat/\(s.getD (i+2) 0).toNat<=191) then
   (if a<=(v*64+(s.getD (i+1) 0).toNat-128)*64+(s.getD (i+2) 0).toNat-128/\V0 ((v*64+(s.getD (i+1) 0).toNat-128)*64+(s.getD (i+2) 0).toNat-128)=true then f s ((i+3:Nat):Int) (B4 (P++[(v*64+(s.getD (i+1) 0).toNat-128)*64+(s.getD (i+2) 0).toNat-128])) else e (B4 P)) else e (B4 P):=by
 have m:=(s.getD (i+1) 0).toNat_lt;have l:=(s.getD (i+2) 0).toNat_lt;have j:=C4;unfold Dr;have g:A1 ((s.length:Int)-i)=((s.length-i:Nat):Int):=by rw[A7];omega
 rw[g];simp only[vl];by_cases h:s.length-i<3
 ·rw[A8,F7];rfl
 ·rw[A6,cond_false];refine a8 (Z0 s d LF i 3 v a 1 (B4 P) (by omega) (by omega) (by omega) (by omega) (by omega)) ?_;by_cases b:128<=(s.getD (i+1) 0).toNat/\(s.getD (i+1) 0).toNat<=191
  ·rw[if_pos b];refine a8 (Z0 s d (LF-1) i 3 _ a 2 (B4 P) (by omega) (by omega) (by omega) (by omega) (by omega)) ?_;by_cases c:128<=(s.getD (i+2) 0).toNat/\(s.getD (i+2) 0).toNat<=191
   ·rw[if_pos c,if_pos ⟨by omega,b,c⟩];refine a8 (Oz s (LF-2) i 3 _ a (B4 P) (by omega)) ?_;exact Qq s d i 3 _ a P k (by omega) (by omega) (by omega)
   ·rw[if_neg c,if_neg (λh=>c h.2.2)]
  ·rw[if_neg b,if_neg (λh=>b h.2.1)]
theorem Bw7{R:Type}{f:LL->Option R}{g:By->Int->LL->Option R}(s:By)(e:s.length<=1000000000)(i v a:Nat)(P:List Nat)(l:P.length<=1000000000)(p:i<s.length)(q:v<=20) :
  Dr LF s i 4 v a (B4 P) f g=if 4<=s.length-i/\(128<=(s.getD (i+1) 0).toNat/\(s.getD (i+1) 0).toNat<=191)/\(128<=(s.getD (i+2) 0).toNat/\(s.getD (i+2) 0).toNat<=191)/\(128<=(s.getD (i+3) 0).toNat/\(s.getD (i+3) 0).toNat<=191) then
   (if a<=((v*64+(s.getD (i+1) 0).toNat-128)*64+(s.getD (i+2) 0).toNat-128)*64+(s.getD (i+3) 0).toNat-128/\V0 (((v*64+(s.getD (i+1) 0).toNat-128)*64+(s.getD (i+2) 0).toNat-128)*64+(s.getD (i+3) 0).toNat-128)=true then g s ((i+4:Nat):Int) (B4 (P++[((v*64+(s.getD (i+1) 0).toNat-128)*64+(s.getD (i+2) 0).toNat-128)*64+(s.getD (i+3) 0).toNat-128])) else f (B4 P)) else f (B4 P):=by
 have o:=(s.getD (i+1) 0).toNat_lt;have m:=(s.getD (i+2) 0).toNat_lt;have n:=(s.getD (i+3) 0).toNat_lt;have k:=C4;unfold Dr;have j:A1 ((s.length:Int)-i)=((s.length-i:Nat):Int):=by rw[A7];omega
 rw[j];simp only[vl];by_cases h:s.length-i<4
 ·rw[A8,F7];rfl
 ·rw[A6,cond_false];refine a8 (Z0 s e LF i 4 v a 1 (B4 P) (by omega) (by omega) (by omega) (by omega) (by omega)) ?_;by_cases b:128<=(s.getD (i+1) 0).toNat/\(s.getD (i+1) 0).toNat<=191
  ·rw[if_pos b];refine a8 (Z0 s e (LF-1) i 4 _ a 2 (B4 P) (by omega) (by omega) (by omega) (by omega) (by omega)) ?_;by_cases c:128<=(s.getD (i+2) 0).toNat/\(s.getD (i+2) 0).toNat<=191
   ·rw[if_pos c];refine a8 (Z0 s e (LF-2) i 4 _ a 3 (B4 P) (by omega) (by omega) (by omega) (by omega) (by omega)) ?_;by_cases d:128<=(s.getD (i+3) 0).toNat/\(s.getD (i+3) 0).toNat<=191
    ·rw[if_pos d,if_pos ⟨by omega,b,c,d⟩];refine a8 (Oz s (LF-3) i 4 _ a (B4 P) (by omega)) ?_;exact Qq s e i 4 _ a P l (by omega) (by omega) (by omega)
    ·rw[if_neg d,if_neg (λh=>d h.2.2.2)]
   ·rw[if_neg c,if_neg (λh=>c h.2.2.1)]
  ·rw[if_neg b,if_neg (λh=>b h.2.1)]
theorem A71{R:Type}{a:By->Int->Int->LL->Option R}(n:Nat)(b:0<n)(s:By)(i v:Int)(l:LL):Wt LF n s i v l a=a s i v l:=by
 obtain⟨n,rfl⟩:∃m,n=m+1:=⟨n-1,by omega⟩
 rw[Wt]
theorem A65{R:Type}{a:LL->Option R}{b:By->Int->LL->Option R}(s:By)(e:s.length<=1000000000)(i v:Nat)(P:List Nat)(d:P.length<=1000000000)(f:i<s.length)(g:v<128) :
  Ws LF s i v (B4 P) a b=b s ((i+1:Nat):Int) (B4 (P++[v])):=by
 unfold Ws;have c:A1 ((s.length:Int)-i)=((s.length-i:Nat):Int):=by rw[A7];omega
 rw[c];simp only[vl];rw[A6,cond_false];refine a8 (show _=cond (ltI (v:Int) ((0:Nat):Int)) (a (B4 P)) (cond (not (ptI v)) (a (B4 P)) (cond (F8 ((B4 P).length+1)) (b s (A1 ((i:Int)+(1:Nat))) (B4 P++[[SV.int .i64 (v:Int)]])) none)) from A71 LF (by have:=C4;omega) _ _ _ _) ?_;rw[Qq s e i 1 v 0 P d (by omega) (by omega) (by omega),if_pos];refine⟨ac9 _,?_⟩;simp only[V0,p7,aa9,p4,ad5];omega
theorem B98{v:Nat}(h:v<2048):V0 v=true:=by simp only[V0,p7,aa9,p4,ad5];omega
theorem A74{R:Type}{k0 k1:LL->Option R}(s:By)(h:s.length<=1000000000)(n i:Nat)(P:List Nat)(d:P.length<=1000000000)(f:i<s.length) :
  Z1 LF (n+1) s i (B4 P) k0 k1=if (v8 (s.drop i)).1=65533/\(v8 (s.drop i)).2=1 then k0 (B4 P) else Z1 LF n s ((i+(v8 (s.drop i)).2:Nat):Int) (B4 (P++[(v8 (s.drop i)).1])) k0 k1:=by
 have g:∀k,(s.drop i).getD k 0=s.getD (i+k) 0:=λk=>by grind
 have r:v8 (s.drop i)=y9 (s.length-i) (s.getD i 0).toNat (s.getD (i+1) 0).toNat (s.getD (i+2) 0).toNat (s.getD (i+3) 0).toNat:=by
  rw[Lib.decodeL_N,g,g,g,g,j7];rfl
 have v:=(s.getD i 0).toNat_lt;have j:=(s.getD (i+1) 0).toNat_lt;have m:=(s.getD (i+2) 0).toNat_lt;have t:=(s.getD (i+3) 0).toNat_lt;rw[r];rw[Z1,A8,E9,D1,C7 (n:=((s.getD i 0).toNat:Int)) (by omega) (by omega)];simp only[cond_true];generalize (s.getD i 0).toNat=b at *;by_cases l:b<128
 ·rw[A8,cond_true];have e:y9 (s.length-i) b (s.getD (i+1) 0).toNat (s.getD (i+2) 0).toNat (s.getD (i+3) 0).toNat=(b,1):=by unfold y9;rw[if_pos l]
  rw[e];simp only;rw[F7];exact A65 s h i b P d f l
 ·rw[E3 (show(128:Int)<=b by omega),cond_false];by_cases u:b<194
  ·rw[B5 (show(b:Int)<194 by omega)];have e:y9 (s.length-i) b (s.getD (i+1) 0).toNat (s.getD (i+2) 0).toNat (s.getD (i+3) 0).toNat=(65533,1):=by
    unfold y9;grind
   rw[e,if_pos ⟨rfl,rfl⟩];simp only[c9,cond_false];unfold Mg;unfold Me;rw[cond_false,B5 (show(b:Int)<224 by omega),B5 (show(b:Int)<240 by omega)];rfl
  ·rw[E3 (show(194:Int)<=b by omega)];simp only[j0,cond_true];by_cases o:b<224
   ·rw[B5 (show(b:Int)<224 by omega)];unfold Mg;have c:A1 ((b:Int)-192)=((b-192:Nat):Int):=by rw[A7];omega
    rw[cond_true,c,Dk9 _ _ _ _ _ ⟨by omega,o⟩ j];simp only[vl];refine a8 (Bw5 s h i (b-192) 128 P d f (by omega)) ?_;by_cases a:2<=s.length-i/\128<=(s.getD (i+1) 0).toNat/\(s.getD (i+1) 0).toNat<=191
    ·rw[if_pos a,if_pos a];simp only;rw[if_pos ⟨by omega,B98 (by omega)⟩,F7]
    ·rw[if_neg a,if_neg a,if_pos ⟨rfl,rfl⟩]
   ·rw[E3 (show(224:Int)<=b by omega)];unfold Mg;rw[cond_false,E3 (show(224:Int)<=b by omega)];simp only[j0,cond_true];by_cases p:b<240
    ·rw[B5 (show(b:Int)<240 by omega)];unfold Me;have c:A1 ((b:Int)-224)=((b-224:Nat):Int):=by rw[A7];omega
     rw[cond_true,c,Dl0 _ _ _ _ _ ⟨by omega,p⟩ j m];simp only[vl];refine a8 (Bw6 s h i (b-224) 2048 P d f (by omega)) ?_;by_cases a:3<=s.length-i/\(128<=(s.getD (i+1) 0).toNat/\(s.getD (i+1) 0).toNat<=191)/\(128<=(s.getD (i+2) 0).toNat/\(s.getD (i+2) 0).toNat<=191)
     ·rw[if_pos a,if_pos a];split
      ·simp only;rw[F7]
      ·rw[if_pos ⟨rfl,rfl⟩]
     ·rw[if_neg a,if_neg a,if_pos ⟨rfl,rfl⟩]
    ·rw[E3 (show(240:Int)<=b by omega)];unfold Me;rw[cond_false,E3 (show(240:Int)<=b by omega)];simp only[j0,cond_true];by_cases q:b<245
     ·rw[B5 (show(b:Int)<245 by omega),cond_true];have c:A1 ((b:Int)-240)=((b-240:Nat):Int):=by rw[A7];omega
      rw[c,Dl1 _ _ _ _ _ ⟨by omega,q⟩ j m t];simp only[vl];refine a8 (Bw7 s h i (b-240) 65536 P d f (by omega)) ?_;by_cases a:4<=s.length-i/\(128<=(s.getD (i+1) 0).toNat/\(s.getD (i+1) 0).toNat<=191)/\(128<=(s.getD (i+2) 0).toNat/\(s.getD (i+2) 0).toNat<=191)/\(128<=(s.getD (i+3) 0).toNat/\(s.getD (i+3) 0).toNat<=191)
      ·rw[if_pos a,if_pos a];split
       ·simp only;rw[F7]
       ·rw[if_pos ⟨rfl,rfl⟩]
      ·rw[if_neg a,if_neg a,if_pos ⟨rfl,rfl⟩]
     ·rw[E3 (show(245:Int)<=b by omega),cond_false];have e:y9 (s.length-i) b (s.getD (i+1) 0).toNat (s.getD (i+2) 0).toNat (s.getD (i+3) 0).toNat=(65533,1):=by
       unfold y9;grind
      rw[e,if_pos ⟨rfl,rfl⟩]
theorem Bw8(s:By)(k:s.length<=1000000000):∀(r i n:Nat) (P:List Nat),i+r=s.length->r<n->P.length<=i->
  (Ck (s.drop i)=none->∃l,∀(R:Type) (k0 k1:LL->Option R),Z1 LF n s i (B4 P) k0 k1=k0 l)/\
  (∀q,Ck (s.drop i)=some q->∀(R:Type) (k0 k1:LL->Option R),Z1 LF n s i (B4 P) k0 k1=k1 (B4 (P++q))):=by
 intro r
 induction r using ac4 with
 | _ r o=>
  intro i n P v w u;obtain⟨n,rfl⟩:∃m,n=m+1:=⟨n-1,by omega⟩
  by_cases j:i<s.length
  ·have d:s.drop i≠[]:=by rw[ne_eq,<-z7,j7];omega
   have c:=λ(R:Type) (k0 k1:LL->Option R)=>A74 (k0:=k0) (k1:=k1) s k n i P (by omega) j
   have x:=Lib.decodeL_width (s.drop i);have g:=Lib.decodeL_le (s.drop i) d;rw[j7] at g;rw[Bu2 _ d];by_cases a:(v8 (s.drop i)).1=65533/\(v8 (s.drop i)).2=1
   ·rw[if_pos a];refine⟨λ_=>⟨B4 P,λR k0 k1=>?_⟩,λq b=>by cases b⟩;refine(c R k0 k1).trans ?_;rw[if_pos a]
   ·rw[if_neg a,ab4];obtain⟨w1,t⟩:=o (r-(v8 (s.drop i)).2) (by omega) (i+(v8 (s.drop i)).2) n (P++[(v8 (s.drop i)).1]) (by omega) (by omega) (by rw[j2,s9];omega);constructor
    ·intro h;cases b:Ck (s.drop (i+(v8 (s.drop i)).2)) with
     | some q=>rw[b] at h;cases h
     | none=>
      obtain⟨l,e⟩:=w1 b;refine⟨l,λR k0 k1=>?_⟩;refine(c R k0 k1).trans ?_;rw[if_neg a];exact e R k0 k1
    ·intro q h R k0 k1;cases b:Ck (s.drop (i+(v8 (s.drop i)).2)) with
     | none=>rw[b] at h;cases h
     | some p=>
      rw[b] at h;simp only[ac5,s7] at h;subst h;refine(c R k0 k1).trans ?_;rw[if_neg a];refine(t p b R k0 k1).trans ?_;rw[w6];rfl
  ·have f:s.drop i=[]:=by rw[<-z7,j7];omega
   have e:∀(R:Type) (k0 k1:LL->Option R),Z1 LF (n+1) s i (B4 P) k0 k1=k1 (B4 P):=λR k0 k1=>by
    rw[Z1];rw[A6];rfl
   rw[f,show Ck []=some [] from rfl];refine⟨λh=>(by cases h),λq b R k0 k1=>?_⟩;simp only[s7] at b;subst b;rw[ab0];exact e R k0 k1
theorem Cz8(s:By)(d:A2 s.length=true):∃r H,Cz5 LF s (λa=>rv (.tup [.fl 1,.s (.bool false)]) [.arr true 3 1 a,.arr true 3 1 []]) (λa=>rv (.tup [.fl 0,.s (.bool true)]) [.arr true 3 1 a])=rv r H/\
  r.stab [1,0] H = .tup [.s (.sl (Qw s).isEmpty (Qw s).isEmpty 1 (Lw (Qw s))),.s (.bool (Ck s).isSome)]:=by
 have f:=L8 d;obtain⟨w1,c⟩:=Bw8 s f s.length 0 LF [] (by omega) (by have:=C4;omega) (ac9 _);rw[j9] at w1 c;unfold Qw;cases b:Ck s with
 | none=>
  obtain⟨l,e⟩:=w1 b;exact⟨_,_,e _ _ _,rfl⟩
 | some q=>
  refine⟨_,_,c q b _ _ _,?_⟩;cases q<;>rfl
theorem A62{R:Type}{a:Unit->Option R}{d:By->Bool->LL->Bool->Option R}(s:By)(z:Bool)(p:List Nat)(t:p.length<=1000000000):∀(r i n:Nat) (b:Bool),i+r=p.length->r<n->
  X9 LF n s z (B4 p) b (i:Int) a d=if (p.drop i).any (λp=>w8 65 p&&w8 p 90) then a () else d s z (B4 p) (b||((p.drop i).any λp=>w8 128 p)):=by
 intro r
 induction r with
 | zero=>
  intro i n b h j;obtain⟨n,rfl⟩:∃m,n=m+1:=⟨n-1,by omega⟩
  rw[X9];rw[C9,A6,j1 (by omega)];simp
 | succ r k=>
  intro i n b h j;obtain⟨n,rfl⟩:∃m,n=m+1:=⟨n-1,by omega⟩
  rw[X9];have f:A1 ((i:Int)+1)=((i+1:Nat):Int):=by rw[A7];rfl
  have g:p.drop i=p.getD i 0::p.drop (i+1):=by
   rw[j4,k9 (by omega),aa6,ac2]
  rw[C9,A8,E9,b8,Qf (by omega),Zp _ _ (by omega),g,ab9,ab9,f];simp only[cond_true];generalize p.getD i 0=q;have go:∀c:Bool,X9 LF n s z (B4 p) c ((i+1:Nat):Int) a d=_:=λc=>k (i+1) n c (by omega) (by omega)
  simp only[go];by_cases l:q<65
  ·rw[show ltI (q:Int) (65:Int)=true from A8,show w8 65 q=false by rw[j8,ne_eq,p4];omega];have e:w8 128 q=false:=by rw[j8,ne_eq,p4];omega
   rw[show ltI (q:Int) (128:Int)=true from A8,e];cases b<;>simp
  ·rw[show ltI (q:Int) (65:Int)=false from A6,show w8 65 q=true by rw[p4];omega];by_cases e:90<q
   ·rw[show ltI (90:Int) (q:Int)=true from A8,show w8 q 90=false by rw[j8,ne_eq,p4];omega];by_cases o:q<128
    ·rw[show ltI (q:Int) (128:Int)=true from A8,show w8 128 q=false by rw[j8,ne_eq,p4];omega];cases b<;>simp
    ·rw[show ltI (q:Int) (128:Int)=false from A6,show w8 128 q=true by rw[p4];omega];cases b<;>simp
   ·rw[show ltI (90:Int) (q:Int)=false from A6,show w8 q 90=true by rw[p4];omega];cases b<;>simp
theorem A63{R:Type}{a:Bool->Option R}(s:By)(b:A2 s.length=true):Bk7 LF s a=a (Dp s):=by
 have c:=C4;unfold Bk7 Dp;rw[b,cond_true];simp only[vl];by_cases h:(N5 s).2=0
 ·have e:(((N5 s).2:Int)!=(0:Int))=false:=by rw[h];rfl
  rw[e,cond_false,De,h];have g:=YU s;refine a8 (A62 s _ (N5 s).1 (by omega) (N5 s).1.length 0 LF false (by omega) (by omega)) ?_;rw[j9];cases d:(N5 s).1.any (λp=>w8 65 p&&w8 p 90) with
  | true=>simp
  | false=>
   rw[if_neg (by simp),Dm,Ur,Uu];simp only[cond_true,vl,ad2,j0];by_cases f:(Cv (N5 s).1).2=0;all_goals grind
 grind
theorem A43{R:Type}{g:Unit->Option R}{j:By->Option R}(s:By)(v:s.length<=1000000000):∀(r i n:Nat),i+r=s.length->r<n->
  O2 LF n s (i:Int) g j=if (s.drop i).all K8 then j s else g ():=by
 intro r
 induction r with
 | zero=>
  intro i n l c;obtain⟨n,rfl⟩:∃m,n=m+1:=⟨n-1,by omega⟩
  rw[O2];rw[A6,j1 (by omega)];rfl
 | succ r o=>
  intro i n l c;obtain⟨n,rfl⟩:∃m,n=m+1:=⟨n-1,by omega⟩
  rw[O2];have k:A1 ((i:Int)+1)=((i+1:Nat):Int):=by rw[A7];rfl
  rw[A8,E9,D1,D2 s i (by omega),k,aa7];simp only[cond_true];rw[o (i+1) n (by omega) (by omega)];generalize s.getD i 0=b;have f:=Bf b;have t:((b.toNat:Int)==45)=(b==45):=Q9 b 45 (by omega);have u:((b.toNat:Int)==95)=(b==95):=Q9 b 95 (by omega);rw[t,u];cases a:K8 b with
  | true=>
   rw[f] at a;simp only[y5];by_cases d:b=45
   ·subst d;simp (disch:=decide) [ltI]
   ·by_cases e:b=95
    ·subst e;simp (disch:=decide) [ltI]
    ·rcases a with a|a|a|a
     ·rw[show ltI (b.toNat:Int) 97=false from A6,show ltI (122:Int) b.toNat=false from A6];rfl
     ·rw[show ltI (b.toNat:Int) 97=true from A8,show ltI (b.toNat:Int) 48=false from A6,show ltI (57:Int) b.toNat=false from A6];rfl
     ·exact absurd a d
     ·exact absurd a e
  | false=>
   have c:¬((97<=b.toNat/\b.toNat<=122)\/(48<=b.toNat/\b.toNat<=57)\/b=45\/b=95):=λh=>by rw[f.2 h] at a;cases a
   have p:(b==45)=false:=by simpa using λh=>c (.inr (.inr (.inl h)))
   have q:(b==95)=false:=by simpa using λh=>c (.inr (.inr (.inr h)))
   rw[p,q];simp only[j0,cond_true,cond_false,Bool.false_and,ad3,if_false];by_cases d:b.toNat<48
   ·rw[show ltI (b.toNat:Int) 97=true from A8,show ltI (b.toNat:Int) 48=true from A8];rfl
   ·by_cases e:b.toNat<97
    ·rw[show ltI (b.toNat:Int) 97=true from A8,show ltI (b.toNat:Int) 48=false from A6,show ltI (57:Int) b.toNat=true from A8];rfl
    ·rw[show ltI (b.toNat:Int) 97=false from A6,show ltI (122:Int) b.toNat=true from A8,show ltI (b.toNat:Int) 48=false from A6,show ltI (57:Int) b.toNat=true from A8];rfl
theorem Ci2(s:By)(h:4<=s.length):(s.take 4==([120,110,45,45]:List UInt8))=xnB.isPrefixOf s:=by
 match s,h with
 | a::b::c::d::t,_=>
  simp only[List.take_succ_cons,List.take_zero,xnB,af1,x9];rw[show((a::b::c::d::[])==([120,110,45,45]:List UInt8))=(a==120&&(b==110&&(c==45&&(d==45&&true)))) from rfl,x9];rw[ac3];simp only[p7,beq_iff_eq];exact⟨λh=>⟨h.1.symm,h.2.1.symm,h.2.2.1.symm,h.2.2.2.symm⟩,λh=>⟨h.1.symm,h.2.1.symm,h.2.2.1.symm,h.2.2.2.symm⟩⟩
theorem A44{R:Type}{c:Bool->Option R}(s:By)(e:A2 s.length=true):Bk3 LF s c=c (J6 s):=by
 have k:=L8 e;have i:=C4;unfold Bk3 J6;by_cases a:s=[]
 ·grind
 ·have r:0<s.length:=x8.2 a;have j:s.isEmpty=false:=by simpa using a
  have b:(s==([]:List UInt8))=false:=by simpa using a
  rw[b,cond_false,j];by_cases n:63<s.length
  ·rw[A8,show w8 s.length 63=false by rw[j8,ne_eq,p4];omega];rfl
  ·rw[A6,cond_false,show w8 s.length 63=true by rw[p4];omega,E9];have m:(bAt s 0==(45:Int))=(s.getD 0 0==45):=by rw[Ag];exact Q9 _ 45 (by omega)
   have d:A1 ((s.length:Int)-1)=((s.length-1:Nat):Int):=by rw[A7];omega
   rw[m,d];simp only[cond_true,vl];rw[E9,D1,show((((s.getD (s.length-1) 0).toNat:Nat):Int)==45)=(s.getD (s.length-1) 0==45) from Q9 _ 45 (by omega)];cases f:(s.getD 0 0==45) with
   | true=>
    grind
   | false=>
    rw[show(s.getD 0 0 !=45)=true by unfold bne;rw[f];rfl];simp only[cond_true,cond_false];cases g:(s.getD (s.length-1) 0==45) with
    | true=>
     grind
    | false=>
     rw[show(s.getD (s.length-1) 0 !=45)=true by unfold bne;rw[g];rfl];simp only[cond_false];refine a8 (A43 s k s.length 0 LF (by omega) (by omega)) ?_;rw[j9];cases o:s.all K8 with
     | false=>simp
     | true=>
      rw[if_pos rfl];simp only[j0,y5,x9];by_cases p:s.length<4
      ·rw[A8];have:xnB.isPrefixOf s=false:=by
        rw[j8,ne_eq,ab5];intro h;have:=h.length_le;simp only[xnB,p5,w9] at this;omega
       grind
      ·rw[A6,cond_false,I4,cond_true,K4];have l:(aa4 (b9 4) s==([120,110,45,45]:List UInt8))=xnB.isPrefixOf s:=Ci2 s (by omega);rw[l];cases q:xnB.isPrefixOf s with
       | false=>rfl
       | true=>
        rw[I4,R0];simp only[c9,cond_false,cond_true];rw[D6 (by rw[j7];omega)];rfl
theorem A41{R:Type}{h:By->Int->Option R}(s:By)(c:A2 s.length=true):Bk2 LF s h=h (H6 s).1 ((H6 s).2:Nat):=by
 have m:=L8 c;have j:=C4;unfold Bk2 H6;rw[c,cond_true];cases f:Ck s with
 | none=>rfl
 | some p=>
  have hN:(Qw s)=p:=by unfold Qw;rw[f];rfl
  rw[hN,De,C9];simp only[ad6,c9,cond_false,cond_true];by_cases d:256<p.length
  ·rw[if_pos d,A8];rfl
  ·rw[if_neg d,A6,cond_false,D6 (by rw[Y7];exact m)];by_cases e:p.length<s.length
   ·rw[if_pos e,A8];have a:=Ad1 (l:=s) (by rw[f];rfl);cases g:Ck (B3 s) with
    | none=>rw[g] at a;cases a
    | some q=>
     have b:Qw (B3 s)=q:=by unfold Qw;rw[g];rfl
     have k:=ZC q;rw[b,De,Dm,Ur,Uu];simp only[cond_true,vl];rw[J8 (by omega),cond_true,D6 (by rw[j2];simp only[p5,w9];omega),cond_true];by_cases i:(Cv q).2=0
     ·rw[i,if_pos rfl];show cond (not (J6 (xnB++(Cv q).1))) _ _=_;cases n:J6 (xnB++(Cv q).1) with
      | true=>rfl
      | false=>rfl
     grind
   ·rw[if_neg e,A6];grind
section
variable {Z R : Type} (L : Nat) (Q : G1) (Y : Yh Z) (s : Z) (k : Out -> St Z -> Option R)
noncomputable abbrev GP:Code:=C6 ae2
noncomputable def Ra(L:Nat):Cfg:=B6 L [115] (A3 []) [] (A3 [(7,[2]),(2,[2]),(4,[2]),(6,[2]),(5,[0,23]),(3,[0,12]),(1,[0,2]),(0,[0])]) [] (A3 [(0,[])]) (some [2]) [] [] []
noncomputable def JR{R:Type}(a:Int)(h:Bool)(f:Int->Option R)(g:Int->Bool->Option R):Option R:=cond h (vl (A1 (wu8 (a-97))) λb=>vl (A1 (b+10)) λc=>f c) (cond (not (ltI a 65)) (cond (not (ltI 70 a)) (vl (A1 (wu8 (a-65))) λd=>vl (A1 (d+10)) λe=>f e) (g a (not (ltI 70 a)))) (g a false))
abbrev Ae3(b:Code):Prop:=∀(k:Out->St Z->Option R) a c,A9 (Ra L) Q Y b ⟨gp [(0,p8 a),(12,pB c)] 21,[],s⟩ k=JR a c (λn0=>k .ret ⟨gp [(2,pI n0)] 32,[],s⟩) (λa c=>k .normal ⟨gp [(0,p8 a),(23,pB c)] 10,[],s⟩)
theorem Bv5:Ae3 (R:=R) L Q Y s (cd [1,0,0,1,1,1] GP):=by intro k a b;unfold JR;kernel_rfl
noncomputable def JS{R:Type}(b:Int)(l:Bool)(f:Int->Option R)(j:Int->Bool->Option R):Option R:=cond l (vl (A1 (wu8 (b-48))) λg=>f g) (cond (not (ltI b 97)) (JR b (not (ltI 102 b)) (λh=>f h) (λc d=>j c d)) (JR b false (λi=>f i) (λe a=>j e a)))
abbrev JT(b:Code):Prop:=∀(k:Out->St Z->Option R) a c,A9 (Ra L) Q Y b ⟨gp [(0,p8 a),(2,pB c)] 31,[],s⟩ k=JS a c (λn0=>k .ret ⟨gp [(2,pI n0)] 32,[],s⟩) (λa c=>k .normal ⟨gp [(0,p8 a),(23,pB c)] 10,[],s⟩)
theorem Bv6(a:Code)(b:Ae3 (R:=R) L Q Y s a):JT (R:=R) L Q Y s (cd [1,0,0,1] (G3 [1,0,0,1,1,1] a GP)):=by intro k c d;unfold JS;simp only[<-b k];kernel_rfl
theorem Bv7:JT (R:=R) L Q Y s (cd [1,0,0,1] GP):=by intro k a b;exact a8 (by kernel_rfl) (Bv6 L Q Y s (cd [1,0,0,1,1,1] GP) (Bv5 L Q Y s) k a b)
noncomputable def rhx{R:Type}(L:Nat)(c:Int)(d:Int->Option R):Option R:=cond (not (ltI c 48)) (JS c (not (ltI 57 c)) (λa=>d a) (λe f=>d (-1))) (JS c false (λb=>d b) (λg h=>d (-1)))
theorem Dc1(b:Code)(a:JT (R:=PV × List Blk × Z) L Q Y s b)(c:Int):A9 (Ra L) Q Y (cd [] (G3 [1,0,0,1] b GP)) ⟨[p8 c]++tps 34,[],s⟩ (F5 (Ra L) ae2)=rhx L c (λe=>some (pI e,[],s)):=by unfold rhx;exact let d:=(E6 0 (E5 (Ra L) Q Y (cd [1,1] GP) (F5 (Ra L) ae2)));(a8 (by kernel_rfl) (A0 ((a d c (not (ltI 57 c))).trans (by kernel_rfl)) ((a d c false).trans (by kernel_rfl))))
theorem Dc2(d:Nat)(b0):evC (Ra L) (d+1) Z Y 115 [p8 b0] [] s=rhx L b0 (λa=>some (pI a,[],s)):=
 (evE (fn:=ae2) (by kernel_rfl)).trans (a8 (by kernel_rfl) (Dc1 L (evC (Ra L) d) Y s (cd [1,0,0,1] GP) (Bv7 L (evC (Ra L) d) Y s) b0))
noncomputable abbrev Bg0:Code:=C6 ag4
noncomputable def Lf(L:Nat):Cfg:=B6 L [85] (A3 [(3,[0,1,0,0,0])]) [(115,C61)] (A3 [(11,[2,0]),(4,[0,3,0]),(10,[0,3,0]),(9,[0,3,0]),(8,[2,0]),(7,[0,3,0,36]),(6,[0,3,0]),(5,[0,3,0,9]),(3,[0,3,0,3]),(2,[0,3,0]),(1,[0,3]),(0,[0])]) [115] (A3 [(0,[4]),(1,[0,3,0])]) (some [2,0]) [] [] []
noncomputable def P0{R:Type}(L n:Nat)(b:By)(a:Int)(c:LL)(d:LL->Option R)(j:LL->Option R):Option R:=match n with|0=>none|n+1=>cond (ltI a (b.length:Int)) (cond (inR a b.length) (cond ((bAt b a)!=37) (cond (inR a b.length) (cond (F8 (c.length+1)) (P0 L n b (A1 (a+1)) (c++[[(SV.int .u8 (bAt b a))]]) d j) none) none) (vl (A1 ((b.length:Int)-a)) λl=>cond (ltI l 3) (d c) (cond (inR (A1 (a+1)) b.length) (vl (bAt b (A1 (a+1))) λf=>cond (inR f 256) (cond (ltI (Eu (u8n f)) (0:Int)) (d c) (cond (inR (A1 (a+2)) b.length) (vl (bAt b (A1 (a+2))) λg=>cond (inR g 256) (cond (ltI (Eu (u8n g)) (0:Int)) (d c) (cond (inR (A1 (a+1)) b.length) (vl (bAt b (A1 (a+1))) λh=>cond (inR h 256) (vl (A1 ((16:Int)*(Eu (u8n h)))) λm=>cond (inR (A1 (a+2)) b.length) (vl (bAt b (A1 (a+2))) λi=>cond (inR i 256) (vl (A1 (m+(Eu (u8n i)))) λo=>cond (F8 (c.length+1)) (vl (A1 ((A1 (a+2))+1)) λe=>P0 L n b e (c++[[(SV.int .u8 (wu8 o))]]) d j) none) none) none) none) none)) none) none)) none) none))) none) (j c)
theorem Ae2(n s0 i1 l2):D0 1 ((Lf L).keep 3) (bd (Lf L) Q Y (cd [1,1,0,1,0,0] Bg0)) n ⟨gp [(0,pS s0),(3,.fl 0),(0,pI i1)] 57,[.arr true 5 1 l2],s⟩ k =
 P0 L n s0 i1 l2 (λa=>k .ret ⟨gp [(2,pS ([]:List UInt8)),(0,pB false)] 59,[.arr true 5 1 a],s⟩) (λa=>k (.exit 0) ⟨gp [(4,.fl 0)] 58,[.arr true 5 1 a],s⟩):=by
 induction n generalizing s0 i1 l2 with
 | zero=>rfl
 | succ n b=>rw[P0];simp only[<-b];kernel_rfl
noncomputable def Bk1{R:Type}(L:Nat)(d:By)(c:By->Bool->LL->Option R):Option R:=P0 L L d 0 [] (λb=>c ([]:List UInt8) false b) (λa=>cond (ac0 a Nn) (c (aa1 Lk a) true a) none)
theorem Cf0(d:Nat)(s0):evC (Lf L) (d+1) Z Y 85 [pS s0] [] s=Bk1 L s0 (λb c a=>some (.tup [pS b,pB c],[.arr true 5 1 a],s)):=by refine(evE (fn:=ag4) (by kernel_rfl)).trans ?_;generalize evC (Lf L) d=Q;unfold Bk1;exact(a8 (by kernel_rfl) ((Ae2 L Q Y s (E6 0 (E5 (Lf L) Q Y (cd [1,1,1] Bg0) (F5 (Lf L) ag4))) L s0 0 []).trans (by kernel_rfl)))
noncomputable def Wp{R:Type}(L n:Nat)(b:LL)(a:Int)(c:Unit->Option R)(d:Unit->Option R):Option R:=match n with|0=>none|n+1=>cond (ltI a (b.length:Int)) (cond (inR a b.length) (cond (okE Pe b (b9 a) 0) (cond (A2 (j5 (gX b (b9 a) 0))) (cond (not (J6 (gX b (b9 a) 0))) (c ()) (Wp L n b (A1 (a+1)) c d)) none) none) none) (d ())
noncomputable def Dj5{R:Type}(L:Nat)(a:By)(b:Bool->Option R):Option R:=cond (a==[]) (b false) (cond (ltI 253 (a.length:Int)) (b false) (cond (A2 a.length) (cond (E7 a) (b false) (cond (A2 a.length) (vl (D4 (pcs (u8n (46:Int)) a)) λc=>Wp L L c 0 (λ_=>b false) (λ_=>b true)) none)) none))
end
section
variable {Z R : Type} (L : Nat) (Q : G1) (Y : Yh Z) (s : Z) (k : Out -> St Z -> Option R)
noncomputable abbrev R6:Code:=C6 af6
noncomputable def K3(L:Nat):Cfg:=B6 L [63] (A3 [(23,[2,0,6,0,0])]) [(84,B40),(85,Be3),(86,FQ),(87,Be7),(88,Nu),(89,Be4)] (A3 [(35,[2,0]),(34,[2,0]),(33,[2,7,108]),(32,[2,0]),(31,[2,7,105]),(24,[2,7,0,0]),(30,[2,7,0,0]),(29,[2,7,0,0,0]),(28,[2,7,0,0,0,94]),(27,[2,0]),(26,[2,7,0,0,0,0,89]),(25,[2,7,0,0,0,0]),(23,[2,7,0,0,79]),(22,[2,7,0,0]),(21,[2,7,0]),(20,[2,3,3]),(19,[2,0]),(18,[2,0]),(17,[2,5,74]),(16,[2,5,0]),(15,[2,3,69]),(14,[2,3]),(13,[2,3,62]),(12,[2,0]),(11,[2,3,51]),(10,[2,3,0]),(9,[2,0]),(8,[2,0]),(7,[2,1,43]),(6,[2,1,0]),(5,[2,0]),(4,[0,1,33]),(3,[0,1,22]),(2,[2,0]),(1,[0,1,14]),(0,[0,1])]) [85,86,87,89] (A3 [(0,[2,7]),(1,[2,7,0,0])]) (some [2,0]) [] [] []
noncomputable def Gx{R:Type}(b:By)(e:Bool)(f:Unit->Option R)(g:Int->Int->Int->Int->Int->Int->Int->Int->Int->Int->LL->Option R)(h:By->Bool->Option R):Option R:=cond e (vl (A1 ((b.length:Int)-1)) λd=>cond (inR d b.length) (cond ((bAt b d)!=93) (f ()) (cond (ltI (b.length:Int) (2:Int)) (f ()) (vl (A1 ((b.length:Int)-1)) λc=>cond (I7 1 c b.length) (vl (cut b 1 c) λa=>cond (A2 a.length) (cond (not (aa8 (v6B a))) (g 14 0 0 0 0 0 0 0 0 0 [[(SV.int .u16 (↑(v6c 0 a):Int))],[(SV.int .u16 (↑(v6c 1 a):Int))],[(SV.int .u16 (↑(v6c 2 a):Int))],[(SV.int .u16 (↑(v6c 3 a):Int))],[(SV.int .u16 (↑(v6c 4 a):Int))],[(SV.int .u16 (↑(v6c 5 a):Int))],[(SV.int .u16 (↑(v6c 6 a):Int))],[(SV.int .u16 (↑(v6c 7 a):Int))]]) (g 0 3 (↑(v6c 0 a):Int) (↑(v6c 1 a):Int) (↑(v6c 2 a):Int) (↑(v6c 3 a):Int) (↑(v6c 4 a):Int) (↑(v6c 5 a):Int) (↑(v6c 6 a):Int) (↑(v6c 7 a):Int) [[(SV.int .u16 (↑(v6c 0 a):Int))],[(SV.int .u16 (↑(v6c 1 a):Int))],[(SV.int .u16 (↑(v6c 2 a):Int))],[(SV.int .u16 (↑(v6c 3 a):Int))],[(SV.int .u16 (↑(v6c 4 a):Int))],[(SV.int .u16 (↑(v6c 5 a):Int))],[(SV.int .u16 (↑(v6c 6 a):Int))],[(SV.int .u16 (↑(v6c 7 a):Int))]])) none) none))) none) (h b e)
abbrev Wm(b:Code):Prop:=∀(k:Out->St Z->Option R) a c,A9 (K3 L) Q Y b ⟨gp [(0,pS a),(1,.ptr 0 0 0),(22,pB c)] 97,[.box [pI (0:Int),pS ([]:List UInt8),p32 (0:Int),p16 (0:Int),p16 (0:Int),p16 (0:Int),p16 (0:Int),p16 (0:Int),p16 (0:Int),p16 (0:Int),p16 (0:Int)]],s⟩ k=Gx a c (λ_=>k .ret ⟨gp [(2,.ptr 0 0 0),(0,pI (14:Int))] 119,[.box [pI (0:Int),pS ([]:List UInt8),p32 (0:Int),p16 (0:Int),p16 (0:Int),p16 (0:Int),p16 (0:Int),p16 (0:Int),p16 (0:Int),p16 (0:Int),p16 (0:Int)]],s⟩) (λn0 d e f g h i j n8 l l10=>k .ret ⟨gp [(2,.ptr 0 0 0),(0,pI n0)] 119,[.box [pI d,pS ([]:List UInt8),p32 (0:Int),p16 e,p16 f,p16 g,p16 h,p16 i,p16 j,p16 n8,p16 l],.arr false 25 1 l10],s⟩) (λa c=>k .normal ⟨gp [(0,pS a),(1,.ptr 0 0 0),(22,pB c)] 97,[.box [pI (0:Int),pS ([]:List UInt8),p32 (0:Int),p16 (0:Int),p16 (0:Int),p16 (0:Int),p16 (0:Int),p16 (0:Int),p16 (0:Int),p16 (0:Int),p16 (0:Int)]],s⟩)
theorem LN:Wm (R:=R) L Q Y s (cd [1,1,0,1] R6):=by intro k a b;unfold Gx;kernel_rfl
noncomputable def J0{R:Type}(L n:Nat)(a:By)(e:LL)(c:Int)(g:Int->Option R)(h:By->Option R):Option R:=match n with|0=>none|n+1=>cond (ltI c (e.length:Int)) (cond (inR c e.length) (cond (okE Pe e (b9 c) 0) (cond (A2 (j5 (gX e (b9 c) 0))) (vl ((H6 (gX e (b9 c) 0))).1 λb=>vl (↑((H6 (gX e (b9 c) 0))).2:Int) λd=>cond (d !=0) (g d) (cond (ltI 0 c) (cond (J7 a.length 1) (vl (a++[46]) λf=>cond (J7 f.length b.length) (J0 L n (f++b) e (A1 (c+1)) g h) none) none) (cond (J7 a.length b.length) (J0 L n (a++b) e (A1 (c+1)) g h) none))) none) none) none) (h a)
theorem Rg(n a p1 i2):D0 1 ((K3 L).keep 23) (bd (K3 L) Q Y (cd [1,1,1,1,1,1,1,1,1,0,1,0,0] R6)) n ⟨gp [(2,.ptr 0 0 0),(7,pS a),(0,.s (.sl false false 1 p1)),(0,pI i2)] 110,[.box [pI (0:Int),pS ([]:List UInt8),p32 (0:Int),p16 (0:Int),p16 (0:Int),p16 (0:Int),p16 (0:Int),p16 (0:Int),p16 (0:Int),p16 (0:Int),p16 (0:Int)]],s⟩ k =
 J0 L n a p1 i2 (λn0=>k .ret ⟨gp [(2,.ptr 0 0 0),(0,pI n0)] 119,[.box [pI (0:Int),pS ([]:List UInt8),p32 (0:Int),p16 (0:Int),p16 (0:Int),p16 (0:Int),p16 (0:Int),p16 (0:Int),p16 (0:Int),p16 (0:Int),p16 (0:Int)]],s⟩) (λa=>k (.exit 0) ⟨gp [(2,.ptr 0 0 0),(7,pS a)] 112,[.box [pI (0:Int),pS ([]:List UInt8),p32 (0:Int),p16 (0:Int),p16 (0:Int),p16 (0:Int),p16 (0:Int),p16 (0:Int),p16 (0:Int),p16 (0:Int),p16 (0:Int)]],s⟩):=by
 induction n generalizing a p1 i2 with
 | zero=>rfl
 | succ n b=>rw[J0];simp only[<-b];kernel_rfl
noncomputable def Dg{R:Type}(L:Nat)(b:By)(c:Int->Int->By->Int->Option R):Option R:=cond (A2 b.length) (cond (E7 b) (cond (A2 b.length) (cond (not (aa8 (pnB b))) (c 14 0 ([]:List UInt8) 0) (c 0 2 ([]:List UInt8) (↑(N0 (pnB b)):Int))) none) (cond (A2 b.length) (vl (D4 (pcs (u8n (46:Int)) b)) λd=>J0 L L ([]:List UInt8) d 0 (λe=>c e 0 ([]:List UInt8) 0) (λa=>cond (ltI 253 (a.length:Int)) (c 3 0 ([]:List UInt8) 0) (cond (A2 a.length) (cond (E7 a) (c 14 0 ([]:List UInt8) 0) (c 0 1 a 0)) none))) none)) none
abbrev Wn(b:Code):Prop:=∀(k:Out->St Z->Option R) s0,A9 (K3 L) Q Y b ⟨gp [(2,.ptr 0 0 0),(3,pS s0)] 116,[.box [pI (0:Int),pS ([]:List UInt8),p32 (0:Int),p16 (0:Int),p16 (0:Int),p16 (0:Int),p16 (0:Int),p16 (0:Int),p16 (0:Int),p16 (0:Int),p16 (0:Int)]],s⟩ k=Dg L s0 (λn0 a d c=>k .ret ⟨gp [(2,.ptr 0 0 0),(0,pI n0)] 119,[.box [pI a,pS d,p32 c,p16 (0:Int),p16 (0:Int),p16 (0:Int),p16 (0:Int),p16 (0:Int),p16 (0:Int),p16 (0:Int),p16 (0:Int)]],s⟩)
theorem LP:Wn (R:=R) L Q Y s (cd [1,1,1,1,1,1] R6):=by intro k b;unfold Dg;exact(a8 (by kernel_rfl) (A0 (A0 (A0 (A0 rfl rfl) rfl) (A0 (A4 λa=>((Rg L Q Y s (E6 0 (E5 (K3 L) Q Y (cd [1,1,1,1,1,1,1,1,1,1] R6) k)) L ([]:List UInt8) a 0).trans (by kernel_rfl))) rfl)) rfl))
noncomputable def Mc{R:Type}(L:Nat)(b:By)(c:Int->Int->By->Int->Option R):Option R:=cond (A2 b.length) (cond (E7 b) (cond (A2 b.length) (cond (not (aa8 (pnB b))) (c 14 0 ([]:List UInt8) 0) (c 0 2 ([]:List UInt8) (↑(N0 (pnB b)):Int))) none) (cond (A2 b.length) (vl (D4 (pcs (u8n (46:Int)) b)) λd=>J0 L L ([]:List UInt8) d 0 (λe=>c e 0 ([]:List UInt8) 0) (λa=>cond (ltI 253 (a.length:Int)) (c 3 0 ([]:List UInt8) 0) (cond (A2 a.length) (cond (E7 a) (c 14 0 ([]:List UInt8) 0) (c 0 1 a 0)) none))) none)) none
abbrev Wo(b:Code):Prop:=∀(k:Out->St Z->Option R) s0 b1,A9 (K3 L) Q Y b ⟨gp [(2,.ptr 0 0 0),(3,pS s0),(62,pB b1)] 53,[.box [pI (0:Int),pS ([]:List UInt8),p32 (0:Int),p16 (0:Int),p16 (0:Int),p16 (0:Int),p16 (0:Int),p16 (0:Int),p16 (0:Int),p16 (0:Int),p16 (0:Int)]],s⟩ k=Mc L s0 (λn0 a d c=>k .ret ⟨gp [(2,.ptr 0 0 0),(0,pI n0)] 119,[.box [pI a,pS d,p32 c,p16 (0:Int),p16 (0:Int),p16 (0:Int),p16 (0:Int),p16 (0:Int),p16 (0:Int),p16 (0:Int),p16 (0:Int)]],s⟩)
theorem LS:Wo (R:=R) L Q Y s (cd [1,1,1,1,1,1] R6):=by intro k c b;unfold Mc;exact(a8 (by kernel_rfl) (A0 (A0 (A0 (A0 rfl rfl) rfl) (A0 (A4 λa=>((Rg L Q Y s (E6 0 (E5 (K3 L) Q Y (cd [1,1,1,1,1,1,1,1,1,1] R6) k)) L ([]:List UInt8) a 0).trans (by kernel_rfl))) rfl)) rfl))
noncomputable def Dh{R:Type}(L:Nat)(a:By)(r:Int->Int->By->Int->Option R):Option R:=cond (A2 a.length) (cond (not (aa8 (Q7 a))) (r 14 0 ([]:List UInt8) 0) (cond (not ((Fb a)==[])) (vl (A1 ((↑(j5 (Fb a)):Int)-1)) λb=>cond (inR b (j5 (Fb a))) (cond ((bAt (Fb a) b)==46) (vl (A1 ((↑(j5 (Fb a)):Int)-1)) λc=>cond (I7 0 c (j5 (Fb a))) (vl (cut (Fb a) (0:Int) c) λn=>Dg L n (λd e o f=>r d e o f)) none) (Mc L (Fb a) (λg h p i=>r g h p i))) none) (Mc L (Fb a) (λj l q m=>r j l q m)))) none
abbrev Md(b:Code):Prop:=∀(k:Out->St Z->Option R) raw0 b1,A9 (K3 L) Q Y b ⟨gp [(0,pS raw0),(1,.ptr 0 0 0),(22,pB b1)] 97,[.box [pI (0:Int),pS ([]:List UInt8),p32 (0:Int),p16 (0:Int),p16 (0:Int),p16 (0:Int),p16 (0:Int),p16 (0:Int),p16 (0:Int),p16 (0:Int),p16 (0:Int)]],s⟩ k=Dh L raw0 (λn0 a d c=>k .ret ⟨gp [(2,.ptr 0 0 0),(0,pI n0)] 119,[.box [pI a,pS d,p32 c,p16 (0:Int),p16 (0:Int),p16 (0:Int),p16 (0:Int),p16 (0:Int),p16 (0:Int),p16 (0:Int),p16 (0:Int)]],s⟩)
theorem LT(b:Code)(c:Wn (R:=R) L Q Y s b)(a:Wo (R:=R) L Q Y s b):Md (R:=R) L Q Y s (cd [1,1,1] (G3 [1,1,1,1,1,1] b R6)):=by intro k d h;unfold Dh;exact(a8 (by kernel_rfl) (A0 (A0 rfl (A0 (A4 λe=>(A0 (A0 (A4 λg=>(A0 (A4 λf=>((c k f).trans (by kernel_rfl))) rfl)) ((a k (Fb d) ((bAt (Fb d) e)==46)).trans (by kernel_rfl))) rfl)) ((a k (Fb d) false).trans (by kernel_rfl)))) rfl))
theorem LU:Md (R:=R) L Q Y s (cd [1,1,1] R6):=by intro k a b;exact a8 (by kernel_rfl) (LT L Q Y s (cd [1,1,1,1,1,1] R6) (LP L Q Y s) (LS L Q Y s) k a b)
noncomputable def Wl{R:Type}(L:Nat)(a:By)(j:Int->By->Int->Int->Int->By->Int->Option R)(O:Int->Int->Int->Int->Int->Int->Int->Int->Int->Int->LL->Option R):Option R:=cond (ltI 1024 (a.length:Int)) (j 0 ([]:List UInt8) 0 3 0 ([]:List UInt8) 0) (cond (not (a==[])) (cond (inR 0 a.length) (Gx a ((bAt a (0:Int))==91) (λ_=>j 0 ([]:List UInt8) 0 14 0 ([]:List UInt8) 0) (λn o p q r t u v w x l=>O o p q r t u v w x n l) (λb M=>Dh L b (λy d h e=>j d h e y d h e))) none) (Gx a false (λ_=>j 0 ([]:List UInt8) 0 14 0 ([]:List UInt8) 0) (λz A B C D F G H I J m=>O A B C D F G H I J z m) (λc N=>Dh L c (λK f i g=>j f i g K f i g))))
theorem A38(e:Code)(a:Wm (R:=PV × List Blk × Z) L Q Y s e)(d:Code)(b:Md (R:=PV × List Blk × Z) L Q Y s d)(c:By):A9 (K3 L) Q Y (cd [] (G3 [1,1,1] d (G3 [1,1,0,1] e R6))) ⟨[pS c]++tps 122,[],s⟩ (F5 (K3 L) af6)=Wl L c (λj l m n v y w=>some (.tup [.agg [pI j,pS l,p32 m,p16 (0:Int),p16 (0:Int),p16 (0:Int),p16 (0:Int),p16 (0:Int),p16 (0:Int),p16 (0:Int),p16 (0:Int)],pI n],[.box [pI v,pS y,p32 w,p16 (0:Int),p16 (0:Int),p16 (0:Int),p16 (0:Int),p16 (0:Int),p16 (0:Int),p16 (0:Int),p16 (0:Int)]],s)) (λj l m n q r t u r8 x l10=>some (.tup [.agg [pI j,pS ([]:List UInt8),p32 (0:Int),p16 l,p16 m,p16 n,p16 q,p16 r,p16 t,p16 u,p16 r8],pI x],[.box [pI j,pS ([]:List UInt8),p32 (0:Int),p16 l,p16 m,p16 n,p16 q,p16 r,p16 t,p16 u,p16 r8],.arr false 25 1 l10],s)):=by unfold Wl;exact let o:=(F5 (K3 L) af6);let p:=(E5 (K3 L) Q Y d o);(a8 (by kernel_rfl) (A0 rfl (A0 (A0 ((a p c ((bAt c (0:Int))==91)).trans (congr (congr (congr rfl (by kernel_rfl)) (by kernel_rfl)) (fx2 λf h=>(a8 (by kernel_rfl) ((b o f h).trans (by kernel_rfl)))))) rfl) ((a p c false).trans (congr (congr (congr rfl (by kernel_rfl)) (by kernel_rfl)) (fx2 λg i=>(a8 (by kernel_rfl) ((b o g i).trans (by kernel_rfl)))))))))
theorem A39(d:Nat)(raw0):evC (K3 L) (d+1) Z Y 63 [pS raw0] [] s=Wl L raw0 (λa b c e j n l=>some (.tup [.agg [pI a,pS b,p32 c,p16 (0:Int),p16 (0:Int),p16 (0:Int),p16 (0:Int),p16 (0:Int),p16 (0:Int),p16 (0:Int),p16 (0:Int)],pI e],[.box [pI j,pS n,p32 l,p16 (0:Int),p16 (0:Int),p16 (0:Int),p16 (0:Int),p16 (0:Int),p16 (0:Int),p16 (0:Int),p16 (0:Int)]],s)) (λa b c e f g h i r8 m l10=>some (.tup [.agg [pI a,pS ([]:List UInt8),p32 (0:Int),p16 b,p16 c,p16 e,p16 f,p16 g,p16 h,p16 i,p16 r8],pI m],[.box [pI a,pS ([]:List UInt8),p32 (0:Int),p16 b,p16 c,p16 e,p16 f,p16 g,p16 h,p16 i,p16 r8],.arr false 25 1 l10],s)):=
 (evE (fn:=af6) (by kernel_rfl)).trans (a8 (by kernel_rfl) (A38 L (evC (K3 L) d) Y s (cd [1,1,0,1] R6) (LN L (evC (K3 L) d) Y s) (cd [1,1,1] R6) (LU L (evC (K3 L) d) Y s) raw0))
end
theorem Cf2{R:Type}{g:Int->Option R}(b:Int)(h:inR b 256=true):rhx LF b g=g (Eu (u8n b)):=by
 simp only[inR,p7,decide_eq_true_eq] at h;have j:b=((u8n b).toNat:Int):=by
  unfold u8n;simp;omega
 generalize u8n b=c at *;subst j;have i:=c.toNat_lt;unfold rhx;simp only[JS,JR,vl,Eu];rcases Cu c with⟨d,f,e⟩|⟨d,f,e⟩|⟨d,f,e⟩|⟨d,f,o,e⟩
 ·have a:A1 (wu8 ((c.toNat:Int)-48))=((dig c:Nat):Int):=by
   rw[M3,A7];omega
  rw[P9];simp (disch:=omega) only[B5,E3,c9,j0,cond_false,cond_true,a]
 ·have a:A1 (A1 (wu8 ((c.toNat:Int)-97))+10)=((dig c:Nat):Int):=by
   rw[M3,C7 (n:=(c.toNat:Int)-97) (by omega) (by omega),A7];omega
  rw[P9];simp (disch:=omega) only[B5,E3,c9,j0,cond_false,cond_true,a]
 ·have a:A1 (A1 (wu8 ((c.toNat:Int)-65))+10)=((dig c:Nat):Int):=by
   rw[M3,C7 (n:=(c.toNat:Int)-65) (by omega) (by omega),A7];omega
  rw[P9];simp (disch:=omega) only[B5,E3,c9,j0,cond_false,cond_true,a]
 ·rw[e,if_neg (by decide)];by_cases k:c.toNat<48
  ·simp (disch:=omega) only[B5,E3,c9,j0,cond_false,cond_true]
  ·by_cases l:c.toNat<65
   ·simp (disch:=omega) only[B5,E3,c9,j0,cond_false,cond_true]
   ·by_cases m:c.toNat<97
    ·simp (disch:=omega) only[B5,E3,c9,j0,cond_false,cond_true]
    ·simp (disch:=omega) only[B5,E3,c9,j0,cond_false,cond_true]
theorem A37(s:By)(Q:s.length<=1000000000):∀(m i n:Nat) (a:By),i<=s.length->s.length-i<=m->m<n->a.length<=i->
  (∀t,Q7 (s.drop i)=some t->∀(R:Type) (c:LL->Option R) (d:LL->Option R),P0 LF n s (i:Int) (a.map D9) c d=d ((a++t).map D9))/\
  (Q7 (s.drop i)=none->∃l,∀(R:Type) (c:LL->Option R) (d:LL->Option R),P0 LF n s (i:Int) (a.map D9) c d=c l):=by
 intro m
 induction m with
 | zero=>
  intro i n a K L M J;obtain⟨n,rfl⟩:∃m,n=m+1:=⟨n-1,by omega⟩
  rw[j1 (by omega)];refine⟨λt f R c d=>?_,λh=>(by cases h)⟩;simp only[Q7,s7] at f;subst f;rw[P0];rw[A6,ab0];rfl
 | succ m G=>
  intro i n a K L M J;obtain⟨n,rfl⟩:∃m,n=m+1:=⟨n-1,by omega⟩
  by_cases z:i<s.length
  ·have D:A1 ((i:Int)+1)=((i+1:Nat):Int):=by rw[A7];rfl
   have H:A1 ((i:Int)+2)=((i+2:Nat):Int):=by rw[A7];rfl
   have I:A1 (((i+2:Nat):Int)+1)=((i+3:Nat):Int):=by rw[A7];omega
   have F:A1 ((s.length:Int)-i)=((s.length-i:Nat):Int):=by rw[A7];omega
   have p:(a.map D9).length=a.length:=p6 _;have v:∀b:UInt8,a.map D9++[[SV.int .u8 (b.toNat:Int)]]=(a++[b]).map D9:=λb=>by rw[ab1];rfl
   have C:(((s.getD i 0).toNat:Int)!=37) = !(s.getD i 0==37):=congrArg _ (Q9 _ 37 (by omega));rw[D2 s i z];by_cases g:s.getD i 0=37
   ·by_cases P:i+2<s.length
    ·rw[D2 s (i+1) (by omega),D2 s (i+1+1) (by omega),g,JH];obtain⟨A,B⟩:=G (i+3) n (a++[aa0 (16*dig (s.getD (i+1) 0)+dig (s.getD (i+2) 0))]) (by omega) (by omega) (by omega) (by simp;omega);have top:∀(R:Type) (c:LL->Option R) (d:LL->Option R),P0 LF (n+1) s (i:Int) (a.map D9) c d=cond (decide (dig (s.getD (i+1) 0)<16)&&decide (dig (s.getD (i+2) 0)<16)) (P0 LF n s ((i+3:Nat):Int) ((a++[aa0 (16*dig (s.getD (i+1) 0)+dig (s.getD (i+2) 0))]).map D9) c d) (c (a.map D9)):=by
      intro R c d;rw[P0];rw[A8,E9,D1,C,g,p,H,F,D,E9,E9,D1,D1];simp only[vl];rw[E3 (show(3:Int)<=((s.length-i:Nat):Int) by omega)];simp only[cond_true,c9,cond_false,beq_self_eq_true,WX,It,YX,F3 (show a.length+1<=68719476736 by omega),I];generalize s.getD (i+1) 0=x at *;generalize s.getD (i+2) 0=y at *;by_cases N:dig x<16
      ·by_cases O:dig y<16
       ·have w1:Eu x=(dig x:Int):=by unfold Eu;rw[if_pos N]
        have T:Eu y=(dig y:Int):=by unfold Eu;rw[if_pos O]
        have U:A1 ((16:Int)*(dig x:Int))=((16*dig x:Nat):Int):=by rw[A7];omega
        have V:A1 (((16*dig x:Nat):Int)+(dig y:Int))=((16*dig x+dig y:Nat):Int):=by rw[A7];omega
        have W:wu8 ((16*dig x+dig y:Nat):Int)=((aa0 (16*dig x+dig y)).toNat:Int):=by
         rw[M3];simp;omega
        grind
       grind
      grind
     by_cases o:dig (s.getD (i+1) 0)<16/\dig (s.getD (i+2) 0)<16
     ·rw[if_pos o];have w:(decide (dig (s.getD (i+1) 0)<16)&&decide (dig (s.getD (i+2) 0)<16))=true:=by rw[decide_eq_true o.1,decide_eq_true o.2];rfl
      refine⟨λt f R c d=>?_,λh=>?_⟩
      ·cases j:Q7 (s.drop (i+3)) with
       | none=>rw[j] at f;cases f
       | some q=>
        rw[j] at f;simp only[ac5,s7] at f;subst f;rw[top,w,cond_true,A q j,w6];rfl
      ·cases j:Q7 (s.drop (i+3)) with
       | some q=>rw[j] at h;cases h
       | none=>
        obtain⟨l,e⟩:=B j;exact⟨l,λR c d=>by rw[top,w,cond_true,e]⟩
     ·rw[if_neg o];have w:(decide (dig (s.getD (i+1) 0)<16)&&decide (dig (s.getD (i+2) 0)<16))=false:=by grind
      exact⟨λt h=>(by cases h),λ_=>⟨_,λR c d=>by rw[top,w,cond_false]⟩⟩
    ·have k:Q7 (s.getD i 0::s.drop (i+1))=none:=by
      rw[g];cases o:s.drop (i+1) with
      | nil=>rfl
      | cons x r=>
       cases r with
       | nil=>rfl
       | cons y S=>
        exfalso;have:=congrArg j5 o;rw[j7,p5,p5] at this;omega
     rw[k];refine⟨λt h=>(by cases h),λ_=>⟨a.map D9,λR c d=>?_⟩⟩;rw[P0];rw[A8,E9,D1,C,g,F];simp only[vl];rw[B5 (show((s.length-i:Nat):Int)<3 by omega)];rfl
   ·rw[VD _ g];obtain⟨A,B⟩:=G (i+1) n (a++[s.getD i 0]) (by omega) (by omega) (by omega) (by simp;omega);have u:(s.getD i 0==37)=false:=by simpa using g
    have top:∀(R:Type) (c:LL->Option R) (d:LL->Option R),P0 LF (n+1) s (i:Int) (a.map D9) c d=P0 LF n s ((i+1:Nat):Int) ((a++[s.getD i 0]).map D9) c d:=by
     intro R c d;rw[P0];rw[A8,E9,D1,C,u,p,F3 (by omega),D,v];rfl
    refine⟨λt f R c d=>?_,λh=>?_⟩
    ·cases j:Q7 (s.drop (i+1)) with
     | none=>rw[j] at f;cases f
     | some q=>
      rw[j] at f;simp only[ac5,s7] at f;subst f;rw[top,A q j,w6];rfl
    ·cases j:Q7 (s.drop (i+1)) with
     | some q=>rw[j] at h;cases h
     | none=>
      obtain⟨l,e⟩:=B j;exact⟨l,λR c d=>by rw[top,e]⟩
  ·rw[j1 (by omega)];refine⟨λt f R c d=>?_,λh=>(by cases h)⟩;simp only[Q7,s7] at f;subst f;rw[P0];rw[A6,ab0];rfl
theorem Cf1(s:By)(d:A2 s.length=true):∃r H,Bk1 LF s (λi j h=>rv (.tup [.s (.str i),.s (.bool j)]) [.arr true 5 1 h])=rv r H/\
  r.stab [0,0] H = .tup [.s (.str (Fb s)),.s (.bool (Q7 s).isSome)]:=by
 have g:=L8 d;have f:=C4;obtain⟨b,c⟩:=A37 s g s.length 0 LF [] (by omega) (by omega) (by omega) (by simp);rw[j9] at b c;unfold Fb;cases a:Q7 s with
 | none=>
  obtain⟨l,e⟩:=c a;exact⟨.tup [.s (.str []),.s (.bool false)],[.arr true 5 1 l],e _ _ _,rfl⟩
 | some t=>
  refine⟨.tup [.s (.str t),.s (.bool true)],[.arr true 5 1 (t.map D9)],?_,rfl⟩;unfold Bk1;refine a8 (b t a _ _ _) ?_;rw[x6,W9,X7];rfl
theorem Bv4{R:Type}{a b:Unit->Option R}(l:List By)(k:l.length<=1000000001)(h:∀x∈l,x.length<=1000000000):∀(r i n:Nat),i+r=l.length->r<n->
  Wp LF n (D4 l) (i:Int) a b=if (l.drop i).all J6 then b () else a ():=by
 intro r
 induction r with
 | zero=>
  intro i n e f;obtain⟨n,rfl⟩:∃m,n=m+1:=⟨n-1,by omega⟩
  rw[Wp];rw[F6,A6,j1 (by omega)];rfl
 | succ r j=>
  intro i n e f;obtain⟨n,rfl⟩:∃m,n=m+1:=⟨n-1,by omega⟩
  rw[Wp];have c:A1 ((i:Int)+1)=((i+1:Nat):Int):=by rw[A7];rfl
  have d:l.drop i=l.getD i []::l.drop (i+1):=by
   rw[j4,k9 (by omega),aa6,ac2]
  have g:(l.getD i []).length<=1000000000:=h _ (by
   rw[j4,k9 (by omega),aa6];exact aa3 _)
  rw[F6,A8,E9,b8,S7 (by omega),W7,D6 g,d,aa7,c];simp only[cond_true];rw[j (i+1) n (by omega) (by omega)];cases J6 (l.getD i []) with
  | true=>rw[y5];rfl
  | false=>rfl
theorem Dg9{R:Type}{c:Bool->Option R}(s:By)(b:A2 s.length=true):Dj5 LF s c=c (Cg s):=by
 have k:=L8 b;have d:=C4;unfold Dj5;by_cases a:s=[]
 ·subst a;rfl
 ·have f:(s==([]:By))=false:=by simpa using a
  rw[f,cond_false];unfold Cg;by_cases i:253<s.length
  ·rw[A8,show w8 s.length 253=false by rw[j8,ne_eq,p4];omega];rfl
  ·rw[A6,cond_false,b,cond_true,show w8 s.length 253=true by rw[p4];omega];cases j:E7 s with
   | true=>rfl
   | false=>
    rw[cond_false,cond_true];have g:=Ih 46 s;have e:=Gl 46 s;refine a8 (Bv4 (pcs 46 s) (by omega) (λx h=>by have:=(Bz h).2;omega) (pcs 46 s).length 0 LF (by omega) (by omega)) ?_;grind
def jn:Nat->By->List By->By
 | _,name,[]=>name
 | 0,name,x::r=>jn 1 (name++x) r
 | i+1,name,x::r=>jn (i+2) (name++[46]++x) r
theorem Bh8:∀(l:List By) (i:Nat) (name:By),jn (i+1) name l=name++ad9 [46] l
 | [],i,name=>by simp[jn,ad9]
 | x::r,i,name=>by
  rw[jn,Bh8 r];simp[ad9]
theorem Ct9(l:List By):jn 0 [] l=ac6 l [46]:=by
 cases l with
 | nil=>rfl
 | cons x r=>rw[jn,Bh8,Lib.join_cons,x6]
theorem Ci5{x:By}(h:(H6 x).2=0):(H6 x).1.length<=63:=by
 have a:F1 [x]=([(H6 x).1],0):=by simp[F1,h]
 have:=(Jq [x] (by rw[a])).1 (H6 x).1 (by rw[a];simp);exact(Bm this).le
theorem VT(e:List By)(C:e.length<=1000000)(D:∀x∈e,x.length<=1000000000):∀(c:List By) (i n:Nat) (name:By),e.drop i=c->i+c.length=e.length->c.length<n->name.length<=64*i->
  ((F1 c).2=0->∀(R:Type) (a:Int->Option R) (b:By->Option R),J0 LF n name (D4 e) (i:Int) a b=b (jn i name (F1 c).1))/\
  ((F1 c).2≠0->∀(R:Type) (a:Int->Option R) (b:By->Option R),J0 LF n name (D4 e) (i:Int) a b=a ((F1 c).2:Nat)):=by
 intro c
 induction c with
 | nil=>
  intro i n name p q y t;obtain⟨n,rfl⟩:∃m,n=m+1:=⟨n-1,by omega⟩
  simp only[w9] at q;refine⟨λ_ R a b=>?_,λh=>absurd rfl h⟩;rw[J0];rw[F6,A6];simp only[F1,jn];rfl
 | cons x r z=>
  intro i n name p q y t;simp only[p5] at q y;obtain⟨n,rfl⟩:∃m,n=m+1:=⟨n-1,by omega⟩
  have A:A1 ((i:Int)+1)=((i+1:Nat):Int):=by rw[A7];rfl
  have k:e.getD i []=x:=by
   have:=congrArg (λl=>l.getD 0 []) p;simpa[j4,List.getElem?_drop] using this
  have g:e.drop (i+1)=r:=by
   rw[<-ab4,p];rfl
  have u:x.length<=1000000000:=D x (by
   rw[<-k,j4,k9 (by omega),aa6];exact aa3 _)
  have top:∀(R:Type) (a:Int->Option R) (b:By->Option R),J0 LF (n+1) name (D4 e) (i:Int) a b=cond (((H6 x).2:Int)!=0) (a ((H6 x).2:Nat)) (cond (ltI 0 (i:Int)) (cond (J7 name.length 1) (cond (J7 (name++[46]).length (H6 x).1.length) (J0 LF n (name++[46]++(H6 x).1) (D4 e) ((i+1:Nat):Int) a b) none) none) (cond (J7 name.length (H6 x).1.length) (J0 LF n (name++(H6 x).1) (D4 e) ((i+1:Nat):Int) a b) none)):=by
   intro R a b;rw[J0];rw[F6,A8,E9,b8,S7 (by omega),W7,k,D6 u,A];rfl
  unfold F1;by_cases h:(H6 x).2=0
  ·rw[if_pos h];have B:=Ci5 h;have o:(((H6 x).2:Int)!=0)=false:=by rw[h];rfl
   cases i with
   | zero=>
    obtain⟨v,w⟩:=z 1 n (name++(H6 x).1) g (by omega) (by omega) (by rw[j2];omega);have d:∀(R:Type) (a:Int->Option R) (b:By->Option R),J0 LF (n+1) name (D4 e) ((0:Nat):Int) a b=J0 LF n (name++(H6 x).1) (D4 e) ((1:Nat):Int) a b:=by
     intro R a b;rw[top,o,A6,J8 (m:=name.length) (n:=(H6 x).1.length) (by omega)];rfl
    exact⟨λf R a b=>(d R a b).trans (v f R a b),λf R a b=>(d R a b).trans (w f R a b)⟩
   | succ j=>
    obtain⟨v,w⟩:=z (j+2) n (name++[46]++(H6 x).1) g (by omega) (by omega) (by rw[j2,j2,s9];omega);have d:∀(R:Type) (a:Int->Option R) (b:By->Option R),J0 LF (n+1) name (D4 e) ((j+1:Nat):Int) a b=J0 LF n (name++[46]++(H6 x).1) (D4 e) ((j+2:Nat):Int) a b:=by
     intro R a b;rw[top,o,A8,J8 (by omega),J8 (by rw[j2,s9];omega)];rfl
    exact⟨λf R a b=>(d R a b).trans (v f R a b),λf R a b=>(d R a b).trans (w f R a b)⟩
  ·rw[if_neg h];have o:(((H6 x).2:Int)!=0)=true:=by simpa using h
   exact⟨λf=>absurd f h,λ_ R a b=>by rw[top,o,cond_true]⟩
theorem LQ{R:Type}{b:Int->Int->By->Int->Option R}(u:By)(q:u.length<=1024):Dg LF u b =
  if E7 u then (match pnB u with
   | some v=>b 0 2 [] (v:Nat)
   | none=>b 14 0 [] 0)
  else if (F1 (pcs 46 u)).2=0 then (
   if 253<(ac6 (F1 (pcs 46 u)).1 [46]).length then b 3 0 [] 0 else if E7 (ac6 (F1 (pcs 46 u)).1 [46]) then b 14 0 [] 0 else b 0 1 (ac6 (F1 (pcs 46 u)).1 [46]) 0)
  else b ((F1 (pcs 46 u)).2:Nat) 0 [] 0:=by
 have h:=C4;unfold Dg;rw[N6,cond_true];cases o:E7 u with
 | true=>
  rw[if_pos rfl,cond_true,cond_true];cases p:pnB u with
  | none=>rfl
  | some v=>rfl
 | false=>
  rw[if_neg (by simp),cond_false,cond_true];have l:=Ih 46 u;have i:=Gl 46 u;obtain⟨f,m⟩:=VT (pcs 46 u) (by omega) (λx d=>by have:=(Bz d).2;omega) (pcs 46 u) 0 LF [] (j9) (by omega) (by omega) (by simp);rw[Ct9] at f;by_cases c:(F1 (pcs 46 u)).2=0
  ·rw[if_pos c];refine a8 (f c _ _ _) ?_;obtain⟨g,n⟩:=Jq _ c;have j:=UG [46] 63 (F1 (pcs 46 u)).1 (λx d=>(Bm (g x d)).le);have e:(63+([46]:By).length)*(F1 (pcs 46 u)).1.length<=64*1025:=af4 (by simp) (by omega);generalize ac6 (F1 (pcs 46 u)).1 [46]=name at *;by_cases a:253<name.length
   ·rw[if_pos a,A8,cond_true]
   ·rw[if_neg a,A6,cond_false,N6,cond_true];cases k:E7 name with
    | true=>rfl
    | false=>rfl
  ·rw[if_neg c];exact m c _ _ _
abbrev Dc3:Int->By->Int->Int->Int->By->Int->Option (PV × List Blk × Unit):=λc d e f a g b=>rv (.tup [.agg (Ue c d e 0 0 0 0 0 0 0 0),.s (.int .i64 f)]) [.box (Ue a g b 0 0 0 0 0 0 0 0)]
abbrev Dl4:Int->Int->Int->Int->Int->Int->Int->Int->Int->Int->LL->Option (PV × List Blk × Unit):=λa b c d e f g h r8 i l10=>rv (.tup [.agg (Ue a [] 0 b c d e f g h r8),.s (.int .i64 i)]) [.box (Ue a [] 0 b c d e f g h r8),.arr false 25 1 l10]
theorem WS{t:By}(h:t≠[])(a:t.getD (t.length-1) 0=46):G4 t=t.take (t.length-1):=by unfold G4;rw[if_pos ((DV t 46 h).2 a),List.dropLast_eq_take]
theorem Ak4{t:By}(h:t≠[])(a:¬t.getD (t.length-1) 0=46):G4 t=t:=by unfold G4;grind
theorem Rf(s:By)(x:s.length<=1024)(j:s.head?≠some 91):∃r H,Dh LF s (λh b d c=>Dc3 b d c h b d c)=rv r H/\r.stab [0,0] H = .tup [BT (B9 s).1,.s (.int .i64 ((B9 s).2:Nat))]:=by
 have l:=C4;unfold Dh;rw[N6,cond_true];cases i:Q7 s with
 | none=>
  have e:B9 s=(L0,14):=by unfold B9;rw[F7,if_neg j,i]
  rw[e];exact⟨_,_,rfl,rfl⟩
 | some t=>
  have p:t.length<=s.length:=EB s t i;have q:Fb s=t:=by unfold Fb;rw[i];rfl
  have o:(G4 t).length<=t.length:=by unfold G4;split<;>simp
  have m:B9 s=if E7 (G4 t) then (match pnB (G4 t) with
      | some v=>(⟨2,[],v,z8⟩,0)
      | none=>(L0,14))
     else if (F1 (pcs 46 (G4 t))).2=0 then (
      let name:=ac6 (F1 (pcs 46 (G4 t))).1 [46]
      if 253<name.length then (L0,3) else if E7 name then (L0,14) else (⟨1,name,0,z8⟩,0))
     else (L0,(F1 (pcs 46 (G4 t))).2):=by
   unfold B9;rw[F7,if_neg j,i];rfl
  have f:∃r H,Dg LF (G4 t) (λh b d c=>Dc3 b d c h b d c)=rv r H/\r.stab [0,0] H = .tup [BT (B9 s).1,.s (.int .i64 ((B9 s).2:Nat))]:=by
   rw[LQ _ (by omega),m];split
   ·split<;>exact⟨_,_,rfl,rfl⟩
   ·split
    ·simp only;split
     ·exact⟨_,_,rfl,rfl⟩
     ·split<;>exact⟨_,_,rfl,rfl⟩
    ·exact⟨_,_,rfl,rfl⟩
  rw[q];simp only[ad6,c9,cond_false];by_cases a:t=[]
  ·subst a;exact f
  ·have w:0<t.length:=x8.2 a;have n:(t==([]:By))=false:=by simpa using a
   have k:A1 ((t.length:Int)-1)=((t.length-1:Nat):Int):=by rw[A7];omega
   have u:(((t.getD (t.length-1) 0).toNat:Int)==46)=(t.getD (t.length-1) 0==46):=Q9 _ 46 (by omega);rw[n,k];simp only[j0,cond_true,vl];rw[E9,D1,u,cond_true];by_cases g:t.getD (t.length-1) 0=46
   ·rw[g,beq_self_eq_true,cond_true,I4,cond_true,K4,b8,<-WS a g];exact f
   ·rw[show(t.getD (t.length-1) 0==46)=false by simpa using g,cond_false];rw[Ak4 a g] at f;exact f
theorem A40(s:By)(k:A2 s.length=true):∃r H,Wl LF s Dc3 Dl4=rv r H/\r.stab [0,0] H = .tup [BT (B9 s).1,.s (.int .i64 ((B9 s).2:Nat))]:=by
 have u:=L8 k;have l:=C4;unfold Wl;by_cases i:1024<s.length
 ·have e:B9 s=(L0,3):=by unfold B9;rw[if_pos i]
  rw[e,A8,cond_true];exact⟨_,_,rfl,rfl⟩
 ·rw[A6,cond_false];by_cases c:s=[]
  ·subst c;exact Rf [] (by simp) (by simp)
  ·have q:0<s.length:=x8.2 c;have m:(s==([]:By))=false:=by simpa using c
   have o:(bAt s 0==(91:Int))=(s.getD 0 0==91):=by rw[Ag];exact Q9 _ 91 (by omega)
   have g:s.head? = some (s.getD 0 0):=by
    cases s with
    | nil=>exact absurd rfl c
    | cons b t=>rfl
   rw[m,j0,cond_true,E9,cond_true,o];by_cases f:s.getD 0 0=91
   ·have e:B9 s=P8 s:=by unfold B9 P8;rw[if_neg i,if_pos (by rw[g,f])]<;>rfl
    have j:A1 ((s.length:Int)-1)=((s.length-1:Nat):Int):=by rw[A7];omega
    have p:(((s.getD (s.length-1) 0).toNat:Int)!=93) = !(s.getD (s.length-1) 0==93):=congrArg _ (Q9 _ 93 (by omega));rw[e,f,beq_self_eq_true];unfold Gx P8;simp only[vl,j,cond_true];rw[E9,D1,p,cond_true];by_cases d:s.getD (s.length-1) 0=93
    ·have f:2<=s.length:=by grind
     rw[if_pos ⟨(DV s 93 c).2 d,f⟩,d,beq_self_eq_true,c9,cond_false,A6,cond_false,show(1:Int)=((1:Nat):Int) from rfl,I4,cond_true,Hy];have n:((s.take (s.length-1)).drop 1).length<=s.length:=by rw[j7,p9];omega
     rw[N6,cond_true];unfold v6c;cases v:v6B ((s.take (s.length-1)).drop 1) with
     | none=>exact⟨_,_,rfl,rfl⟩
     | some a=>exact⟨_,_,rfl,rfl⟩
    ·rw[if_neg (λh=>d ((DV s 93 c).1 h.1)),show(s.getD (s.length-1) 0==93)=false by simpa using d];exact⟨_,_,rfl,rfl⟩
   ·rw[show(s.getD 0 0==91)=false by simpa using f];exact Rf s (by omega) (by rw[g];simpa using f)
section
theorem KT:B0 j6 GX 148 Ua:=xf [] (GY LF) Ye rfl trivial rfl (by kernel_rfl) follows λargs=>by
 unfold Ye;split
 ·rename_i n;exact⟨rfl,rfl,rfl,_,_,(Bw4 LF noY () 0 n).trans (Af4 n ),rfl⟩
 ·trivial
theorem Al8:B0 j6 GX 151 FK:=xf [] (X3 LF) Yc rfl trivial rfl (by kernel_rfl) follows λargs=>by
 unfold Yc;split
 ·rename_i d c f;exact λa=>λb=>λe=>⟨rfl,rfl,rfl,_,_,(Bu5 LF noY () 0 d c f).trans (Ad4 d c f a b e),rfl⟩
 ·trivial
theorem Cn1:B0 j6 GX 149 Ao1:=xf [] (Ar6 LF) RM rfl trivial rfl (by kernel_rfl) follows λargs=>by
 unfold RM;split
 ·rename_i k b;exact λa=>λc=>⟨rfl,rfl,rfl,_,_,(C00 LF noY () 0 k b).trans (Bx0 k b a c),rfl⟩
 ·trivial
theorem C40:B0 j6 GX 150 Be1:=xf [] (TG LF) FL rfl trivial rfl (by kernel_rfl) follows λargs=>by
 unfold FL;split
 ·rename_i d;exact λa=>⟨rfl,rfl,rfl,_,_,(Ce0 LF noY () 0 d).trans (A12 d a),rfl⟩
 ·trivial
theorem Dg0:B0 j6 GX 176 B41:=xf [] (Ja LF) RP rfl trivial rfl (by kernel_rfl) follows λargs=>by
 unfold RP;split
 ·rename_i b;exact λa=>⟨rfl,rfl,rfl,_,_,(C06 LF noY () 0 b).trans (Bx7 b a),rfl⟩
 ·trivial
theorem Cm8:B0 j6 GX 120 An7:=xf [0,0] (M9 LF) RG rfl ⟨KT,Cn1,C40,Al8,trivial⟩ rfl (by kernel_rfl) follows λargs=>by
 unfold RG;split
 ·rename_i b a p;exact λc=>(let⟨r,H,e,q⟩:=Cy7 b a p c;⟨rfl,rfl,rfl,r,H,(Cy5 LF noY () 0 b a p).trans e,q⟩)
 ·trivial
theorem C45:B0 j6 GX 156 Be6:=xf [1,0] (J4 LF) FS rfl ⟨Dg0,Cn1,Al8,KT,trivial⟩ rfl (by kernel_rfl) follows λargs=>by
 unfold FS;split
 ·rename_i s;exact λa=>(let⟨r,H,e,q⟩:=Cf8 s a;⟨rfl,rfl,rfl,r,H,(Cf7 LF noY () 0 s).trans e,q⟩)
 ·trivial
theorem Df7:B0 j6 GX 119 B38:=xf [1,0] (O8 LF) RL rfl ⟨KT,trivial⟩ rfl (by kernel_rfl) follows λargs=>by
 unfold RL;split
 ·rename_i s;exact λa=>(let⟨r,H,e,q⟩:=Cz8 s a;⟨rfl,rfl,rfl,r,H,(Cz7 LF noY () 0 s).trans e,q⟩)
 ·trivial
theorem C47:B0 j6 GX 127 Be8:=xf [] (Li LF) FU rfl ⟨C45,Cm8,trivial⟩ rfl (by kernel_rfl) follows λargs=>by
 unfold FU;split
 ·rename_i s;exact λa=>⟨rfl,rfl,rfl,_,_,(Cg0 LF noY () 0 s).trans (A63 s a),rfl⟩
 ·trivial
theorem C44:B0 j6 GX 94 Be5:=xf [] (Lg LF) FP rfl ⟨C47,trivial⟩ rfl (by kernel_rfl) follows λargs=>by
 unfold FP;split
 ·rename_i s;exact λa=>⟨rfl,rfl,rfl,_,_,(Cf4 LF noY () 0 s).trans (A44 s a),rfl⟩
 ·trivial
theorem C43:B0 j6 GX 89 Be4:=xf [0,0] (TH LF) FO rfl ⟨Df7,Cm9,Cm8,C44,trivial⟩ rfl (by kernel_rfl) follows λargs=>by
 unfold FO;split
 ·rename_i s;exact λa=>⟨rfl,rfl,rfl,_,_,(Cf3 LF noY () 0 s).trans (A41 s a),rfl⟩
 ·trivial
theorem Dk1:B0 j6 GX 115 C61:=xf [] (Ra LF) An8 rfl trivial rfl (by kernel_rfl) follows λargs=>by
 unfold An8;split
 ·rename_i b;exact λa=>⟨rfl,rfl,rfl,_,_,(Dc2 LF noY () 0 b).trans (Cf2 b a),rfl⟩
 ·trivial
theorem C42:B0 j6 GX 85 Be3:=xf [0,0] (Lf LF) FN rfl ⟨Dk1,trivial⟩ rfl (by kernel_rfl) follows λargs=>by
 unfold FN;split
 ·rename_i s;exact λa=>(let⟨r,H,e,q⟩:=Cf1 s a;⟨rfl,rfl,rfl,r,H,(Cf0 LF noY () 0 s).trans e,q⟩)
 ·trivial
theorem B17:B0 j6 GX 63 MG:=xf [0,0] (K3 LF) Rq rfl ⟨Df9,C42,Bc7,C46,Xp,C43,trivial⟩ rfl (by kernel_rfl) follows λargs=>by
 unfold Rq;split
 ·rename_i s;exact λa=>(let⟨r,H,e,q⟩:=A40 s a;⟨rfl,rfl,rfl,r,H,(A39 LF noY () 0 s).trans e,q⟩)
 ·trivial
end
section
theorem Am0:B0 j6 GX 23 Ub:=xf [] (GZ LF) Yg rfl trivial rfl (by kernel_rfl) follows λargs=>by
 unfold Yg;split
 ·rename_i s;exact⟨rfl,rfl,rfl,_,_,(Bx3 LF noY () 0 s).trans (Ai1 s ),rfl⟩
 ·trivial
theorem C51:B0 j6 GX 45 Bf2:=xf [] (TJ LF) FZ rfl trivial rfl (by kernel_rfl) follows λargs=>by
 unfold FZ;split
 ·rename_i s;exact⟨rfl,rfl,rfl,_,_,(Cg9 LF noY () 0 s).trans (A83 s ),rfl⟩
 ·trivial
theorem C48:B0 j6 GX 62 Be9:=xf [] (Ak LF) FW rfl trivial rfl (by kernel_rfl) follows λargs=>by
 unfold FW;split
 ·rename_i s t;exact λa=>λb=>⟨rfl,rfl,rfl,_,_,(Cg2 LF noY () 0 s t).trans (A76 s t a b),rfl⟩
 ·trivial
theorem C50:B0 j6 GX 61 Bf1:=xf [0,0,0] (L3 LF) FY rfl ⟨Cm9,trivial⟩ rfl (by kernel_rfl) follows λargs=>by
 unfold FY;split
 ·rename_i s;exact λa=>⟨rfl,rfl,rfl,_,_,(Cg8 LF noY () 0 s).trans (A82 s a),rfl⟩
 ·trivial
theorem C49:B0 j6 GX 41 Bf0:=xf [0,0] (I9 LF) FX rfl ⟨C50,Am0,C48,B17,C51,trivial⟩ rfl (by kernel_rfl) follows λargs=>by
 unfold FX;split
 ·rename_i s;exact λa=>(let⟨r,H,e,q⟩:=Cg6 s a;⟨rfl,rfl,rfl,r,H,(Cg5 LF noY () 0 s).trans e,q⟩)
 ·trivial
theorem PL:B0 j6 GX 14 Jo:=xf [0,0] (Zb LF) Rs rfl ⟨C49,trivial⟩ rfl (by kernel_rfl) follows λargs=>by
 unfold Rs;split
 ·rename_i s;exact λa=>(let⟨r,H,e,q⟩:=A79 s a;⟨rfl,rfl,rfl,r,H,(A78 LF noY () 0 s).trans e,q⟩)
 ·trivial
end
section
variable {Z R : Type} (L : Nat) (Q : G1) (Y : Yh Z) (s : Z) (k : Out -> St Z -> Option R)
noncomputable abbrev YG:Code:=C6 ag3
noncomputable def Gf(L:Nat):Cfg:=B6 L [37] (A3 [(2,[0,0,2,0])]) [] (A3 [(6,[4]),(3,[0,0,3]),(5,[4]),(4,[0,0,3,12]),(2,[0,0,3,3]),(1,[0,0,3]),(0,[0,0])]) [] (A3 [(0,[]),(1,[0,0,3])]) (some [4]) [] [] []
noncomputable def Cz{R:Type}(L n:Nat)(n0:Int)(d c:Bool)(b:LL)(a:Int)(e:Unit->Option R)(f:Unit->Option R):Option R:=match n with|0=>none|n+1=>cond (ltI a (b.length:Int)) (cond (inR a b.length) (cond (okE Pe b (b9 a) 0) (cond (ltI n0 (↑(j5 (gX b (b9 a) 0)):Int)) (e ()) (Cz L n n0 d c b (A1 (a+1)) e f)) none) none) (f ())
theorem UI(n n0 l_z1 l_t2 l3 i4):D0 0 ((Gf L).keep 2) (bd (Gf L) Q Y (cd [1,0,1,0,0] YG)) n ⟨gp [(0,pI n0),(0,.s (.sl l_z1 l_t2 1 l3)),(3,pI i4)] 13,[],s⟩ k =
 Cz L n n0 l_z1 l_t2 l3 i4 (λ_=>k .ret ⟨gp [(4,pB false)] 14,[],s⟩) (λ_=>k (.exit 0) ⟨gp [] 19,[],s⟩):=by
 induction n generalizing n0 l_z1 l_t2 l3 i4 with
 | zero=>rfl
 | succ n a=>rw[Cz];simp only[<-a];kernel_rfl
noncomputable def UH{R:Type}(L:Nat)(n0:Int)(b a:Bool)(d:LL)(c:Bool->Option R):Option R:=Cz L L n0 b a d 0 (λ_=>c false) (λ_=>c true)
theorem Bq2(d:Nat)(n0 l_z1 l_t2 l3):evC (Gf L) (d+1) Z Y 37 [pI n0,.s (.sl l_z1 l_t2 1 l3)] [] s=UH L n0 l_z1 l_t2 l3 (λa=>some (pB a,[],s)):=by refine(evE (fn:=ag3) (by kernel_rfl)).trans ?_;generalize evC (Gf L) d=Q;unfold UH;exact(a8 (by kernel_rfl) ((UI L Q Y s (E6 0 (E5 (Gf L) Q Y (cd [1,1] YG) (F5 (Gf L) ag3))) L n0 l_z1 l_t2 l3 0).trans (by kernel_rfl)))
end
end
section
open Go Go.Proofs Go.Sort
set_option maxRecDepth 100000
theorem BX{R:Type}(n:Int)(z t:Bool)(l:List By)(c d:Unit->Option R)(j:l.length<=1000000000):∀(r:List By) (i m:Nat),l.drop i=r->r.length<m->Cz LF m n z t (D4 l) (i:Int) c d=if Mo n r then d () else c ()
 | [],i,m,h,b=>by
  obtain⟨m,rfl⟩:∃q,m=q+1:=⟨m-1,by simp at b;omega⟩
  rw[Cz];have:l.length<=i:=ac7.1 h;rw[E3 (by rw[F6];omega)];rfl
 | x::r,i,m,h,b=>by
  obtain⟨m,rfl⟩:∃q,m=q+1:=⟨m-1,by simp at b;omega⟩
  rw[Cz];have a:i<l.length:=Decidable.byContradiction λg=>by
   rw[ac7.2 (by omega)] at h;cases h
  have o:l.getD i []=x:=by
   have:=ab6 a;rw[h] at this;rw[j4,k9 a];exact(af7 this).1.symm
  have k:l.drop (i+1)=r:=by
   have:=ab6 a;rw[h] at this;exact(af7 this).2.symm
  rw[B5 (by rw[F6];omega),cond_true,L9 (by omega) (by rw[F6];omega),cond_true,b8,S7 a,cond_true,W7,o];have e:Mo n (x::r)=(!(ltI n (x.length:Int))&&Mo n r):=rfl;rw[e];by_cases f:n<(x.length:Int)
  ·rw[B5 f];rfl
  ·rw[A6,cond_false,A7,j0,y5];exact BX n z t l c d j r (i+1) m k (by simp at b;omega)
theorem Aa3{R:Type}{b:Bool->Option R}(n:Int)(z t:Bool)(l:LL)(c:l.all isS=true)(d:A2 l.length=true):UH LF n z t l b=b (Mo n (l.map elS)):=by
 have e:=C4;have a:=L8 d;rw[Bl0 c] at a ⊢;generalize l.map elS=q at a ⊢;rw[F6] at a;unfold UH;rw[show(0:Int)=((0:Nat):Int) from rfl,BX n z t q _ _ a q 0 LF rfl (by omega)];have:aa1 elS (D4 q)=q:=by
  unfold D4;rw[List.map_map];exact List.map_id'' (λ_=>rfl) q
 rw[this];cases Mo n q<;>rfl
end
section
open Go Go.Proofs
set_option maxRecDepth 100000
section
theorem Cm0:B0 j6 GX 37 EW:=xf [] (Gf LF) Xy rfl trivial rfl (by kernel_rfl) follows λargs=>by
 unfold Xy;split
 ·rename_i n b a l;exact λc=>λd=>⟨rfl,rfl,rfl,_,_,(Bq2 LF noY () 0 n b a l).trans (Aa3 n b a l c d),rfl⟩
 ·trivial
end
end
section
open Go
def ofB(u:R7):Bool:=C8 u.sch&&Hs u
structure OC where
 s:By
 k:Int
 n:By
 v:Int
 a:List Int
 p:Int
 b:Bool
def ofC(i n:By)(j:Int)(k:By)(v4 a b c d e f g h l:Int)(m:By):OC:=
 cond (ofB (mkU i n j k v4 (n8 a b c d e f g h) l m)) ⟨i,j,k,v4,[a,b,c,d,e,f,g,h],prt i l,true⟩ ⟨[],0,[],0,[0,0,0,0,0,0,0,0],0,false⟩
abbrev oS(c:OC):By:=c.s
abbrev oK(c:OC):Int:=c.k
abbrev oN(c:OC):By:=c.n
abbrev oV(c:OC):Int:=c.v
abbrev oA(c:OC)(i:Nat):Int:=c.a.getD i 0
abbrev oP(c:OC):Int:=c.p
abbrev oB(c:OC):Bool:=c.b
abbrev bOQ(c:OC):Blk:=bO (oS c) (oK c) (oN c) (oV c) (oA c 0) (oA c 1) (oA c 2) (oA c 3) (oA c 4) (oA c 5) (oA c 6) (oA c 7) (oP c)
abbrev okO(c:OC):Bool:=ok8 (oA c 0) (oA c 1) (oA c 2) (oA c 3) (oA c 4) (oA c 5) (oA c 6) (oA c 7)
abbrev oH(c:OC):B2:=mkH (oK c) (oN c) (oV c) (n8 (oA c 0) (oA c 1) (oA c 2) (oA c 3) (oA c 4) (oA c 5) (oA c 6) (oA c 7))
abbrev ofQ(p:R7 × Nat):OC:=ofC (uS p) (uU p) (uK p) (uN p) (uV p) (uA p 0) (uA p 1) (uA p 2) (uA p 3) (uA p 4) (uA p 5) (uA p 6) (uA p 7) (uP p) (uR p)
abbrev eqO(p q:OC):Bool:=((oS p)==(oS q))&&(((oK p)==(oK q))&&(((oN p)==(oN q))&&(((oV p)==(oV q))&&(((oA p 0)==(oA q 0))&&(((oA p 1)==(oA q 1))&&(((oA p 2)==(oA q 2))&&(((oA p 3)==(oA q 3))&&(((oA p 4)==(oA q 4))&&(((oA p 5)==(oA q 5))&&(((oA p 6)==(oA q 6))&&(((oA p 7)==(oA q 7))&&(((oP p)==(oP q))&&true))))))))))))
def Dk8:By:=[108,111,99,97,108,104,111,115,116]
def Aa7(i:Int)(j:By)(v4 a b c d e f g h:Int):Bool:=
 cond (K2 (mkH i j v4 (n8 a b c d e f g h))) (cond (i==2) (KG .u32 v4 24==127) (cond (i==3) ((a==0)&&((b==0)&&((c==0)&&((d==0)&&((e==0)&&((f==0)&&((g==0)&&((h==1)&&true)))))))) (Lj Dk8 j))) false
def B49:By:=[102,105,108,101]
def Ap5:By:=[97,98,111,117,116]
def Ba1(i n:By)(k:Int)(l:By)(v4 a b c d e f g h m:Int)(j:By):Bool:=
 cond (Hs (mkU i n k l v4 (n8 a b c d e f g h) m j)) (cond (i==Iw||(i==KX||i==B49)) true (cond (i==Ap5) (j==[98,108,97,110,107]||j==[115,114,99,100,111,99]) (cond (C8 i) (Aa7 k l v4 a b c d e f g h) false))) false
def Hu(b:By)(h:B2)(a:Int):By:=
 if C8 b=true/\K2 h=true/\0<=a/\a<=65535 then b++58::47::47::(T2 h++(if a=G7 b then [] else 58::Q6 a)) else []
theorem Ac4{c a:By}(h:C8 c=true)(g:Db1 a):B8 (c++58::47::47::a)=B8 (c++58::47::47::(a++[47])):=by
 obtain⟨l,i,f,m⟩:=CW h;have j:I1 a=a.length:=by
  have:=AU (r:=[]) g (λb d=>by cases d);rwa [ab0] at this
 have k:I1 (a++[47])=a.length:=AU g (λb d=>by obtain rfl:=ab2 d;decide);unfold B8;rw[Q5 f,Q5 f];have e:(c++58::47::47::(a++[47])).any ctl=(c++58::47::47::a).any ctl:=by
  simp[List.any_append,show ctl 47=false from rfl]
 have p:∀x:By,([47,47]:By).isPrefixOf (47::47::x)=true:=λx=>by simp[af1]
 simp only[e,List.drop_succ_cons,j9,j,k,ae0,ae1,af2,ac8,p,i,h];rfl
theorem Cc8{c:By}{h:B2}{a:Int}(f:C8 c=true)(ok:Ap h)(i:K2 h=true)(g:0<=a/\a<=65535) :
  B8 (Hu c h a)=(⟨c,[],h,if a=G7 c then -1 else a,[47]⟩,0):=by
 have j:(if a=G7 c then (-1:Int) else a)=-1\/(0<=(if a=G7 c then (-1:Int) else a)/\(if a=G7 c then (-1:Int) else a)<=65535/\(if a=G7 c then (-1:Int) else a)≠G7 c):=by
  by_cases e:a=G7 c
  ·rw[if_pos e];exact .inl rfl
  ·rw[if_neg e];exact .inr ⟨g.1,g.2,e⟩
 have k:Hu c h a=c++58::47::47::(T2 h++(if (if a=G7 c then (-1:Int) else a)=-1 then [] else 58::Q6 (if a=G7 c then (-1:Int) else a))):=by
  unfold Hu;rw[if_pos ⟨f,i,g⟩];by_cases e:a=G7 c
  ·rw[if_pos e,if_pos e];simp
  ·rw[if_neg e,if_neg e,if_neg (show ¬a=-1 by omega)]
 rw[k];generalize (if a=G7 c then (-1:Int) else a)=q at *;have d:=λb d=>@ZT h q c ok i j b d
 rw[Ac4 f (λb h=>(d b h).2.1)];have l:CU ⟨c,[],h,q,[47]⟩:=by
  refine⟨λh=>?_,λ_=>⟨(λb d=>by cases d),(λb d=>by cases d),ok,i,j,⟨[],rfl⟩,λb d=>?_⟩⟩
  ·simp only at h;rw[f] at h;cases h
  ·obtain rfl:b=47:=by simpa using d
   rfl
 have:=XM l;unfold Cf Na at this;simpa[f] using this
end
section
open Go Go.Proofs
set_option maxRecDepth 100000
section
def An3:List PV->Tr
 | [.agg [.s (.str l),.s (.str m),.s (.int .i64 n),.s (.str i),.s (.int .u32 v4),.s (.int .u16 a),.s (.int .u16 b),.s (.int .u16 c),.s (.int .u16 d),.s (.int .u16 e),.s (.int .u16 f),.s (.int .u16 g),.s (.int .u16 h),.s (.int .i64 j),.s (.str k)]]=>.need (smU l m i k) (.need (ltN v4 4294967296) (.need (ok8 a b c d e f g h) (.need (Dz j) (.ret (.tup [.agg [.s (.str (oS (ofC l m n i v4 a b c d e f g h j k))),.s (.int .i64 (oK (ofC l m n i v4 a b c d e f g h j k))),.s (.str (oN (ofC l m n i v4 a b c d e f g h j k))),.s (.int .u32 (oV (ofC l m n i v4 a b c d e f g h j k))),.s (.int .u16 (oA (ofC l m n i v4 a b c d e f g h j k) 0)),.s (.int .u16 (oA (ofC l m n i v4 a b c d e f g h j k) 1)),.s (.int .u16 (oA (ofC l m n i v4 a b c d e f g h j k) 2)),.s (.int .u16 (oA (ofC l m n i v4 a b c d e f g h j k) 3)),.s (.int .u16 (oA (ofC l m n i v4 a b c d e f g h j k) 4)),.s (.int .u16 (oA (ofC l m n i v4 a b c d e f g h j k) 5)),.s (.int .u16 (oA (ofC l m n i v4 a b c d e f g h j k) 6)),.s (.int .u16 (oA (ofC l m n i v4 a b c d e f g h j k) 7)),.s (.int .i64 (oP (ofC l m n i v4 a b c d e f g h j k)))],.s (.bool (oB (ofC l m n i v4 a b c d e f g h j k)))]) []))))
 | _=>.fail
def XT(args:List PV):Tr:=An3 (C5 [[0,0,0,0,0,0,0,0,0,0,0,0,0,0,0]] args)
def QT:List PV->Tr
 | [.agg [.s (.str l),.s (.int .i64 j),.s (.str i),.s (.int .u32 v4),.s (.int .u16 a),.s (.int .u16 b),.s (.int .u16 c),.s (.int .u16 d),.s (.int .u16 e),.s (.int .u16 f),.s (.int .u16 g),.s (.int .u16 h),.s (.int .i64 k)]]=>.need (A2 (j5 i)) (.need (ltN v4 4294967296) (.need (ok8 a b c d e f g h) (.ret (.s (.str (Hu l (mkH j i v4 (n8 a b c d e f g h)) k))) [])))
 | _=>.fail
def FF(args:List PV):Tr:=QT (C5 [[0,0,0,0,0,0,0,0,0,0,0,0,0]] args)
def FG:List PV->Tr
 | [.agg [.s (.int .i64 j),.s (.str i),.s (.int .u32 v4),.s (.int .u16 a),.s (.int .u16 b),.s (.int .u16 c),.s (.int .u16 d),.s (.int .u16 e),.s (.int .u16 f),.s (.int .u16 g),.s (.int .u16 h)]]=>.need (A2 (j5 i)) (.need (ltN v4 4294967296) (.need (ok8 a b c d e f g h) (.ret (.s (.bool (Aa7 j i v4 a b c d e f g h))) [])))
 | _=>.fail
def DM(args:List PV):Tr:=FG (C5 [[0,0,0,0,0,0,0,0,0,0,0]] args)
def Xz:List PV->Tr
 | [.agg [.s (.str l),.s (.str m),.s (.int .i64 n),.s (.str i),.s (.int .u32 v4),.s (.int .u16 a),.s (.int .u16 b),.s (.int .u16 c),.s (.int .u16 d),.s (.int .u16 e),.s (.int .u16 f),.s (.int .u16 g),.s (.int .u16 h),.s (.int .i64 j),.s (.str k)]]=>.need (smU l m i k) (.need (ltN v4 4294967296) (.need (ok8 a b c d e f g h) (.need (Dz j) (.ret (.s (.bool (Ba1 l m n i v4 a b c d e f g h j k))) []))))
 | _=>.fail
def FH(args:List PV):Tr:=Xz (C5 [[0,0,0,0,0,0,0,0,0,0,0,0,0,0,0]] args)
def Rl:List PV->Tr
 | []=>.ret (.s (.bool true)) []
 | _=>.fail
def Xt(args:List PV):Tr:=Rl (C5 [] args)
end
section
variable {Z R : Type} (L : Nat) (Q : G1) (Y : Yh Z) (s : Z) (k : Out -> St Z -> Option R)
noncomputable def B64(L:Nat):Cfg:=B6 L [31] (A3 []) [(22,Ps),(16,Yo),(26,Ao5)] (A3 [(3,[2,0]),(2,[2,0]),(1,[1,0,9]),(0,[1,0])]) [22,16,26] (A3 []) (some [2,0]) [] [] []
noncomputable def oof{R:Type}(L:Nat)(f o:By)(n:Int)(g:By)(h i j l u8 m a b c d:Int)(e:By)(p:By->Int->By->Int->Int->Int->Int->Int->Int->Int->Int->Int->Int->Bool->(List Blk)->Option R):Option R:=cond (not (C8 f)) (p e0 0 e0 0 0 0 0 0 0 0 0 0 0 false [(bU f o n g h i j l u8 m a b c d e),bO0]) (cond (smU f o g e) (cond (ltN h 4294967296) (cond (ok8 i j l u8 m a b c) (cond (Dz d) (cond (not (Hs (mkU f o n g h (n8 i j l u8 m a b c) d e))) (p e0 0 e0 0 0 0 0 0 0 0 0 0 0 false [(bU f o n g h i j l u8 m a b c d e),bO0]) (p f n g h i j l u8 m a b c (prt f d) true [(bU f o n g h i j l u8 m a b c d e),(bO f n g h i j l u8 m a b c (prt f d))])) none) none) none) none)
theorem Db3(d:Nat)(u0 u1 u2 u3 u4 u5 u6 u7 u8 u9 u10 u11 u12 u13 u14):evC (B64 L) (d+1) Z Y 31 [(gU u0 u1 u2 u3 u4 u5 u6 u7 u8 u9 u10 u11 u12 u13 u14)] [] s=oof L u0 u1 u2 u3 u4 u5 u6 u7 u8 u9 u10 u11 u12 u13 u14 (λg h i j l m n o r8 p b c e f a=>some (.tup [(gO g h i j l m n o r8 p b c e),pB f],a,s)):=by refine(evE (fn:=Tryz.f31) (by kernel_rfl)).trans ?_;generalize evC (B64 L) d=Q;unfold oof;kernel_rfl
noncomputable def Ar3(L:Nat):Cfg:=B6 L [38] (A3 []) [(22,Ps),(46,QE),(50,Am7),(26,Ao5),(51,QK)] (A3 [(6,[2]),(5,[3]),(4,[1,1,33]),(3,[1,1]),(2,[2]),(1,[1,21]),(0,[1])]) [22,46,50,26,51] (A3 []) (some [2]) [] [] []
noncomputable def Cw0{R:Type}(L:Nat)(d:By)(p:Int)(e:By)(f g h i j l m b c a:Int)(q:By->(List Blk)->Option R):Option R:=cond (not (C8 d)) (q e0 [(bO d p e f g h i j l m b c a)]) (cond (A2 e.length) (cond (ltN f 4294967296) (cond (ok8 g h i j l m b c) (cond (not (K2 (mkH p e f (n8 g h i j l m b c)))) (q e0 [(bO d p e f g h i j l m b c a)]) (cond (ltI a 0) (q e0 [(bO d p e f g h i j l m b c a)]) (cond (ltI 65535 a) (q e0 [(bO d p e f g h i j l m b c a)]) (cond (J7 d.length 3) (vl (d++[58,47,47]) λn=>cond (A2 e.length) (cond (ltN f 4294967296) (cond (ok8 g h i j l m b c) (vl (T2 (mkH p e f (n8 g h i j l m b c))) λo=>cond (J7 n.length o.length) (cond (a !=(prt d ((-1):Int))) (cond (Dz a) (cond (J7 1 (j5 (Q6 a))) (vl (([58]:List UInt8)++(Q6 a)) λr=>cond (J7 (j5 (n++o)) r.length) (q ((n++o)++r) [(bO d p e f g h i j l m b c a)]) none) none) none) (q (n++o) [(bO d p e f g h i j l m b c a)])) none) none) none) none) none)))) none) none) none)
theorem Cw1(d:Nat)(o0 o1 o2 o3 o4 o5 o6 o7 o8 o9 o10 o11 o12):evC (Ar3 L) (d+1) Z Y 38 [(gO o0 o1 o2 o3 o4 o5 o6 o7 o8 o9 o10 o11 o12)] [] s=Cw0 L o0 o1 o2 o3 o4 o5 o6 o7 o8 o9 o10 o11 o12 (λb a=>some (pS b,a,s)):=by refine(evE (fn:=Tryz.f38) (by kernel_rfl)).trans ?_;generalize evC (Ar3 L) d=Q;unfold Cw0;kernel_rfl
noncomputable def TD(L:Nat):Cfg:=B6 L [33] (A3 []) [(46,QE),(47,B26)] (A3 [(8,[2]),(5,[2]),(7,[2]),(6,[1,12]),(4,[1,5,0]),(3,[1,5]),(2,[2]),(1,[1,3]),(0,[1])]) [46,47] (A3 [(0,[1])]) (some [2]) [] [] []
noncomputable def Bj5{R:Type}(L:Nat)(c:Int)(b:By)(d e f g h i j l a:Int)(m:Bool->(List Blk)->Option R):Option R:=cond (A2 b.length) (cond (ltN d 4294967296) (cond (ok8 e f g h i j l a) (cond (not (K2 (mkH c b d (n8 e f g h i j l a)))) (m false [(bH c b d e f g h i j l a)]) (cond (c==2) (vl (KG .u32 d (24:Int)) λn=>m (n==127) [(bH c b d e f g h i j l a)]) (cond (c==3) (m ((e==0)&&((f==0)&&((g==0)&&((h==0)&&((i==0)&&((j==0)&&((l==0)&&((a==1)&&true)))))))) [(bH c b d e f g h i j l a)]) (cond (A2 b.length) (m (Lj ([108,111,99,97,108,104,111,115,116]:List UInt8) b) [(bH c b d e f g h i j l a)]) none)))) none) none) none
theorem Cc5(d:Nat)(h0 h1 h2 h3 h4 h5 h6 h7 h8 h9 h10):evC (TD L) (d+1) Z Y 33 [(gH h0 h1 h2 h3 h4 h5 h6 h7 h8 h9 h10)] [] s=Bj5 L h0 h1 h2 h3 h4 h5 h6 h7 h8 h9 h10 (λb a=>some (pB b,a,s)):=by refine(evE (fn:=Tryz.f33) (by kernel_rfl)).trans ?_;generalize evC (TD L) d=Q;unfold Bj5;kernel_rfl
noncomputable abbrev Ny:Code:=C6 af5
noncomputable def X1(L:Nat):Cfg:=B6 L [35] (A3 []) [(16,Yo),(22,Ps),(33,DM)] (A3 [(10,[2]),(7,[2]),(9,[2]),(8,[1,10]),(6,[1,5,0]),(5,[1,5,0]),(4,[1,5,0]),(3,[1,5]),(2,[2]),(1,[1,3]),(0,[1])]) [16,22,33] (A3 [(0,[1])]) (some [2]) [] [] []
noncomputable def Fu{R:Type}(g:By)(q:Bool)(n:By)(h:Int)(o:By)(i j l n8 m b c d e f:Int)(a:By)(p:Bool->(List Blk)->Option R)(r:Bool->By->By->Int->By->Int->Int->Int->Int->Int->Int->Int->Int->Int->Int->By->Option R):Option R:=cond q (p true [(bU g n h o i j l n8 m b c d e f a)]) (cond (g==[97,98,111,117,116]) (cond (a==[98,108,97,110,107]) (p true [(bU g n h o i j l n8 m b c d e f a)]) (p (a==[115,114,99,100,111,99]) [(bU g n h o i j l n8 m b c d e f a)])) (r (g==[97,98,111,117,116]) g n h o i j l n8 m b c d e f a))
abbrev CB(b:Code):Prop:=∀(k:Out->St Z->Option R) s0 b1 n h o i j l n8 m a c d e f g,A9 (X1 L) Q Y b ⟨gp [(1,.ptr 0 0 0),(5,pS s0),(0,pB b1)] 21,[(bU s0 n h o i j l n8 m a c d e f g)],s⟩ k=Fu s0 b1 n h o i j l n8 m a c d e f g (λp q=>k .ret ⟨gp [(2,pB p)] 27,q,s⟩) (λp r n h o i j l n8 m a c d e f g=>k .normal ⟨gp [(1,.ptr 0 0 0),(10,pB p)] 17,[(bU r n h o i j l n8 m a c d e f g)],s⟩)
theorem UX:CB (R:=R) L Q Y s (cd [1,1,0,1,0,1] Ny):=by intro k n g o h p i j l n8 m a b c d e f;unfold Fu;kernel_rfl
noncomputable def Fv{R:Type}(n p:By)(m:Int)(l:By)(g h i n8 j a b c d e:Int)(f:By)(o:Bool->(List Blk)->Option R):Option R:=cond (C8 n) (cond (A2 l.length) (cond (ltN g 4294967296) (cond (ok8 h i n8 j a b c d) (o (Aa7 m l g h i n8 j a b c d) [(bU n p m l g h i n8 j a b c d e f)]) none) none) none) (o false [(bU n p m l g h i n8 j a b c d e f)])
abbrev CC(b:Code):Prop:=∀(k:Out->St Z->Option R) a s1 s2 n3 s4 n5 n6 n7 n8 n9 n10 n11 n12 n13 n14 s15,A9 (X1 L) Q Y b ⟨gp [(1,.ptr 0 0 0),(10,pB a)] 17,[(bU s1 s2 n3 s4 n5 n6 n7 n8 n9 n10 n11 n12 n13 n14 s15)],s⟩ k=Fv s1 s2 n3 s4 n5 n6 n7 n8 n9 n10 n11 n12 n13 n14 s15 (λa c=>k .ret ⟨gp [(2,pB a)] 27,c,s⟩)
theorem UY:CC (R:=R) L Q Y s (cd [1,1,1] Ny):=by intro k g n o h p i j l n8 m a b c d e f;unfold Fv;kernel_rfl
noncomputable def JE{R:Type}(L:Nat)(f h:By)(u2:Int)(i:By)(j l m n u8 o a b c d:Int)(e:By)(g:Bool->(List Blk)->Option R):Option R:=cond (smU f h i e) (cond (ltN j 4294967296) (cond (ok8 l m n u8 o a b c) (cond (Dz d) (cond (not (Hs (mkU f h u2 i j (n8 l m n u8 o a b c) d e))) (g false [(bU f h u2 i j l m n u8 o a b c d e)]) (cond (f==[104,116,116,112,115]) (Fu f (f==[104,116,116,112,115]) h u2 i j l m n u8 o a b c d e g (λc0 b3 b4 a9 b5 b0 b1 b2 p q r t u v w X=>Fv b3 b4 a9 b5 b0 b1 b2 p q r t u v w X g)) (cond (f==[119,115,115]) (Fu f (f==[119,115,115]) h u2 i j l m n u8 o a b c d e g (λb6 a0 a1 x a2 y z A B C D F G H I a3=>Fv a0 a1 x a2 y z A B C D F G H I a3 g)) (Fu f (f==[102,105,108,101]) h u2 i j l m n u8 o a b c d e g (λb7 a4 a5 J a6 K M N O P S T U V W a7=>Fv a4 a5 J a6 K M N O P S T U V W a7 g))))) none) none) none) none
theorem Bs3(c:Code)(a:CB (R:=PV × List Blk × Z) L Q Y s c)(d:Code)(b:CC (R:=PV × List Blk × Z) L Q Y s d)(j u1:By)(u2:Int)(u3:By)(u4 u5 u6 u7 u8 u9 e f g h:Int)(i:By):A9 (X1 L) Q Y (cd [] (G3 [1,1,1] d (G3 [1,1,0,1,0,1] c Ny))) ⟨[(gU j u1 u2 u3 u4 u5 u6 u7 u8 u9 e f g h i)]++tps 29,[],s⟩ (F5 (X1 L) af5)=JE L j u1 u2 u3 u4 u5 u6 u7 u8 u9 e f g h i (λr0 H1=>some (pB r0,H1,s)):=by unfold JE;exact let K0:=(F5 (X1 L) af5);let K1:=(E6 0 (E5 (X1 L) Q Y d K0));(a8 (by kernel_rfl) (A0 (A0 (A0 (A0 (A0 rfl (A0 ((a K1 j (j==[104,116,116,112,115]) u1 u2 u3 u4 u5 u6 u7 u8 u9 e f g h i).trans (congr (congr rfl (by kernel_rfl)) (fx1 λa6=>(fx1 λb2=>(fx1 λb3=>(fx1 λa7=>(fx1 λb4=>(fx1 λa9=>(fx1 λb0=>(fx1 λb1=>(fx1 λn=>(fx1 λo=>(fx1 λp=>(fx1 λq=>(fx1 λr=>(fx1 λt=>(fx1 λu=>(fx1 λV=>(a8 (by kernel_rfl) ((b K0 a6 b2 b3 a7 b4 a9 b0 b1 n o p q r t u V).trans (by kernel_rfl))))))))))))))))))))) (A0 ((a K1 j (j==[119,115,115]) u1 u2 u3 u4 u5 u6 u7 u8 u9 e f g h i).trans (congr (congr rfl (by kernel_rfl)) (fx1 λl=>(fx1 λW=>(fx1 λX=>(fx1 λv=>(fx1 λa0=>(fx1 λw=>(fx1 λx=>(fx1 λy=>(fx1 λz=>(fx1 λA=>(fx1 λB=>(fx1 λC=>(fx1 λD=>(fx1 λF=>(fx1 λG=>(fx1 λa1=>(a8 (by kernel_rfl) ((b K0 l W X v a0 w x y z A B C D F G a1).trans (by kernel_rfl))))))))))))))))))))) ((a K1 j (j==[102,105,108,101]) u1 u2 u3 u4 u5 u6 u7 u8 u9 e f g h i).trans (congr (congr rfl (by kernel_rfl)) (fx1 λm=>(fx1 λa2=>(fx1 λa3=>(fx1 λH=>(fx1 λa4=>(fx1 λI=>(fx1 λJ=>(fx1 λK=>(fx1 λM=>(fx1 λN=>(fx1 λO=>(fx1 λP=>(fx1 λS=>(fx1 λT=>(fx1 λU=>(fx1 λa5=>(a8 (by kernel_rfl) ((b K0 m a2 a3 H a4 I J K M N O P S T U a5).trans (by kernel_rfl)))))))))))))))))))))))) rfl) rfl) rfl) rfl))
theorem Bs4(d:Nat)(u0 u1 u2 u3 u4 u5 u6 u7 u8 u9 u10 u11 u12 u13 u14):evC (X1 L) (d+1) Z Y 35 [(gU u0 u1 u2 u3 u4 u5 u6 u7 u8 u9 u10 u11 u12 u13 u14)] [] s=JE L u0 u1 u2 u3 u4 u5 u6 u7 u8 u9 u10 u11 u12 u13 u14 (λb a=>some (pB b,a,s)):=
 (evE (fn:=af5) (by kernel_rfl)).trans (a8 (by kernel_rfl) (Bs3 L (evC (X1 L) d) Y s (cd [1,1,0,1,0,1] Ny) (UX L (evC (X1 L) d) Y s) (cd [1,1,1] Ny) (UY L (evC (X1 L) d) Y s) u0 u1 u2 u3 u4 u5 u6 u7 u8 u9 u10 u11 u12 u13 u14))
end
abbrev Di8(f:Int->By->Int->Int->Int->Int->Int->Int->Int->Int->Int->(Bool->List Blk->Option (PV × List Blk × Unit))->Option (PV × List Blk × Unit))(k:Int)(j:By)(v4 a b c d e g h i:Int):Prop:=
 A2 j.length=true->ltN v4 4294967296=true->ok8 a b c d e g h i=true->∃r H,f k j v4 a b c d e g h i (λm l=>rv (.s (.bool m)) l)=rv r H/\r.stab [] H = .s (.bool (Aa7 k j v4 a b c d e g h i))
theorem Cc6(a:Int)(j:By)(v4 b c d e f g h i:Int):Di8 (Bj5 LF) a j v4 b c d e f g h i:=λk l m=>by
 unfold Bj5 Aa7;rw[k,l,m];cases K2 (mkH a j v4 (n8 b c d e f g h i))<;>cases a==2<;>cases a==3<;>exact⟨_,_,rfl,rfl⟩
abbrev rvO(m:By)(f:Int)(n:By)(g h i j k n8 l c d e:Int)(b:Bool)(a:List Blk):=rv (.tup [gO m f n g h i j k n8 l c d e,.s (.bool b)]) a
abbrev pvO(q:OC):PV:=.tup [gO (oS q) (oK q) (oN q) (oV q) (oA q 0) (oA q 1) (oA q 2) (oA q 3) (oA q 4) (oA q 5) (oA q 6) (oA q 7) (oP q),.s (.bool (oB q))]
theorem Db4(a m:By)(n:Int)(j:By)(v4 b c d e f g h i k:Int)(l:By)(o:smU a m j l=true)(p:ltN v4 4294967296=true)(q:ok8 b c d e f g h i=true)(t:Dz k=true) :
  ∃r H,oof LF a m n j v4 b c d e f g h i k l rvO=rv r H/\r.stab [0,0] H=pvO (ofC a m n j v4 b c d e f g h i k l):=by
 unfold oof ofC ofB;rw[o,p,q,t,show(mkU a m n j v4 (n8 b c d e f g h i) k l).sch=a from rfl];cases C8 a<;>cases Hs (mkU a m n j v4 (n8 b c d e f g h i) k l)<;>exact⟨_,_,rfl,rfl⟩
theorem Pc{s:By}(h:C8 s=true):s.length<=5:=by simp only[C8,aa9,beq_iff_eq] at h;rcases h with(rfl|rfl)|rfl|rfl<;>decide
theorem Cc9{b F:By}{a:Int}(e:¬a=G7 b):(b++[58,47,47]++F)++([58]++Q6 a)=b++58::47::47::(F++(if a=G7 b then [] else 58::Q6 a)):=by rw[if_neg e];simp
theorem Cw2(b:By)(n:Int)(c:By)(v4 d f g i j k l m a:Int)(h0:A2 c.length=true)(h1:ltN v4 4294967296=true)(o:ok8 d f g i j k l m=true) :
  ∃r H,Cw0 LF b n c v4 d f g i j k l m a (λv t=>rv (.s (.str v)) t)=rv r H/\r.stab [] H = .s (.str (Hu b (mkH n c v4 (n8 d f g i j k l m)) a)):=by
 have x:=Ux (TX (h0:=n) (h1:=c) h1 o);unfold Cw0 Hu;rw[h0,h1,o];cases u:C8 b with
 | false=>exact⟨_,_,rfl,rfl⟩
 | true=>
  have y:=Pc u;cases z:K2 (mkH n c v4 (n8 d f g i j k l m)) with
  | false=>exact⟨_,_,rfl,rfl⟩
  | true=>
   by_cases p:0<=a
   ·by_cases q:a<=65535
    ·have w:=Qc (Jz.2 ⟨by omega,by omega⟩:Dz a=true);rw[A6,A6,if_pos ⟨rfl,rfl,p,q⟩,Jz.2 ⟨by omega,by omega⟩,show prt b (-1)=G7 b from rfl];simp only[vl,cond_true,cond_false,c9];rw[J8 (by omega),cond_true,J8 (by simp;omega),cond_true];by_cases e:a=G7 b
     ·rw[show(a !=G7 b)=false by simpa using e,if_pos e];refine⟨_,_,rfl,?_⟩;simp;rfl
     ·rw[show(a !=G7 b)=true by simpa using e,cond_true,J8 (by omega),cond_true,J8 (by simp;omega),<-Cc9 e];exact⟨_,_,rfl,rfl⟩
    ·rw[A6,A8,if_neg (λh=>q h.2.2.2)];exact⟨_,_,rfl,rfl⟩
   ·rw[A8,if_neg (λh=>p h.2.2.1)];exact⟨_,_,rfl,rfl⟩
theorem Bs5(a m:By)(n:Int)(b:By)(v4 d e f g h i j k l:Int)(c:By)(o:smU a m b c=true)(q:ltN v4 4294967296=true)(t:ok8 d e f g h i j k=true)(u:Dz l=true) :
  ∃r H,JE LF a m n b v4 d e f g h i j k l c (λv p=>rv (.s (.bool v)) p)=rv r H/\r.stab [] H = .s (.bool (Ba1 a m n b v4 d e f g h i j k l c)):=by
 obtain⟨x,y,z,A⟩:=WK o;have w:A2 b.length=true:=N6;unfold JE Fu Fv Ba1;simp only[o,q,t,u,w,show(a==([104,116,116,112,115]:List UInt8))=(a==Iw) from rfl,show(a==([119,115,115]:List UInt8))=(a==KX) from rfl,show(a==([102,105,108,101]:List UInt8))=(a==B49) from rfl,show(a==([97,98,111,117,116]:List UInt8))=(a==Ap5) from rfl];cases Hs (mkU a m n b v4 (n8 d e f g h i j k) l c)<;>cases a==Iw<;>cases a==KX<;>cases a==B49<;>cases a==Ap5<;>cases C8 a<;>cases c==([98,108,97,110,107]:List UInt8)<;>exact⟨_,_,rfl,rfl⟩
section
variable {Z R : Type} (L : Nat) (Q : G1) (Y : Yh Z) (s : Z) (k : Out -> St Z -> Option R)
noncomputable def MU(L:Nat):Cfg:=B6 L [30] (A3 []) [(14,Jo),(31,XT),(38,FF),(35,FH),(33,DM)] (A3 [(4,[0]),(3,[1,1,0,0]),(2,[1,1,0]),(1,[1]),(0,[])]) [38,35,33] (A3 []) (some [0]) [] [] []
noncomputable abbrev MO:Code:=C6 y7
noncomputable def Eo(L:Nat):Cfg:=B6 L [10] (A3 []) [(37,EW),(30,Xt),(14,Jo),(31,XT),(23,Ub),(38,FF)] (A3 [(13,[4]),(12,[9,1,2,0,0]),(11,[9,1,1,0]),(10,[4]),(9,[5,3,0,0,50]),(8,[5,3,0,0,0]),(7,[5,1,1,0]),(6,[4]),(5,[5,1,30]),(4,[5,0,0,0]),(3,[1,3,0]),(2,[4]),(1,[0,0,19]),(0,[0,0])]) [37,30,23,38] (A3 []) (some [4]) [] [] []
noncomputable def IR{R:Type}(a4:Bool)(s1 s2:By)(n3:Int)(s4:By)(n5 n6 n7 S n9 a b c d e:Int)(T U V:By)(f:Int)(W:By)(g h i j l m n o p q:Int)(X a0:By)(r:Int)(a1:By)(t u v w x y z A B C:Int)(a2:By)(D:Int)(a3:By)(F G H I J K M N O P:Int)(k0:Bool->(List Blk)->Option R):Option R:=cond (a4==(C8 s1)) (k0 true [(bU s1 s2 n3 s4 n5 n6 n7 S n9 a b c d e T),(bU U V f W g h i j l m n o p q X),(bO a0 r a1 t u v w x y z A B C),(bO a2 D a3 F G H I J K M N O P)]) (k0 false [(bU s1 s2 n3 s4 n5 n6 n7 S n9 a b c d e T),(bU U V f W g h i j l m n o p q X),(bO a0 r a1 t u v w x y z A B C),(bO a2 D a3 F G H I J K M N O P)])
abbrev Aa8(b:Code):Prop:=∀(k:Out->St Z->Option R) ok0 s1 s2 n3 s4 n5 n6 n7 n8v n9 n10 n11 n12 n13 n14 s15 s16 s17 n18 s19 n20 n21 n22 n23 n24 n25 n26 n27 n28 n29 s30 s31 n32 s33 n34 n35 n36 n37 n38 n39 n40 n41 n42 n43 s44 n45 s46 n47 n48 n49 n50 n51 n52 n53 n54 n55 n56,A9 (Eo L) Q Y b ⟨gp [(5,.ptr 0 0 0),(3,.ptr 2 0 0),(0,pB ok0),(0,.ptr 3 0 0),(50,pB true)] 43,[(bU s1 s2 n3 s4 n5 n6 n7 n8v n9 n10 n11 n12 n13 n14 s15),(bU s16 s17 n18 s19 n20 n21 n22 n23 n24 n25 n26 n27 n28 n29 s30),(bO s31 n32 s33 n34 n35 n36 n37 n38 n39 n40 n41 n42 n43),(bO s44 n45 s46 n47 n48 n49 n50 n51 n52 n53 n54 n55 n56)],s⟩ k=IR ok0 s1 s2 n3 s4 n5 n6 n7 n8v n9 n10 n11 n12 n13 n14 s15 s16 s17 n18 s19 n20 n21 n22 n23 n24 n25 n26 n27 n28 n29 s30 s31 n32 s33 n34 n35 n36 n37 n38 n39 n40 n41 n42 n43 s44 n45 s46 n47 n48 n49 n50 n51 n52 n53 n54 n55 n56 (λc a=>k .ret ⟨gp [(4,pB c)] 101,a,s⟩)
theorem Bq8:Aa8 (R:=R) L Q Y s (cd [1,1,1,1,1,1,1,0,1] MO):=by intro k T s1 s2 n3 s4 n5 n6 n7 S n9 a b c d e U V W f X g h i j l m n o p q a0 a1 r a2 t u v w x y z A B C a3 D a4 F G H I J K M N O P;unfold IR;kernel_rfl
noncomputable def IS{R:Type}(a5 b1:Bool)(s2 s3:By)(n4:Int)(s5:By)(n6 n7 T n9 a b c d e f:Int)(U V W:By)(g:Int)(X:By)(h i j l m n o p q r:Int)(a0 a1:By)(t:Int)(a2:By)(u v w x y z A B C D:Int)(a3:By)(F:Int)(a4:By)(G H I J K M N O P S:Int)(k0:Bool->(List Blk)->Option R)(k1:Bool->Bool->By->By->Int->By->Int->Int->Int->Int->Int->Int->Int->Int->Int->Int->By->By->By->Int->By->Int->Int->Int->Int->Int->Int->Int->Int->Int->Int->By->By->Int->By->Int->Int->Int->Int->Int->Int->Int->Int->Int->Int->By->Int->By->Int->Int->Int->Int->Int->Int->Int->Int->Int->Int->Option R):Option R:=cond b1 (cond (a5==(C8 s2)) (k0 true [(bU s2 s3 n4 s5 n6 n7 T n9 a b c d e f U),(bU V W g X h i j l m n o p q r a0),(bO a1 t a2 u v w x y z A B C D),(bO a3 F a4 G H I J K M N O P S)]) (k0 false [(bU s2 s3 n4 s5 n6 n7 T n9 a b c d e f U),(bU V W g X h i j l m n o p q r a0),(bO a1 t a2 u v w x y z A B C D),(bO a3 F a4 G H I J K M N O P S)])) (k1 a5 b1 s2 s3 n4 s5 n6 n7 T n9 a b c d e f U V W g X h i j l m n o p q r a0 a1 t a2 u v w x y z A B C D a3 F a4 G H I J K M N O P S)
abbrev Aa9(b:Code):Prop:=∀(k:Out->St Z->Option R) V b1 s2 s3 n4 s5 n6 n7 U n9 a c d e f g W X a0 h a1 i j l m n o p q r t a2 a3 u a4 v w x y z A B C D F a5 G a6 H I J K M N O P S T,A9 (Eo L) Q Y b ⟨gp [(5,.ptr 0 0 0),(3,.ptr 2 0 0),(0,pB V),(0,.ptr 3 0 0),(50,pB b1)] 43,[(bU s2 s3 n4 s5 n6 n7 U n9 a c d e f g W),(bU X a0 h a1 i j l m n o p q r t a2),(bO a3 u a4 v w x y z A B C D F),(bO a5 G a6 H I J K M N O P S T)],s⟩ k=IS V b1 s2 s3 n4 s5 n6 n7 U n9 a c d e f g W X a0 h a1 i j l m n o p q r t a2 a3 u a4 v w x y z A B C D F a5 G a6 H I J K M N O P S T (λb0 H1=>k .ret ⟨gp [(4,pB b0)] 101,H1,s⟩) (λV b1 s2 s3 n4 s5 n6 n7 U n9 a c d e f g W X a0 h a1 i j l m n o p q r t a2 a3 u a4 v w x y z A B C D F a5 G a6 H I J K M N O P S T=>k .normal ⟨gp [(5,.ptr 0 0 0),(3,.ptr 2 0 0),(0,pB V),(0,.ptr 3 0 0),(50,pB b1)] 43,[(bU s2 s3 n4 s5 n6 n7 U n9 a c d e f g W),(bU X a0 h a1 i j l m n o p q r t a2),(bO a3 u a4 v w x y z A B C D F),(bO a5 G a6 H I J K M N O P S T)],s⟩)
theorem Bq9:Aa9 (R:=R) L Q Y s (cd [1,1,1,1,1,1,1,0,1] MO):=by intro k U b1 s2 s3 n4 s5 n6 n7 T n9 a b c d e f V W X g a0 h i j l m n o p q r a1 a2 t a3 u v w x y z A B C D a4 F a5 G H I J K M N O P S;unfold IS;kernel_rfl
noncomputable def IT{R:Type}(s2 s3:By)(n4:Int)(s5:By)(n6 n7 a1 n9 F G H I J K:Int)(a2 a3 a4:By)(M:Int)(a5:By)(N O P S T U V W X a0:Int)(a6 p:By)(n:Int)(m:By)(c d e f g h i j l o:Int)(D:By)(B:Int)(A:By)(q r t u v w x y z C:Int)(k0:Bool->(List Blk)->Option R):Option R:=cond (A2 m.length) (cond (ltN c 4294967296) (cond (ok8 d e f g h i j l) (vl (Hu p (mkH n m c (n8 d e f g h i j l)) o) λa7=>cond (A2 a7.length) (vl (E1 a7) λb=>cond (smU (uS b) (uU b) (uN b) (uR b)) (cond (ltN (uV b) 4294967296) (cond (okQ b) (cond (Dz (uP b)) (vl (ofQ b) λa=>cond (A2 m.length) (cond (ltN c 4294967296) (cond (ok8 d e f g h i j l) (vl (Hu p (mkH n m c (n8 d e f g h i j l)) o) λa9=>cond (A2 A.length) (cond (ltN q 4294967296) (cond (ok8 r t u v w x y z) (vl (Hu D (mkH B A q (n8 r t u v w x y z)) C) λb0=>cond (((p==D)&&((n==B)&&((m==A)&&((c==q)&&((d==r)&&((e==t)&&((f==u)&&((g==v)&&((h==w)&&((i==x)&&((j==y)&&((l==z)&&((o==C)&&true)))))))))))))==(a9==b0)) (cond ((uE b)==0) (cond (oB a) (cond (((oS a)==p)&&(((oK a)==n)&&(((oN a)==m)&&(((oV a)==c)&&(((oA a 0)==d)&&(((oA a 1)==e)&&(((oA a 2)==f)&&(((oA a 3)==g)&&(((oA a 4)==h)&&(((oA a 5)==i)&&(((oA a 6)==j)&&(((oA a 7)==l)&&(((oP a)==o)&&true))))))))))))) (k0 true [(bU s2 s3 n4 s5 n6 n7 a1 n9 F G H I J K a2),(bU a3 a4 M a5 N O P S T U V W X a0 a6),(bO p n m c d e f g h i j l o),(bO D B A q r t u v w x y z C),(bQ b),(bOQ a)]) (k0 false [(bU s2 s3 n4 s5 n6 n7 a1 n9 F G H I J K a2),(bU a3 a4 M a5 N O P S T U V W X a0 a6),(bO p n m c d e f g h i j l o),(bO D B A q r t u v w x y z C),(bQ b),(bOQ a)])) (k0 false [(bU s2 s3 n4 s5 n6 n7 a1 n9 F G H I J K a2),(bU a3 a4 M a5 N O P S T U V W X a0 a6),(bO p n m c d e f g h i j l o),(bO D B A q r t u v w x y z C),(bQ b),(bOQ a)])) (k0 false [(bU s2 s3 n4 s5 n6 n7 a1 n9 F G H I J K a2),(bU a3 a4 M a5 N O P S T U V W X a0 a6),(bO p n m c d e f g h i j l o),(bO D B A q r t u v w x y z C),(bQ b),(bOQ a)])) (k0 false [(bU s2 s3 n4 s5 n6 n7 a1 n9 F G H I J K a2),(bU a3 a4 M a5 N O P S T U V W X a0 a6),(bO p n m c d e f g h i j l o),(bO D B A q r t u v w x y z C),(bQ b),(bOQ a)])) none) none) none) none) none) none) none) none) none) none) none) none) none) none
abbrev Ab0(b:Code):Prop:=∀(k:Out->St Z->Option R) ok0 b1 s2 s3 n4 s5 n6 n7 n8v n9 n10 n11 n12 n13 n14 n15 s16 s17 s18 n19 s20 n21 n22 n23 n24 n25 n26 n27 n28 n29 n30 s31 s32 n33 s34 n35 n36 n37 n38 n39 n40 n41 n42 n43 n44 s45 n46 s47 n48 n49 n50 n51 n52 n53 n54 n55 n56 n57,A9 (Eo L) Q Y b ⟨gp [(5,.ptr 0 0 0),(3,.ptr 2 0 0),(0,pB ok0),(0,.ptr 3 0 0),(50,pB b1)] 43,[(bU s2 s3 n4 s5 n6 n7 n8v n9 n10 n11 n12 n13 n14 n15 s16),(bU s17 s18 n19 s20 n21 n22 n23 n24 n25 n26 n27 n28 n29 n30 s31),(bO s32 n33 s34 n35 n36 n37 n38 n39 n40 n41 n42 n43 n44),(bO s45 n46 s47 n48 n49 n50 n51 n52 n53 n54 n55 n56 n57)],s⟩ k=IT s2 s3 n4 s5 n6 n7 n8v n9 n10 n11 n12 n13 n14 n15 s16 s17 s18 n19 s20 n21 n22 n23 n24 n25 n26 n27 n28 n29 n30 s31 s32 n33 s34 n35 n36 n37 n38 n39 n40 n41 n42 n43 n44 s45 n46 s47 n48 n49 n50 n51 n52 n53 n54 n55 n56 n57 (λc a=>k .ret ⟨gp [(4,pB c)] 101,a,s⟩)
theorem Br0:Ab0 (R:=R) L Q Y s (cd [1,1,1,1,1,1,1,1] MO):=by intro k U b1 s2 s3 n4 s5 n6 n7 T n9 a b c d e f V W X g a0 h i j l m n o p q r a1 a2 t a3 u v w x y z A B C D a4 F a5 G H I J K M N O P S;unfold IT;kernel_rfl
noncomputable def los{R:Type}(L:Nat)(s0 t1:By)(e:Bool->(List Blk)->Option R):Option R:=cond (ac0 [[(SV.str s0)],[(SV.str t1)]] isS) (cond (not (Mo (1000:Int) (aa1 elS [[(SV.str s0)],[(SV.str t1)]]))) (e true []) (cond (A2 s0.length) (vl (E1 s0) λa=>cond (A2 t1.length) (vl (E1 t1) λb=>cond ((uE a)!=0) (e true [(bQ a),(bQ b)]) (cond ((uE b)!=0) (e true [(bQ a),(bQ b)]) (cond (smU (uS a) (uU a) (uN a) (uR a)) (cond (ltN (uV a) 4294967296) (cond (okQ a) (cond (Dz (uP a)) (vl (ofQ a) λc=>cond (smU (uS b) (uU b) (uN b) (uR b)) (cond (ltN (uV b) 4294967296) (cond (okQ b) (cond (Dz (uP b)) (vl (ofQ b) λd=>cond (not ((oB c)==(C8 (uS a)))) (IR (oB c) (uS a) (uU a) (uK a) (uN a) (uV a) (uA a 0) (uA a 1) (uA a 2) (uA a 3) (uA a 4) (uA a 5) (uA a 6) (uA a 7) (uP a) (uR a) (uS b) (uU b) (uK b) (uN b) (uV b) (uA b 0) (uA b 1) (uA b 2) (uA b 3) (uA b 4) (uA b 5) (uA b 6) (uA b 7) (uP b) (uR b) (oS c) (oK c) (oN c) (oV c) (oA c 0) (oA c 1) (oA c 2) (oA c 3) (oA c 4) (oA c 5) (oA c 6) (oA c 7) (oP c) (oS d) (oK d) (oN d) (oV d) (oA d 0) (oA d 1) (oA d 2) (oA d 3) (oA d 4) (oA d 5) (oA d 6) (oA d 7) (oP d) e) (cond (not (oB c)) (IR (oB c) (uS a) (uU a) (uK a) (uN a) (uV a) (uA a 0) (uA a 1) (uA a 2) (uA a 3) (uA a 4) (uA a 5) (uA a 6) (uA a 7) (uP a) (uR a) (uS b) (uU b) (uK b) (uN b) (uV b) (uA b 0) (uA b 1) (uA b 2) (uA b 3) (uA b 4) (uA b 5) (uA b 6) (uA b 7) (uP b) (uR b) (oS c) (oK c) (oN c) (oV c) (oA c 0) (oA c 1) (oA c 2) (oA c 3) (oA c 4) (oA c 5) (oA c 6) (oA c 7) (oP c) (oS d) (oK d) (oN d) (oV d) (oA d 0) (oA d 1) (oA d 2) (oA d 3) (oA d 4) (oA d 5) (oA d 6) (oA d 7) (oP d) e) (IS (oB c) (not (oB d)) (uS a) (uU a) (uK a) (uN a) (uV a) (uA a 0) (uA a 1) (uA a 2) (uA a 3) (uA a 4) (uA a 5) (uA a 6) (uA a 7) (uP a) (uR a) (uS b) (uU b) (uK b) (uN b) (uV b) (uA b 0) (uA b 1) (uA b 2) (uA b 3) (uA b 4) (uA b 5) (uA b 6) (uA b 7) (uP b) (uR b) (oS c) (oK c) (oN c) (oV c) (oA c 0) (oA c 1) (oA c 2) (oA c 3) (oA c 4) (oA c 5) (oA c 6) (oA c 7) (oP c) (oS d) (oK d) (oN d) (oV d) (oA d 0) (oA d 1) (oA d 2) (oA d 3) (oA d 4) (oA d 5) (oA d 6) (oA d 7) (oP d) e (λc0 c1 a5 a6 f a7 g h i j l m n o p q a9 b0 b1 r b2 t u v w x y z A B C b3 b4 D b5 F G H I J K M N O P b6 S b7 T U V W X a0 a1 a2 a3 a4=>IT a5 a6 f a7 g h i j l m n o p q a9 b0 b1 r b2 t u v w x y z A B C b3 b4 D b5 F G H I J K M N O P b6 S b7 T U V W X a0 a1 a2 a3 a4 e)))) none) none) none) none) none) none) none) none))) none) none)) none
theorem Da7(e:Code)(g:Aa8 (R:=PV × List Blk × Z) L Q Y s e)(h:Aa9 (R:=PV × List Blk × Z) L Q Y s e)(f:Code)(i:Ab0 (R:=PV × List Blk × Z) L Q Y s f)(s0 t1:By):A9 (Eo L) Q Y (cd [] (G3 [1,1,1,1,1,1,1,1] f (G3 [1,1,1,1,1,1,1,0,1] e MO))) ⟨[pS s0,pS t1]++tps 104,[],s⟩ (F5 (Eo L) y7)=los L s0 t1 (λr0 H1=>some (pB r0,H1,s)):=by unfold los;exact let K0:=(E5 (Eo L) Q Y f (F5 (Eo L) y7));(a8 (by kernel_rfl) (A0 (A0 rfl (A0 (A4 λa=>(A0 (A4 λb=>(A0 rfl (A0 rfl (A0 (A0 (A0 (A0 (A4 λc=>(A0 (A0 (A0 (A0 (A4 λd=>(A0 ((g K0 (oB c) (uS a) (uU a) (uK a) (uN a) (uV a) (uA a 0) (uA a 1) (uA a 2) (uA a 3) (uA a 4) (uA a 5) (uA a 6) (uA a 7) (uP a) (uR a) (uS b) (uU b) (uK b) (uN b) (uV b) (uA b 0) (uA b 1) (uA b 2) (uA b 3) (uA b 4) (uA b 5) (uA b 6) (uA b 7) (uP b) (uR b) (oS c) (oK c) (oN c) (oV c) (oA c 0) (oA c 1) (oA c 2) (oA c 3) (oA c 4) (oA c 5) (oA c 6) (oA c 7) (oP c) (oS d) (oK d) (oN d) (oV d) (oA d 0) (oA d 1) (oA d 2) (oA d 3) (oA d 4) (oA d 5) (oA d 6) (oA d 7) (oP d)).trans (by kernel_rfl)) (A0 ((g K0 (oB c) (uS a) (uU a) (uK a) (uN a) (uV a) (uA a 0) (uA a 1) (uA a 2) (uA a 3) (uA a 4) (uA a 5) (uA a 6) (uA a 7) (uP a) (uR a) (uS b) (uU b) (uK b) (uN b) (uV b) (uA b 0) (uA b 1) (uA b 2) (uA b 3) (uA b 4) (uA b 5) (uA b 6) (uA b 7) (uP b) (uR b) (oS c) (oK c) (oN c) (oV c) (oA c 0) (oA c 1) (oA c 2) (oA c 3) (oA c 4) (oA c 5) (oA c 6) (oA c 7) (oP c) (oS d) (oK d) (oN d) (oV d) (oA d 0) (oA d 1) (oA d 2) (oA d 3) (oA d 4) (oA d 5) (oA d 6) (oA d 7) (oP d)).trans (by kernel_rfl)) ((h K0 (oB c) (not (oB d)) (uS a) (uU a) (uK a) (uN a) (uV a) (uA a 0) (uA a 1) (uA a 2) (uA a 3) (uA a 4) (uA a 5) (uA a 6) (uA a 7) (uP a) (uR a) (uS b) (uU b) (uK b) (uN b) (uV b) (uA b 0) (uA b 1) (uA b 2) (uA b 3) (uA b 4) (uA b 5) (uA b 6) (uA b 7) (uP b) (uR b) (oS c) (oK c) (oN c) (oV c) (oA c 0) (oA c 1) (oA c 2) (oA c 3) (oA c 4) (oA c 5) (oA c 6) (oA c 7) (oP c) (oS d) (oK d) (oN d) (oV d) (oA d 0) (oA d 1) (oA d 2) (oA d 3) (oA d 4) (oA d 5) (oA d 6) (oA d 7) (oP d)).trans (congr (congr rfl (by kernel_rfl)) (fx1 λj=>(fx1 λl=>(fx1 λb2=>(fx1 λb3=>(fx1 λm=>(fx1 λb4=>(fx1 λn=>(fx1 λo=>(fx1 λp=>(fx1 λq=>(fx1 λr=>(fx1 λt=>(fx1 λu=>(fx1 λv=>(fx1 λw=>(fx1 λx=>(fx1 λb5=>(fx1 λb6=>(fx1 λb7=>(fx1 λy=>(fx1 λc0=>(fx1 λz=>(fx1 λA=>(fx1 λB=>(fx1 λC=>(fx1 λD=>(fx1 λF=>(fx1 λG=>(fx1 λH=>(fx1 λI=>(fx1 λJ=>(fx1 λc1=>(fx1 λc2=>(fx1 λK=>(fx1 λc3=>(fx1 λM=>(fx1 λN=>(fx1 λO=>(fx1 λP=>(fx1 λS=>(fx1 λT=>(fx1 λU=>(fx1 λV=>(fx1 λW=>(fx1 λX=>(fx1 λc4=>(fx1 λa0=>(fx1 λc5=>(fx1 λa1=>(fx1 λa2=>(fx1 λa3=>(fx1 λa4=>(fx1 λa5=>(fx1 λa6=>(fx1 λa7=>(fx1 λa9=>(fx1 λb0=>(fx1 λb1=>(a8 (by kernel_rfl) ((i (F5 (Eo L) y7) j l b2 b3 m b4 n o p q r t u v w x b5 b6 b7 y c0 z A B C D F G H I J c1 c2 K c3 M N O P S T U V W X c4 a0 c5 a1 a2 a3 a4 a5 a6 a7 a9 b0 b1).trans (by kernel_rfl)))))))))))))))))))))))))))))))))))))))))))))))))))))))))))))))))) rfl) rfl) rfl) rfl)) rfl) rfl) rfl) rfl)))) rfl)) rfl)) rfl))
theorem Da8(d:Nat)(s0 t1):evC (Eo L) (d+1) Z Y 10 [pS s0,pS t1] [] s=los L s0 t1 (λb a=>some (pB b,a,s)):=
 (evE (fn:=y7) (by kernel_rfl)).trans (a8 (by kernel_rfl) (Da7 L (evC (Eo L) d) Y s (cd [1,1,1,1,1,1,1,0,1] MO) (Bq8 L (evC (Eo L) d) Y s) (Bq9 L (evC (Eo L) d) Y s) (cd [1,1,1,1,1,1,1,1] MO) (Br0 L (evC (Eo L) d) Y s) s0 t1))
end
theorem ZD(p:OC):eqO p p=true:=by simp only[eqO,beq_self_eq_true,x9]
def Qv(b:By)(h:B2)(a:Int):OC:=⟨b,(h.kind:Int),h.name,(h.v4:Int),[(h.v6.getD 0 0:Int),(h.v6.getD 1 0:Int),(h.v6.getD 2 0:Int),(h.v6.getD 3 0:Int),(h.v6.getD 4 0:Int),(h.v6.getD 5 0:Int),(h.v6.getD 6 0:Int),(h.v6.getD 7 0:Int)],a,true⟩
abbrev oT(c:OC):By:=Hu (oS c) (oH c) (oP c)
theorem Cc2{p:R7 × Nat}(a:CU p.1)(b:C8 p.1.sch=true):ofQ p=Qv p.1.sch p.1.host (prt p.1.sch p.1.port):=by obtain⟨_,_,_,c⟩:=Wb a.ok;unfold ofQ ofC ofB;rw[show mkU (uS p) _ _ _ _ _ (uP p) _=p.1 from c _ _,b,B21 a];rfl
theorem C77{p:R7 × Nat}(a:C8 p.1.sch=false):oB (ofQ p)=false:=by unfold ofQ ofC ofB;rw[show C8 (mkU (uS p) (uU p) (uK p) (uN p) (uV p) (n8 (uA p 0) (uA p 1) (uA p 2) (uA p 3) (uA p 4) (uA p 5) (uA p 6) (uA p 7)) (uP p) (uR p)).sch=false from a];rfl
structure OO (sc:By) (h:B2) (po:Int):Prop where
 sp:C8 sc=true
 ok:Ap h
 va:K2 h=true
 p0:0<=po
 p1:po<=65535
theorem B74{s:By}(h:C8 s=true):0<=G7 s/\G7 s<=65535:=by simp only[C8,aa9,beq_iff_eq] at h;rcases h with(rfl|rfl)|rfl|rfl<;>decide
theorem C58{u:R7}(h:CU u)(a:C8 u.sch=true):OO u.sch u.host (prt u.sch u.port):=by
 obtain⟨_,_,b,c,d,_⟩:=h.sp a;have i:=B74 a;have:0<=prt u.sch u.port/\prt u.sch u.port<=65535:=by
  unfold prt;rcases d with e|⟨f,g,_⟩
  ·rw[e];exact i
  ·rw[show(u.port==-1)=false by rw[beq_eq_false_iff_ne];omega];exact⟨f,g⟩
 exact⟨a,b,c,this.1,this.2⟩
theorem OO.len{sc:By}{h:B2}{po:Int}(o:OO sc h po):(Hu sc h po).length<=1000:=by
 have a:=Pc o.sp;have b:=Ux o.ok;have p0:=o.p0;have p1:=o.p1;have c:=Qc (Jz.2 ⟨by omega,by omega⟩:Dz po=true);unfold Hu;split
 ·split<;>simp only[j2,p5,w9]<;>omega
 ·exact ac9 _
abbrev Qz(b:By)(h:B2)(a:Int):R7 × Nat:=(⟨b,[],h,if a=G7 b then -1 else a,[47]⟩,0)
theorem OO.run{sc:By}{h:B2}{po:Int}(o:OO sc h po):E1 (Hu sc h po)=Qz sc h po:=
 (Bt1 (x7 o.len (by omega))).trans (Cc8 o.sp o.ok o.va ⟨o.p0,o.p1⟩)
theorem JK{sc:By}{a:Int}(h:0<=a):prt sc (if a=G7 sc then -1 else a)=a:=by
 by_cases e:a=G7 sc
 ·rw[if_pos e];exact e.symm
 ·rw[if_neg e];unfold prt;rw[show(a==-1)=false by rw[beq_eq_false_iff_ne];omega];rfl
theorem OO.cu{sc:By}{h:B2}{po:Int}(o:OO sc h po):CU (Qz sc h po).1:=by have:=Qg (s:=Hu sc h po) (by rw[o.run]);rwa [o.run] at this
theorem OO.host{sc:By}{h:B2}{po:Int}(o:OO sc h po):oH (Qv sc h po)=h:=by obtain⟨k,n,v,l⟩:=h;obtain⟨a,b,c,d,e,f,g,i,rfl⟩:=eq8 o.ok.v6.1;exact Cb3 o.ok.kd
theorem OO.text{sc:By}{h:B2}{po:Int}(o:OO sc h po):oT (Qv sc h po)=Hu sc h po:=by show Hu sc (oH (Qv sc h po)) po=_;rw[o.host]
theorem OO.cells{sc:By}{h:B2}{po:Int}(o:OO sc h po):A2 (j5 (oN (Qv sc h po)))=true/\ltN (oV (Qv sc h po)) 4294967296=true/\okO (Qv sc h po)=true:=by have hn:=Iv o.va;obtain⟨k,n,v,l⟩:=h;obtain⟨a,b,c,d,e,f,g,i,rfl⟩:=eq8 o.ok.v6.1;have hv:=o.ok.v4;exact⟨D6 (x7 hn (by omega)),E2.2 ⟨Int.natCast_nonneg v,by simp only at hv;show(v:Int)<_;omega⟩,Bj3 o.ok.v6.2⟩
theorem Cw3{a b:By}{h k:B2}{p q:Int}(o:OO a h p)(w:OO b k q):(eqO (Qv a h p) (Qv b k q)==(Hu a h p==Hu b k q))=true:=by
 by_cases e:Hu a h p=Hu b k q
 ·have c:=o.run;rw[e,w.run] at c;simp only[Qz,Prod.mk.injEq,R7.mk.injEq,and_true,true_and] at c;obtain⟨rfl,rfl,N⟩:=c;have:p=q:=by rw[<-JK (sc:=b) o.p0,<-JK (sc:=b) w.p0,N]
  subst this;rw[ZD,beq_self_eq_true];rfl
 ·have:eqO (Qv a h p) (Qv b k q)=false:=by
   rw[j8];intro d;apply e;obtain⟨O,T,P,S⟩:=h;obtain⟨Q,V,R,U⟩:=k;obtain⟨f,g,i,j,l,m,n,r,rfl⟩:=eq8 o.ok.v6.1;obtain⟨t,u,v,x,y,z,A,B,rfl⟩:=eq8 w.ok.v6.1;simp only[eqO,Qv,p7,beq_iff_eq,ad1,List.getD_cons_succ,x9] at d;obtain⟨rfl,L,rfl,M,C,D,F,G,H,I,J,K,rfl⟩:=d;obtain rfl:O=Q:=v7 L;obtain rfl:P=R:=v7 M;obtain rfl:f=t:=v7 C;obtain rfl:g=u:=v7 D;obtain rfl:i=v:=v7 F;obtain rfl:j=x:=v7 G;obtain rfl:l=y:=v7 H;obtain rfl:m=z:=v7 I;obtain rfl:n=A:=v7 J;obtain rfl:r=B:=v7 K;rfl
  rw[this,show(Hu a h p==Hu b k q)=false by simpa using e];rfl
theorem Br1{c d:OC}{r:R7 × Nat}(T:By)(U:By)(J:Int)(V:By)(K:Int)(L:Int)(v:Int)(M:Int)(a:Int)(b:Int)(e:Int)(f:Int)(g:Int)(h:Int)(w:By)(x:By)(y:By)(i:Int)(z:By)(j:Int)(k:Int)(l:Int)(m:Int)(n:Int)(o:Int)(p:Int)(q:Int)(t:Int)(u:Int)(A:By)(D:Bool->List Blk->Option (PV × List Blk × Unit))
  (W:A2 (j5 (oN c))=true/\ltN (oV c) 4294967296=true/\okO c=true) (X:A2 (j5 (oN d))=true/\ltN (oV d) 4294967296=true/\okO d=true) (G:A2 (oT c).length=true) (I:E1 (oT c)=r)
  (N:smU (uS r) (uU r) (uN r) (uR r)=true) (O:ltN (uV r) 4294967296=true) (P:okQ r=true) (Q:Dz (uP r)=true) (R:(uE r==(0:Int))=true) (S:ofQ r=c) (F:oB c=true) (B:(eqO c d==(oT c==oT d))=true) :
  ∃H,IT T U J V K L v M a b e f g h w x y i z j k l m n o p q t u A (oS c) (oK c) (oN c) (oV c) (oA c 0) (oA c 1) (oA c 2) (oA c 3) (oA c 4) (oA c 5) (oA c 6) (oA c 7) (oP c) (oS d) (oK d) (oN d) (oV d) (oA d 0) (oA d 1) (oA d 2) (oA d 3) (oA d 4) (oA d 5) (oA d 6) (oA d 7) (oP d) D=D true H:=by
 obtain⟨Y,Z,y3⟩:=W;obtain⟨z1,z2,z3⟩:=X;have C:=ZD c;simp only[eqO] at B C;unfold IT;simp only[vl,Y,Z,y3,z1,z2,z3,G,I,N,O,P,Q,R,S,F,cond_true,B,C];exact⟨_,rfl⟩
theorem Ca4(s t:By):Tru (evC (Eo LF) 1 Unit noY 10 [.s (.str s),.s (.str t)] [] ()):=by
 refine Eq.subst (motive:=Tru) (Da8 (Z:=Unit) LF noY () 0 s t).symm ?_;unfold los;rw[show ac0 [[SV.str s],[SV.str t]] isS=true from rfl,cond_true,show aa1 elS [[SV.str s],[SV.str t]]=[s,t] from rfl];cases i:Mo 1000 [s,t] with
 | false=>exact⟨_,rfl⟩
 | true=>
 simp only[Mo,aa7,List.all_nil,x9,p7,ad7,Kb] at i;obtain⟨D,F⟩:=i;have X:∀x:By,(x.length:Int)<=1000->A2 x.length=true/\smU (uS (E1 x)) (uU (E1 x)) (uN (E1 x)) (uR (E1 x))=true:=λx h=>
  ⟨N6,Cd0 (by omega) _ (x7 (JG x).1 (by omega))⟩
 obtain⟨v,y⟩:=X s D;obtain⟨z,A⟩:=X t F;obtain⟨G,I,J,K⟩:=Wb (OE s);obtain⟨w1,R,S,T⟩:=Wb (OE t);have a:=@Qg s;have b:=@Qg t;clear X;rw[c9,cond_false,v,z];simp only[vl,cond_true];by_cases l:(E1 s).2=0
 ·rw[show(uE (E1 s)!=(0:Int))=false by show(((E1 s).2:Int)!=0)=false;rw[l];rfl,cond_false];by_cases m:(E1 t).2=0
  ·rw[show(uE (E1 t)!=(0:Int))=false by show(((E1 t).2:Int)!=0)=false;rw[m];rfl,cond_false];have a:=a l;have b:=b m;simp only[y,A,G,I,J,w1,R,S,cond_true];clear K T;generalize E1 s=p at *;generalize E1 t=q at *;cases g:C8 (uS p) with
   | false=>
    rw[C77 g];unfold IR;rw[show C8 (uS p)=false from g];exact⟨_,rfl⟩
   | true=>
    have o:=C58 a g;rw[Cc2 a g];cases n:C8 (uS q) with
    | false=>
     rw[C77 n];unfold IS;rw[show C8 (uS p)=true from g];exact⟨_,rfl⟩
    | true=>
     have w:=C58 b n;rw[Cc2 b n];have f:=o.cu;obtain⟨N,O,P,_⟩:=Wb (p:=Qz (uS p) p.1.host (prt (uS p) (uP p))) f.ok;have C:=Iv o.va;have B:=Pc o.sp;have M:smU (uS (Qz (uS p) p.1.host (prt (uS p) (uP p)))) (uU (Qz (uS p) p.1.host (prt (uS p) (uP p)))) (uN (Qz (uS p) p.1.host (prt (uS p) (uP p)))) (uR (Qz (uS p) p.1.host (prt (uS p) (uP p))))=true:=by
      simp only[smU,uS,uU,uN,uR,p7,p4,w9,p5];exact⟨⟨⟨x7 B (by omega),by omega⟩,x7 C (by omega)⟩,by omega⟩
     have Q:ofQ (Qz (uS p) p.1.host (prt (uS p) (uP p)))=Qv (uS p) p.1.host (prt (uS p) (uP p)):=by
      rw[Cc2 f o.sp];show Qv (uS p) p.1.host (prt (uS p) (if _=_ then -1 else _))=_;rw[JK o.p0]
     have j:=o.text;have k:=w.text;obtain⟨H,e⟩:=Br1 (c:=Qv (uS p) p.1.host (prt (uS p) (uP p))) (d:=Qv (uS q) q.1.host (prt (uS q) (uP q))) (r:=Qz (uS p) p.1.host (prt (uS p) (uP p))) (uS p) (uU p) (uK p) (uN p) (uV p) (uA p 0) (uA p 1) (uA p 2) (uA p 3) (uA p 4) (uA p 5) (uA p 6) (uA p 7) (uP p) (uR p) (uS q) (uU q) (uK q) (uN q) (uV q) (uA q 0) (uA q 1) (uA q 2) (uA q 3) (uA q 4) (uA q 5) (uA q 6) (uA q 7) (uP q) (uR q) (λL u=>some (.s (.bool L),u,())) o.cells w.cells (by rw[j];exact D6 (x7 o.len (by omega))) (by rw[j];exact o.run) M N O P rfl Q rfl (by rw[j,k];exact Cw3 o w);unfold IS;exact⟨H,e⟩
  ·rw[show(uE (E1 t)!=(0:Int))=true by show(((E1 t).2:Int)!=0)=true;simpa using m,cond_true];exact⟨_,rfl⟩
 ·rw[show(uE (E1 s)!=(0:Int))=true by show(((E1 s).2:Int)!=0)=true;simpa using l,cond_true];exact⟨_,rfl⟩
theorem Cu6(args:List PV)(h:Kw j6 [9,9] args):∃d a,evC (Eo LF) d Unit noY 10 args [] ()=some (.s (.bool true),a,()):=by obtain⟨v1,f,rfl,b,i,g,rfl,c,rfl⟩:=h;obtain⟨s,rfl,_⟩:=Bf6 b (by kernel_rfl) (by kernel_rfl);obtain⟨t,rfl,_⟩:=Bf6 c (by kernel_rfl) (by kernel_rfl);obtain⟨H,e⟩:=Ca4 s t;exact⟨1,H,e⟩
section
theorem Bm1:B0 j6 GX 33 DM:=xf [] (TD LF) FG rfl ⟨Bc5,De5,trivial⟩ rfl (by kernel_rfl) follows λargs=>by
 unfold FG;split
 ·rename_i j k v4 a b c d f g h i;exact λl=>λm=>λn=>(let⟨r,H,e,q⟩:=Cc6 j k v4 a b c d f g h i l m n;⟨rfl,rfl,rfl,r,H,(Cc5 LF noY () 0 j k v4 a b c d f g h i).trans e,q⟩)
 ·trivial
theorem C82:B0 j6 GX 31 XT:=xf [0,0] (B64 LF) An3 rfl ⟨Xq,PM,Co0,trivial⟩ rfl (by kernel_rfl) follows λargs=>by
 unfold An3;split
 ·rename_i n o j k v4 a b c d f g h i l m;exact λp=>λt=>λu=>λv=>(let⟨r,H,e,q⟩:=Db4 n o j k v4 a b c d f g h i l m p t u v;⟨rfl,rfl,rfl,r,H,(Db3 LF noY () 0 n o j k v4 a b c d f g h i l m).trans e,q⟩)
 ·trivial
theorem Cm4:B0 j6 GX 38 FF:=xf [] (Ar3 LF) QT rfl ⟨Xq,Bc5,Cl6,Co0,Bl9,trivial⟩ rfl (by kernel_rfl) follows λargs=>by
 unfold QT;split
 ·rename_i m j k v4 a b c d f g h i l;exact λn=>λo=>λp=>(let⟨r,H,e,q⟩:=Cw2 m j k v4 a b c d f g h i l n o p;⟨rfl,rfl,rfl,r,H,(Cw1 LF noY () 0 m j k v4 a b c d f g h i l).trans e,q⟩)
 ·trivial
theorem Cm5:B0 j6 GX 35 FH:=xf [] (X1 LF) Xz rfl ⟨PM,Xq,Bm1,trivial⟩ rfl (by kernel_rfl) follows λargs=>by
 unfold Xz;split
 ·rename_i n o j k v4 a b c d f g h i l m;exact λp=>λt=>λu=>λv=>(let⟨r,H,e,q⟩:=Bs5 n o j k v4 a b c d f g h i l m p t u v;⟨rfl,rfl,rfl,r,H,(Bs4 LF noY () 0 n o j k v4 a b c d f g h i l m).trans e,q⟩)
 ·trivial
end
section
theorem YC:EF (evC (MU LF) 1 Unit noY 30 [] [] ())=true:=by kernel_rfl
theorem B12:B0 j6 GX 30 Xt:=
 B0.fix (pf:=Rl) _ (by
  have h:=Bc9 (C₀:=MU LF) (M4.ok (l:=[(14,Jo),(31,XT),(38,FF),(35,FH),(33,DM)]) rfl ⟨PL,C82,Cm4,Cm5,Bm1,trivial⟩) (I3 rfl (by kernel_rfl)) follows YC;have e:(λargs:List PV=>match args with|[]=>Tr.ret (.s (.bool true)) []|_=>.fail)=Rl:=by
   funext args
   cases args<;>rfl
  rw[<-e];exact h)
end
end
section
open Go Go.ChangeAt Go.ChangeShapes Go.Proofs Go.RowKit Go.WideShapes
set_option maxRecDepth 100000
section
theorem Aw8(os:Os)(a:os.Started)(H:Type)(enc:TypeId × Value->H) :
  ReturnsInHanded {} Tryz.checked os 10 .any (λw args=>(Rows.originSameSpec.pre enc j6 y7 Rows.originSameRow.domain false w args/\laidMetH j6 Ep w)/\sizedMet enc j6 y7 (OpenSpec.ofChange Rows.originSameSpec) false w args) (Rows.originSameSpec.post enc j6 y7 false true false false):=
 Aw2 a (C:=Eo LF) (tb:=4) rfl rfl (M4.ok (l:=[(37,EW),(30,Xt),(14,Jo),(31,XT),(23,Ub),(38,FF)]) rfl ⟨Cm0,B12,PL,C82,Am0,Cm4,trivial⟩) (I3 rfl (by kernel_rfl)) (by kernel_rfl) ae7 (c:=C6 y7) rfl (by kernel_rfl)
  (by
   intro t d;obtain rfl:t=9:=by simpa using(show t∈[9,9] from d)
   exact⟨⟨by kernel_rfl,of_decide_eq_true (by kernel_rfl)⟩,by kernel_rfl⟩) rfl (by kernel_rfl) rfl
  (λds b=>by
   match ds,b with
   | [e,f],_=>rfl)
  #[(.string ⟨#[]⟩),(.string ⟨#[]⟩)] 8 (by kernel_rfl) (by kernel_rfl) (by kernel_rfl)
  (λargs h=>Cu6 args h)
theorem Bq7:Rows.OriginSameSaid:=
 OpenClaim.holds_of_wide 10 y7 rfl rfl rfl rfl rfl rfl rfl ⟨rfl,rfl,rfl,rfl,rfl⟩ rfl rfl rfl rfl rfl (by kernel_rfl) ae7 (by kernel_rfl)
  (of_decide_eq_true (by kernel_rfl)) (by unfold Func.isWrapper;first|(rw[if_pos (by decide +kernel)];kernel_rfl)|(rw[if_neg (by decide +kernel)];exact⟨rfl,rfl⟩))
  (λos a H enc _=>Aw8 os a H enc)
theorem los_card:Rows.OriginSameCardSaid:=
 Claim7.holds_tied_plain_at .later [] [.data,.data,.data,.data,.pinned] true (true, "0163afbbd4bdcc0cb024432ec76efa84c49da410dbc3a82ef375aee9434dc149") false Bq7 (λ_ h=>by cases h) (by kernel_rfl) (λ_ h=>by cases h) originSame_row_tie rfl ⟨rfl,rfl⟩ (by kernel_rfl) rfl
  (λf fn c b=>by
   obtain rfl:f=10:=ab2 ((show j6.funcNamed "hstsstore/hstsstorelaw16.OriginSame" = some 10 by kernel_rfl).symm.trans c) |>.symm
   obtain rfl:fn=y7:=(ab2 (ae7.symm.trans b)).symm;exact⟨by kernel_rfl,λj t e=>by
    have d:t∈[9,9]:=Array.mem_toList_iff.2 (Array.mem_of_getElem? e);have a:([9,9].all λu=>!j6.wantsStandIn u)=true:=by kernel_rfl
    exact(show j6.wantsStandIn t=false by simpa using List.all_eq_true.1 a t d)⟩)
  (by kernel_rfl)
end
end
#print axioms los_card
end Go.Proofs.YtcfingekgbbclaaGreatDoor.E
