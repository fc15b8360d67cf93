/-
  OriginFormatMatchesSpec, as its tied card says. Conditions: what the card itself names (the package-level variables that are listed, tied to the program's text).
-/
import Derived.Test.YtcfingekgbbclaaGreatDoorKOF5
import Derived.Test.YtcfingekgbbclaaGreatDoorCards
import Derived.Test.YtcfingekgbbclaaGreatDoorTie
open Eq renaming trans->a8
open Int renaming toNat_natCast->b8,toNat->b9,tmod->p9,tdiv->w6,eq_ofNat_of_zero_le->x4,mul->ab2,mul_comm->af5
open Bool renaming not_true->c9,not_false->j0,eq_false_iff->j9,and_eq_true->w9,true_and->x8,and_true->ab4,eq_iff_iff->ab9,or_eq_true->ac0,false_or->ac8,false_eq_true->ac9,not_eq_true'->ad3,not_and->af4
open List renaming drop_of_length_le->j1,getD_eq_getElem?_getD->j4,length_append->j5,length->j6,length_drop->j7,getElem?_eq_getElem->j8,drop_zero->k9,length_map->p5,length_take->p6,length_singleton->s7,length_cons->s8,append_assoc->v7,replicate->x3,length_nil->x5,nil_append->x6,length_pos_iff->x7,length_eq_zero_iff->y7,map->y9,countP_le_length->z7,getElem_mem->aa0,take->aa1,all_cons->aa4,map_append->aa6,drop->aa8,drop_drop->aa9,isPrefixOf_iff_prefix->ab0,drop_eq_getElem_cons->ab1,any_cons->ab5,all->ab6,countP_cons_of_neg->ab7,getElem_cons_drop->ab8,append_nil->ac1,drop_eq_nil_iff->ac5,contains_cons->ad0,drop_left'->ae3,head?_cons->ae4,take_left->ae5,isEmpty->af6
open Go.Proofs.Tryz renaming prog->j2,f156->ac6,f9->ac7,f115->ad6,f119->ad7,f120->ad8,f151->ad9,f176->ae0,f35->ae8,f63->ae9,func9->af0,f127->af3,f37->af8,f66->af9,f85->ag0,f94->ag1
open Nat renaming ble_eq->p4,ble->v8,div_le_self->x9,le_refl->ab3,strongRecOn->ac2,blt_eq->ad1,zero_le->ae1,mod_lt->ae6,mul_le_mul->ae7,sub_zero->af7
open Option.some renaming injEq->p7,inj->aa7
open Go.Lib renaming decodeL->s9,decodeN->y5,join->ac4,cut->ad4,joinTail->ad5,decDigits->af1
open Exists renaming intro->w8
open UInt8 renaming ofNat->y8,toNat->ae2
open Option renaming bind_some->aa2,getD_some->aa3,isSome->aa5,map_some->ac3,isSome_some->ad2
open List.cons renaming inj->af2
namespace Go.Proofs.YtcfingekgbbclaaGreatDoor.E
set_option linter.all false
section
open Go Go.Proofs
set_option maxRecDepth 100000
def KG:Int->By->Option Int
 | n,[]=>some n
 | n,b::r=>if 48<=b.toNat/\b.toNat<=57 then KG (min (n*10+((b.toNat-48:Nat):Int)) 1048576) r else none
theorem YY:∀(l:By) (n v:Int),0<=v->v<=65536->n<=1048576->(v<65536->n=v)->(v=65536->65536<=n)->Iu v l=(KG n l).bind λm=>if 65535<m then none else some m
 | [],n,v,d,e,f,c,g=>by
  unfold Iu KG;rw[aa2];by_cases h:v<65536
  ·rw[if_pos h,F9,c h]
  ·rw[if_neg h,S6]
 | b::r,n,v,d,e,f,c,g=>by
  unfold Iu KG;by_cases a:48<=b.toNat/\b.toNat<=57
  ·rw[if_pos a,if_pos a];exact YY r _ _ (by omega) (by omega) (by omega) (by omega) (by omega)
  ·rw[if_neg a,if_neg a];rfl
theorem At4(b:UInt8)(r:By):Iu (-1) (b::r)=Iu 0 (b::r):=rfl
theorem ZP:∀(l:By) (n m:Int),0<=n->n<=1048576->KG n l=some m->0<=m/\m<=1048576
 | [],n,m,a,c,h=>by
  obtain rfl:n=m:=aa7 h;exact⟨a,c⟩
 | b::r,n,m,a,c,h=>by
  unfold KG at h;split at h
  ·exact ZP r _ m (by omega) (by omega) h
  ·cases h
theorem Ac3{R:Type}(q u t:By)(d:Int)(e:By)(f g h j k l o p c:Int)(a:By)(L:a.length<=1000000000)(w:List Blk->Option R)(x:By->Int->By->Int->By->Int->Int->Int->Int->Int->Int->Int->Int->Int->By->Option R):∀(r i n:Nat) (v:Int),i+r=a.length->r<n->0<=v->v<=1048576->
  Dr LF n q a v (i:Int) u d e f g h j k l o p c t w x=match KG v (a.drop i) with
   | none=>w [bU q u d e f g h j k l o p c (-1) t,bH d e f g h j k l o p c]
   | some m=>x q m u d e f g h j k l o p c t:=by
 intro r
 induction r with
 | zero=>
  intro i n v I J D F;obtain⟨n,rfl⟩:∃m,n=m+1:=⟨n-1,by omega⟩
  rw[Dr];rw[A5,j1 (by omega)];rfl
 | succ r K=>
  intro i n v I J D F;obtain⟨n,rfl⟩:∃m,n=m+1:=⟨n-1,by omega⟩
  have y:A1 ((i:Int)+1)=((i+1:Nat):Int):=by rw[A7];rfl
  rw[Dr];rw[A8,E5,C9,D2 a i (by omega),y];have M:=(a.getD i 0).toNat_lt;generalize a.getD i 0=b at *;unfold KG;simp only[cond_true,vl];by_cases G:b.toNat<48
  ·rw[A8,cond_true,F9]
  ·rw[A5,cond_false];by_cases H:57<b.toNat
   ·rw[A8,cond_true,F9]
   ·rw[A5,cond_false,if_pos (show 48<=b.toNat/\b.toNat<=57 by omega)];have z:A1 (v*10)=v*10:=A7;have A:wu8 ((b.toNat:Int)-48)=((b.toNat-48:Nat):Int):=by rw[L6];omega
    have B:A1 ((b.toNat-48:Nat):Int)=((b.toNat-48:Nat):Int):=A7;have C:A1 (v*10+((b.toNat-48:Nat):Int))=v*10+((b.toNat-48:Nat):Int):=A7;rw[z,A,B,C,show(if (1048576:Int)<v*10+((b.toNat-48:Nat):Int) then (1048576:Int) else v*10+((b.toNat-48:Nat):Int))=min (v*10+((b.toNat-48:Nat):Int)) 1048576 by omega];exact K (i+1) n _ (by omega) (by omega) (by omega) (by omega)
abbrev KE(R:Type):=Int->By->By->Int->By->Int->Int->Int->Int->Int->Int->Int->Int->Int->Int->By->List Blk->Option R
abbrev LP{R:Type}(a:KE R)(q:Bb × Nat)(H:List Blk):Option R:=a (uE q) (uS q) (uU q) (uK q) (uN q) (uV q) (uA q 0) (uA q 1) (uA q 2) (uA q 3) (uA q 4) (uA q 5) (uA q 6) (uA q 7) (uP q) (uR q) H
theorem Hv(c l j a:By)(e:Nat)(q:a.length<=1000000000)(w:e<=a.length):∃H,∀(R:Type) (f:KE R),Q9 LF c a (e:Int) l j f=LP f (hpT (a.take e) (a.drop e) c l j) H:=by
 have p:=C1;have n:A1 ((e:Int)+1)=((e+1:Nat):Int):=by rw[A7];rfl
 have k:A3 (a.take e).length=true:=E1 (by rw[p6];omega);by_cases h:(C6 (a.take e)).2=0
 ·by_cases t:e+1<a.length
  ·have i:(a.drop e).drop 1=a.drop (e+1):=by rw[aa9]
   have r:=D2 a (e+1) t;have u:Iu (-1) (a.drop (e+1))=(KG 0 (a.drop (e+1))).bind λm=>if 65535<m then none else some m:=by
    rw[r,At4];exact YY _ 0 0 (by omega) (by omega) (by omega) (by omega) (by omega)
   have x:=@ZP (a.drop (e+1)) 0;generalize v:KG 0 (a.drop (e+1))=g at *;have o:g=none\/(∃m,g=some m/\65535<m)\/(∃m,g=some m/\¬ 65535<m/\m=J9 c)\/∃m,g=some m/\¬ 65535<m/\m≠J9 c:=by
    cases g with
    | none=>exact .inl rfl
    | some m=>
     by_cases b:65535<m
     ·exact .inr (.inl ⟨m,rfl,b⟩)
     ·by_cases d:m=J9 c
      ·exact .inr (.inr (.inl ⟨m,rfl,b,d⟩))
      ·exact .inr (.inr (.inr ⟨m,rfl,b,d⟩))
   rcases o with rfl|⟨m,rfl,b⟩|⟨m,rfl,b,d⟩|⟨m,rfl,b,d⟩
   all_goals
    apply w8;intro R f;unfold Q9 hpT;rw[H9,J8,b8,i,u];simp only[vl,cond_true,k,h,n];rw[A8,Ac3 c l j _ _ _ _ _ _ _ _ _ _ _ a q _ _ (a.length-(e+1)) (e+1) LF 0 (by omega) (by omega) (by omega) (by omega),v]
   ·rfl
   ·simp only[aa2,if_pos b];rw[A8];rfl
   ·simp only[aa2,if_neg b,if_pos d];rw[A5,show(m==J9 c)=true by simpa using d];rfl
   ·simp only[aa2,if_neg b,if_neg d];rw[A5,show(m==J9 c)=false by simpa using d];rfl
  ·have i:(a.drop e).drop 1=[]:=by rw[aa9,j1 (by omega)]
   apply w8;intro R f;unfold Q9 hpT;rw[H9,J8,b8,i];simp only[vl,cond_true,k,h,n];rw[A5];simp only[Iu,show((-1:Int)<65536)=True by simp,if_true,ite_self,show((((0:Nat):Int)!=0))=false from rfl,cond_false,ne_eq,not_true_eq_false,if_false];cases (-1:Int)==J9 c<;>rfl
 ·apply w8;intro R f;unfold Q9 hpT;rw[H9,J8,b8];simp only[vl,cond_true,k];rw[show(((C6 (a.take e)).2:Int)!=0)=true by simpa using h,cond_true,if_pos h];rfl
theorem Co7{c:UInt8}{a:By}(h:Gg c a=none):c∉a:=λd=>by
 rcases T0 c a with b|⟨p,r,rfl,b⟩
 ·exact b d
 ·rw[YK r b] at h;cases h
theorem XV(c:UInt8)(a:By):Q0 a [c]=match Gg c a with|some k=>k|none=>a.length:=by
 have e:Q0 a [c]=(a.takeWhile λb=>b !=c).length:=by
  unfold Q0
  congr 2
  funext b
  simp[ad0,bne];rfl
 rw[e];cases h:Gg c a with
 | none=>rw[VI (Co7 h)]
 | some k=>
  obtain⟨p,r,rfl,d,rfl⟩:=Pr h;rw[Ce5 r d]
theorem IV(c f d a:By)(w:a.length<=1000000000):∃H,∀(R:Type) (g:KE R),(cond (not (a==([]:By)))
   (cond (inR (0:Int) (j6 a))
   (Bp c a (Q0 a [58]:Int) (bAt a 0==(91:Int)) f d (λH=>LP g (Bx,4) H) (λo t n y u v=>Q9 LF o t n u v g) (λo t n y u v=>Q9 LF o t n u v g))
   none)
   (Bp c a (Q0 a [58]:Int) false f d (λH=>LP g (Bx,4) H) (λo t n y u v=>Q9 LF o t n u v g) (λo t n y u v=>Q9 LF o t n u v g)))=LP g (T9 c f d a) H:=by
 cases a with
 | nil=>
  obtain⟨H,e⟩:=Hv c f d [] 0 w (ab3 _);exact⟨H,e⟩
 | cons b r=>
  have F:(((b.toNat:Int))==91)=(b==91):=Js b 91;have z:(!((b::r)==([]:By)))=true:=rfl;have G:inR (0:Int) (b::r).length=true:=J6 (by omega) (by simp);have A:A3 (b::r).length=true:=E1 w;rw[Uz];unfold Jq Bp;simp only[z,G,A,cond_true,cond_false,vl,Z5,List.getD_cons_zero,F,ae4,p7,XV];by_cases j:b=91
  ·rw[show(b==91)=true by simpa using j,if_pos j];simp only[cond_true];cases B:Gg 93 (b::r) with
   | none=>
    apply w8;intro R g;simp only;rw[A7,A8];rfl
   | some k=>
    obtain⟨_,K⟩:=SU B;have C:A1 ((k:Int)+1)=((k+1:Nat):Int):=by rw[A7];rfl
    simp only[C];rw[A5];simp only[cond_false];obtain⟨H,e⟩:=Hv c f d (b::r) (k+1) w (by omega);by_cases I:k+1<(b::r).length
    ·rw[A8,E5];simp only[cond_true,C9];have m:=D2 (b::r) (k+1) I;by_cases i:(b::r).getD (k+1) 0=58
     ·have l:hpC ((b::r).take (k+1)) ((b::r).drop (k+1)) c f d=hpT ((b::r).take (k+1)) ((b::r).drop (k+1)) c f d:=if_neg (λh=>h.2 (by rw[m,i];rfl));rw[l];refine⟨H,λR g=>a8 ?_ (e R g)⟩;rw[i];rfl
     ·have l:hpC ((b::r).take (k+1)) ((b::r).drop (k+1)) c f d=(Bx,4):=if_pos ⟨by rw[m];simp,by rw[m];simpa using i⟩;rw[l];apply w8;intro R g;rw[show((((b::r).getD (k+1) 0).toNat:Int)!=58)=true by rw[bne,B19];simpa using i];rfl
    ·have m:(b::r).drop (k+1)=[]:=j1 (by omega);rw[A5];have l:hpC ((b::r).take (k+1)) ((b::r).drop (k+1)) c f d=hpT ((b::r).take (k+1)) ((b::r).drop (k+1)) c f d:=if_neg (λh=>h.1 m);rw[l];exact⟨H,e⟩
  ·rw[show(b==91)=false by simpa using j,if_neg j];simp only[cond_false];cases B:Gg 58 (b::r) with
   | none=>
    obtain⟨H,e⟩:=Hv c f d (b::r) (b::r).length w (ab3 _);rw[List.take_length,List.drop_length] at e;exact⟨H,e⟩
   | some k=>
    obtain⟨p,q,x,J,D⟩:=Pr B;obtain⟨H,e⟩:=Hv c f d (b::r) k w (by rw[x,j5];omega);have m:(b::r).drop k=58::q:=by rw[x,<-D,List.drop_left]
    have l:hpC ((b::r).take k) ((b::r).drop k) c f d=hpT ((b::r).take k) ((b::r).drop k) c f d:=if_neg (λh=>h.2 (by rw[m];rfl));refine⟨H,λR g=>(e R g).trans ?_⟩;show _=LP g (hpC _ _ c f d) H;rw[l]
theorem Ac2{R:Type}{c:By->By->By->By->Option R}(d a f:By)(l:a.length<=1000000000)(b:(64:UInt8)∉a):∀(j n:Nat),j<=a.length->j<n->X2 LF n d a ((j:Int)-1) f c=c d a [] f:=by
 intro j
 induction j with
 | zero=>
  intro n g i;obtain⟨n,rfl⟩:∃m,n=m+1:=⟨n-1,by omega⟩
  rw[X2];rw[A8];rfl
 | succ j k=>
  intro n g i;obtain⟨n,rfl⟩:∃m,n=m+1:=⟨n-1,by omega⟩
  rw[X2];have h:a.getD j 0≠64:=λe=>b (by
   rw[<-e,j4,j8 (by omega)];exact aa0 _)
  rw[show((j+1:Nat):Int)-1=(j:Int) by omega,A5,E5,C9,show(((a.getD j 0).toNat:Int)==64)=(a.getD j 0==64) from Js _ 64,show(a.getD j 0==64)=false by simpa using h];simp only[j0,cond_true,cond_false];rw[C5 (n:=(j:Int)-1) (by omega) (by omega)];exact k n (by omega) (by omega)
theorem Ac1{R:Type}{b:By->By->By->By->Option R}(c p r d:By)(l:(p++64::r).length<=1000000000)(a:(64:UInt8)∉r):∀(k n:Nat),k<=r.length->p.length+k<n->X2 LF n c (p++64::r) ((p.length+k:Nat):Int) d b=b c r p d:=by
 have o:(p++64::r).length=p.length+r.length+1:=by rw[j5,s8];omega
 intro k
 induction k with
 | zero=>
  intro n g i;obtain⟨n,rfl⟩:∃m,n=m+1:=⟨n-1,by omega⟩
  have f:A1 ((p.length:Int)+1)=((p.length+1:Nat):Int):=by rw[A7];rfl
  rw[X2];rw[Nat.add_zero,A5,E5,C9,show(p++64::r).getD p.length 0=64 by simp[j4]];simp only[vl,cond_true,j0];rw[H9,J8,b8,ae5,f,H9,P9,b8,show p++64::r=(p++[64])++r by simp,ae3 (by simp)];rfl
 | succ k j=>
  intro n g i;obtain⟨n,rfl⟩:∃m,n=m+1:=⟨n-1,by omega⟩
  rw[X2];have h:(p++64::r).getD (p.length+(k+1)) 0≠64:=λe=>a (by
   rw[<-e,j4,List.getElem?_append_right (by omega),show p.length+(k+1)-p.length=k+1 by omega,List.getElem?_cons_succ,j8 (by omega)];exact aa0 _)
  rw[A5,E5,C9,show((((p++64::r).getD (p.length+(k+1)) 0).toNat:Int)==64)=((p++64::r).getD (p.length+(k+1)) 0==64) from Js _ 64,show((p++64::r).getD (p.length+(k+1)) 0==64)=false by simpa using h,show((p.length+(k+1):Nat):Int)-1=((p.length+k:Nat):Int) by omega];simp only[j0,cond_true,cond_false];rw[C5 (n:=((p.length+k:Nat):Int)) (by omega) (by omega)];exact j n (by omega) (by omega)
theorem Ab7(c d a:By)(f:a.length<=1000000000):∃H,∀(R:Type) (b:KE R),Gt LF c a d b=LP b (H4 c d a) H:=by
 have j:=C1;unfold H4;by_cases h:0<=L0 64 a
 ·obtain⟨p,r,rfl,g,k⟩:=HO h;rw[if_pos h,k,b8,ae5,show p++64::r=(p++[64])++r by simp,ae3 (by simp),show(p++[64])++r=p++64::r by simp];have m:(p++64::r).length=p.length+r.length+1:=by rw[j5,s8];omega
  obtain⟨H,e⟩:=IV c p d r (by omega);refine⟨H,λR b=>a8 ?_ (e R b)⟩;unfold Gt;simp only[vl];rw[A7,show((p++64::r).length:Int)-1=((p.length+r.length:Nat):Int) by omega,Ac1 c p r d f g r.length LF (ab3 _) (by omega),N0];rfl
 ·rw[if_neg h];have i:(64:UInt8)∉a:=λl=>by
   obtain⟨p,r,rfl,g⟩:=Zm l;rw[Zl p g] at h;omega
  obtain⟨H,e⟩:=IV c [] d a f;refine⟨H,λR b=>a8 ?_ (e R b)⟩;unfold Gt;simp only[vl];rw[A7,Ac2 c a d f i a.length LF (ab3 _) (by omega),E1 f];rfl
theorem A32{R:Type}{a:List Blk->Option R}{b:By->Option R}(s:By)(g:s.length<=1000000000):∀(r i n:Nat),i+r=s.length->r<n->
  Dq LF n s (i:Int) a b=if (s.drop i).any ctl then a [] else b s:=by
 intro r
 induction r with
 | zero=>
  intro i n d e;obtain⟨n,rfl⟩:∃m,n=m+1:=⟨n-1,by omega⟩
  rw[Dq];rw[A5,j1 (by omega)];rfl
 | succ r f=>
  intro i n d e;obtain⟨n,rfl⟩:∃m,n=m+1:=⟨n-1,by omega⟩
  have c:A1 ((i:Int)+1)=((i+1:Nat):Int):=by rw[A7];rfl
  rw[Dq];rw[A8,E5,C9,D2 s i (by omega),c,ab5,Bb8];simp only[cond_true];rw[f (i+1) n (by omega) (by omega)];cases ltI 32 ((s.getD i 0).toNat:Int) with
  | false=>rfl
  | true=>cases (((s.getD i 0).toNat:Int)==127)<;>rfl
theorem SN(t:By):Q0 t [47,63,35]=J5 t:=by
 unfold Q0 J5
 congr 2
 funext b
 simp[V3,ad0,Bool.or_assoc];rfl
theorem Dd9(r:By):([47,47]:By).isPrefixOf r=(r.take 2==[47,47]):=by rw[ab9,ab0,List.prefix_iff_eq_take,beq_iff_eq];exact eq_comm
theorem Bs2(s:By)(i:A3 s.length=true):∃H,∀(R:Type) (d:KU R),Om LF s d=GJ d (D0 s) H:=by
 have P:=L4 i;have M:=C1;have L:∀{R:Type} (d:List Blk->Option R) (y:By->Option R),Dq LF LF s 0 d y=if s.any ctl then d [] else y s:=λd y=>A32 s P s.length 0 LF (by omega) (by omega)
 unfold D0;by_cases g:s.any ctl=true
 ·rw[if_pos g];apply w8;intro R d;unfold Om;rw[L,if_pos g];rfl
 rw[if_neg g];have x:(ad4 s [58]).2.1.length<=s.length:=by
  rcases T0 58 s with h|⟨p,r,rfl,h⟩
  ·rw[Pm h];exact ae1 _
  ·rw[Z7 h,j5,s8];show r.length<=_;omega
 have a:Cu s=if (ad4 s [58]).2.2&&V7 (ad4 s [58]).1 then (B6 (ad4 s [58]).1,(ad4 s [58]).2.1,true) else ([],[],false):=rfl
 generalize ad4 s [58]=q at *;obtain⟨p,r,f⟩:=q;simp only at a x ⊢;cases v:(f&&V7 p) with
 | false=>
  rw[v] at a;rw[if_pos (by rw[<-af4,v];rfl)];apply w8;intro R d;unfold Om;rw[L,if_neg g,i,a];rfl
 | true=>
 rw[v] at a;rw[if_neg (by rw[<-af4,v];simp)];simp only[if_true] at a;cases c:G3 (B6 p) with
 | false=>
  apply w8;intro R d;unfold Om;rw[L,if_neg g,i,a];simp only[vl,cond_true,c9,cond_false];rw[c];rfl
 | true=>
 rw[if_neg (by simp)];by_cases U:r.length<2
 ·rw[if_pos (by rw[Dd9];simp only[ad3,beq_eq_false_iff_ne];intro e;have:=congrArg j6 e;rw[p6] at this;simp at this;omega)];apply w8;intro R d;unfold Om;rw[L,if_neg g,i,a];simp only[vl,cond_true,c9,cond_false];rw[c,A8];rfl
 have z:cut r (0:Int) (2:Int)=r.take 2:=J8 r 2;have K:cut r (2:Int) (r.length:Int)=r.drop 2:=P9 r 2;rw[Dd9];cases Sn:(r.take 2==([47,47]:By)) with
 | false=>
  apply w8;intro R d;unfold Om;rw[L,if_neg g,i,a];simp only[vl,cond_true,c9,cond_false];rw[c,A5,H9];simp only[vl,cond_true,c9,cond_false,z];rw[Sn];rfl
 | true=>
 rw[if_neg (by simp)];generalize S:r.drop 2=t at *;have lt:t.length<=r.length:=by rw[<-S,j7];omega
 have Q:=Wo t;obtain⟨H,e⟩:=Ab7 (B6 p) (V8 (t.drop (J5 t))) (t.take (J5 t)) (by rw[p6];omega);refine⟨(λq=>bU (uS q) (uU q) (uK q) (uN q) (uV q) (uA q 0) (uA q 1) (uA q 2) (uA q 3) (uA q 4) (uA q 5) (uA q 6) (uA q 7) (uP q) (uR q)::H) (H4 (B6 p) (V8 (t.drop (J5 t))) (t.take (J5 t))),λR d=>?_⟩;refine a8 ?_ (e R λn0 G I A J B C D n8 F j k l m n o w=>d G I A J B C D n8 F j k l m n o n0 (bU G I A J B C D n8 F j k l m n o::w));unfold Om;rw[L,if_neg g,i,a];simp only[vl,cond_true,c9,cond_false];rw[c,A5,H9];simp only[vl,cond_true,c9,cond_false,z];rw[Sn,H9];simp only[vl,cond_true,c9,cond_false,K];rw[N0,SN,H9,H9,J8,P9,b8];simp only[cond_true];have V:(t.drop (J5 t)).length<=t.length:=by rw[j7];omega
 generalize t.drop (J5 t)=X at *;generalize t.take (J5 t)=T at *;unfold V8;cases X with
 | nil=>rfl
 | cons b X=>
  have N:inR (0:Int) (b::X).length=true:=J6 (by omega) (by simp);have O:((((b::X).getD 0 0).toNat:Int)!=47)=(b !=47):=by rw[bne,bne];exact congrArg _ (Js b 47)
  rw[show((b::X)==([]:By))=false from rfl,N,Z5,O];simp only[cond_true,cond_false,ae4,p7];by_cases u:b=47
  ·rw[show(b !=47)=false by simpa using u,if_pos u];rfl
  ·rw[show(b !=47)=true by simpa using u,if_neg u,E6 (by omega)];rfl
theorem Cb9(s:By)(a:A3 s.length=true):∃r H,Om LF s rvU=rv r H/\r.stab [0,0] H=pvU (D0 s):=by obtain⟨H,e⟩:=Bs2 s a;exact⟨_,_,e _ _,rfl⟩
theorem A31(s:By)(a:A3 s.length=true):∃r H,DI LF s rvU=rv r H/\r.stab [0,0] H=pvU (V2 s):=by
 unfold DI V2;by_cases h:2048<s.length
 ·rw[A8,if_pos h];exact⟨_,_,rfl,rfl⟩
 ·rw[A5,if_neg h,a];exact⟨_,_,rfl,rfl⟩
section
variable {Z R : Type} (L : Nat) (Q : G1) (Y : Yh Z) (s : Z) (k : Out -> St Z -> Option R)
noncomputable def GC(L:Nat):Cfg:=B4 L [148] (A2 []) [] (A2 [(1,[2]),(0,[0])]) [] (A2 []) (some [2]) [] [] []
noncomputable def UM{R:Type}(L:Nat)(n0:Int)(a:Bool->Option R):Option R:=cond (not (ltI n0 0)) (cond (not (ltI 1114111 n0)) (cond (ltI n0 55296) (a true) (a (ltI 57343 n0))) (a false)) (a false)
theorem Br4(d:Nat)(n0):evC (GC L) (d+1) Z Y 148 [pI n0] [] s=UM L n0 (λa=>some (pB a,[],s)):=by refine(evE (fn:=Tryz.f148) (by kernel_rfl)).trans ?_;generalize evC (GC L) d=Q;unfold UM;kernel_rfl
noncomputable abbrev Nn:Code:=C3 ad9
noncomputable def W4(L:Nat):Cfg:=B4 L [151] (A2 [(6,[0,5,0])]) [] (A2 [(9,[6]),(8,[0,6]),(7,[0,6]),(6,[0,6,11]),(5,[0,6]),(4,[0]),(2,[0,0]),(3,[0,0]),(1,[0,0,6]),(0,[0,0,0])]) [] (A2 [(0,[0,6]),(1,[0,6])]) (some [6]) [] [] []
noncomputable def Fl{R:Type}(L n:Nat)(a b:Int)(e:Int->Int->Option R):Option R:=match n with|0=>none|n+1=>cond (ltI 455 a) (vl (A1 (w6 a (35:Int))) λc=>vl (A1 (b+36)) λd=>Fl L n c d e) (e a b)
theorem UB(n a b):C4 0 ((W4 L).keep 6) (bd (W4 L) Q Y (cd [1,1,1,1,0,0,0] Nn)) n ⟨gp [(0,pI a),(6,pI b)] 23,[],s⟩ k =
 Fl L n a b (λa b=>k (.exit 0) ⟨gp [(0,pI a),(6,pI b)] 23,[],s⟩):=by
 induction n generalizing a b with
 | zero=>rfl
 | succ n c=>rw[Fl];simp only[<-c];kernel_rfl
noncomputable def Fk{R:Type}(L:Nat)(b h:Int)(i:Int->Option R):Option R:=cond (h !=0) (vl (A1 (w6 b h)) λg=>Fl L L (A1 (b+g)) 0 (λa d=>vl (A1 ((36:Int)*a)) λe=>vl (A1 (a+38)) λc=>cond (c !=0) (vl (A1 (w6 e c)) λf=>i (A1 (d+f))) none)) none
abbrev BH(b:Code):Prop:=∀(k:Out->St Z->Option R) delta0 n1,A9 (W4 L) Q Y b ⟨gp [(0,pI delta0),(0,pI n1)] 29,[],s⟩ k=Fk L delta0 n1 (λn0=>k .ret ⟨gp [(6,pI n0)] 24,[],s⟩)
theorem UA:BH (R:=R) L Q Y s (cd [1,1] Nn):=by intro k a c;unfold Fk;exact(a8 (by kernel_rfl) (A0 (A4 λb=>((UB L Q Y s (E2 0 (D9 (W4 L) Q Y (cd [1,1,1,1,1] Nn) k)) L (A1 (a+b)) 0).trans (by kernel_rfl))) rfl))
noncomputable def IL{R:Type}(L:Nat)(a h:Int)(b:Bool)(g:Int->Option R):Option R:=cond b (vl (A1 (w6 a (700:Int))) λe=>Fk L e h (λc=>g c)) (vl (A1 (w6 a (2:Int))) λf=>Fk L f h (λd=>g d))
theorem Bp3(d:Code)(a:BH (R:=PV × List Blk × Z) L Q Y s d)(b e:Int)(c:Bool):A9 (W4 L) Q Y (cd [] (G4 [1,1] d Nn)) ⟨[pI b,pI e,pB c]++tps 28,[],s⟩ (F2 (W4 L) ad9)=IL L b e c (λi=>some (pI i,[],s)):=by unfold IL;exact let h:=(F2 (W4 L) ad9);(a8 (by kernel_rfl) (A0 (A4 λf=>((a h f e).trans (by kernel_rfl))) (A4 λg=>((a h g e).trans (by kernel_rfl)))))
theorem Bp4(d:Nat)(delta0 n1 first2):evC (W4 L) (d+1) Z Y 151 [pI delta0,pI n1,pB first2] [] s=IL L delta0 n1 first2 (λa=>some (pI a,[],s)):=
 (evE (fn:=ad9) (by kernel_rfl)).trans (a8 (by kernel_rfl) (Bp3 L (evC (W4 L) d) Y s (cd [1,1] Nn) (UA L (evC (W4 L) d) Y s) delta0 n1 first2))
noncomputable def An0(L:Nat):Cfg:=B4 L [149] (A2 []) [] (A2 [(1,[4]),(0,[0,0])]) [] (A2 []) (some [4]) [] [] []
noncomputable def Cu9{R:Type}(L:Nat)(c a:Int)(e:Int->Option R):Option R:=vl (A1 ((36:Int)*(A1 (c+1)))) λb=>vl (if ((if ((A1 (b-a))<(26:Int)) then (A1 (b-a)) else (26:Int)) > (1:Int)) then (if ((A1 (b-a))<(26:Int)) then (A1 (b-a)) else (26:Int)) else (1:Int)) λd=>e d
theorem Cv0(d:Nat)(kk0 bias1):evC (An0 L) (d+1) Z Y 149 [pI kk0,pI bias1] [] s=Cu9 L kk0 bias1 (λa=>some (pI a,[],s)):=by refine(evE (fn:=Tryz.f149) (by kernel_rfl)).trans ?_;generalize evC (An0 L) d=Q;unfold Cu9;kernel_rfl
noncomputable def RS(L:Nat):Cfg:=B4 L [150] (A2 []) [] (A2 [(3,[2]),(2,[2]),(1,[0,3]),(0,[0])]) [] (A2 []) (some [2]) [] [] []
noncomputable def Bf2{R:Type}(L:Nat)(a:Int)(d:Int->Option R):Option R:=cond (ltI a 26) (vl (wu8 (A1 ((97:Int)+a))) λb=>d b) (vl (A1 ((A1 ((48:Int)+a))-26)) λc=>d (wu8 c))
theorem B84(d:Nat)(d0):evC (RS L) (d+1) Z Y 150 [pI d0] [] s=Bf2 L d0 (λa=>some (p8 a,[],s)):=by refine(evE (fn:=Tryz.f150) (by kernel_rfl)).trans ?_;generalize evC (RS L) d=Q;unfold Bf2;kernel_rfl
noncomputable abbrev Rw:Code:=C3 ae0
noncomputable def Ij(L:Nat):Cfg:=B4 L [176] (A2 []) [] (A2 [(7,[2]),(2,[2]),(4,[2]),(6,[2]),(5,[0,22]),(3,[0,12]),(1,[0,2]),(0,[0])]) [] (A2 [(0,[])]) (some [2]) [] [] []
noncomputable def Wh{R:Type}(a:Int)(g:Bool)(e:Int->Option R)(f:Int->Bool->Option R):Option R:=cond g (vl (A1 (wu8 (a-65))) λb=>e b) (cond (not (ltI a 48)) (cond (not (ltI 57 a)) (vl (A1 (wu8 (a-48))) λc=>vl (A1 (c+26)) λd=>e d) (f a (not (ltI 57 a)))) (f a false))
abbrev NI(b:Code):Prop:=∀(k:Out->St Z->Option R) a c,A9 (Ij L) Q Y b ⟨gp [(0,p8 a),(12,pB c)] 20,[],s⟩ k=Wh a c (λn0=>k .ret ⟨gp [(2,pI n0)] 31,[],s⟩) (λa c=>k .normal ⟨gp [(0,p8 a),(22,pB c)] 10,[],s⟩)
theorem A43:NI (R:=R) L Q Y s (cd [1,0,0,1,1,1] Rw):=by intro k a b;unfold Wh;kernel_rfl
noncomputable def Wi{R:Type}(a:Int)(l:Bool)(f:Int->Option R)(j:Int->Bool->Option R):Option R:=cond l (vl (A1 (wu8 (a-97))) λg=>f g) (cond (not (ltI a 65)) (Wh a (not (ltI 90 a)) (λh=>f h) (λb c=>j b c)) (Wh a false (λi=>f i) (λd e=>j d e)))
abbrev Zx(b:Code):Prop:=∀(k:Out->St Z->Option R) a c,A9 (Ij L) Q Y b ⟨gp [(0,p8 a),(2,pB c)] 30,[],s⟩ k=Wi a c (λn0=>k .ret ⟨gp [(2,pI n0)] 31,[],s⟩) (λa c=>k .normal ⟨gp [(0,p8 a),(22,pB c)] 10,[],s⟩)
theorem A44(a:Code)(b:NI (R:=R) L Q Y s a):Zx (R:=R) L Q Y s (cd [1,0,0,1] (G4 [1,0,0,1,1,1] a Rw)):=by intro k c d;unfold Wi;simp only[<-b k];kernel_rfl
theorem A45:Zx (R:=R) L Q Y s (cd [1,0,0,1] Rw):=by intro k a b;exact a8 (by kernel_rfl) (A44 L Q Y s (cd [1,0,0,1,1,1] Rw) (A43 L Q Y s) k a b)
noncomputable def Cc7{R:Type}(L:Nat)(c:Int)(d:Int->Option R):Option R:=cond (not (ltI c 97)) (Wi c (not (ltI 122 c)) (λa=>d a) (λe f=>d (-1))) (Wi c false (λb=>d b) (λg h=>d (-1)))
theorem Cw0(b:Code)(a:Zx (R:=PV × List Blk × Z) L Q Y s b)(c:Int):A9 (Ij L) Q Y (cd [] (G4 [1,0,0,1] b Rw)) ⟨[p8 c]++tps 33,[],s⟩ (F2 (Ij L) ae0)=Cc7 L c (λe=>some (pI e,[],s)):=by unfold Cc7;exact let d:=(E2 0 (D9 (Ij L) Q Y (cd [1,1] Rw) (F2 (Ij L) ae0)));(a8 (by kernel_rfl) (A0 ((a d c (not (ltI 122 c))).trans (by kernel_rfl)) ((a d c false).trans (by kernel_rfl))))
theorem Cw1(d:Nat)(b0):evC (Ij L) (d+1) Z Y 176 [p8 b0] [] s=Cc7 L b0 (λa=>some (pI a,[],s)):=
 (evE (fn:=ae0) (by kernel_rfl)).trans (a8 (by kernel_rfl) (Cw0 L (evC (Ij L) d) Y s (cd [1,0,0,1] Rw) (A45 L (evC (Ij L) d) Y s) b0))
noncomputable abbrev Be:Code:=C3 ad8
noncomputable def M0(L:Nat):Cfg:=B4 L [120] (A2 [(32,[0,1,0,0,1,0,0,0,0,2,0,0]),(25,[0,1,0,0,1,0,0,0,0,2]),(18,[0,1,0,0,1,0,0,0,0,0,0]),(15,[0,1,0,0,1,0,0,0,0]),(5,[0,1,0,0,0])]) [(148,Tt),(149,Aj5),(150,A92),(151,EJ)] (A2 [(43,[2,0]),(42,[0,3,1,0,0,0,0]),(41,[0,3,1,0,0,0,0]),(26,[0,3,1,0,0,0,0,2]),(40,[0,3,1,0,0,0,0,2]),(39,[0,3,1,0,0,0,0,2]),(38,[0,3,1,0,0,1,2]),(37,[0,3,1,0,0,0,3]),(36,[0,3,1,0,0,0,0,2,0,0]),(35,[0,3,1,0,0,0,0,2,0,0]),(34,[0,3,1,0,0,0,0,2,0,0,0]),(33,[0,3,1,0,0,0,0,2,0,0,0]),(32,[0,3,1,0,0,0,0,2,0,0,94]),(31,[0,3,1,0,0,0,0,2,0,0]),(30,[0,3,1,0,0,0,0,2,0]),(29,[0,3,1,0,0,0,0,2,90]),(28,[0,3,1,0,0,0,0,2]),(27,[0,3,1,0,0,0,0,2,82]),(25,[0,3,1,0,0,0,0,2,74]),(24,[0,3,1,0,0,0,0,2]),(23,[0,3,1,0,0,0,0]),(22,[0,3,1,0,1,0,0]),(19,[0,3,1,0,0,0,0,0,0]),(21,[0,3,1,0,0,0,0,0,0]),(20,[0,3,1,0,0,0,0,0,0,56]),(18,[0,3,1,0,0,0,0,0,0,48]),(17,[0,3,1,0,0,0,0,0,0]),(16,[0,3,1,0,0,0,0,0]),(15,[0,3,1,0,0,0,0,46]),(14,[0,3,1,0,0,0,0]),(13,[0,3,1,0]),(12,[0,3,1,0,42]),(11,[0,3,1,0]),(6,[0,3,0]),(10,[0,3,0]),(9,[0,3,0,30]),(8,[2,0]),(7,[0,3,0,25]),(5,[0,3,0,17]),(4,[0,3,0]),(3,[0,3]),(2,[2,0]),(1,[0,18]),(0,[0])]) [148,149,150,151] (A2 [(2,[4]),(3,[0,3,1,0,0,0,0]),(6,[0,3,1,0,0,0,0]),(7,[0,3,1,0,0,0,0,2]),(8,[0,3,1,0,0,0,3,0]),(9,[0,3,1,0,0,0,0,2,0,0]),(4,[0,3,1,0,0,0,0,0]),(5,[0,3,1,0,0,0,0,0,0]),(0,[0,3]),(1,[0,3,0])]) (some [2,0]) [] [] []
noncomputable def T8{R:Type}(L n:Nat)(c b:Bool)(a:LL)(d:Int)(e:LL)(f:LL->Option R)(g:Bool->Bool->LL->LL->Option R):Option R:=match n with|0=>none|n+1=>cond (ltI d (a.length:Int)) (cond (inR d a.length) (cond (okE Ke a (b9 d) 0) (vl (gE a (b9 d) 0) λh=>cond (not (ptI h)) (f e) (cond (inR d a.length) (cond (okE Ke a (b9 d) 0) (vl (gE a (b9 d) 0) λi=>cond (ltI i 128) (cond (inR d a.length) (cond (okE Ke a (b9 d) 0) (vl (gE a (b9 d) 0) λj=>cond (F7 (e.length+1)) (T8 L n c b a (A1 (d+1)) (e++[[(SV.int .u8 (wu8 j))]]) f g) none) none) none) (T8 L n c b a (A1 (d+1)) e f g)) none) none)) none) none) (g c b a e)
theorem Ax3(n b a c i3 l4):C4 1 ((M0 L).keep 5) (bd (M0 L) Q Y (cd [1,1,1,0,1,0,0] Be)) n ⟨gp [(0,.s (.sl b a 1 c)),(3,.fl 0),(0,pI i3)] 148,[.arr true 5 1 l4],s⟩ k =
 T8 L n b a c i3 l4 (λe=>k .ret ⟨gp [(2,pS ([]:List UInt8)),(0,pI (2:Int))] 150,[.arr true 5 1 e],s⟩) (λb a c f=>k (.exit 0) ⟨gp [(0,.s (.sl b a 1 c)),(3,.fl 0)] 149,[.arr true 5 1 f],s⟩):=by
 induction n generalizing b a c i3 l4 with
 | zero=>rfl
 | succ n d=>rw[T8];simp only[<-d];kernel_rfl
noncomputable def Ht{R:Type}(L n:Nat)(c b:Bool)(a:LL)(h e o f g d i:Int)(l10:LL)(p:Bool->Bool->LL->Int->Int->Int->Int->Int->Int->LL->Option R):Option R:=match n with|0=>none|n+1=>cond (ltI i (a.length:Int)) (cond (inR i a.length) (cond (okE Ke a (b9 i) 0) (vl (gE a (b9 i) 0) λl=>cond (not (ltI l o)) (cond (inR i a.length) (cond (okE Ke a (b9 i) 0) (vl (gE a (b9 i) 0) λj=>vl (if (j<d) then j else d) λm=>Ht L n c b a h e o f g m (A1 (i+1)) l10 p) none) none) (Ht L n c b a h e o f g d (A1 (i+1)) l10 p)) none) none) (p c b a h e o f g d l10)
theorem Ax4(n b a c h d i e g f i9 l10):C4 1 ((M0 L).keep 18) (bd (M0 L) Q Y (cd [1,1,1,1,1,1,1,0,0,0,1,0,1,0,1,0,0] Be)) n ⟨gp [(0,.s (.sl b a 1 c)),(3,.fl 0),(1,pI h),(0,pI d),(0,pI i),(0,pI e),(0,pI g),(0,pI f),(0,pI i9)] 141,[.arr true 5 1 l10],s⟩ k =
 Ht L n b a c h d i e g f i9 l10 (λb a c h d i e g f l=>k (.exit 4) ⟨gp [(0,.s (.sl b a 1 c)),(3,.fl 0),(1,pI h),(0,pI d),(0,pI i),(0,pI e),(0,pI g),(0,pI f)] 142,[.arr true 5 1 l],s⟩):=by
 induction n generalizing b a c h d i e g f i9 l10 with
 | zero=>rfl
 | succ n j=>rw[Ht];simp only[<-j];kernel_rfl
noncomputable def Ep{R:Type}(L n:Nat)(c b:Bool)(f:LL)(i g w h a i8 u e:Int)(o:LL)(v:Bool->Bool->LL->Int->Int->Int->Int->Int->Int->LL->Option R):Option R:=match n with|0=>none|n+1=>cond (ltN e 10000000000) (cond (ltN a 1000000) (vl (K5 (ab2 (36:Int) e) a) λp=>cond (not (ltI u p)) (cond (ltN e 10000000000) (cond (ltN a 1000000) (vl (K5 (ab2 (36:Int) e) a) λd=>vl (A1 ((36:Int)-d)) λj=>cond (j !=0) (vl (p9 (A1 (u-d)) j) λl=>cond (ltN (A1 (d+l)) 36) (vl (↑(ae2 (Z8 (b9 (A1 (d+l))))):Int) λq=>cond (F7 (o.length+1)) (vl (A1 ((36:Int)-d)) λm=>cond (m !=0) (vl (A1 (w6 (A1 (u-d)) m)) λr=>vl (A1 (e+1)) λt=>Ep L n c b f i g w h a i8 r t (o++[[(SV.int .u8 q)]]) v) none) none) none) none) none) none) (v c b f i g w h i8 u o)) none) none
theorem IN(n b a c f d g e bias7 i8 q9 kk10 l11):C4 1 ((M0 L).keep 32) (bd (M0 L) Q Y (cd [1,1,1,1,1,1,1,0,0,0,1,0,1,1,1,1,0,1,0,0,1,0,0,1,1,1,1,0,0,0] Be)) n ⟨gp [(0,.s (.sl b a 1 c)),(3,.fl 0),(1,pI f),(0,pI d),(0,pI g),(0,pI e),(0,pI bias7),(2,pI i8),(0,pI q9),(0,pI kk10)] 138,[.arr true 5 1 l11],s⟩ k =
 Ep L n b a c f d g e bias7 i8 q9 kk10 l11 (λb a c f d g e h l j=>k (.exit 8) ⟨gp [(0,.s (.sl b a 1 c)),(3,.fl 0),(1,pI f),(0,pI d),(0,pI g),(0,pI e),(3,pI h),(0,pI l)] 139,[.arr true 5 1 j],s⟩):=by
 induction n generalizing b a c f d g e bias7 i8 q9 kk10 l11 with
 | zero=>rfl
 | succ n i=>rw[Ep];simp only[<-i];kernel_rfl
noncomputable def Af{R:Type}(L n:Nat)(c b:Bool)(a:LL)(i d B e f i8:Int)(I:LL)(H:Bool->Bool->LL->Int->Int->Int->Int->Int->LL->Option R):Option R:=match n with|0=>none|n+1=>cond (ltI i8 (a.length:Int)) (cond (inR i8 a.length) (cond (okE Ke a (b9 i8) 0) (vl (gE a (b9 i8) 0) λJ=>cond (ltI J B) (vl (A1 (e+1)) λw=>cond (inR i8 a.length) (cond (okE Ke a (b9 i8) 0) (vl (gE a (b9 i8) 0) λK=>cond (K !=B) (Af L n c b a i d B w f (A1 (i8+1)) I H) (Ep L L c b a i d B w f i8 w 0 I (λr p u g j N m F C z=>cond (ltN C 36) (vl (↑(ae2 (Z8 (b9 C))):Int) λO=>cond (F7 (z.length+1)) (vl (A1 (g+1)) λx=>cond (ltN m 1152921504606846976) (cond (ltN x 1000000) (cond (ltI 0 x) (vl (↑(P5 (b9 m) (b9 x) (g==j)):Int) λP=>vl (A1 (g+1)) λS=>vl (A1 (F+1)) λT=>Af L n r p u S j N 0 P T (z++[[(SV.int .u8 O)]]) H) none) none) none) none) none))) none) none) (cond (inR i8 a.length) (cond (okE Ke a (b9 i8) 0) (vl (gE a (b9 i8) 0) λM=>cond (M !=B) (Af L n c b a i d B e f (A1 (i8+1)) I H) (Ep L L c b a i d B e f i8 e 0 I (λt q v h l U o G D A=>cond (ltN D 36) (vl (↑(ae2 (Z8 (b9 D))):Int) λV=>cond (F7 (A.length+1)) (vl (A1 (h+1)) λy=>cond (ltN o 1152921504606846976) (cond (ltN y 1000000) (cond (ltI 0 y) (vl (↑(P5 (b9 o) (b9 y) (h==l)):Int) λW=>vl (A1 (h+1)) λX=>vl (A1 (G+1)) λa0=>Af L n t q v X l U 0 W a0 (A++[[(SV.int .u8 V)]]) H) none) none) none) none) none))) none) none)) none) none) (H c b a i d B e f I)
theorem Ax5(n b a c g d t e f i8 l9):C4 1 ((M0 L).keep 25) (bd (M0 L) Q Y (cd [1,1,1,1,1,1,1,0,0,0,1,0,1,1,1,1,0,1,0,0] Be)) n ⟨gp [(0,.s (.sl b a 1 c)),(3,.fl 0),(1,pI g),(0,pI d),(0,pI t),(0,pI e),(0,pI f),(2,pI i8)] 140,[.arr true 5 1 l9],s⟩ k =
 Af L n b a c g d t e f i8 l9 (λb a c g d t e f l8=>k (.exit 6) ⟨gp [(0,.s (.sl b a 1 c)),(3,.fl 0),(1,pI g),(0,pI d),(0,pI t),(0,pI e),(0,pI f)] 143,[.arr true 5 1 l8],s⟩):=by
 induction n generalizing b a c g d t e f i8 l9 with
 | zero=>rfl
 | succ n M=>rw[Af];exact let N:=(E2 8 (D9 (M0 L) Q Y (cd [1,1,1,1,1,1,1,0,0,0,1,0,1,1,1,1,0,1,0,0,1,0,0,1,1,1,1,1] Be) (E2 7 (D9 (M0 L) Q Y (cd [1,1,1,1,1,1,1,0,0,0,1,0,1,1,1,1,0,1,0,0,1,1] Be) (lpK 1 ((M0 L).keep 25) (bd (M0 L) Q Y (cd [1,1,1,1,1,1,1,0,0,0,1,0,1,1,1,1,0,1,0,0] Be)) n k)))));(a8 (by kernel_rfl) (A0 (A0 (A0 (A4 λS=>(A0 (A4 λr=>(A0 (A0 (A4 λT=>(A0 (M b a c g d t r f (A1 (i8+1)) l9) ((IN L Q Y s N L b a c g d t r f i8 r 0 l9).trans (congr rfl (Cm9 λj h m w p A u O X y=>(a8 (by kernel_rfl) (A0 (A4 λB=>(A0 (A4 λV=>(A0 (A0 (A0 (A4 λC=>(A4 λD=>(A4 λF=>(M j h m D p A 0 C F (y++[[(SV.int .u8 B)]]))))) rfl) rfl) rfl)) rfl)) rfl))))))) rfl) rfl)) (A0 (A0 (A4 λU=>(A0 (M b a c g d t e f (A1 (i8+1)) l9) ((IN L Q Y s N L b a c g d t e f i8 e 0 l9).trans (congr rfl (Cm9 λl i o x q G v P a0 z=>(a8 (by kernel_rfl) (A0 (A4 λH=>(A0 (A4 λW=>(A0 (A0 (A0 (A4 λI=>(A4 λJ=>(A4 λK=>(M l i o J q G 0 I K (z++[[(SV.int .u8 H)]]))))) rfl) rfl) rfl)) rfl)) rfl))))))) rfl) rfl))) rfl) rfl) rfl))
noncomputable def Er{R:Type}(L n:Nat)(l j:Bool)(g:LL)(v w K x y:Int)(J:LL)(I:LL->Option R):Option R:=match n with|0=>none|n+1=>cond (ltI v (g.length:Int)) (Ht L L l j g v w K x y 1073741824 0 J (λd b h f m B p r a z=>vl (A1 (f+1)) λC=>vl (A1 ((A1 (a-B))*C)) λD=>Af L L d b h f m a (A1 (p+D)) r 0 z (λe c i u o F q t A=>vl (A1 (q+1)) λG=>vl (A1 (F+1)) λH=>Er L n e c i u o H G t A I))) (I J)
theorem IO(n points_z0 points_t1 points2 done3 basic4 n5 delta6 bias7 l8):C4 1 ((M0 L).keep 15) (bd (M0 L) Q Y (cd [1,1,1,1,1,1,1,0,0,0] Be)) n ⟨gp [(0,.s (.sl points_z0 points_t1 1 points2)),(3,.fl 0),(1,pI done3),(0,pI basic4),(0,pI n5),(0,pI delta6),(0,pI bias7)] 143,[.arr true 5 1 l8],s⟩ k =
 Er L n points_z0 points_t1 points2 done3 basic4 n5 delta6 bias7 l8 (λB=>k (.exit 2) ⟨gp [(4,.fl 0)] 149,[.arr true 5 1 B],s⟩):=by
 induction n generalizing points_z0 points_t1 points2 done3 basic4 n5 delta6 bias7 l8 with
 | zero=>rfl
 | succ n A=>rw[Er];exact(a8 (by kernel_rfl) (A0 ((Ax4 L Q Y s (E2 4 (D9 (M0 L) Q Y (cd [1,1,1,1,1,1,1,0,0,0,1,0,1,1] Be) (E2 3 (lpK 1 ((M0 L).keep 15) (bd (M0 L) Q Y (cd [1,1,1,1,1,1,1,0,0,0] Be)) n k)))) L points_z0 points_t1 points2 done3 basic4 n5 delta6 bias7 1073741824 0 l8).trans (congr rfl (Cm9 λc a e o g x i l j r=>(a8 (by kernel_rfl) (A4 λy=>(A4 λu=>((Ax5 L Q Y s (E2 6 (D9 (M0 L) Q Y (cd [1,1,1,1,1,1,1,0,0,0,1,0,1,1,1,1,1] Be) (E2 3 (lpK 1 ((M0 L).keep 15) (bd (M0 L) Q Y (cd [1,1,1,1,1,1,1,0,0,0] Be)) n k)))) L c a e o g j (A1 (i+u)) l 0 r).trans (congr rfl (fx9 λd b f p h z q m t=>(a8 (by kernel_rfl) (A4 λv=>(A4 λw=>(A d b f p h w v m t))))))))))))) rfl))
noncomputable def ZQ{R:Type}(L:Nat)(f e:Bool)(d:LL)(o:Unit->Option R)(m:By->Int->LL->Option R):Option R:=cond (ltI 256 (d.length:Int)) (o ()) (T8 L L f e d 0 [] (λn=>m ([]:List UInt8) 2 n) (λb a c g=>vl (g.length:Int) λl=>vl (g.length:Int) λj=>cond (ltI 0 j) (cond (F7 (g.length+1)) (Er L L b a c l j 128 0 72 (g++[[(SV.int .u8 (45:Int))]]) (λh=>cond (ab6 h Mz) (m (y9 Kv h) 0 h) none)) none) (Er L L b a c l j 128 0 72 g (λi=>cond (ab6 i Mz) (m (y9 Kv i) 0 i) none))))
theorem Ct3(d:Nat)(points_z0 points_t1 points2):evC (M0 L) (d+1) Z Y 120 [.s (.sl points_z0 points_t1 1 points2)] [] s=ZQ L points_z0 points_t1 points2 (λ_=>some (.tup [pS ([]:List UInt8),pI (3:Int)],[],s)) (λj l i=>some (.tup [pS j,pI l],[.arr true 5 1 i],s)):=by refine(evE (fn:=ad8) (by kernel_rfl)).trans ?_;generalize evC (M0 L) d=Q;unfold ZQ;exact let h:=(E2 2 (D9 (M0 L) Q Y (cd [1,1,1,1,1,1,1,1] Be) (F2 (M0 L) ad8)));(a8 (by kernel_rfl) (A0 rfl ((Ax3 L Q Y s (E2 0 (D9 (M0 L) Q Y (cd [1,1,1,1] Be) (F2 (M0 L) ad8))) L points_z0 points_t1 points2 0 []).trans (congr (congr rfl (by kernel_rfl)) (fx4 λb a c g=>(a8 (by kernel_rfl) (A4 λe=>(A4 λf=>(A0 (A0 ((IO L Q Y s h L b a c e f 128 0 72 (g++[[(SV.int .u8 (45:Int))]])).trans (by kernel_rfl)) rfl) ((IO L Q Y s h L b a c e f 128 0 72 g).trans (by kernel_rfl)))))))))))
noncomputable abbrev X5:Code:=C3 ac6
noncomputable def J3(L:Nat):Cfg:=B4 L [156] (A2 [(27,[0,1,0,2,1,0,0,0,0,0,0,0]),(23,[0,1,0,2,1,0,0,0,0]),(13,[0,1,0,0,1,0]),(5,[0,1,0,0,0])]) [(176,Bz7),(149,Aj5),(151,EJ),(148,Tt)] (A2 [(51,[2,0]),(50,[0,5,1,0,0,0,0]),(49,[2,0]),(48,[0,5,1,0,0,0,0,118]),(47,[0,5,1,0,0,0,0]),(46,[2,0]),(45,[0,5,1,0,0,0,0,103]),(44,[0,5,1,0,0,0,0]),(43,[0,5,1,0,0,0,0]),(42,[0,5,1,0,0,0,0]),(41,[0,5,1,0,0,0]),(26,[0,5,1,0,0,0,0,0,0,0]),(40,[2,0]),(39,[0,5,1,0,0,0,0,0,0,0,77]),(38,[0,5,1,0,0,0,0,0,0,0]),(37,[0,5,1,0,0,0,0,0,0,0,1,69]),(36,[0,5,1,0,0,0,0,0,0,0,0,0]),(35,[2,0]),(34,[0,5,1,0,0,0,0,0,0,0,0,64]),(33,[0,5,1,0,0,0,0,0,0,0,0]),(32,[2,0]),(31,[0,5,1,0,0,0,0,0,0,0,0,57]),(30,[0,5,1,0,0,0,0,0,0,0,0]),(29,[0,5,1,0,0,0,0,0,0,0,0]),(28,[2,0]),(27,[0,5,1,0,0,0,0,0,0,0,50]),(25,[0,5,1,0,0,0,0,0,0,0]),(24,[0,5,1,0,0,0,0,0,0]),(23,[0,5,1,0,0,0,0,46]),(22,[0,5,1,0,0,0,0]),(21,[0,5,1,0,0,0]),(20,[0,5,1]),(19,[0,5,1,44]),(18,[0,3,1,1]),(17,[2,0]),(16,[0,3,1,43]),(14,[0,3,1,0]),(15,[0,3,1,0]),(13,[0,3,1,0,30]),(12,[0,3,1,0]),(11,[0,3,1]),(6,[0,3,0]),(10,[0,3,0]),(9,[0,3,0,28]),(8,[2,0]),(7,[0,3,0,24]),(5,[0,3,0,18]),(4,[0,3,0]),(3,[0,3]),(2,[2,0]),(1,[0,19]),(0,[0])]) [176,149,151,148] (A2 [(4,[6]),(5,[0,5,1,0,0,0,0]),(6,[0,5,1,0,0,1,0]),(7,[0,5,1,0,0,0,0,0,0,0]),(2,[0,3,1]),(3,[0,3,1,0]),(0,[0,3]),(1,[0,3,0])]) (some [2,0]) [] [] [] (rw:=[(47,6)])
noncomputable def Dn{R:Type}(L n:Nat)(c:By)(a b:Int)(d:Unit->Option R)(e:By->Int->Option R):Option R:=match n with|0=>none|n+1=>cond (ltI b (c.length:Int)) (cond (inR b c.length) (cond (not (ltI (bAt c b) (128:Int))) (d ()) (cond (inR b c.length) (cond ((bAt c b)==45) (Dn L n c b (A1 (b+1)) d e) (Dn L n c a (A1 (b+1)) d e)) none)) none) (e c a)
theorem Aa2(n b a i2):C4 0 ((J3 L).keep 5) (bd (J3 L) Q Y (cd [1,1,1,0,1,0,0] X5)) n ⟨gp [(0,pS b),(3,pI a),(0,pI i2)] 129,[],s⟩ k =
 Dn L n b a i2 (λ_=>k .ret ⟨gp [(2,.fl 0),(0,pI (4:Int))] 131,[.arr true 3 1 []],s⟩) (λb a=>k (.exit 0) ⟨gp [(0,pS b),(3,pI a)] 130,[],s⟩):=by
 induction n generalizing b a i2 with
 | zero=>rfl
 | succ n c=>rw[Dn];simp only[<-c];kernel_rfl
noncomputable def Gn{R:Type}(L n:Nat)(c:By)(a b:Int)(d:LL)(e:By->Int->LL->Option R):Option R:=match n with|0=>none|n+1=>cond (ltI b a) (cond (inR b c.length) (cond (F7 (d.length+1)) (Gn L n c a (A1 (b+1)) (d++[[(SV.int .i64 (A1 (bAt c b)))]]) e) none) none) (e c a d)
theorem Aa3(n b a i2 l3):C4 1 ((J3 L).keep 13) (bd (J3 L) Q Y (cd [1,1,1,1,1,0,1,0,0] X5)) n ⟨gp [(0,pS b),(3,pI a),(1,.fl 0),(0,pI i2)] 127,[.arr true 3 1 l3],s⟩ k =
 Gn L n b a i2 l3 (λb a d=>k (.exit 2) ⟨gp [(0,pS b),(3,pI a),(1,.fl 0)] 128,[.arr true 3 1 d],s⟩):=by
 induction n generalizing b a i2 l3 with
 | zero=>rfl
 | succ n c=>rw[Gn];simp only[<-c];kernel_rfl
noncomputable def U3{R:Type}(L n:Nat)(l:By)(g:LL)(b q r a f o h:Int)(j:LL)(m:Int->LL->Option R)(p:By->LL->Int->Int->Int->Int->LL->Option R):Option R:=match n with|0=>none|n+1=>cond (not (ltI b (l.length:Int))) (m 4 j) (cond (inR b l.length) (cond (inR (bAt l b) 256) (vl (D8 (u8n (bAt l b))) λi=>cond (ltI i 0) (m 4 j) (vl (A1 (r+(A1 (i*o)))) λc=>cond (ltI 1099511627776 c) (m 19 j) (cond (ltN h 10000000000) (cond (ltN a 1000000) (vl (K5 (ab2 (36:Int) h) a) λd=>cond (ltI i d) (p l g (A1 (b+1)) q c f j) (vl (A1 ((36:Int)-d)) λe=>cond (ltI 1099511627776 (A1 (o*e))) (m 19 j) (U3 L n l g (A1 (b+1)) q c a f (A1 (o*e)) (A1 (h+1)) j m p))) none) none))) none) none)
theorem Aa4(n f a b d c bias5 old6 w7 kk8 l9):C4 1 ((J3 L).keep 27) (bd (J3 L) Q Y (cd [1,1,1,1,1,1,1,1,1,1,1,0,0,0,1,0,1,0,1,0,0] X5)) n ⟨gp [(0,pS f),(5,.s (.sl false false 1 a)),(1,pI b),(0,pI d),(0,pI c),(0,pI bias5),(0,pB false),(0,pI old6),(0,pI w7),(0,pI kk8)] 119,[.arr true 3 1 l9],s⟩ k =
 U3 L n f a b d c bias5 old6 w7 kk8 l9 (λn0 h=>k .ret ⟨gp [(2,.fl 1),(0,pI n0)] 131,[.arr true 3 1 h,.arr true 3 1 []],s⟩) (λf a b d c e i=>k (.exit 6) ⟨gp [(0,pS f),(5,.s (.sl false false 1 a)),(1,pI b),(0,pI d),(0,pI c),(1,pB false),(0,pI e)] 121,[.arr true 3 1 i],s⟩):=by
 induction n generalizing f a b d c bias5 old6 w7 kk8 l9 with
 | zero=>rfl
 | succ n g=>rw[U3];simp only[<-g];kernel_rfl
noncomputable def O2{R:Type}(L n:Nat)(C:By)(m:LL)(q D y p:Int)(B:LL)(x:Int->LL->Option R)(z:LL->LL->Option R)(A:LL->LL->Option R):Option R:=match n with|0=>none|n+1=>cond (ltI q (C.length:Int)) (U3 L L C m q D y p y 1 0 B (λt r=>x t r) (λw a o d b h i=>vl (A1 ((a.length:Int)+1)) λj=>cond (ltN (A1 (b-h)) 1152921504606846976) (cond (ltN j 1000000) (cond (ltI 0 j) (vl (↑(P5 (b9 (A1 (b-h))) (b9 j) false):Int) λu=>vl (A1 ((a.length:Int)+1)) λl=>cond (l !=0) (vl (A1 (w6 b l)) λe=>vl (A1 ((a.length:Int)+1)) λf=>cond (f !=0) (cond (not (ptI (A1 (d+e)))) (x 2 i) (cond (I2 0 (p9 b f) a.length) (vl (cut a 0 (p9 b f)) λc=>cond (I2 (p9 b f) (a.length:Int) a.length) (vl (cut a (p9 b f) (a.length:Int)) λg=>cond (F7 (0+c.length)) (cond (F7 (c.length+1)) (cond (F7 ((j6 (c++[[(SV.int .i64 (A1 (d+e)))]]))+g.length)) (cond (ltI 256 (↑(j6 ((c++[[(SV.int .i64 (A1 (d+e)))]])++g)):Int)) (z i ((c++[[(SV.int .i64 (A1 (d+e)))]])++g)) (vl (A1 ((p9 b f)+1)) λv=>O2 L n w ((c++[[(SV.int .i64 (A1 (d+e)))]])++g) o (A1 (d+e)) v u i x z A)) none) none) none) none) none)) none) none) none) none) none)) (A m B)
theorem Aa5(n s0 out1 at2 n3 i4 bias5 l6):C4 1 ((J3 L).keep 23) (bd (J3 L) Q Y (cd [1,1,1,1,1,1,1,1,1,1,1,0,0,0] X5)) n ⟨gp [(0,pS s0),(5,.s (.sl false false 1 out1)),(1,pI at2),(0,pI n3),(0,pI i4),(0,pI bias5),(0,pB false)] 122,[.arr true 3 1 l6],s⟩ k =
 O2 L n s0 out1 at2 n3 i4 bias5 l6 (λn0 g=>k .ret ⟨gp [(2,.fl 1),(0,pI n0)] 131,[.arr true 3 1 g,.arr true 3 1 []],s⟩) (λv g=>k .ret ⟨gp [(2,.fl 2),(0,pI (3:Int))] 131,[.arr true 3 1 v,.arr false 3 1 g,.arr true 3 1 []],s⟩) (λj g=>k (.exit 4) ⟨gp [(6,.s (.sl false false 1 j))] 128,[.arr true 3 1 g],s⟩):=by
 induction n generalizing s0 out1 at2 n3 i4 bias5 l6 with
 | zero=>rfl
 | succ n u=>rw[O2];exact(a8 (by kernel_rfl) (A0 ((Aa4 L Q Y s (E2 6 (D9 (J3 L) Q Y (cd [1,1,1,1,1,1,1,1,1,1,1,0,0,0,1,0,1,1] X5) (E2 5 (lpK 1 ((J3 L).keep 23) (bd (J3 L) Q Y (cd [1,1,1,1,1,1,1,1,1,1,1,0,0,0] X5)) n k)))) L s0 out1 at2 n3 i4 bias5 i4 1 0 l6).trans (congr (congr rfl (by kernel_rfl)) (fx7 λl o c a p m d=>(a8 (by kernel_rfl) (A4 λq=>(A0 (A0 (A0 (A4 λh=>(A4 λr=>(A0 (A4 λb=>(A4 λt=>(A0 (A0 rfl (A0 (A4 λe=>(A0 (A4 λf=>(A0 (A0 (A0 (A0 rfl (A4 λi=>(u l ((e++[[(SV.int .i64 (A1 (a+b)))]])++f) c (A1 (a+b)) i h d))) rfl) rfl) rfl)) rfl)) rfl)) rfl))) rfl))) rfl) rfl) rfl)))))) rfl))
noncomputable def U4{R:Type}(L n:Nat)(h:By)(a m j f:Int)(g:LL)(i:Int->LL->Option R)(l:By->Int->Int->LL->Option R):Option R:=match n with|0=>none|n+1=>cond (not (ltI a (h.length:Int))) (i 4 g) (cond (inR a h.length) (cond (inR (bAt h a) 256) (vl (D8 (u8n (bAt h a))) λb=>cond (ltI b 0) (i 4 g) (vl (A1 (m+(A1 (b*j)))) λc=>cond (ltI 1099511627776 c) (i 19 g) (cond (ltN f 10000000000) (cond (ltN 72 1000000) (vl (K5 (ab2 (36:Int) f) (72:Int)) λd=>cond (ltI b d) (l h (A1 (a+1)) c g) (vl (A1 ((36:Int)-d)) λe=>cond (ltI 1099511627776 (A1 (j*e))) (i 19 g) (U4 L n h (A1 (a+1)) c (A1 (j*e)) (A1 (f+1)) g i l))) none) none))) none) none)
theorem Aa6(n c a b w3 kk4 l5):C4 1 ((J3 L).keep 27) (bd (J3 L) Q Y (cd [1,1,1,1,1,1,1,1,1,1,1,0,0,0,1,0,1,0,1,0,0] X5)) n ⟨gp [(0,pS c),(5,.fl 0),(1,pI a),(0,pI (128:Int)),(0,pI b),(0,pI (72:Int)),(0,pB true),(0,pI (0:Int)),(0,pI w3),(0,pI kk4)] 119,[.arr true 3 1 l5],s⟩ k =
 U4 L n c a b w3 kk4 l5 (λn0 e=>k .ret ⟨gp [(2,.fl 1),(0,pI n0)] 131,[.arr true 3 1 e,.arr true 3 1 []],s⟩) (λc a b f=>k (.exit 6) ⟨gp [(0,pS c),(5,.fl 0),(1,pI a),(0,pI (128:Int)),(0,pI b),(1,pB true),(0,pI (0:Int))] 121,[.arr true 3 1 f],s⟩):=by
 induction n generalizing c a b w3 kk4 l5 with
 | zero=>rfl
 | succ n d=>rw[U4];simp only[<-d];kernel_rfl
noncomputable def K2{R:Type}(L n:Nat)(D:By)(m:Int)(C:LL)(A:Int->LL->Option R)(B:LL->LL->Option R)(F:LL->LL->Option R)(G:LL->Option R):Option R:=match n with|0=>none|n+1=>cond (ltI m (D.length:Int)) (U4 L L D m 0 1 0 C (λu o=>A u o) (λz l b a=>vl (A1 (b-0)) λi=>vl (A1 ((a.length:Int)+1)) λe=>cond (ltN i 1152921504606846976) (cond (ltN e 1000000) (cond (ltI 0 e) (vl (↑(P5 (b9 i) (b9 e) true):Int) λv=>vl (A1 ((a.length:Int)+1)) λj=>cond (j !=0) (vl (A1 (w6 b j)) λw=>vl (A1 ((128:Int)+w)) λf=>vl (A1 ((a.length:Int)+1)) λc=>cond (c !=0) (cond (not (ptI f)) (A 2 a) (cond (I2 0 (p9 b c) a.length) (cond (I2 (p9 b c) (a.length:Int) a.length) (cond (F7 (0+(j6 (aa1 ((b9 (p9 b c))-0) (aa8 0 a))))) (cond (F7 ((j6 (aa1 ((b9 (p9 b c))-0) (aa8 0 a)))+1)) (vl ((aa1 ((b9 (p9 b c))-0) (aa8 0 a))++[[(SV.int .i64 f)]]) λh=>cond (F7 (h.length+(j6 (aa1 ((b9 (a.length:Int))-(b9 (p9 b c))) (aa8 (b9 (p9 b c)) a))))) (vl (h++(aa1 ((b9 (a.length:Int))-(b9 (p9 b c))) (aa8 (b9 (p9 b c)) a))) λd=>cond (ltI 256 (d.length:Int)) (B a d) (vl (A1 ((p9 b c)+1)) λx=>O2 L n z d l f x v a (λy p=>A y p) (λq r=>B q r) (λg t=>F g t))) none) none) none) none) none)) none) none) none) none) none)) (G C)
theorem BK(n s0 at1 l2):C4 1 ((J3 L).keep 23) (bd (J3 L) Q Y (cd [1,1,1,1,1,1,1,1,1,1,1,0,0,0] X5)) n ⟨gp [(0,pS s0),(5,.fl 0),(1,pI at1),(0,pI (128:Int)),(0,pI (0:Int)),(0,pI (72:Int)),(0,pB true)] 122,[.arr true 3 1 l2],s⟩ k =
 K2 L n s0 at1 l2 (λn0 d=>k .ret ⟨gp [(2,.fl 1),(0,pI n0)] 131,[.arr true 3 1 d,.arr true 3 1 []],s⟩) (λl d=>k .ret ⟨gp [(2,.fl 2),(0,pI (3:Int))] 131,[.arr true 3 1 l,.arr false 3 1 d,.arr true 3 1 []],s⟩) (λh d=>k (.exit 4) ⟨gp [(6,.s (.sl false false 1 h))] 128,[.arr true 3 1 d],s⟩) (λl=>k (.exit 4) ⟨gp [(6,.fl 0)] 128,[.arr true 3 1 l],s⟩):=by
 induction n generalizing s0 at1 l2 with
 | zero=>rfl
 | succ n A=>rw[K2];exact(a8 (by kernel_rfl) (A0 ((Aa6 L Q Y s (E2 6 (D9 (J3 L) Q Y (cd [1,1,1,1,1,1,1,1,1,1,1,0,0,0,1,0,1,1] X5) (E2 5 (lpK 1 ((J3 L).keep 23) (bd (J3 L) Q Y (cd [1,1,1,1,1,1,1,1,1,1,1,0,0,0] X5)) n k)))) L s0 at1 0 1 0 l2).trans (congr (congr rfl (by kernel_rfl)) (fx4 λi a m b=>(a8 (by kernel_rfl) (A4 λu=>(A4 λv=>(A0 (A0 (A0 (A4 λe=>(A4 λw=>(A0 (A4 λx=>(A4 λf=>(A4 λy=>(A0 (A0 rfl (A0 (A0 (A0 (A0 (A4 λo=>(A0 (A4 λc=>(A0 rfl (A4 λg=>((Aa5 L Q Y s k n i c a f g e b).trans (congr (congr (congr rfl (fx2 λz p=>rfl)) (fx2 λq r=>rfl)) (fx2 λj t=>rfl)))))) rfl)) rfl) rfl) rfl) rfl)) rfl)))) rfl))) rfl) rfl) rfl))))))) rfl))
noncomputable def Bf9{R:Type}(L:Nat)(A:By)(u:Int->LL->Option R)(v:Int->LL->Option R)(y:LL->LL->Option R)(z:LL->LL->Option R):Option R:=cond (ltI 1024 (A.length:Int)) (u 3 []) (Dn L L A 0 0 (λ_=>u 4 []) (λx e=>Gn L L x e 0 [] (λt a b=>cond (ltI 256 (b.length:Int)) (v 3 b) (cond (ltI 0 a) (vl (A1 (a+1)) λw=>K2 L L t w b (λq f=>v q f) (λg h=>y g h) (λc i=>z c i) (λj=>u 0 j)) (K2 L L t a b (λr l=>v r l) (λm n=>y m n) (λd o=>z d o) (λp=>u 0 p))))))
theorem Cb0(d:Nat)(s0):evC (J3 L) (d+1) Z Y 156 [pS s0] [] s=Bf9 L s0 (λf c=>some (.tup [.fl 0,pI f],[.arr true 3 1 c],s)) (λf c=>some (.tup [.fl 1,pI f],[.arr true 3 1 c,.arr true 3 1 []],s)) (λl c=>some (.tup [.fl 2,pI (3:Int)],[.arr true 3 1 l,.arr false 3 1 c,.arr true 3 1 []],s)) (λf c=>some (.tup [.s (.sl false false 1 f),pI (0:Int)],[.arr true 3 1 c],s)):=by refine(evE (fn:=ac6) (by kernel_rfl)).trans ?_;generalize evC (J3 L) d=Q;unfold Bf9;exact let j:=(E2 4 (D9 (J3 L) Q Y (cd [1,1,1,1,1,1,1,1,1,1,1,1] X5) (F2 (J3 L) ac6)));(a8 (by kernel_rfl) (A0 rfl ((Aa2 L Q Y s (E2 0 (D9 (J3 L) Q Y (cd [1,1,1,1] X5) (F2 (J3 L) ac6))) L s0 0 0).trans (congr (congr rfl (by kernel_rfl)) (fx2 λi a=>(a8 (by kernel_rfl) ((Aa3 L Q Y s (E2 2 (D9 (J3 L) Q Y (cd [1,1,1,1,1,1] X5) (F2 (J3 L) ac6))) L i a 0 []).trans (congr rfl (fx3 λg b e=>(a8 (by kernel_rfl) (A0 rfl (A0 (A4 λh=>((BK L Q Y s j L g h e).trans (by kernel_rfl))) ((BK L Q Y s j L g b e).trans (by kernel_rfl))))))))))))))
noncomputable abbrev Y5:Code:=C3 ad7
noncomputable def N8(L:Nat):Cfg:=B4 L [119] (A2 [(17,[0,1,0,0,0,1,0,0,0]),(3,[0,1,0,0,0])]) [(148,Tt)] (A2 [(27,[2,0]),(26,[0,3,0]),(25,[0,3,0,1]),(24,[2,0]),(23,[0,3,0,1,0,77]),(18,[0,3,0,1,0,0,0]),(22,[0,3,0,1,0,0,0]),(21,[2,0]),(20,[0,3,0,1,0,0,0,0,61]),(19,[0,3,0,1,0,0,0,0]),(17,[0,3,0,1,0,0,0,48]),(16,[0,3,0,1,0,0,0]),(15,[2,0]),(14,[0,3,0,1,0,0,46]),(9,[0,3,0,1,0,0]),(11,[0,3,0,1,0,0]),(13,[0,3,0,1,0,0]),(6,[2,0]),(12,[0,3,0,0,35]),(10,[0,3,0,0,26]),(8,[0,3,0,0,17]),(7,[0,3,0,0,0,0,0,11]),(5,[0,3,0,0,0,0,0]),(4,[0,3,0,0]),(3,[0,3,0,9]),(2,[0,3,0]),(1,[0,3]),(0,[0])]) [148] (A2 [(0,[4]),(1,[0,3,0]),(3,[0,3,0,1,0,0]),(4,[0,3,0,1,0,0,0]),(2,[0,3,0,1,0,0])]) (some [2,0]) [] [] []
noncomputable def We{R:Type}(L n:Nat)(d:By)(a e:Int)(c:LL)(b:By->Int->Int->LL->Option R):Option R:=match n with|0=>none|n+1=>b d a e c
theorem A22(n c a d b):C4 1 ((N8 L).keep 17) (bd (N8 L) Q Y (cd [1,1,0,1,0,0,1,0,1,1,1,1,0,1,0,0] Y5)) n ⟨gp [(0,pS c),(3,.fl 0),(0,pI a),(1,pI (1:Int)),(0,pI d),(0,pI (0:Int)),(0,pI (1:Int))] 84,[.arr true 3 1 b],s⟩ k =
 We L n c a d b (λc a d b=>k (.exit 3) ⟨gp [(0,pS c),(3,.fl 0),(0,pI a),(1,pI (1:Int)),(0,pI d),(0,pI (0:Int))] 85,[.arr true 3 1 b],s⟩):=by
 induction n generalizing c a d b with
 | zero=>rfl
 | succ n e=>rw[We];kernel_rfl
noncomputable def Wd{R:Type}(L:Nat)(i:By)(g j:Int)(h:LL)(d:LL->Option R)(l:By->Int->LL->Option R):Option R:=vl (A1 ((i.length:Int)-g)) λe=>cond (ltI e 1) (d h) (We L L i g j h (λf c b a=>cond (ltI b 0) (d a) (cond (not (ptI b)) (d a) (cond (F7 (a.length+1)) (l f (A1 (c+1)) (a++[[(SV.int .i64 b)]])) none))))
abbrev Zv(b:Code):Prop:=∀(k:Out->St Z->Option R) c a b2 b3 l4,A9 (N8 L) Q Y b ⟨gp [(0,pS c),(3,.fl 0),(0,pI a),(0,pI b2),(0,pI (1:Int)),(0,pI b2),(0,pI (0:Int)),(11,pB b3)] 73,[.arr true 3 1 l4],s⟩ k=Wd L c a b2 l4 (λd=>k .ret ⟨gp [(2,.fl 1),(0,pB false)] 91,[.arr true 3 1 d,.arr true 3 1 []],s⟩) (λc a e=>k .normal ⟨gp [(0,pS c),(3,.fl 0),(0,pI a)] 89,[.arr true 3 1 e],s⟩)
theorem A16:Zv (R:=R) L Q Y s (cd [1,1,0,1,0,0,1,0,1,1,1] Y5):=by intro k e b a f c;unfold Wd;exact(a8 (by kernel_rfl) (A4 λd=>(A0 rfl ((A22 L Q Y s (E2 3 (D9 (N8 L) Q Y (cd [1,1,0,1,0,0,1,0,1,1,1,1,1] Y5) k)) L e b a c).trans (by kernel_rfl)))))
noncomputable def Lq{R:Type}(h:By)(e c:Int)(i:Bool)(d:LL)(f:By->Int->Int->Int->Int->LL->Option R)(g:LL->Option R):Option R:=cond i (vl (A1 (c-224)) λa=>f h e 3 a 2048 d) (cond (not (ltI c 240)) (cond (ltI c 245) (vl (A1 (c-240)) λb=>f h e 4 b 65536 d) (g d)) (g d))
abbrev NG(b:Code):Prop:=∀(k:Out->St Z->Option R) d c b2 b3 l4,A9 (N8 L) Q Y b ⟨gp [(0,pS d),(3,.fl 0),(0,pI c),(0,pI b2),(26,pB b3)] 61,[.arr true 3 1 l4],s⟩ k=Lq d c b2 b3 l4 (λd c g h a f=>k .normal ⟨gp [(0,pS d),(3,.fl 0),(0,pI c),(1,pI g),(0,pI h),(0,pI a)] 85,[.arr true 3 1 f],s⟩) (λe=>k .ret ⟨gp [(2,.fl 1),(0,pB false)] 91,[.arr true 3 1 e,.arr true 3 1 []],s⟩)
theorem A18:NG (R:=R) L Q Y s (cd [1,1,0,1,0,0,1,0,1,1,0,0,1,1,1,1,1] Y5):=by intro k e c a b d;unfold Lq;kernel_rfl
noncomputable def Lr{R:Type}(v:By)(r c:Int)(x:Bool)(u:LL)(t:By->Int->Int->Int->Int->LL->Option R)(w:LL->Option R):Option R:=cond x (vl (A1 (c-192)) λj=>t v r 2 j 128 u) (cond (not (ltI c 224)) (Lq v r c (ltI c 240) u (λn d l p a f=>t n d l p a f) (λg=>w g)) (Lq v r c false u (λo e m q b h=>t o e m q b h) (λi=>w i)))
abbrev Qe(b:Code):Prop:=∀(k:Out->St Z->Option R) d c b2 b3 l4,A9 (N8 L) Q Y b ⟨gp [(0,pS d),(3,.fl 0),(0,pI c),(0,pI b2),(17,pB b3)] 70,[.arr true 3 1 l4],s⟩ k=Lr d c b2 b3 l4 (λd c g h a f=>k .normal ⟨gp [(0,pS d),(3,.fl 0),(0,pI c),(1,pI g),(0,pI h),(0,pI a)] 85,[.arr true 3 1 f],s⟩) (λe=>k .ret ⟨gp [(2,.fl 1),(0,pB false)] 91,[.arr true 3 1 e,.arr true 3 1 []],s⟩)
theorem A19(a:Code)(b:NG (R:=R) L Q Y s a):Qe (R:=R) L Q Y s (cd [1,1,0,1,0,0,1,0,1,1,0,0,1,1,1] (G4 [1,1,0,1,0,0,1,0,1,1,0,0,1,1,1,1,1] a Y5)):=by intro k g e c d f;unfold Lr;simp only[<-b k];kernel_rfl
theorem A20:Qe (R:=R) L Q Y s (cd [1,1,0,1,0,0,1,0,1,1,0,0,1,1,1] Y5):=by intro k e c a b d;exact a8 (by kernel_rfl) (A19 L Q Y s (cd [1,1,0,1,0,0,1,0,1,1,0,0,1,1,1,1,1] Y5) (A18 L Q Y s) k e c a b d)
noncomputable def Ev{R:Type}(L n:Nat)(h:By)(f j m a c:Int)(g:LL)(i:LL->Option R)(l:By->Int->Int->Int->Int->LL->Option R):Option R:=match n with|0=>none|n+1=>cond (ltI c j) (cond (inR (A1 (f+c)) h.length) (vl (bAt h (A1 (f+c))) λb=>cond (ltI (A1 b) (128:Int)) (i g) (cond (ltI 191 (A1 b)) (i g) (vl (A1 ((A1 (m*64))+(A1 b))) λd=>vl (A1 (d-128)) λe=>Ev L n h f j e a (A1 (c+1)) g i l))) none) (l h f j m a g)
theorem A24(n d b c e a kk5 l6):C4 1 ((N8 L).keep 17) (bd (N8 L) Q Y (cd [1,1,0,1,0,0,1,0,1,1,1,1,0,1,0,0] Y5)) n ⟨gp [(0,pS d),(3,.fl 0),(0,pI b),(1,pI c),(0,pI e),(0,pI a),(0,pI kk5)] 84,[.arr true 3 1 l6],s⟩ k =
 Ev L n d b c e a kk5 l6 (λg=>k .ret ⟨gp [(2,.fl 1),(0,pB false)] 91,[.arr true 3 1 g,.arr true 3 1 []],s⟩) (λd b c e a h=>k (.exit 3) ⟨gp [(0,pS d),(3,.fl 0),(0,pI b),(1,pI c),(0,pI e),(0,pI a)] 85,[.arr true 3 1 h],s⟩):=by
 induction n generalizing d b c e a kk5 l6 with
 | zero=>rfl
 | succ n f=>rw[Ev];simp only[<-f];kernel_rfl
noncomputable def De{R:Type}(L:Nat)(o:By)(l n q d:Int)(m:LL)(j:LL->Option R)(p:By->Int->LL->Option R):Option R:=vl (A1 ((o.length:Int)-l)) λg=>cond (ltI g n) (j m) (Ev L L o l n q d 1 m (λf=>j f) (λi e h c b a=>cond (ltI c b) (j a) (cond (not (ptI c)) (j a) (cond (F7 (a.length+1)) (p i (A1 (e+h)) (a++[[(SV.int .i64 c)]])) none))))
abbrev Zw(b:Code):Prop:=∀(k:Out->St Z->Option R) c a n2 v3 least4 l5,A9 (N8 L) Q Y b ⟨gp [(0,pS c),(3,.fl 0),(0,pI a),(1,pI n2),(0,pI v3),(0,pI least4)] 85,[.arr true 3 1 l5],s⟩ k=De L c a n2 v3 least4 l5 (λd=>k .ret ⟨gp [(2,.fl 1),(0,pB false)] 91,[.arr true 3 1 d,.arr true 3 1 []],s⟩) (λc a e=>k .normal ⟨gp [(0,pS c),(3,.fl 0),(0,pI a)] 89,[.arr true 3 1 e],s⟩)
theorem A21:Zw (R:=R) L Q Y s (cd [1,1,0,1,0,0,1,0,1,1,1] Y5):=by intro k f c e g a d;unfold De;exact(a8 (by kernel_rfl) (A4 λb=>(A0 rfl ((A24 L Q Y s (E2 3 (D9 (N8 L) Q Y (cd [1,1,0,1,0,0,1,0,1,1,1,1,1] Y5) k)) L f c e g a 1 d).trans (by kernel_rfl)))))
noncomputable def Y1{R:Type}(L n:Nat)(d:By)(c:Int)(D:LL)(e:LL->Option R)(C:LL->Option R):Option R:=match n with|0=>none|n+1=>cond (ltI c (d.length:Int)) (cond (inR c d.length) (cond (ltI (A1 (bAt d c)) (128:Int)) (Wd L d c (A1 (bAt d c)) D (λG=>e G) (λI F H=>Y1 L n I F H e C)) (cond (not (ltI (A1 (bAt d c)) (194:Int))) (Lr d c (A1 (bAt d c)) (ltI (A1 (bAt d c)) (224:Int)) D (λw f u A a j=>De L w f u A a j (λm=>e m) (λx g o=>Y1 L n x g o e C)) (λl=>e l)) (Lr d c (A1 (bAt d c)) false D (λy h v B b p=>De L y h v B b p (λr=>e r) (λz i t=>Y1 L n z i t e C)) (λq=>e q)))) none) (C D)
theorem A25(a:Code)(e:Zv (R:=R) L Q Y s a)(d:Zw (R:=R) L Q Y s a)(b:Code)(c:Qe (R:=R) L Q Y s b)(n:Nat)(i:By)(h:Int)(j:LL):C4 1 ((N8 L).keep 3) (bd (N8 L) Q Y (cd [1,1,0,1,0,0] (G4 [1,1,0,1,0,0,1,0,1,1,0,0,1,1,1] b (G4 [1,1,0,1,0,0,1,0,1,1,1] a Y5)))) n ⟨gp [(0,pS i),(3,.fl 0),(0,pI h)] 89,[.arr true 3 1 j],s⟩ k =
 Y1 L n i h j (λI=>k .ret ⟨gp [(2,.fl 1),(0,pB false)] 91,[.arr true 3 1 I,.arr true 3 1 []],s⟩) (λI=>k (.exit 0) ⟨gp [(4,.fl 0)] 90,[.arr true 3 1 I],s⟩):=by
 induction n generalizing i h j with
 | zero=>rfl
 | succ n G=>rw[Y1];exact let D:=(E2 1 (lpK 1 ((N8 L).keep 3) (bd (N8 L) Q Y (cd [1,1,0,1,0,0] (G4 [1,1,0,1,0,0,1,0,1,1,0,0,1,1,1] b (G4 [1,1,0,1,0,0,1,0,1,1,1] a Y5)))) n k));let K:=(E2 2 (D9 (N8 L) Q Y a D));(a8 (by kernel_rfl) (A0 (A0 (A0 ((e D i h (A1 (bAt i h)) (ltI (A1 (bAt i h)) (128:Int)) j).trans (congr (congr rfl (by kernel_rfl)) (fx3 λJ F H=>(a8 (by kernel_rfl) (G J F H))))) (A0 ((c K i h (A1 (bAt i h)) (ltI (A1 (bAt i h)) (224:Int)) j).trans (congr (congr rfl (fx6 λx l v B f q=>(a8 (by kernel_rfl) ((d D x l v B f q).trans (congr (congr rfl (by kernel_rfl)) (fx3 λy m r=>(a8 (by kernel_rfl) (G y m r)))))))) (by kernel_rfl))) ((c K i h (A1 (bAt i h)) false j).trans (congr (congr rfl (fx6 λz o w C g t=>(a8 (by kernel_rfl) ((d D z o w C g t).trans (congr (congr rfl (by kernel_rfl)) (fx3 λA p u=>(a8 (by kernel_rfl) (G A p u)))))))) (by kernel_rfl))))) rfl) rfl))
noncomputable def Cu5{R:Type}(L:Nat)(e:By)(c:LL->Option R)(d:LL->Option R):Option R:=Y1 L L e 0 [] (λa=>c a) (λb=>d b)
theorem Cu6(b:Code)(c:Zv (R:=PV × List Blk × Z) L Q Y s b)(e:Zw (R:=PV × List Blk × Z) L Q Y s b)(a:Code)(d:Qe (R:=PV × List Blk × Z) L Q Y s a)(g:By):A9 (N8 L) Q Y (cd [] (G4 [1,1,0,1,0,0,1,0,1,1,0,0,1,1,1] a (G4 [1,1,0,1,0,0,1,0,1,1,1] b Y5))) ⟨[pS g]++tps 94,[],s⟩ (F2 (N8 L) ad7)=Cu5 L g (λf=>some (.tup [.fl 1,pB false],[.arr true 3 1 f,.arr true 3 1 []],s)) (λf=>some (.tup [.fl 0,pB true],[.arr true 3 1 f],s)):=by unfold Cu5;exact(a8 (by kernel_rfl) ((A25 L Q Y s (E2 0 (D9 (N8 L) Q Y (cd [1,1,1] Y5) (F2 (N8 L) ad7))) b c e a d L g 0 []).trans (by kernel_rfl)))
theorem Cu7(d:Nat)(s0):evC (N8 L) (d+1) Z Y 119 [pS s0] [] s=Cu5 L s0 (λa=>some (.tup [.fl 1,pB false],[.arr true 3 1 a,.arr true 3 1 []],s)) (λa=>some (.tup [.fl 0,pB true],[.arr true 3 1 a],s)):=
 (evE (fn:=ad7) (by kernel_rfl)).trans (a8 (by kernel_rfl) (Cu6 L (evC (N8 L) d) Y s (cd [1,1,0,1,0,0,1,0,1,1,1] Y5) (A16 L (evC (N8 L) d) Y s) (A21 L (evC (N8 L) d) Y s) (cd [1,1,0,1,0,0,1,0,1,1,0,0,1,1,1] Y5) (A20 L (evC (N8 L) d) Y s) s0))
noncomputable abbrev Bb5:Code:=C3 af3
noncomputable def Ku(L:Nat):Cfg:=B4 L [127] (A2 [(6,[0,1,0,1,0])]) [(156,A98),(120,Aj1)] (A2 [(12,[2]),(11,[0,4,1,0]),(7,[0,2,1,0]),(10,[2]),(9,[0,2,1,0,34]),(8,[0,2,1,0]),(6,[0,2,1,0,12]),(5,[0,2,1,0]),(4,[0,2,1]),(3,[2]),(2,[0,2,11]),(1,[0,2,0]),(0,[0])]) [120] (A2 [(0,[0,2,1]),(1,[0,2,1,0])]) (some [2]) [] [] []
noncomputable def X1{R:Type}(L n:Nat)(a:By)(d:Bool)(b:LL)(e:Bool)(c:Int)(f:Unit->Option R)(g:By->Bool->LL->Bool->Option R):Option R:=match n with|0=>none|n+1=>cond (ltI c (b.length:Int)) (cond e (cond (inR c b.length) (cond (okE Ke b (b9 c) 0) (cond (not (ltI (gE b (b9 c) 0) (65:Int))) (cond (inR c b.length) (cond (okE Ke b (b9 c) 0) (cond (not (ltI 90 (gE b (b9 c) 0))) (f ()) (X1 L n a d b true (A1 (c+1)) f g)) none) none) (X1 L n a d b true (A1 (c+1)) f g)) none) none) (cond (inR c b.length) (cond (okE Ke b (b9 c) 0) (cond (inR c b.length) (cond (okE Ke b (b9 c) 0) (cond (not (ltI (gE b (b9 c) 0) (65:Int))) (cond (inR c b.length) (cond (okE Ke b (b9 c) 0) (cond (not (ltI 90 (gE b (b9 c) 0))) (f ()) (X1 L n a d b (not (ltI (gE b (b9 c) 0) (128:Int))) (A1 (c+1)) f g)) none) none) (X1 L n a d b (not (ltI (gE b (b9 c) 0) (128:Int))) (A1 (c+1)) f g)) none) none) none) none)) (g a d b e)
theorem Aa9(n c b d a i4):C4 0 ((Ku L).keep 6) (bd (Ku L) Q Y (cd [1,1,1,1,0,1,0,0] Bb5)) n ⟨gp [(0,pS c),(2,.s (.sl b b 1 d)),(1,pB a),(0,pI i4)] 50,[],s⟩ k =
 X1 L n c b d a i4 (λ_=>k .ret ⟨gp [(2,pB false)] 54,[],s⟩) (λc b d a=>k (.exit 0) ⟨gp [(0,pS c),(2,.s (.sl b b 1 d)),(1,pB a)] 51,[],s⟩):=by
 induction n generalizing c b d a i4 with
 | zero=>rfl
 | succ n e=>rw[X1];simp only[<-e];kernel_rfl
noncomputable def Bg1{R:Type}(L:Nat)(a:By)(e:Bool->Option R):Option R:=cond (A3 a.length) (vl (↑((M9 a)).2:Int) λf=>cond (f !=0) (e false) (X1 L L a (af6 ((M9 a)).1) (Lg ((M9 a)).1) false 0 (λ_=>e false) (λc h d b=>cond (ab6 d Mq) (vl ((V0 (y9 elI d))).1 λi=>vl (↑((V0 (y9 elI d))).2:Int) λg=>cond (g==0) (cond (i==c) (e b) (e false)) (e false)) none))) none
theorem Cb3(d:Nat)(rest0):evC (Ku L) (d+1) Z Y 127 [pS rest0] [] s=Bg1 L rest0 (λb=>some (pB b,[],s)):=by refine(evE (fn:=af3) (by kernel_rfl)).trans ?_;generalize evC (Ku L) d=Q;unfold Bg1;exact(a8 (by kernel_rfl) (A0 (A4 λa=>(A0 rfl ((Aa9 L Q Y s (E2 0 (D9 (Ku L) Q Y (cd [1,1,1,1,1] Bb5) (F2 (Ku L) af3))) L rest0 (af6 ((M9 rest0)).1) (Lg ((M9 rest0)).1) false 0).trans (by kernel_rfl)))) rfl))
noncomputable abbrev Bb3:Code:=C3 ag1
noncomputable def Ks(L:Nat):Cfg:=B4 L [94] (A2 [(4,[0,1,0])]) [(127,Ba0)] (A2 [(9,[2]),(5,[0,2]),(8,[2]),(7,[0,2,52]),(6,[0,2,0]),(4,[0,2,24]),(3,[0,2]),(2,[2]),(1,[0,23]),(0,[0])]) [127] (A2 [(0,[0]),(1,[0,2])]) (some [2]) [] [] []
noncomputable def N3{R:Type}(L n:Nat)(a:By)(b:Int)(c:Unit->Option R)(d:By->Option R):Option R:=match n with|0=>none|n+1=>cond (ltI b (a.length:Int)) (cond (inR b a.length) (cond (not (ltI (bAt a b) (97:Int))) (cond (not (ltI 122 (bAt a b))) (N3 L n a (A1 (b+1)) c d) (cond (not (ltI (bAt a b) (48:Int))) (cond (not (ltI 57 (bAt a b))) (N3 L n a (A1 (b+1)) c d) (cond ((bAt a b)==45) (N3 L n a (A1 (b+1)) c d) (cond (not ((bAt a b)==95)) (c ()) (N3 L n a (A1 (b+1)) c d)))) (cond ((bAt a b)==45) (N3 L n a (A1 (b+1)) c d) (cond (not ((bAt a b)==95)) (c ()) (N3 L n a (A1 (b+1)) c d))))) (cond (not (ltI (bAt a b) (48:Int))) (cond (not (ltI 57 (bAt a b))) (N3 L n a (A1 (b+1)) c d) (cond ((bAt a b)==45) (N3 L n a (A1 (b+1)) c d) (cond (not ((bAt a b)==95)) (c ()) (N3 L n a (A1 (b+1)) c d)))) (cond ((bAt a b)==45) (N3 L n a (A1 (b+1)) c d) (cond (not ((bAt a b)==95)) (c ()) (N3 L n a (A1 (b+1)) c d))))) none) (d a)
theorem ZY(n a i1):C4 0 ((Ks L).keep 4) (bd (Ks L) Q Y (cd [1,1,0,1,0,0] Bb3)) n ⟨gp [(0,pS a),(2,pI i1)] 66,[],s⟩ k =
 N3 L n a i1 (λ_=>k .ret ⟨gp [(2,pB false)] 67,[],s⟩) (λa=>k (.exit 0) ⟨gp [(0,pS a)] 69,[],s⟩):=by
 induction n generalizing a i1 with
 | zero=>rfl
 | succ n b=>rw[N3];simp only[<-b];kernel_rfl
noncomputable def Bf6{R:Type}(L:Nat)(c:By)(b:Bool->Option R):Option R:=cond (c==[]) (b false) (cond (ltI 63 (c.length:Int)) (b false) (cond (inR 0 c.length) (cond ((bAt c (0:Int))==45) (b false) (vl (A1 ((c.length:Int)-1)) λd=>cond (inR d c.length) (cond ((bAt c d)==45) (b false) (N3 L L c 0 (λ_=>b false) (λa=>cond (ltI (a.length:Int) (4:Int)) (b true) (cond (I2 0 (4:Int) a.length) (vl (cut a 0 (4:Int)) λf=>cond (not (f==[120,110,45,45])) (b true) (cond (I2 4 (a.length:Int) a.length) (vl (cut a 4 (a.length:Int)) λe=>cond (A3 e.length) (b (Dc e)) none) none)) none)))) none)) none))
theorem Ca5(d:Nat)(s0):evC (Ks L) (d+1) Z Y 94 [pS s0] [] s=Bf6 L s0 (λb=>some (pB b,[],s)):=by refine(evE (fn:=ag1) (by kernel_rfl)).trans ?_;generalize evC (Ks L) d=Q;unfold Bf6;exact(a8 (by kernel_rfl) (A0 rfl (A0 rfl (A0 (A0 rfl (A4 λa=>(A0 (A0 rfl ((ZY L Q Y s (E2 0 (D9 (Ks L) Q Y (cd [1,1,1] Bb3) (F2 (Ks L) ag1))) L s0 0).trans (by kernel_rfl))) rfl))) rfl))))
noncomputable def RV(L:Nat):Cfg:=B4 L [89] (A2 []) [(119,Bz2),(17,Aj3),(120,Aj1),(94,PS)] (A2 [(15,[2,0]),(14,[2,0]),(13,[6,37]),(12,[6]),(11,[2,0]),(10,[9,29]),(9,[9,0]),(8,[7]),(7,[6,20]),(6,[0,3,1]),(5,[2,0]),(4,[0,3,15]),(3,[2,0]),(2,[0,3,12]),(1,[0,3,0]),(0,[0])]) [17,120,94] (A2 []) (some [2,0]) [] [] []
noncomputable def Bf5{R:Type}(L:Nat)(a:By)(b:By->Int->Option R):Option R:=cond (A3 a.length) (cond (not (aa5 (Cr a))) (b ([]:List UInt8) 4) (cond (ltI 256 (↑(j6 (Lg (Qp a))):Int)) (b ([]:List UInt8) 3) (cond (A3 a.length) (cond (ltI (↑(j6 (Lg (Qp a))):Int) (a.length:Int)) (cond (A3 (j6 (B6 a))) (cond (ab6 (Lg (Qp (B6 a))) Mq) (vl ((V0 (y9 elI (Lg (Qp (B6 a)))))).1 λd=>vl (↑((V0 (y9 elI (Lg (Qp (B6 a)))))).2:Int) λe=>cond (e !=0) (b ([]:List UInt8) 14) (cond (F3 4 d.length) (vl (([120,110,45,45]:List UInt8)++d) λc=>cond (A3 c.length) (cond (not (K6 c)) (b ([]:List UInt8) 14) (b c 0)) none) none)) none) none) (cond (A3 (j6 (B6 a))) (cond (not (K6 (B6 a))) (b ([]:List UInt8) 14) (b (B6 a) 0)) none)) none))) none
theorem Ca4(d:Nat)(s0):evC (RV L) (d+1) Z Y 89 [pS s0] [] s=Bf5 L s0 (λa b=>some (.tup [pS a,pI b],[],s)):=by refine(evE (fn:=Tryz.f89) (by kernel_rfl)).trans ?_;generalize evC (RV L) d=Q;unfold Bf5;kernel_rfl
end
theorem Aa8{R:Type}{a:Bool->Option R}(n:Int):UM LF n a=a (ptI n):=by
 unfold UM;by_cases h:n<0
 ·rw[B5 h];have:ptI n=false:=by
   cases n with
   | ofNat m=>exact absurd h (by simp)
   | negSucc m=>rfl
  grind
 ·obtain⟨m,rfl⟩:=x4 (show 0<=n by omega);rw[A5,Lk];unfold U2;by_cases b:1114111<m
  ·rw[A8];have:v8 m 1114111=false:=by rw[j9,ne_eq,p4];omega
   grind
  ·rw[A5];have:v8 m 1114111=true:=by rw[p4];omega
   rw[this];by_cases c:m<55296
   ·rw[A8];have:Nat.blt m 55296=true:=by rw[ad1];omega
    grind
   ·rw[A5];have e:Nat.blt m 55296=false:=by rw[j9,ne_eq,ad1];omega
    rw[e];simp only[j0,cond_true,cond_false,ac8,x8]
    congr 1
theorem ZM{R:Type}{k0:Int->Int->Option R}:∀(d n k:Nat),d<2305843009213693952->d<n->k+d<=4611686018427387904->
  ∃a b,a<=455/\b<=k+d/\Yc d k=b+36*a / (a+38)/\Fl LF n (d:Int) (k:Int) k0=k0 (a:Int) (b:Int):=by
 intro d
 induction d using ac2 with
 | _ d l=>
  intro n k p r q;obtain⟨n,rfl⟩:∃m,n=m+1:=⟨n-1,by omega⟩
  rw[Fl];by_cases h:455<d
  ·obtain⟨a,b,g,o,i,j⟩:=l (d / 35) (by omega) n (k+36) (by omega) (by omega) (by omega);refine⟨a,b,g,by omega,by rw[FP h];exact i,?_⟩;have e:w6 (d:Int) 35=((d / 35:Nat):Int):=L2 d 35;have c:A1 ((d / 35:Nat):Int)=((d / 35:Nat):Int):=A7;have f:A1 ((k:Int)+36)=((k+36:Nat):Int):=by rw[A7];rfl
   rw[A8];simp only[cond_true,vl,e,c,f];exact j
  ·refine⟨d,k,by omega,by omega,Ro h,?_⟩;rw[A5];rfl
theorem ZN{R:Type}{k0:Int->Option R}(d c:Int)(f:Bool)(z:ltN d 1152921504606846976=true)(A:ltN c 1000000=true)(B:ltI 0 c=true):IL LF d c f k0=k0 (P5 d.toNat c.toNat f:Nat):=by
 obtain⟨k,F⟩:=E0.1 z;obtain⟨j,D⟩:=E0.1 A;obtain⟨d,rfl⟩:=x4 k;obtain⟨c,rfl⟩:=x4 j;have J:=Le.1 B;have C:=C1;have key:∀x:Nat,x<1152921504606846976->Fk LF (x:Int) (c:Int) k0=k0 ((Yc (x+x / c) 0:Nat):Int):=by
  intro x L;have G:x / c<=x:=x9 _ _;unfold Fk;have g:w6 (x:Int) (c:Int)=((x / c:Nat):Int):=L2 x c;generalize x / c=q at *;have h:A1 (q:Int)=(q:Int):=A7;have o:A1 ((x:Int)+(q:Int))=((x+q:Nat):Int):=by rw[A7];rfl
  rw[show((c:Int)!=0)=true by simp;omega];simp only[cond_true,vl,g,h,o];obtain⟨a,n,H,I,w,y⟩:=ZM (R:=R) (k0:=λb l=>vl (A1 ((36)*b)) λm=>vl (A1 (b+(38))) λe=>cond (e !=(0)) (vl (A1 (w6 m e)) λi=>k0 (A1 (l+i))) none) (x+q) LF 0 (by omega) (by omega) (by omega);refine a8 y ?_;have K:36*a / (a+38)<=36*a:=x9 _ _;have p:A1 (36*(a:Int))=((36*a:Nat):Int):=by rw[A7];rfl
  have r:A1 ((a:Int)+38)=((a+38:Nat):Int):=by rw[A7];rfl
  have t:w6 ((36*a:Nat):Int) ((a+38:Nat):Int)=((36*a / (a+38):Nat):Int):=L2 _ _;have u:A1 ((36*a / (a+38):Nat):Int)=((36*a / (a+38):Nat):Int):=A7;have v:A1 ((n:Int)+((36*a / (a+38):Nat):Int))=((n+36*a / (a+38):Nat):Int):=by rw[A7];rfl
  simp only[vl,p,r,t,u,v];rw[show(((a+38:Nat):Int)!=0)=true by simp;omega,w];rfl
 unfold IL P5;rw[b8,b8];cases f with
 | true=>
  have g:w6 (d:Int) 700=((d / 700:Nat):Int):=L2 d 700;have h:A1 ((d / 700:Nat):Int)=((d / 700:Nat):Int):=A7;simp only[cond_true,vl,g,h,if_true];exact key _ (by omega)
 | false=>
  have g:w6 (d:Int) 2=((d / 2:Nat):Int):=L2 d 2;have h:A1 ((d / 2:Nat):Int)=((d / 2:Nat):Int):=A7;simp only[cond_false,vl,g,h,ac9,if_false];exact key _ (by omega)
theorem Aw1{R:Type}{b:Int->Option R}(d:Int)(c:ltN d 36=true):Bf2 LF d b=b ((Z8 d.toNat).toNat:Nat):=by
 obtain⟨a,e⟩:=E0.1 c;obtain⟨d,rfl⟩:=x4 a;unfold Bf2;rw[b8,LU (by omega)];by_cases h:d<26
 ·rw[A8,if_pos h];simp only[cond_true,vl]
  congr 1
  rw[A7,L6];rfl
 ·rw[A5,if_neg h];simp only[cond_false,vl]
  congr 1
  rw[C5 (n:=48+(d:Int)) (by omega) (by omega),A7,L6];omega
theorem Bt0{R:Type}{g:Int->Option R}(b:Int)(h:inR b 256=true):Cc7 LF b g=g (D8 (u8n b)):=by
 simp only[inR,w9,decide_eq_true_eq] at h;have j:b=((u8n b).toNat:Int):=by
  unfold u8n;simp;omega
 generalize u8n b=c at *;subst j;have i:=c.toNat_lt;unfold Cc7 D8;simp only[Wi,Wh,vl];rcases CD c with⟨d,f,e⟩|⟨d,f,e⟩|⟨d,f,e⟩|⟨d,f,o,e⟩
 ·have a:A1 (wu8 ((c.toNat:Int)-97))=((c.toNat-97:Nat):Int):=by
   rw[L6,A7];omega
  simp (disch:=omega) only[B5,E3,c9,j0,cond_false,cond_true,a,e]
 ·have a:A1 (wu8 ((c.toNat:Int)-65))=((c.toNat-65:Nat):Int):=by
   rw[L6,A7];omega
  simp (disch:=omega) only[B5,E3,c9,j0,cond_false,cond_true,a,e]
 ·have a:A1 (A1 (wu8 ((c.toNat:Int)-48))+26)=((c.toNat-22:Nat):Int):=by
   rw[L6,C5 (n:=(c.toNat:Int)-48) (by omega) (by omega),A7];omega
  simp (disch:=omega) only[B5,E3,c9,j0,cond_false,cond_true,a,e]
 ·rw[e];by_cases k:c.toNat<48
  ·simp (disch:=omega) only[B5,E3,c9,j0,cond_false,cond_true]
  ·by_cases l:c.toNat<65
   ·simp (disch:=omega) only[B5,E3,c9,j0,cond_false,cond_true]
   ·by_cases m:c.toNat<97
    ·simp (disch:=omega) only[B5,E3,c9,j0,cond_false,cond_true]
    ·simp (disch:=omega) only[B5,E3,c9,j0,cond_false,cond_true]
theorem Bs0{R:Type}{a:Int->Option R}(k b:Int)(c:ltN k 10000000000=true)(d:ltN b 1000000=true):Cu9 LF k b a=a (K5 (ab2 36 k) b):=by obtain⟨j,l⟩:=E0.1 c;obtain⟨e,f⟩:=E0.1 d;unfold Cu9 K5;have g:A1 (k+1)=k+1:=A7;have h:A1 ((36:Int)*(k+1))=36*(k+1):=A7;have i:A1 (36*(k+1)-b)=36*(k+1)-b:=A7;grind
theorem B89(z t:Bool)(c:LL)(done a u delta i:Int)(b:Nat)(T:b<1000000):∀(r q k n:Nat) (l:LL),q<10 ^ r->q<1152921504606846976->k+r<=1000->r<n->l.length+r<=200000->
  ∃(d:Nat) (pre:By),d<36/\O5 q k b=pre++[Z8 d]/\∀(R:Type) (g:Bool->Bool->LL->Int->Int->Int->Int->Int->Int->LL->Option R),Ep LF n z t c done a u delta (b:Int) i (q:Int) (k:Int) l g=g z t c done a u delta i (d:Int) (l++pre.map D7):=by
 have f:∀k:Nat,K5 (ab2 36 (k:Int)) (b:Int)=(thr k b:Int):=λk=>by
  rw[show ab2 36 (k:Int)=((36*k:Nat):Int) from rfl,Ws]
 have j:∀(q k n:Nat) (l:LL),q<thr k b->k<=1000->∃(d:Nat) (pre:By),d<36/\O5 q k b=pre++[Z8 d]/\∀(R:Type) (g:Bool->Bool->LL->Int->Int->Int->Int->Int->Int->LL->Option R),Ep LF (n+1) z t c done a u delta (b:Int) i (q:Int) (k:Int) l g=g z t c done a u delta i (d:Int) (l++pre.map D7):=by
  intro q k n l p v;have x:=U6 k b;refine⟨q,[],by omega,by rw[Pp p];rfl,λR g=>?_⟩;rw[Ep];have o:ltI (q:Int) (thr k b:Int)=true:=A8;rw[L1,L1,f];grind
 intro r
 induction r with
 | zero=>
  intro q k n l h _ v P N;have x:=U6 k b;obtain⟨n,rfl⟩:∃m,n=m+1:=⟨n-1,by omega⟩
  exact j q k n l (by simp at h;omega) (by omega)
 | succ r Q=>
  intro q k n l h w v P N;have x:=U6 k b;obtain⟨n,rfl⟩:∃m,n=m+1:=⟨n-1,by omega⟩
  by_cases p:q<thr k b
  ·exact j q k n l p (by omega)
  ·have L:(q-thr k b) / (36-thr k b)<10 ^ r:=SK (by omega) (by rw[Nat.pow_succ] at h;omega);have M:(q-thr k b) / (36-thr k b)<=q:=Nat.le_trans (x9 _ _) (by omega);have O:(q-thr k b) % (36-thr k b)<36-thr k b:=ae6 _ (by omega);obtain⟨d,pre,e0,K,e⟩:=Q ((q-thr k b) / (36-thr k b)) (k+1) n (l++[D7 (Z8 (thr k b+(q-thr k b) % (36-thr k b)))]) L (by omega) (by omega) (by omega) (by rw[j5,s7];omega);refine⟨d,Z8 (thr k b+(q-thr k b) % (36-thr k b))::pre,e0,by rw[Yt p,K];rfl,λR g=>?_⟩;rw[Ep];have y:A1 ((q:Int)-(thr k b:Int))=((q-thr k b:Nat):Int):=by rw[A7];omega
   have C:A1 ((36:Int)-(thr k b:Int))=((36-thr k b:Nat):Int):=by rw[A7];omega
   have D:p9 ((q-thr k b:Nat):Int) ((36-thr k b:Nat):Int)=(((q-thr k b) % (36-thr k b):Nat):Int):=Br _ _;have F:w6 ((q-thr k b:Nat):Int) ((36-thr k b:Nat):Int)=(((q-thr k b) / (36-thr k b):Nat):Int):=L2 _ _;have I:((((36-thr k b:Nat):Int))!=0)=true:=by rw[bne_iff_ne];omega
   have J:A1 ((k:Int)+1)=((k+1:Nat):Int):=by rw[A7];rfl
   have o:ltI (q:Int) (thr k b:Int)=false:=A5;rw[L1,L1,f];simp only[vl,o,y,C,D,F,I,J,cond_true,cond_false,j0];generalize hA:(q-thr k b) / (36-thr k b)=A at *;generalize S:(q-thr k b) % (36-thr k b)=B at *;have G:A1 ((thr k b:Int)+(B:Int))=((thr k b+B:Nat):Int):=by rw[A7];rfl
   have H:A1 (A:Int)=(A:Int):=A7;rw[G,H,L1,F0 (by omega),b8];refine a8 (e R g) ?_;simp[v7,D7]
theorem Ct4(z t:Bool)(c:List Nat)(a m:Nat)(Z:m<=1114112)(Y:c.length<=256):∀(r i n:Nat) (s:NV),i+r=c.length->r<n->s.delta+r<=1000000000000->s.bias<=500->s.out.length+20*r<=90000->s.done+r<=1000->a<=256->
  (∀(R:Type) (d:Bool->Bool->LL->Int->Int->Int->Int->Int->LL->Option R),Af LF n z t (B3 c) (s.done:Int) (a:Int) (m:Int) (s.delta:Int) (s.bias:Int) (i:Int) (s.out.map D7) d =
   d z t (B3 c) ((H6 m a (c.drop i) s).done:Int) (a:Int) (m:Int) ((H6 m a (c.drop i) s).delta:Int) ((H6 m a (c.drop i) s).bias:Int) ((H6 m a (c.drop i) s).out.map D7))/\
  (H6 m a (c.drop i) s).bias<=500/\(H6 m a (c.drop i) s).out.length<=s.out.length+20*(c.drop i).countP (· == m)/\(H6 m a (c.drop i) s).done=s.done+(c.drop i).countP (· == m)/\
  (H6 m a (c.drop i) s).delta<=(if 0<(c.drop i).countP (· == m) then r else s.delta+r):=by
 have S:=C1;intro r
 induction r with
 | zero=>
  intro i n s T U O B P Q C;obtain⟨n,rfl⟩:∃m,n=m+1:=⟨n-1,by omega⟩
  rw[j1 (by omega)];refine⟨λR d=>?_,B,by simp[H6],by simp[H6],by simp[H6]⟩;rw[Af];rw[D1,A5];rfl
 | succ r H=>
  intro i n s T U O B P Q C;obtain⟨n,rfl⟩:∃m,n=m+1:=⟨n-1,by omega⟩
  rw[Ui c i (by omega)];have F:=Yy c i (by omega);have ok:=Pw (l:=c) (i:=i) (by omega);have e:inR (i:Int) (B3 c).length=true:=J6 (by omega) (by rw[D1];omega);have f:ltI (i:Int) ((B3 c).length:Int)=true:=B5 (by rw[D1];omega);generalize c.getD i 0=p at *;have A:A1 ((i:Int)+1)=((i+1:Nat):Int):=by rw[A7];rfl
  have M:A1 ((s.delta:Int)+1)=((s.delta+1:Nat):Int):=by rw[A7];rfl
  have I:A1 ((s.done:Int)+1)=((s.done+1:Nat):Int):=by rw[A7];rfl
  by_cases G:p<m
  ·have g:(p==m)=false:=by rw[beq_eq_false_iff_ne];omega
   have u:H6 m a (p::c.drop (i+1)) s=H6 m a (c.drop (i+1)) { s with delta:=s.delta+1 }:=by rw[H6,if_pos G]
   obtain⟨v,w,x,y,h⟩:=H (i+1) n { s with delta:=s.delta+1 } (by omega) (by omega) (by simp only;omega) B (by simp only;omega) (by simp only;omega) C;rw[u,ab7 (by rw[g];simp)];refine⟨λR d=>?_,w,x,y,?_⟩
   ·rw[Af];rw[b8];simp only[e,f,ok,cond_true,vl,F,A,M];rw[A8,cond_true,show((p:Int)!=(m:Int))=true by rw[bne_iff_ne];omega,cond_true];exact v R d
   ·simp only at h;split at h<;>split<;>omega
  ·by_cases L:p=m
   ·subst L;have K:=LX (q:=s.delta) (k:=0) (b:=s.bias) (by omega);have D:=Nk s.delta (s.done+1) (s.done==a) (by omega);have u:H6 p a (p::c.drop (i+1)) s=H6 p a (c.drop (i+1)) { delta:=0,bias:=P5 s.delta (s.done+1) (s.done==a),done:=s.done+1,out:=s.out++O5 s.delta 0 s.bias }:=by rw[H6,if_neg G,if_pos rfl]
    obtain⟨v,w,x,y,h⟩:=H (i+1) n { delta:=0,bias:=P5 s.delta (s.done+1) (s.done==a),done:=s.done+1,out:=s.out++O5 s.delta 0 s.bias } (by omega) (by omega) (by simp only;omega) D (by simp only[j5];omega) (by simp only;omega) C;obtain⟨W,pre,X,J,N⟩:=B89 z t (B3 c) (s.done:Int) (a:Int) (p:Int) (s.delta:Int) (i:Int) s.bias (by omega) 19 s.delta 0 LF (s.out.map D7) (by omega) (by omega) (by omega) (by omega) (by rw[p5];omega);rw[u,List.countP_cons_of_pos (by simp)];refine⟨λR d=>?_,w,?_,?_,?_⟩
    ·rw[Af];have j:((s.done:Int)==(a:Int))=(s.done==a):=by
      rw[ab9,beq_iff_eq,beq_iff_eq];omega
     rw[b8];simp only[e,f,ok,cond_true,vl,F,A,I];rw[A5,cond_false,bne_self_eq_false,cond_false];refine a8 (N R _) ?_;have V:pre.length+1=(O5 s.delta 0 s.bias).length:=by rw[J];simp
     rw[L1,b8,F0 (by rw[j5,p5,p5];omega)];simp only[vl,cond_true,A,I];rw[L1,L1,A8,j];simp only[cond_true,b8];have o:s.out.map D7++pre.map D7++[[SV.int .u8 (((Z8 W).toNat:Nat):Int)]]=(s.out++O5 s.delta 0 s.bias).map D7:=by
      rw[J,aa6,aa6,v7];rfl
     rw[o];exact v R d
    ·simp only[j5] at x;omega
    ·simp only at y;omega
    ·simp only at h;rw[S6];split at h<;>omega
   ·have g:(p==m)=false:=by rw[beq_eq_false_iff_ne];omega
    have u:H6 m a (p::c.drop (i+1)) s=H6 m a (c.drop (i+1)) s:=by rw[H6,if_neg G,if_neg L]
    obtain⟨v,w,x,y,h⟩:=H (i+1) n s (by omega) (by omega) (by omega) B (by omega) (by omega) C;rw[u,ab7 (by rw[g];simp)];refine⟨λR d=>?_,w,x,y,?_⟩
    ·rw[Af];rw[b8];simp only[e,f,ok,cond_true,vl,F,A];rw[A5,cond_false,show((p:Int)!=(m:Int))=true by rw[bne_iff_ne];omega,cond_true];exact v R d
    ·split at h<;>split<;>omega
theorem Ax6{R:Type}{k0:Bool->Bool->LL->Int->Int->Int->Int->Int->Int->LL->Option R}(z t:Bool)(a:List Nat)(q:a.length<=256)(n0:Nat)(b delta c done:Int)(l:LL):∀(r i n m:Nat),i+r=a.length->r<n->
  Ht LF n z t (B3 a) done b (n0:Int) delta c (m:Int) (i:Int) l k0=k0 z t (B3 a) done b (n0:Int) delta c ((H3 n0 (a.drop i) m:Nat):Int) l:=by
 intro r
 induction r with
 | zero=>
  intro i n m k o;obtain⟨n,rfl⟩:∃m,n=m+1:=⟨n-1,by omega⟩
  rw[Ht];rw[D1,A5,j1 (by omega)];rfl
 | succ r f=>
  intro i n m k o;obtain⟨n,rfl⟩:∃m,n=m+1:=⟨n-1,by omega⟩
  have j:=Yy a i (by omega);have ok:=Pw (l:=a) (i:=i) (by omega);have d:inR (i:Int) (B3 a).length=true:=J6 (by omega) (by rw[D1];omega);have e:ltI (i:Int) ((B3 a).length:Int)=true:=B5 (by rw[D1];omega);rw[Ht,Ui a i (by omega)];generalize a.getD i 0=p at *;have g:A1 ((i:Int)+1)=((i+1:Nat):Int):=by rw[A7];rfl
  rw[b8];simp only[d,e,ok,cond_true,vl,j,g,H3];by_cases h:n0<=p
  ·rw[if_pos h,A5,j0,cond_true];have:(if (p:Int)<(m:Int) then (p:Int) else (m:Int))=((min m p:Nat):Int):=by split<;>omega
   rw[this];exact f (i+1) n (min m p) (by omega) (by omega)
  ·rw[if_neg h,A8,c9,cond_false];exact f (i+1) n m (by omega) (by omega)
theorem B90(z t:Bool)(a:List Nat)(b:Nat)(B:a.length<=256)(T:b<=256)(i:∀p∈a,p<=1114111):∀(f n d:Nat) (s:NV),s.done=a.countP (λp=>decide (p<n))->a.length<=s.done+f->f<d->s.delta<=300->s.bias<=500->s.out.length+20*(a.length-s.done)<=80000->n<=1114112->
  ∀(R:Type) (k0:LL->Option R),Er LF d z t (B3 a) (s.done:Int) (b:Int) (n:Int) (s.delta:Int) (s.bias:Int) (s.out.map D7) k0=k0 ((Q2 a b f n s).out.map D7):=by
 intro f;have S:=C1
 induction f with
 | zero=>
  intro n d s V X Y O y P Q R k0;obtain⟨d,rfl⟩:∃m,d=m+1:=⟨d-1,by omega⟩
  rw[Er];rw[D1,A5];rfl
 | succ f Z=>
  intro n d s V X Y O y P Q R k0;obtain⟨d,rfl⟩:∃m,d=m+1:=⟨d-1,by omega⟩
  rw[Er];rw[D1];have U:a.countP (λp=>decide (p<n))<=a.length:=z7;by_cases o:s.done<a.length
  ·obtain⟨v,g,q⟩:=An6 (n:=n) (l:=a) (by omega);obtain⟨g1,g2,x⟩:=Dm n a 1114112;obtain⟨D,F,w⟩:=Dm n a 1073741824;have g4:=x v g q;have G:=w v g q;have g5:=i v g;have e:H3 n a 1114112∈a/\n<=H3 n a 1114112:=by grind
   have h:H3 n a 1073741824∈a/\n<=H3 n a 1073741824:=by grind
   have heq:H3 n a 1073741824=H3 n a 1114112:=by grind
   have W:Q2 a b (f+1) n s=Q2 a b f (H3 n a 1114112+1) { H6 (H3 n a 1114112) b a { s with delta:=s.delta+(H3 n a 1114112-n)*(s.done+1) } with delta:=(H6 (H3 n a 1114112) b a { s with delta:=s.delta+(H3 n a 1114112-n)*(s.done+1) }).delta+1 }:=by
    rw[Q2,if_pos o]
   rw[W,A8,cond_true];have c:=λ(K:Bool->Bool->LL->Int->Int->Int->Int->Int->Int->LL->Option R)=>Ax6 (k0:=K) z t a B n (b:Int) (s.delta:Int) (s.bias:Int) (s.done:Int) (s.out.map D7) a.length 0 LF 1073741824 (by omega) (by omega)
   rw[k9,heq] at c;refine a8 (c _) ?_;clear c heq D F w G h;generalize H3 n a 1114112=m at *;have C:(m-n)*(s.done+1)<=1114112*256:=ae7 (by omega) (by omega);have H:A1 ((s.done:Int)+1)=((s.done+1:Nat):Int):=by rw[A7];rfl
   have I:A1 ((m:Int)-(n:Int))=((m-n:Nat):Int):=by rw[A7];omega
   have J:A1 (((m-n:Nat):Int)*((s.done+1:Nat):Int))=(((m-n)*(s.done+1):Nat):Int):=by
    rw[<-Int.natCast_mul];exact A7
   have L:A1 ((s.delta:Int)+(((m-n)*(s.done+1):Nat):Int))=((s.delta+(m-n)*(s.done+1):Nat):Int):=by
    rw[A7];rfl
   simp only[vl,H,I,J,L];have k:=Ct4 z t a b m (by omega) B a.length 0 LF { s with delta:=s.delta+(m-n)*(s.done+1) } (by omega) (by omega) (by simp only;omega) y (by simp only;omega) (by simp only;omega) T;rw[k9] at k;obtain⟨q1,q2,q3,q4,q5⟩:=k;refine a8 (q1 R _) ?_;have j:0<a.countP (· == m):=List.countP_pos_iff.2 ⟨m,e.1,by simp⟩;rw[if_pos j] at q5;have u:=Ub e.2 a x;generalize H6 m b a { s with delta:=s.delta+(m-n)*(s.done+1) } = r at *;simp only at q3 q4;have M:A1 ((r.delta:Int)+1)=((r.delta+1:Nat):Int):=by rw[A7];rfl
   have N:A1 ((m:Int)+1)=((m+1:Nat):Int):=by rw[A7];rfl
   have A:a.countP (λp=>decide (p<m+1))<=a.length:=z7;simp only[M,N];exact Z (m+1) d { r with delta:=r.delta+1 } (by simp only;omega) (by simp only;omega) (by omega) (by simp only;omega) q2 (by simp only;omega) (by omega) R k0
  ·rw[A5];rw[Q2,if_neg o];rfl
theorem Ax1(z t:Bool)(P:List Int)(C:P.length<=256):∀(r i n:Nat) (out:By),i+r=P.length->r<n->out.length+r<=1000->
  ((P.drop i).all ptI=true->∀(R:Type) (a:LL->Option R) (b:Bool->Bool->LL->LL->Option R),T8 LF n z t (Ah P) (i:Int) (out.map D7) a b=b z t (Ah P) ((out++U8 (P.drop i)).map D7))/\
  ((P.drop i).all ptI=false->∃l,∀(R:Type) (a:LL->Option R) (b:Bool->Bool->LL->LL->Option R),T8 LF n z t (Ah P) (i:Int) (out.map D7) a b=a l):=by
 intro r
 induction r with
 | zero=>
  intro i n out w y A;obtain⟨n,rfl⟩:∃m,n=m+1:=⟨n-1,by omega⟩
  rw[j1 (by omega)];refine⟨λ_ R a b=>?_,λh=>(by cases h)⟩;rw[T8];rw[U0,A5];simp[U8]
 | succ r v=>
  intro i n out w y A;obtain⟨n,rfl⟩:∃m,n=m+1:=⟨n-1,by omega⟩
  have o:=Ap5 P i (by omega);have ok:=TP (l:=P) (i:=i) (by omega);have f:inR (i:Int) (Ah P).length=true:=J6 (by omega) (by rw[U0];omega);have g:ltI (i:Int) ((Ah P).length:Int)=true:=B5 (by rw[U0];omega);rw[XP P i (by omega)];generalize P.getD i 0=x at *;have u:A1 ((i:Int)+1)=((i+1:Nat):Int):=by rw[A7];rfl
  cases j:ptI x with
  | false=>
   refine⟨λh=>?_,λ_=>⟨out.map D7,λR a b=>?_⟩⟩
   ·rw[aa4,j] at h;cases h
   ·rw[T8];rw[b8];simp only[f,g,ok,cond_true,vl,o,j,j0]
  | true=>
   obtain⟨B,D⟩:=Sv j;rw[aa4,j,x8];by_cases c:x<128
   ·have d:U8 (x::P.drop (i+1))=y8 x.toNat::U8 (P.drop (i+1)):=by
     unfold U8;rw[List.filter_cons_of_pos (by simpa using c)];rfl
    have k:out.map D7++[[SV.int .u8 (wu8 x)]]=(out++[y8 x.toNat]).map D7:=by rw[Ce7 x B c];simp
    obtain⟨p,q⟩:=v (i+1) n (out++[y8 x.toNat]) (by omega) (by omega) (by simp;omega);have step:∀(R:Type) (a:LL->Option R) (b:Bool->Bool->LL->LL->Option R),T8 LF (n+1) z t (Ah P) (i:Int) (out.map D7) a b=T8 LF n z t (Ah P) ((i+1:Nat):Int) ((out++[y8 x.toNat]).map D7) a b:=by
     intro R a b;rw[T8];rw[b8];simp only[f,g,ok,cond_true,vl,o,j,c9,cond_false,u];rw[B5 c,p5,F0 (by omega),k];rfl
    refine⟨λh R a b=>?_,λh=>?_⟩
    ·rw[step,p h,d];simp
    ·obtain⟨l,e⟩:=q h;exact⟨l,λR a b=>by rw[step];exact e R a b⟩
   ·have d:U8 (x::P.drop (i+1))=U8 (P.drop (i+1)):=by
     unfold U8;rw[List.filter_cons_of_neg (by simpa using c)]
    obtain⟨p,q⟩:=v (i+1) n out (by omega) (by omega) (by omega);have step:∀(R:Type) (a:LL->Option R) (b:Bool->Bool->LL->LL->Option R),T8 LF (n+1) z t (Ah P) (i:Int) (out.map D7) a b=T8 LF n z t (Ah P) ((i+1:Nat):Int) (out.map D7) a b:=by
     intro R a b;rw[T8];rw[b8];simp only[f,g,ok,cond_true,vl,o,j,c9,cond_false,u];rw[A5];rfl
    refine⟨λh R a b=>?_,λh=>?_⟩
    ·rw[step,p h,d]
    ·obtain⟨l,e⟩:=q h;exact⟨l,λR a b=>by rw[step];exact e R a b⟩
theorem Ax2(z t:Bool)(P:List Int):(V0 P=([],3)/\∀(R:Type) (b:Unit->Option R) (f:By->Int->LL->Option R),ZQ LF z t (Ah P) b f=b ())\/
  (∃l,∀(R:Type) (b:Unit->Option R) (f:By->Int->LL->Option R),ZQ LF z t (Ah P) b f=f (V0 P).1 ((V0 P).2:Nat) l):=by
 have x:=C1;by_cases i:256<P.length
 ·refine .inl ⟨by unfold V0;rw[if_pos i],λR b f=>?_⟩;unfold ZQ;rw[U0,A8];rfl
 ·right
  obtain⟨v,w⟩:=Ax1 z t P (by omega) P.length 0 LF [] (by omega) (by omega) (by simp;omega);rw[k9] at v w;cases g:P.all ptI with
  | false=>
   obtain⟨l,e⟩:=w g;refine⟨l,λR b f=>?_⟩;unfold ZQ;rw[U0,A5,cond_false];refine a8 (e R _ _) ?_;unfold V0;rw[if_neg i,g];rfl
  | true=>
   obtain⟨a,rfl,A,m⟩:=Bf1 g;rw[p5] at i;have k:V0 (a.map λn:Nat=>(n:Int))=Ch a:=by
    unfold V0;rw[p5,if_neg i,g];simp[Function.comp_def]
   have j:=Rx a;have y:a.countP (λp=>decide (p<128))<=a.length:=z7;have main:∀(o:By),o.length<=300->∀(R:Type) (b:LL->Option R),Er LF LF z t (B3 a) ((I3 a).length:Int) ((I3 a).length:Int) 128 0 72 (o.map D7) b=b ((Q2 a (I3 a).length 256 128 { delta:=0,bias:=72,done:=(I3 a).length,out:=o }).out.map D7):=by
    intro o B R b;exact B90 z t a (I3 a).length (by omega) (by omega) m 256 128 LF { delta:=0,bias:=72,done:=(I3 a).length,out:=o } j (by simp only;omega) (by omega) (by simp) (by simp) (by simp only;omega) (by omega) R b
   have d:Ch a=((Q2 a (I3 a).length 256 128 { delta:=0,bias:=72,done:=(I3 a).length,out:=if (I3 a).isEmpty then [] else I3 a++[45] }).out,0):=by
    unfold Ch;grind
   refine⟨(Ch a).1.map D7,λR b f=>?_⟩;unfold ZQ;rw[U0,p5,A5,cond_false,k];have r:=v g R;refine a8 (r _ _) ?_;rw[x6,FW,Pu];simp only[vl,p5];by_cases c:I3 a=[]
   ·rw[c,x5,A5,cond_false];have q:=main [] (by simp) R;rw[c,x5] at q;rw[List.map_nil] at q;refine a8 (q _) ?_;rw[c] at d;rw[d];simp only[List.isEmpty_nil,if_true,x5];rw[V9,W8];rfl
   ·have u:0<(I3 a).length:=x7.2 c;rw[A8,cond_true,F0 (by omega),cond_true];have h:(I3 a).map D7++[[SV.int .u8 (45:Int)]]=(I3 a++[45]).map D7:=by rw[aa6];rfl
    rw[h];refine a8 (main (I3 a++[45]) (by simp;omega) R _) ?_;rw[d,if_neg (by simpa using c)];rw[V9,W8];rfl
theorem Ct5(z t:Bool)(p:LL)(b:p.all Mq=true):∃r H,ZQ LF z t p (λ_=>rv (.tup [.s (.str []),.s (.int .i64 3)]) []) (λd e l=>rv (.tup [.s (.str d),.s (.int .i64 e)]) [.arr true 5 1 l])=rv r H/\
  r.stab [0,0] H = .tup [.s (.str (V0 (p.map elI)).1),.s (.int .i64 ((V0 (p.map elI)).2:Nat))]:=by
 obtain⟨P,rfl⟩:=Bc9 b;rw[XQ];rcases Ax2 z t P with⟨c,a⟩|⟨l,a⟩
 ·exact⟨_,_,a _ _ _,by rw[c];rfl⟩
 ·exact⟨_,_,a _ _ _,rfl⟩
theorem A11{R:Type}{k0:Unit->Option R}{k1:By->Int->Option R}(s:By)(k:s.length<=1000000):∀(r i n cut:Nat),i+r=s.length->r<n->
  Dn LF n s (cut:Int) (i:Int) k0 k1=if (s.drop i).any (λb=>v8 128 b.toNat) then k0 () else k1 s ((if 45∈s.drop i then i+G5 (s.drop i) else cut:Nat):Int):=by
 intro r
 induction r with
 | zero=>
  intro i n cut g j;obtain⟨n,rfl⟩:∃m,n=m+1:=⟨n-1,by omega⟩
  rw[Dn];rw[A5,j1 (by omega)];rfl
 | succ r d=>
  intro i n cut g j;obtain⟨n,rfl⟩:∃m,n=m+1:=⟨n-1,by omega⟩
  rw[Dn];have e:A1 ((i:Int)+1)=((i+1:Nat):Int):=by rw[A7];rfl
  rw[A8,E5,C9,D2 s i (by omega),e,ab5];simp only[cond_true];generalize s.getD i 0=b;by_cases h:128<=b.toNat
  ·rw[A5,Nat.ble_eq_true_of_le h];rfl
  ·have:v8 128 b.toNat=false:=by rw[j9,ne_eq,p4];exact h
   rw[A8,this,ac8,c9,cond_false];have f:((b.toNat:Int)==45)=(b==45):=P8 b 45 (by omega);rw[f];by_cases a:b=45
   ·subst a;rw[show((45:UInt8)==45)=true from rfl,cond_true];refine(d (i+1) n i (by omega) (by omega)).trans ?_;have c:(45:UInt8)∈45::s.drop (i+1):=by simp
    rw[if_pos c];have:(if (45:UInt8)∈s.drop (i+1) then i+1+G5 (s.drop (i+1)) else i)=i+G5 (45::s.drop (i+1)):=by
     rw[G5];grind
    rw[this]
   ·rw[show(b==45)=false from beq_eq_false_iff_ne.2 a,cond_false];refine(d (i+1) n cut (by omega) (by omega)).trans ?_;have c:((45:UInt8)∈b::s.drop (i+1))↔((45:UInt8)∈s.drop (i+1)):=by simp[Ne.symm a]
    have:(if (45:UInt8)∈s.drop (i+1) then i+1+G5 (s.drop (i+1)) else cut)=(if (45:UInt8)∈b::s.drop (i+1) then i+G5 (b::s.drop (i+1)) else cut):=by
     by_cases q:(45:UInt8)∈s.drop (i+1)
     ·rw[if_pos q,if_pos (c.2 q),G5,if_pos q];omega
     grind
    rw[this]
theorem A06{R:Type}{k0:By->Int->LL->Option R}(s:By)(q:s.length<=1000000)(k:Nat)(p:k<=s.length):∀(r i n:Nat) (l:List Nat),i+r=k->r<n->l.length=i->
  Gn LF n s (k:Int) (i:Int) (B3 l) k0=k0 s (k:Int) (B3 (l++((s.take k).drop i).map (·.toNat))):=by
 intro r
 induction r with
 | zero=>
  intro i n l f h g;obtain⟨n,rfl⟩:∃m,n=m+1:=⟨n-1,by omega⟩
  rw[Gn];rw[A5,j1 (by rw[p6];omega)];simp
 | succ r j=>
  intro i n l f h g;obtain⟨n,rfl⟩:∃m,n=m+1:=⟨n-1,by omega⟩
  rw[Gn];have c:A1 ((i:Int)+1)=((i+1:Nat):Int):=by rw[A7];rfl
  have e:(s.take k).drop i=s.getD i 0::(s.take k).drop (i+1):=by
   rw[D2 (s.take k) i (by rw[p6];omega)]
   congr 1
   rw[j4,j4,List.getElem?_take_of_lt (by omega)]
  rw[A8,E5,C9,e,D1,F0 (by omega),c];simp only[cond_true];generalize s.getD i 0=b;have o:=b.toNat_lt;have d:A1 (b.toNat:Int)=(b.toNat:Int):=A7;have a:B3 l++[[SV.int .i64 (A1 (b.toNat:Int))]]=B3 (l++[b.toNat]):=by rw[d,Jr];rfl
  rw[a];refine(j (i+1) n _ (by omega) (by omega) (by simp;omega)).trans ?_;simp
theorem A09(s:By)(hs:s.length<=1000000)(out:LL)(f b e:Int)(l:LL)(P:0<=b)(Q:b<1000000):∀(r p n k:Nat) (i w:Int),p+r=s.length->r<n->0<=i->i<=1099511627776->0<=w->w<=1099511627776->k+r<=10000000->
  ((S8 b (s.drop p) i w ((36*k:Nat):Int)).1=0->∃o,p<o/\o<=s.length/\(S8 b (s.drop p) i w ((36*k:Nat):Int)).2.1=s.drop o/\∀(R:Type) (a:Int->LL->Option R) (d:By->LL->Int->Int->Int->Int->LL->Option R),U3 LF n s out (p:Int) f i b e w (k:Int) l a d=d s out (o:Int) f (S8 b (s.drop p) i w ((36*k:Nat):Int)).2.2 e l)/\
  ((S8 b (s.drop p) i w ((36*k:Nat):Int)).1≠0->∀(R:Type) (a:Int->LL->Option R) (d:By->LL->Int->Int->Int->Int->LL->Option R),U3 LF n s out (p:Int) f i b e w (k:Int) l a d=a (S8 b (s.drop p) i w ((36*k:Nat):Int)).1 l):=by
 intro r
 induction r with
 | zero=>
  intro p n k i w X W U D G g V;obtain⟨n,rfl⟩:∃m,n=m+1:=⟨n-1,by omega⟩
  rw[j1 (by omega)];refine⟨λh=>by simp[S8] at h,λ_ R a d=>?_⟩;rw[U3];rw[A5];rfl
 | succ r Z=>
  intro p n k i w X W U D G g V;obtain⟨n,rfl⟩:∃m,n=m+1:=⟨n-1,by omega⟩
  have S:=D2 s p (by omega);have C:=C9 s p;rw[S];generalize s.getD p 0=c at *;have Y:=Ey c;have ht:=Mc ((36*k:Nat):Int) b;have e0:ab2 36 (k:Int)=((36*k:Nat):Int):=rfl;have J:A1 ((p:Int)+1)=((p+1:Nat):Int):=by rw[A7];rfl
  have K:A1 ((k:Int)+1)=((k+1:Nat):Int):=by rw[A7];rfl
  have start:∀(R:Type) (a:Int->LL->Option R) (d:By->LL->Int->Int->Int->Int->LL->Option R),U3 LF (n+1) s out (p:Int) f i b e w (k:Int) l a d =
    cond (ltI (D8 c) 0) (a 4 l)
     (vl (A1 (i+(A1 (D8 c*w)))) λj=>cond (ltI 1099511627776 j) (a 19 l)
      (cond (ltI (D8 c) (K5 ((36*k:Nat):Int) b)) (d s out ((p+1:Nat):Int) f j e l)
       (vl (A1 (36-(K5 ((36*k:Nat):Int) b))) λq=>cond (ltI 1099511627776 (A1 (w*q))) (a 19 l) (U3 LF n s out ((p+1:Nat):Int) f j b e (A1 (w*q)) ((k+1:Nat):Int) l a d)))):=by
   intro R a d;rw[U3];have T:=c.toNat_lt;rw[A8,E5,C,E5,Ib,L1,L1,e0,J,K];rfl
  unfold S8;by_cases y:D8 c<0
  ·rw[if_pos y];refine⟨λh=>by simp at h,λ_ R a d=>?_⟩;rw[start,B5 y];rfl
  ·rw[if_neg y];have hm:=Co (by omega) Y.2 G g;have u:A1 (D8 c*w)=D8 c*w:=A7;have v:A1 (i+D8 c*w)=i+D8 c*w:=A7;by_cases z:1099511627776<i+D8 c*w
   ·rw[if_pos z];refine⟨λh=>by simp at h,λ_ R a d=>?_⟩;rw[start,A5,u,v];simp only[vl,cond_false];rw[B5 z];rfl
   ·rw[if_neg z];by_cases A:D8 c<K5 ((36*k:Nat):Int) b
    ·rw[if_pos A];refine⟨λ_=>⟨p+1,by omega,by omega,rfl,λR a d=>?_⟩,λh=>absurd rfl h⟩;rw[start,A5,u,v];simp only[vl,cond_false];rw[A5,B5 A];rfl
    ·rw[if_neg A];have H:A1 (36-K5 ((36*k:Nat):Int) b)=36-K5 ((36*k:Nat):Int) b:=A7;have F:=Co (x:=36-K5 ((36*k:Nat):Int) b) (by omega) (by omega) G g;rw[af5] at F;have I:A1 (w*(36-K5 ((36*k:Nat):Int) b))=w*(36-K5 ((36*k:Nat):Int) b):=A7;by_cases B:1099511627776<w*(36-K5 ((36*k:Nat):Int) b)
     ·rw[if_pos B];refine⟨λh=>by simp at h,λ_ R a d=>?_⟩;rw[start,A5,u,v];simp only[vl,cond_false];rw[A5,A5,H,I,B5 B];rfl
     ·rw[if_neg B];have L:((36*k:Nat):Int)+36=((36*(k+1):Nat):Int):=by omega
      rw[L];obtain⟨q1,q2⟩:=Z (p+1) n (k+1) (i+D8 c*w) (w*(36-K5 ((36*k:Nat):Int) b)) (by omega) (by omega) (by omega) (by omega) (by omega) (by omega) (by omega);have t:∀(R:Type) (a:Int->LL->Option R) (d:By->LL->Int->Int->Int->Int->LL->Option R),U3 LF (n+1) s out (p:Int) f i b e w (k:Int) l a d=U3 LF n s out ((p+1:Nat):Int) f (i+D8 c*w) b e (w*(36-K5 ((36*k:Nat):Int) b)) ((k+1:Nat):Int) l a d:=by simp_all
      refine⟨λh=>?_,λh R a d=>by rw[t];exact q2 h R a d⟩;obtain⟨o,g1,M,N,O⟩:=q1 h;exact⟨o,by omega,M,N,λR a d=>by rw[t];exact O R a d⟩
theorem A10(s:By)(Z:s.length<=1000000)(l:LL):∀(r p n k:Nat) (i w:Int),p+r=s.length->r<n->0<=i->i<=1099511627776->0<=w->w<=1099511627776->k+r<=10000000->
  ((S8 72 (s.drop p) i w ((36*k:Nat):Int)).1=0->∃f,p<f/\f<=s.length/\(S8 72 (s.drop p) i w ((36*k:Nat):Int)).2.1=s.drop f/\∀(R:Type) (a:Int->LL->Option R) (b:By->Int->Int->LL->Option R),U4 LF n s (p:Int) i w (k:Int) l a b=b s (f:Int) (S8 72 (s.drop p) i w ((36*k:Nat):Int)).2.2 l)/\
  ((S8 72 (s.drop p) i w ((36*k:Nat):Int)).1≠0->∀(R:Type) (a:Int->LL->Option R) (b:By->Int->Int->LL->Option R),U4 LF n s (p:Int) i w (k:Int) l a b=a (S8 72 (s.drop p) i w ((36*k:Nat):Int)).1 l):=by
 intro r
 induction r with
 | zero=>
  intro p n k i w S Q O A C d P;obtain⟨n,rfl⟩:∃m,n=m+1:=⟨n-1,by omega⟩
  rw[j1 (by omega)];refine⟨λh=>by simp[S8] at h,λ_ R a b=>?_⟩;rw[U4];rw[A5];rfl
 | succ r U=>
  intro p n k i w S Q O A C d P;obtain⟨n,rfl⟩:∃m,n=m+1:=⟨n-1,by omega⟩
  have M:=D2 s p (by omega);have z:=C9 s p;rw[M];generalize s.getD p 0=c at *;have T:=Ey c;have ht:=Mc ((36*k:Nat):Int) 72;have e0:ab2 36 (k:Int)=((36*k:Nat):Int):=rfl;have G:A1 ((p:Int)+1)=((p+1:Nat):Int):=by rw[A7];rfl
  have H:A1 ((k:Int)+1)=((k+1:Nat):Int):=by rw[A7];rfl
  have start:∀(R:Type) (a:Int->LL->Option R) (b:By->Int->Int->LL->Option R),U4 LF (n+1) s (p:Int) i w (k:Int) l a b =
    cond (ltI (D8 c) 0) (a 4 l)
     (vl (A1 (i+(A1 (D8 c*w)))) λe=>cond (ltI 1099511627776 e) (a 19 l)
      (cond (ltI (D8 c) (K5 ((36*k:Nat):Int) 72)) (b s ((p+1:Nat):Int) e l)
       (vl (A1 (36-(K5 ((36*k:Nat):Int) 72))) λg=>cond (ltI 1099511627776 (A1 (w*g))) (a 19 l) (U4 LF n s ((p+1:Nat):Int) e (A1 (w*g)) ((k+1:Nat):Int) l a b)))):=by
   intro R a b;rw[U4];have N:=c.toNat_lt;rw[A8,E5,z,E5,Ib,L1,L1,e0,G,H];rfl
  unfold S8;by_cases t:D8 c<0
  ·rw[if_pos t];refine⟨λh=>by simp at h,λ_ R a b=>?_⟩;rw[start,B5 t];rfl
  ·rw[if_neg t];have Y:=Co (by omega) T.2 C d;have o:A1 (D8 c*w)=D8 c*w:=A7;have q:A1 (i+D8 c*w)=i+D8 c*w:=A7;by_cases u:1099511627776<i+D8 c*w
   ·rw[if_pos u];refine⟨λh=>by simp at h,λ_ R a b=>?_⟩;rw[start,A5,o,q];simp only[vl,cond_false];rw[B5 u];rfl
   ·rw[if_neg u];by_cases v:D8 c<K5 ((36*k:Nat):Int) 72
    ·rw[if_pos v];refine⟨λ_=>⟨p+1,by omega,by omega,rfl,λR a b=>?_⟩,λh=>absurd rfl h⟩;rw[start,A5,o,q];simp only[vl,cond_false];rw[A5,B5 v];rfl
    ·rw[if_neg v];have D:A1 (36-K5 ((36*k:Nat):Int) 72)=36-K5 ((36*k:Nat):Int) 72:=A7;have B:=Co (x:=36-K5 ((36*k:Nat):Int) 72) (by omega) (by omega) C d;rw[af5] at B;have F:A1 (w*(36-K5 ((36*k:Nat):Int) 72))=w*(36-K5 ((36*k:Nat):Int) 72):=A7;by_cases y:1099511627776<w*(36-K5 ((36*k:Nat):Int) 72)
     ·rw[if_pos y];refine⟨λh=>by simp at h,λ_ R a b=>?_⟩;rw[start,A5,o,q];simp only[vl,cond_false];rw[A5,A5,D,F,B5 y];rfl
     ·rw[if_neg y];have I:((36*k:Nat):Int)+36=((36*(k+1):Nat):Int):=by omega
      rw[I];obtain⟨V,W⟩:=U (p+1) n (k+1) (i+D8 c*w) (w*(36-K5 ((36*k:Nat):Int) 72)) (by omega) (by omega) (by omega) (by omega) (by omega) (by omega) (by omega);have j:∀(R:Type) (a:Int->LL->Option R) (b:By->Int->Int->LL->Option R),U4 LF (n+1) s (p:Int) i w (k:Int) l a b=U4 LF n s ((p+1:Nat):Int) (i+D8 c*w) (w*(36-K5 ((36*k:Nat):Int) 72)) ((k+1:Nat):Int) l a b:=by simp_all
      refine⟨λh=>?_,λh R a b=>by rw[j];exact W h R a b⟩;obtain⟨f,X,J,K,L⟩:=V h;exact⟨f,by omega,J,K,λR a b=>by rw[j];exact L R a b⟩
theorem MP(l:List Nat)(k:Nat):(B3 l).take k=B3 (l.take k):=by unfold B3;rw[List.map_take]
theorem MO(l:List Nat)(k:Nat):(B3 l).drop k=B3 (l.drop k):=by unfold B3;rw[List.map_drop]
theorem A08(s:By)(hs:s.length<=1000000)(l:LL):∀(r p f:Nat) (a:List Nat) (n i b:Nat),p+r=s.length->r<f->a.length<=256->n<=1114111->i<=1000->b<=500->
  ((G9 (s.drop p) a n i b false).2=0->∀(R:Type) (c:Int->LL->Option R) (d e:LL->LL->Option R),O2 LF f s (B3 a) (p:Int) (n:Int) (i:Int) (b:Int) l c d e=e (B3 (G9 (s.drop p) a n i b false).1) l)/\
  ((G9 (s.drop p) a n i b false).2≠0->(G9 (s.drop p) a n i b false).1=[]/\((∀(R:Type) (c:Int->LL->Option R) (d e:LL->LL->Option R),O2 LF f s (B3 a) (p:Int) (n:Int) (i:Int) (b:Int) l c d e=c ((G9 (s.drop p) a n i b false).2:Nat) l)\/
   ((G9 (s.drop p) a n i b false).2=3/\∃D,∀(R:Type) (c:Int->LL->Option R) (d e:LL->LL->Option R),O2 LF f s (B3 a) (p:Int) (n:Int) (i:Int) (b:Int) l c d e=d l D))):=by
 have a0:=C1;intro r
 induction r using ac2 with
 | _ r ih=>
  intro p f a n i b hp hf h2 h3 h4 h5;obtain⟨f,rfl⟩:∃m,f=m+1:=⟨f-1,by omega⟩
  by_cases hr:r=0
  ·rw[j1 (by omega),Cf];refine⟨λ_ R c d e=>?_,λh=>absurd rfl h⟩;rw[O2];rw[A5];rfl
  ·have q:s.drop p≠[]:=λh=>by
    have:=congrArg j6 h;rw[j7] at this;simp at this;omega
   obtain⟨z,H⟩:=A09 s hs (B3 a) (n:Int) (b:Int) (i:Int) l (by omega) (by omega) r p LF 0 (i:Int) 1 hp (by omega) (by omega) (by omega) (by omega) (by omega) (by omega);obtain⟨F,G⟩:=Uh b (s.drop p) i 1 0;have y:S8 (b:Int) (s.drop p) (i:Int) 1 ((36*0:Nat):Int)=S8 (b:Int) (s.drop p) (i:Int) ((1:Nat):Int) ((36*0:Nat):Int):=rfl;rw[y] at z H;by_cases o:(D6 b (s.drop p) i 1 0).2.2=0
   ·rw[Dh q a n i b false o];have T:=G o;have K:(S8 (b:Int) (s.drop p) (i:Int) ((1:Nat):Int) ((36*0:Nat):Int)).1=0:=by rw[F,o];rfl
    obtain⟨v,a1,a2,w,x⟩:=z K;obtain⟨L,O,_⟩:=Ug (b:Int) (s.drop p) (i:Int) ((1:Nat):Int) ((36*0:Nat):Int) (by omega) (by omega) (by omega) K;rw[T] at L O w x;simp only at L O w x;rw[w];generalize (D6 b (s.drop p) i 1 0).1=X at *;have el:A1 (((B3 a).length:Int)+1)=((a.length+1:Nat):Int):=by rw[D1,A7];rfl
    have U:A1 ((X:Int)-(i:Int))=((X-i:Nat):Int):=by rw[A7];omega
    have Z:w6 (X:Int) ((a.length+1:Nat):Int)=((X / (a.length+1):Nat):Int):=L2 _ _;have em:p9 (X:Int) ((a.length+1:Nat):Int)=((X % (a.length+1):Nat):Int):=Br _ _;have a5:X / (a.length+1)<=X:=x9 _ _;have J:=ae6 X (show 0<a.length+1 by omega);have A:=Nk (X-i) (a.length+1) false (by omega);generalize hQ:X / (a.length+1)=Q at *;generalize hM:X % (a.length+1)=M at *;have V:A1 (Q:Int)=(Q:Int):=A7;have W:A1 ((n:Int)+(Q:Int))=((n+Q:Nat):Int):=by rw[A7];rfl
    have Y:A1 ((M:Int)+1)=((M+1:Nat):Int):=by rw[A7];rfl
    have C:(((a.length+1:Nat):Int)!=0)=true:=by rw[bne_iff_ne];omega
    have P:cut (B3 a) 0 (M:Int)=B3 (a.take M):=by rw[J8,b8,MP]
    have S:cut (B3 a) (M:Int) ((B3 a).length:Int)=B3 (a.drop M):=by rw[P9,b8,MO]
    have t:∀N:Nat,B3 (a.take M)++[[SV.int .i64 (N:Int)]]++B3 (a.drop M)=B3 (U1 a M N):=λN=>by
     unfold U1;rw[Jr,v7];rfl
    have start:∀(R:Type) (c:Int->LL->Option R) (d e:LL->LL->Option R),O2 LF (f+1) s (B3 a) (p:Int) (n:Int) (i:Int) (b:Int) l c d e =
      cond (not (U2 (n+Q))) (c 2 l) (cond (ltI 256 ((a.length+1:Nat):Int)) (d l (B3 (U1 a M (n+Q))))
       (O2 LF f s (B3 (U1 a M (n+Q))) (v:Int) ((n+Q:Nat):Int) ((M+1:Nat):Int) ((P5 (X-i) (a.length+1) false:Nat):Int) l c d e)):=by
     intro R c d e;rw[O2];rw[A8,cond_true];refine(x R _ _).trans ?_;have s1:I2 (0:Int) (M:Int) (B3 a).length=true:=Z2 (by omega) (by omega) (by rw[D1];omega);have s2:I2 (M:Int) ((B3 a).length:Int) (B3 a).length=true:=Z2 (by omega) (by rw[D1];omega) (by omega);have t1:ltN ((X-i:Nat):Int) 1152921504606846976=true:=L1;have t2:ltN ((a.length+1:Nat):Int) 1000000=true:=L1;have t3:ltI 0 ((a.length+1:Nat):Int)=true:=A8;have l1:(B3 (a.take M)).length=M:=by rw[D1,p6];omega
     have l2:(B3 (a.drop M)).length=a.length-M:=by rw[D1,j7]
     have r1:F7 (0+(B3 (a.take M)).length)=true:=F0 (by omega);have r2:F7 ((B3 (a.take M)).length+1)=true:=F0 (by omega);have r3:F7 ((B3 (a.take M)++[[SV.int .i64 ((n+Q:Nat):Int)]]).length+(B3 (a.drop M)).length)=true:=F0 (by rw[j5,s7];omega);have l3:(B3 (U1 a M (n+Q))).length=a.length+1:=by rw[D1,Ar]
     simp only[vl,el,U,Z,em,V,W,Y,C,s1,s2,t1,t2,t3,P,S,r1,r2,r3,t,l3,cond_true,b8,Lk]
    cases g:U2 (n+Q) with
    | false=>
     rw[if_neg (by simp)];refine⟨λh=>by simp at h,λ_=>⟨rfl,.inl λR c d e=>?_⟩⟩;rw[start,g];rfl
    | true=>
     rw[if_pos rfl];by_cases I:256<a.length+1
     ·rw[if_pos I];refine⟨λh=>by simp at h,λ_=>⟨rfl,.inr ⟨rfl,B3 (U1 a M (n+Q)),λR c d e=>?_⟩⟩⟩;rw[start,g,A8];rfl
     ·rw[if_neg I];have B:n+Q<=1114111:=by
       unfold U2 at g;simp only[w9,p4] at g;exact g.1
      have k:∀(R:Type) (c:Int->LL->Option R) (d e:LL->LL->Option R),O2 LF (f+1) s (B3 a) (p:Int) (n:Int) (i:Int) (b:Int) l c d e=O2 LF f s (B3 (U1 a M (n+Q))) (v:Int) ((n+Q:Nat):Int) ((M+1:Nat):Int) ((P5 (X-i) (a.length+1) false:Nat):Int) l c d e:=by
       intro R c d e;rw[start,g,A5];rfl
      obtain⟨z1,z2⟩:=ih (s.length-v) (by omega) v f (U1 a M (n+Q)) (n+Q) (M+1) (P5 (X-i) (a.length+1) false) (by omega) (by omega) (by rw[Ar];omega) B (by omega) A;refine⟨λh R c d e=>by rw[k];exact z1 h R c d e,λh=>?_⟩;obtain⟨y1,u⟩:=z2 h;refine⟨y1,?_⟩;rcases u with u|⟨u,D,y3⟩
      ·exact .inl λR c d e=>by rw[k];exact u R c d e
      ·exact .inr ⟨u,D,λR c d e=>by rw[k];exact y3 R c d e⟩
   ·rw[Ga q a n i b false o];clear z G;refine⟨λh=>absurd h o,λ_=>⟨rfl,.inl λR c d e=>?_⟩⟩;rw[O2];rw[A8,cond_true];have j:=congrArg Prod.fst F;simp only at j;refine(H (by rw[j];omega) R _ _).trans ?_;rw[j]
theorem Bj1:∀(r:Nat) (s:By) (a:List Nat) (n i b:Nat) (f:Bool),s.length<=r->0<a.length->(G9 s a n i b f).2=0->(G9 s a n i b f).1≠[]:=by
 intro r
 induction r with
 | zero=>
  intro s a n i b f d l h;obtain rfl:=y7.1 (Nat.le_zero.1 d);rw[Cf];grind
 | succ r m=>
  intro s a n i b f d l h;by_cases e:s=[]
  ·grind
  ·by_cases c:(D6 b s i 1 0).2.2=0
   ·rw[Dh e a n i b f c] at h ⊢;split at h
    ·rename_i g;rw[if_pos g];split at h
     ·omega
     ·rename_i j;rw[if_neg j];have k:=Pn b s i 1 0 c;exact m _ _ _ _ _ _ (by omega) (by rw[Ar];omega) h
    omega
   ·rw[Ga e a n i b f c] at h;omega
theorem A07(s:By)(K:s.length<=1000000)(p:Nat)(a:List Nat)(h2:a.length<=256)(hp:p<=s.length) :
  (s.drop p=[]/\∀(R:Type) (b:Int->LL->Option R) (c d:LL->LL->Option R) (g:LL->Option R),K2 LF LF s (p:Int) (B3 a) b c d g=g (B3 a))\/
  ((G9 (s.drop p) a 128 0 72 true).2=0/\(G9 (s.drop p) a 128 0 72 true).1≠[]/\∀(R:Type) (b:Int->LL->Option R) (c d:LL->LL->Option R) (g:LL->Option R),K2 LF LF s (p:Int) (B3 a) b c d g=d (B3 (G9 (s.drop p) a 128 0 72 true).1) (B3 a))\/
  ((G9 (s.drop p) a 128 0 72 true).1=[]/\((∀(R:Type) (b:Int->LL->Option R) (c d:LL->LL->Option R) (g:LL->Option R),K2 LF LF s (p:Int) (B3 a) b c d g=b ((G9 (s.drop p) a 128 0 72 true).2:Nat) (B3 a))\/
   ((G9 (s.drop p) a 128 0 72 true).2=3/\∃F,∀(R:Type) (b:Int->LL->Option R) (c d:LL->LL->Option R) (g:LL->Option R),K2 LF LF s (p:Int) (B3 a) b c d g=c (B3 a) F))):=by
 have a0:=C1;obtain⟨f,B⟩:∃m,LF=m+1:=⟨LF-1,by omega⟩
 by_cases hr:s.length<=p
 ·refine .inl ⟨j1 hr,λR b c d g=>?_⟩;have e:K2 LF LF s (p:Int) (B3 a) b c d g=K2 LF (f+1) s (p:Int) (B3 a) b c d g:=by rw[<-B]
  rw[e,K2];rw[A5];rfl
 ·right
  have o:s.drop p≠[]:=λh=>by
   have:=congrArg j6 h;grind
  obtain⟨u,y⟩:=A10 s K (B3 a) (s.length-p) p LF 0 0 1 (by omega) (by omega) (by omega) (by omega) (by omega) (by omega) (by omega);obtain⟨G,x⟩:=Uh 72 (s.drop p) 0 1 0;have n:S8 72 (s.drop p) 0 1 ((36*0:Nat):Int)=S8 ((72:Nat):Int) (s.drop p) ((0:Nat):Int) ((1:Nat):Int) ((36*0:Nat):Int):=rfl;rw[n] at u y;by_cases A:(D6 72 (s.drop p) 0 1 0).2.2=0
  ·rw[Dh o a 128 0 72 true A];have H:=x A;have k:(S8 ((72:Nat):Int) (s.drop p) ((0:Nat):Int) ((1:Nat):Int) ((36*0:Nat):Int)).1=0:=by grind
   obtain⟨r,a1,a2,v,w⟩:=u k;obtain⟨L,O,_⟩:=Ug ((72:Nat):Int) (s.drop p) ((0:Nat):Int) ((1:Nat):Int) ((36*0:Nat):Int) (by omega) (by omega) (by omega) k;rw[H] at L O v w;simp only at L O v w;clear u y G x H k n;rw[v];generalize (D6 72 (s.drop p) 0 1 0).1=X at *;have Z:A1 (((B3 a).length:Int)+1)=((a.length+1:Nat):Int):=by rw[D1,A7];rfl
   have T:A1 ((X:Int)-0)=(X:Int):=by rw[A7];omega
   have Y:w6 (X:Int) ((a.length+1:Nat):Int)=((X / (a.length+1):Nat):Int):=L2 _ _;have em:p9 (X:Int) ((a.length+1:Nat):Int)=((X % (a.length+1):Nat):Int):=Br _ _;have a5:X / (a.length+1)<=X:=x9 _ _;have J:=ae6 X (show 0<a.length+1 by omega);have z:=Nk X (a.length+1) true (by omega);generalize hQ:X / (a.length+1)=Q at *;generalize hM:X % (a.length+1)=M at *;have U:A1 (Q:Int)=(Q:Int):=A7;have V:A1 ((128:Int)+(Q:Int))=((128+Q:Nat):Int):=by rw[A7];rfl
   have W:A1 ((M:Int)+1)=((M+1:Nat):Int):=by rw[A7];rfl
   have D:(((a.length+1:Nat):Int)!=0)=true:=by rw[bne_iff_ne];omega
   have P:aa1 (M-0) (aa8 0 (B3 a))=B3 (a.take M):=by rw[af7,k9,MP]
   have S:aa1 ((B3 a).length-M) (aa8 M (B3 a))=B3 (a.drop M):=by
    rw[List.take_of_length_le (by rw[j7];omega),MO]
   have q:∀N:Nat,B3 (a.take M)++[[SV.int .i64 (N:Int)]]++B3 (a.drop M)=B3 (U1 a M N):=λN=>by
    unfold U1;rw[Jr,v7];rfl
   have start:∀(R:Type) (b:Int->LL->Option R) (c d:LL->LL->Option R) (g:LL->Option R),K2 LF LF s (p:Int) (B3 a) b c d g =
     cond (not (U2 (128+Q))) (b 2 (B3 a)) (cond (ltI 256 ((a.length+1:Nat):Int)) (c (B3 a) (B3 (U1 a M (128+Q))))
      (O2 LF f s (B3 (U1 a M (128+Q))) (r:Int) ((128+Q:Nat):Int) ((M+1:Nat):Int) ((P5 X (a.length+1) true:Nat):Int) (B3 a) b c d)):=by
    intro R b c d g;have e:K2 LF LF s (p:Int) (B3 a) b c d g=K2 LF (f+1) s (p:Int) (B3 a) b c d g:=by rw[<-B]
    rw[e,K2];rw[A8,cond_true];refine(w R _ _).trans ?_;have s1:I2 (0:Int) (M:Int) (B3 a).length=true:=Z2 (by omega) (by omega) (by rw[D1];omega);have s2:I2 (M:Int) ((B3 a).length:Int) (B3 a).length=true:=Z2 (by omega) (by rw[D1];omega) (by omega);have t1:ltN (X:Int) 1152921504606846976=true:=L1;have t2:ltN ((a.length+1:Nat):Int) 1000000=true:=L1;have t3:ltI 0 ((a.length+1:Nat):Int)=true:=A8;have l1:(B3 (a.take M)).length=M:=by rw[D1,p6];omega
    have l2:(B3 (a.drop M)).length=a.length-M:=by rw[D1,j7]
    have r1:F7 (0+(B3 (a.take M)).length)=true:=F0 (by omega);have r2:F7 ((B3 (a.take M)).length+1)=true:=F0 (by omega);have r3:F7 ((B3 (a.take M)++[[SV.int .i64 ((128+Q:Nat):Int)]]).length+(B3 (a.drop M)).length)=true:=F0 (by rw[j5,s7];omega);have l3:(B3 (U1 a M (128+Q))).length=a.length+1:=by rw[D1,Ar]
    simp only[vl,Z,T,Y,em,U,V,W,D,s1,s2,t1,t2,t3,b8,P,S,r1,r2,r3,q,l3,cond_true,Lk]
   cases j:U2 (128+Q) with
   | false=>
    rw[if_neg (by simp)];refine .inr ⟨rfl,.inl λR b c d g=>?_⟩;rw[start,j];rfl
   | true=>
    rw[if_pos rfl];by_cases I:256<a.length+1
    ·rw[if_pos I];refine .inr ⟨rfl,.inr ⟨rfl,B3 (U1 a M (128+Q)),λR b c d g=>?_⟩⟩;rw[start,j,A8];rfl
    ·rw[if_neg I];have C:128+Q<=1114111:=by
      unfold U2 at j;simp_all
     have l:∀(R:Type) (b:Int->LL->Option R) (c d:LL->LL->Option R) (g:LL->Option R),K2 LF LF s (p:Int) (B3 a) b c d g=O2 LF f s (B3 (U1 a M (128+Q))) (r:Int) ((128+Q:Nat):Int) ((M+1:Nat):Int) ((P5 X (a.length+1) true:Nat):Int) (B3 a) b c d:=by
      intro R b c d g;rw[start,j,A5];rfl
     obtain⟨z1,z2⟩:=A08 s K (B3 a) (s.length-r) r f (U1 a M (128+Q)) (128+Q) (M+1) (P5 X (a.length+1) true) (by omega) (by omega) (by rw[Ar];omega) C (by omega) z;have hX:X-0=X:=af7 X;rw[hX];by_cases k:(G9 (s.drop r) (U1 a M (128+Q)) (128+Q) (M+1) (P5 X (a.length+1) true) false).2=0
     ·refine .inl ⟨k,?_,λR b c d g=>by rw[l];exact z1 k R b c d⟩;exact Bj1 _ _ _ _ _ _ _ (ab3 _) (by rw[Ar];omega) k
     ·obtain⟨y1,t⟩:=z2 k;refine .inr ⟨y1,?_⟩;rcases t with t|⟨t,F,y3⟩
      ·exact .inl λR b c d g=>by rw[l];exact t R b c d
      ·exact .inr ⟨t,F,λR b c d g=>by rw[l];exact y3 R b c d⟩
  ·rw[Ga o a 128 0 72 true A];clear u x;refine .inr ⟨rfl,.inl λR b c d g=>?_⟩;have e:K2 LF LF s (p:Int) (B3 a) b c d g=K2 LF (f+1) s (p:Int) (B3 a) b c d g:=by rw[<-B]
   rw[e,K2];rw[A8,cond_true];have i:=congrArg Prod.fst G;simp only at i;refine(y (by rw[i];omega) R _ _).trans ?_;rw[i]
theorem Cb1(s:By)(M:A3 s.length=true):∃r H,Bf9 LF s (λi f=>rv (.tup [.fl 0,.s (.int .i64 i)]) [.arr true 3 1 f]) (λi f=>rv (.tup [.fl 1,.s (.int .i64 i)]) [.arr true 3 1 f,.arr true 3 1 []]) (λx f=>rv (.tup [.fl 2,.s (.int .i64 (3:Int))]) [.arr true 3 1 x,.arr false 3 1 f,.arr true 3 1 []]) (λi f=>rv (.tup [.s (.sl false false 1 i),.s (.int .i64 (0:Int))]) [.arr true 3 1 f])=rv r H/\
  r.stab [1,0] H = .tup [.s (.sl (M9 s).1.isEmpty (M9 s).1.isEmpty 1 (Lg (M9 s).1)),.s (.int .i64 ((M9 s).2:Nat))]:=by
 have G:=C1;unfold Bf9 M9;by_cases z:1024<s.length
 ·rw[if_pos z,A8];exact⟨_,_,rfl,rfl⟩
 ·rw[if_neg z,A5,cond_false];have e:=λ(R:Type) (C:Unit->Option R) (D:By->Int->Option R)=>A11 (k0:=C) (k1:=D) s (by omega) s.length 0 LF 0 (by omega) (by omega)
  rw[k9] at e;cases y:s.any (λb=>v8 128 b.toNat) with
  | true=>
   rw[if_pos rfl];refine⟨.tup [.fl 0,.s (.int .i64 4)],[.arr true 3 1 []],(e _ _ _).trans ?_,rfl⟩;rw[y,if_pos rfl]
  | false=>
   rw[if_neg (by simp)];obtain⟨L,F⟩:=Oa s;have I:=Ob s;have q:(if (45:UInt8)∈s then 0+G5 s else 0)=G5 s:=by
    split
    ·omega
    ·rename_i h;exact(F h).2.symm
   rw[y,q] at e;have c:=λ(R:Type) (K:By->Int->LL->Option R)=>A06 (k0:=K) s (by omega) (G5 s) (by omega) (G5 s) 0 LF [] (by omega) (by omega) rfl
   rw[k9] at c;have g:((s.take (G5 s)).map (·.toNat)).length=G5 s:=by rw[p5,p6];omega
   generalize N:G5 s=m at *;generalize A:(s.take m).map (·.toNat)=d at *;by_cases k:256<m
   ·rw[if_pos k];refine⟨.tup [.fl 1,.s (.int .i64 3)],[.arr true 3 1 (B3 d),.arr true 3 1 []],(e _ _ _).trans ?_,rfl⟩;rw[if_neg (by simp)];refine(c _ _).trans ?_;rw[x6,D1,g,A8];rfl
   ·rw[if_neg k];have o:∀p:Nat,p<=s.length->∀(X:Option (PV × List Blk × Unit)),X=K2 LF LF s (p:Int) (B3 d) (λi f=>rv (.tup [.fl 1,.s (.int .i64 i)]) [.arr true 3 1 f,.arr true 3 1 []]) (λx f=>rv (.tup [.fl 2,.s (.int .i64 (3:Int))]) [.arr true 3 1 x,.arr false 3 1 f,.arr true 3 1 []]) (λi f=>rv (.tup [.s (.sl false false 1 i),.s (.int .i64 (0:Int))]) [.arr true 3 1 f]) (λl=>rv (.tup [.fl 0,.s (.int .i64 0)]) [.arr true 3 1 l])->
      ∃r H,X=rv r H/\r.stab [1,0] H = .tup [.s (.sl (G9 (s.drop p) d 128 0 72 true).1.isEmpty (G9 (s.drop p) d 128 0 72 true).1.isEmpty 1 (Lg (G9 (s.drop p) d 128 0 72 true).1)),.s (.int .i64 ((G9 (s.drop p) d 128 0 72 true).2:Nat))]:=by
     intro p J X t;rcases A07 s (by omega) p d (by omega) J with⟨j,n⟩|⟨j,u,n⟩|⟨j,n|⟨u,O,n⟩⟩
     ·refine⟨_,_,t.trans (n _ _ _ _ _),?_⟩;rw[j,Cf,Cp];simp[PV.stab,Nw,Qm,PV.snap,L5,Vi]
     ·refine⟨_,_,t.trans (n _ _ _ _ _),?_⟩;rw[j,Cp];have:(G9 (s.drop p) d 128 0 72 true).1.isEmpty=false:=by
       cases h:(G9 (s.drop p) d 128 0 72 true).1 with
       | nil=>exact absurd h u
       | cons a r=>rfl
      rw[this];rfl
     ·refine⟨_,_,t.trans (n _ _ _ _ _),?_⟩;rw[j];rfl
     ·refine⟨_,_,t.trans (n _ _ _ _ _),?_⟩;rw[j,u];rfl
    by_cases B:m=0
    ·subst B;rw[if_pos rfl];have:=o 0 (by omega) _ rfl;rw[k9] at this;obtain⟨r,H,v,w⟩:=this;refine⟨r,H,(e _ _ _).trans ?_,w⟩;rw[if_neg (by simp)];refine(c _ _).trans ?_;rw[x6,D1,g,A5,cond_false,A5,cond_false];exact v
    ·rw[if_neg B];obtain⟨r,H,v,w⟩:=o (m+1) (by omega) _ rfl;refine⟨r,H,(e _ _ _).trans ?_,w⟩;rw[if_neg (by simp)];refine(c _ _).trans ?_;have j:A1 ((m:Int)+1)=((m+1:Nat):Int):=by rw[A7];rfl
     rw[x6,D1,g,A5,cond_false,A8,cond_true,j];exact v
theorem Y0{R:Type}{d:LL->Option R}{e:By->Int->Int->Int->Int->LL->Option R}(s:By)(u:s.length<=1000000000)(n i m v c a:Nat)(l:LL)(q:a<m)(r:m<=4)(p:i+a<s.length)(w:v<=100000)(t:0<n) :
  Ev LF n s i m v c a l d e=if 128<=(s.getD (i+a) 0).toNat/\(s.getD (i+a) 0).toNat<=191 then Ev LF (n-1) s i m ((v*64+(s.getD (i+a) 0).toNat-128:Nat):Int) c ((a+1:Nat):Int) l d e else d l:=by
 have o:=(s.getD (i+a) 0).toNat_lt;obtain⟨n,rfl⟩:∃m,n=m+1:=⟨n-1,by omega⟩
 rw[Ev];have f:A1 ((i:Int)+a)=((i+a:Nat):Int):=by rw[A7];rfl
 have g:A1 ((a:Int)+1)=((a+1:Nat):Int):=by rw[A7];rfl
 rw[A8,f,g,E5,C9];generalize (s.getD (i+a) 0).toNat=b at *;simp only[cond_true,vl];rw[C5 (n:=(b:Int)) (by omega) (by omega),Nat.add_sub_cancel];by_cases j:b<128
 ·rw[A8,F9];rfl
 ·rw[A5,cond_false];by_cases k:191<b
  ·rw[A8,F9];rfl
  ·rw[A5,cond_false,S6];have h:A1 (A1 (A1 ((v:Int)*64)+(b:Int))-128)=((v*64+b-128:Nat):Int):=by
    rw[C5 (n:=(v:Int)*64) (by omega) (by omega),C5 (n:=(v:Int)*64+b) (by omega) (by omega),A7];omega
   rw[h]
theorem Oj{R:Type}{c:LL->Option R}{b:By->Int->Int->Int->Int->LL->Option R}(s:By)(n i m v a:Nat)(l:LL)(d:0<n) :
  Ev LF n s i m v a m l c b=b s i m v a l:=by
 obtain⟨n,rfl⟩:∃m,n=m+1:=⟨n-1,by omega⟩
 rw[Ev];rw[A5];rfl
theorem Qf{R:Type}{b:LL->Option R}{c:By->Int->LL->Option R}(s:By)(k:s.length<=1000000000)(i m v a:Nat)(P:List Nat)(e:P.length<=1000000000)(f:i+m<=s.length)(l:v<=10000000)(g:m<=4) :
  cond (ltI (v:Int) (a:Int)) (b (B3 P)) (cond (not (ptI v)) (b (B3 P)) (cond (F7 ((B3 P).length+1)) (c s (A1 ((i:Int)+m)) (B3 P++[[SV.int .i64 (v:Int)]])) none)) =
   if a<=v/\U2 v=true then c s ((i+m:Nat):Int) (B3 (P++[v])) else b (B3 P):=by
 have d:A1 ((i:Int)+m)=((i+m:Nat):Int):=by rw[A7];rfl
 rw[d,D1,F0 (by omega),Jr,show ptI (v:Int)=U2 v from rfl];by_cases h:v<a
 ·rw[A8,F9];rfl
 ·rw[A5,cond_false];cases j:U2 v with
  | false=>rw[if_neg (by simp)];rfl
  | true=>rw[if_pos ⟨by omega,rfl⟩];rfl
theorem Br5{R:Type}{d:LL->Option R}{f:By->Int->LL->Option R}(s:By)(e:s.length<=1000000000)(i v a:Nat)(P:List Nat)(k:P.length<=1000000000)(m:i<s.length)(n:v<=32) :
  De LF s i 2 v a (B3 P) d f=if 2<=s.length-i/\128<=(s.getD (i+1) 0).toNat/\(s.getD (i+1) 0).toNat<=191 then
   (if a<=v*64+(s.getD (i+1) 0).toNat-128/\U2 (v*64+(s.getD (i+1) 0).toNat-128)=true then f s ((i+2:Nat):Int) (B3 (P++[v*64+(s.getD (i+1) 0).toNat-128])) else d (B3 P)) else d (B3 P):=by
 have l:=(s.getD (i+1) 0).toNat_lt;have j:=C1;unfold De;have g:A1 ((s.length:Int)-i)=((s.length-i:Nat):Int):=by rw[A7];omega
 rw[g];simp only[vl];by_cases h:s.length-i<2
 ·rw[A8,F9];rfl
 ·rw[A5,cond_false];refine a8 (Y0 s e LF i 2 v a 1 (B3 P) (by omega) (by omega) (by omega) (by omega) (by omega)) ?_;generalize (s.getD (i+1) 0).toNat=b at *;by_cases c:128<=b/\b<=191
  ·rw[if_pos c,if_pos ⟨by omega,c⟩];refine a8 (Oj s (LF-1) i 2 _ a (B3 P) (by omega)) ?_;exact Qf s e i 2 _ a P k (by omega) (by omega) (by omega)
  ·rw[if_neg c,if_neg (λh=>c h.2)]
theorem Br6{R:Type}{e:LL->Option R}{f:By->Int->LL->Option R}(s:By)(d:s.length<=1000000000)(i v a:Nat)(P:List Nat)(k:P.length<=1000000000)(n:i<s.length)(o:v<=32) :
  De LF s i 3 v a (B3 P) e f=if 3<=s.length-i/\(128<=(s.getD (i+1) 0).toNat/\(s.getD (i+1) 0).toNat<=191)/\(128<=(s.getD (i+2) 0).toNat/\(s.getD (i+2) 0).toNat<=191) then
   (if a<=(v*64+(s.getD (i+1) 0).toNat-128)*64+(s.getD (i+2) 0).toNat-128/\U2 ((v*64+(s.getD (i+1) 0).toNat-128)*64+(s.getD (i+2) 0).toNat-128)=true then f s ((i+3:Nat):Int) (B3 (P++[(v*64+(s.getD (i+1) 0).toNat-128)*64+(s.getD (i+2) 0).toNat-128])) else e (B3 P)) else e (B3 P):=by
 have m:=(s.getD (i+1) 0).toNat_lt;have l:=(s.getD (i+2) 0).toNat_lt;have j:=C1;unfold De;have g:A1 ((s.length:Int)-i)=((s.length-i:Nat):Int):=by rw[A7];omega
 rw[g];simp only[vl];by_cases h:s.length-i<3
 ·rw[A8,F9];rfl
 ·rw[A5,cond_false];refine a8 (Y0 s d LF i 3 v a 1 (B3 P) (by omega) (by omega) (by omega) (by omega) (by omega)) ?_;by_cases b:128<=(s.getD (i+1) 0).toNat/\(s.getD (i+1) 0).toNat<=191
  ·rw[if_pos b];refine a8 (Y0 s d (LF-1) i 3 _ a 2 (B3 P) (by omega) (by omega) (by omega) (by omega) (by omega)) ?_;by_cases c:128<=(s.getD (i+2) 0).toNat/\(s.getD (i+2) 0).toNat<=191
   ·rw[if_pos c,if_pos ⟨by omega,b,c⟩];refine a8 (Oj s (LF-2) i 3 _ a (B3 P) (by omega)) ?_;exact Qf s d i 3 _ a P k (by omega) (by omega) (by omega)
   ·rw[if_neg c,if_neg (λh=>c h.2.2)]
  ·rw[if_neg b,if_neg (λh=>b h.2.1)]
theorem Br7{R:Type}{f:LL->Option R}{g:By->Int->LL->Option R}(s:By)(e:s.length<=1000000000)(i v a:Nat)(P:List Nat)(l:P.length<=1000000000)(p:i<s.length)(q:v<=20) :
  De LF s i 4 v a (B3 P) f g=if 4<=s.length-i/\(128<=(s.getD (i+1) 0).toNat/\(s.getD (i+1) 0).toNat<=191)/\(128<=(s.getD (i+2) 0).toNat/\(s.getD (i+2) 0).toNat<=191)/\(128<=(s.getD (i+3) 0).toNat/\(s.getD (i+3) 0).toNat<=191) then
   (if a<=((v*64+(s.getD (i+1) 0).toNat-128)*64+(s.getD (i+2) 0).toNat-128)*64+(s.getD (i+3) 0).toNat-128/\U2 (((v*64+(s.getD (i+1) 0).toNat-128)*64+(s.getD (i+2) 0).toNat-128)*64+(s.getD (i+3) 0).toNat-128)=true then g s ((i+4:Nat):Int) (B3 (P++[((v*64+(s.getD (i+1) 0).toNat-128)*64+(s.getD (i+2) 0).toNat-128)*64+(s.getD (i+3) 0).toNat-128])) else f (B3 P)) else f (B3 P):=by
 have o:=(s.getD (i+1) 0).toNat_lt;have m:=(s.getD (i+2) 0).toNat_lt;have n:=(s.getD (i+3) 0).toNat_lt;have k:=C1;unfold De;have j:A1 ((s.length:Int)-i)=((s.length-i:Nat):Int):=by rw[A7];omega
 rw[j];simp only[vl];by_cases h:s.length-i<4
 ·rw[A8,F9];rfl
 ·rw[A5,cond_false];refine a8 (Y0 s e LF i 4 v a 1 (B3 P) (by omega) (by omega) (by omega) (by omega) (by omega)) ?_;by_cases b:128<=(s.getD (i+1) 0).toNat/\(s.getD (i+1) 0).toNat<=191
  ·rw[if_pos b];refine a8 (Y0 s e (LF-1) i 4 _ a 2 (B3 P) (by omega) (by omega) (by omega) (by omega) (by omega)) ?_;by_cases c:128<=(s.getD (i+2) 0).toNat/\(s.getD (i+2) 0).toNat<=191
   ·rw[if_pos c];refine a8 (Y0 s e (LF-2) i 4 _ a 3 (B3 P) (by omega) (by omega) (by omega) (by omega) (by omega)) ?_;by_cases d:128<=(s.getD (i+3) 0).toNat/\(s.getD (i+3) 0).toNat<=191
    ·rw[if_pos d,if_pos ⟨by omega,b,c,d⟩];refine a8 (Oj s (LF-3) i 4 _ a (B3 P) (by omega)) ?_;exact Qf s e i 4 _ a P l (by omega) (by omega) (by omega)
    ·rw[if_neg d,if_neg (λh=>d h.2.2.2)]
   ·rw[if_neg c,if_neg (λh=>c h.2.2.1)]
  ·rw[if_neg b,if_neg (λh=>b h.2.1)]
theorem A23{R:Type}{a:By->Int->Int->LL->Option R}(n:Nat)(b:0<n)(s:By)(i v:Int)(l:LL):We LF n s i v l a=a s i v l:=by
 obtain⟨n,rfl⟩:∃m,n=m+1:=⟨n-1,by omega⟩
 rw[We]
theorem A17{R:Type}{a:LL->Option R}{b:By->Int->LL->Option R}(s:By)(e:s.length<=1000000000)(i v:Nat)(P:List Nat)(d:P.length<=1000000000)(f:i<s.length)(g:v<128) :
  Wd LF s i v (B3 P) a b=b s ((i+1:Nat):Int) (B3 (P++[v])):=by
 unfold Wd;have c:A1 ((s.length:Int)-i)=((s.length-i:Nat):Int):=by rw[A7];omega
 rw[c];simp only[vl];rw[A5,cond_false];refine a8 (show _=cond (ltI (v:Int) ((0:Nat):Int)) (a (B3 P)) (cond (not (ptI v)) (a (B3 P)) (cond (F7 ((B3 P).length+1)) (b s (A1 ((i:Int)+(1:Nat))) (B3 P++[[SV.int .i64 (v:Int)]])) none)) from A23 LF (by have:=C1;omega) _ _ _ _) ?_;rw[Qf s e i 1 v 0 P d (by omega) (by omega) (by omega),if_pos];refine⟨ae1 _,?_⟩;simp only[U2,w9,ac0,p4,ad1];omega
theorem B51{v:Nat}(h:v<2048):U2 v=true:=by simp only[U2,w9,ac0,p4,ad1];omega
theorem A26{R:Type}{k0 k1:LL->Option R}(s:By)(h:s.length<=1000000000)(n i:Nat)(P:List Nat)(d:P.length<=1000000000)(f:i<s.length) :
  Y1 LF (n+1) s i (B3 P) k0 k1=if (s9 (s.drop i)).1=65533/\(s9 (s.drop i)).2=1 then k0 (B3 P) else Y1 LF n s ((i+(s9 (s.drop i)).2:Nat):Int) (B3 (P++[(s9 (s.drop i)).1])) k0 k1:=by
 have g:∀k,(s.drop i).getD k 0=s.getD (i+k) 0:=λk=>by grind
 have r:s9 (s.drop i)=y5 (s.length-i) (s.getD i 0).toNat (s.getD (i+1) 0).toNat (s.getD (i+2) 0).toNat (s.getD (i+3) 0).toNat:=by
  rw[Lib.decodeL_N,g,g,g,g,j7];rfl
 have v:=(s.getD i 0).toNat_lt;have j:=(s.getD (i+1) 0).toNat_lt;have m:=(s.getD (i+2) 0).toNat_lt;have t:=(s.getD (i+3) 0).toNat_lt;rw[r];rw[Y1,A8,E5,C9,C5 (n:=((s.getD i 0).toNat:Int)) (by omega) (by omega)];simp only[cond_true];generalize (s.getD i 0).toNat=b at *;by_cases l:b<128
 ·rw[A8,cond_true];have e:y5 (s.length-i) b (s.getD (i+1) 0).toNat (s.getD (i+2) 0).toNat (s.getD (i+3) 0).toNat=(b,1):=by unfold y5;rw[if_pos l]
  rw[e];simp only;rw[F9];exact A17 s h i b P d f l
 ·rw[E3 (show(128:Int)<=b by omega),cond_false];by_cases u:b<194
  ·rw[B5 (show(b:Int)<194 by omega)];have e:y5 (s.length-i) b (s.getD (i+1) 0).toNat (s.getD (i+2) 0).toNat (s.getD (i+3) 0).toNat=(65533,1):=by
    unfold y5;grind
   rw[e,if_pos ⟨rfl,rfl⟩];simp only[c9,cond_false];unfold Lr;unfold Lq;rw[cond_false,B5 (show(b:Int)<224 by omega),B5 (show(b:Int)<240 by omega)];rfl
  ·rw[E3 (show(194:Int)<=b by omega)];simp only[j0,cond_true];by_cases o:b<224
   ·rw[B5 (show(b:Int)<224 by omega)];unfold Lr;have c:A1 ((b:Int)-192)=((b-192:Nat):Int):=by rw[A7];omega
    rw[cond_true,c,Df6 _ _ _ _ _ ⟨by omega,o⟩ j];simp only[vl];refine a8 (Br5 s h i (b-192) 128 P d f (by omega)) ?_;by_cases a:2<=s.length-i/\128<=(s.getD (i+1) 0).toNat/\(s.getD (i+1) 0).toNat<=191
    ·rw[if_pos a,if_pos a];simp only;rw[if_pos ⟨by omega,B51 (by omega)⟩,F9]
    ·rw[if_neg a,if_neg a,if_pos ⟨rfl,rfl⟩]
   ·rw[E3 (show(224:Int)<=b by omega)];unfold Lr;rw[cond_false,E3 (show(224:Int)<=b by omega)];simp only[j0,cond_true];by_cases p:b<240
    ·rw[B5 (show(b:Int)<240 by omega)];unfold Lq;have c:A1 ((b:Int)-224)=((b-224:Nat):Int):=by rw[A7];omega
     rw[cond_true,c,Df7 _ _ _ _ _ ⟨by omega,p⟩ j m];simp only[vl];refine a8 (Br6 s h i (b-224) 2048 P d f (by omega)) ?_;by_cases a:3<=s.length-i/\(128<=(s.getD (i+1) 0).toNat/\(s.getD (i+1) 0).toNat<=191)/\(128<=(s.getD (i+2) 0).toNat/\(s.getD (i+2) 0).toNat<=191)
     ·rw[if_pos a,if_pos a];split
      ·simp only;rw[F9]
      ·rw[if_pos ⟨rfl,rfl⟩]
     ·rw[if_neg a,if_neg a,if_pos ⟨rfl,rfl⟩]
    ·rw[E3 (show(240:Int)<=b by omega)];unfold Lq;rw[cond_false,E3 (show(240:Int)<=b by omega)];simp only[j0,cond_true];by_cases q:b<245
     ·rw[B5 (show(b:Int)<245 by omega),cond_true];have c:A1 ((b:Int)-240)=((b-240:Nat):Int):=by rw[A7];omega
      rw[c,Df8 _ _ _ _ _ ⟨by omega,q⟩ j m t];simp only[vl];refine a8 (Br7 s h i (b-240) 65536 P d f (by omega)) ?_;by_cases a:4<=s.length-i/\(128<=(s.getD (i+1) 0).toNat/\(s.getD (i+1) 0).toNat<=191)/\(128<=(s.getD (i+2) 0).toNat/\(s.getD (i+2) 0).toNat<=191)/\(128<=(s.getD (i+3) 0).toNat/\(s.getD (i+3) 0).toNat<=191)
      ·rw[if_pos a,if_pos a];split
       ·simp only;rw[F9]
       ·rw[if_pos ⟨rfl,rfl⟩]
      ·rw[if_neg a,if_neg a,if_pos ⟨rfl,rfl⟩]
     ·rw[E3 (show(245:Int)<=b by omega),cond_false];have e:y5 (s.length-i) b (s.getD (i+1) 0).toNat (s.getD (i+2) 0).toNat (s.getD (i+3) 0).toNat=(65533,1):=by
       unfold y5;grind
      rw[e,if_pos ⟨rfl,rfl⟩]
theorem Br8(s:By)(k:s.length<=1000000000):∀(r i n:Nat) (P:List Nat),i+r=s.length->r<n->P.length<=i->
  (Cr (s.drop i)=none->∃l,∀(R:Type) (k0 k1:LL->Option R),Y1 LF n s i (B3 P) k0 k1=k0 l)/\
  (∀q,Cr (s.drop i)=some q->∀(R:Type) (k0 k1:LL->Option R),Y1 LF n s i (B3 P) k0 k1=k1 (B3 (P++q))):=by
 intro r
 induction r using ac2 with
 | _ r o=>
  intro i n P v w u;obtain⟨n,rfl⟩:∃m,n=m+1:=⟨n-1,by omega⟩
  by_cases j:i<s.length
  ·have d:s.drop i≠[]:=by rw[ne_eq,<-y7,j7];omega
   have c:=λ(R:Type) (k0 k1:LL->Option R)=>A26 (k0:=k0) (k1:=k1) s k n i P (by omega) j
   have x:=Lib.decodeL_width (s.drop i);have g:=Lib.decodeL_le (s.drop i) d;rw[j7] at g;rw[Bp1 _ d];by_cases a:(s9 (s.drop i)).1=65533/\(s9 (s.drop i)).2=1
   ·rw[if_pos a];refine⟨λ_=>⟨B3 P,λR k0 k1=>?_⟩,λq b=>by cases b⟩;refine(c R k0 k1).trans ?_;rw[if_pos a]
   ·rw[if_neg a,aa9];obtain⟨w1,t⟩:=o (r-(s9 (s.drop i)).2) (by omega) (i+(s9 (s.drop i)).2) n (P++[(s9 (s.drop i)).1]) (by omega) (by omega) (by rw[j5,s7];omega);constructor
    ·intro h;cases b:Cr (s.drop (i+(s9 (s.drop i)).2)) with
     | some q=>rw[b] at h;cases h
     | none=>
      obtain⟨l,e⟩:=w1 b;refine⟨l,λR k0 k1=>?_⟩;refine(c R k0 k1).trans ?_;rw[if_neg a];exact e R k0 k1
    ·intro q h R k0 k1;cases b:Cr (s.drop (i+(s9 (s.drop i)).2)) with
     | none=>rw[b] at h;cases h
     | some p=>
      rw[b] at h;simp only[ac3,p7] at h;subst h;refine(c R k0 k1).trans ?_;rw[if_neg a];refine(t p b R k0 k1).trans ?_;rw[v7];rfl
  ·have f:s.drop i=[]:=by rw[<-y7,j7];omega
   have e:∀(R:Type) (k0 k1:LL->Option R),Y1 LF (n+1) s i (B3 P) k0 k1=k1 (B3 P):=λR k0 k1=>by
    rw[Y1];rw[A5];rfl
   rw[f,show Cr []=some [] from rfl];refine⟨λh=>(by cases h),λq b R k0 k1=>?_⟩;simp only[p7] at b;subst b;rw[ac1];exact e R k0 k1
theorem Cu8(s:By)(d:A3 s.length=true):∃r H,Cu5 LF s (λa=>rv (.tup [.fl 1,.s (.bool false)]) [.arr true 3 1 a,.arr true 3 1 []]) (λa=>rv (.tup [.fl 0,.s (.bool true)]) [.arr true 3 1 a])=rv r H/\
  r.stab [1,0] H = .tup [.s (.sl (Qp s).isEmpty (Qp s).isEmpty 1 (Lg (Qp s))),.s (.bool (Cr s).isSome)]:=by
 have f:=L4 d;obtain⟨w1,c⟩:=Br8 s f s.length 0 LF [] (by omega) (by have:=C1;omega) (ae1 _);rw[k9] at w1 c;unfold Qp;cases b:Cr s with
 | none=>
  obtain⟨l,e⟩:=w1 b;exact⟨_,_,e _ _ _,rfl⟩
 | some q=>
  refine⟨_,_,c q b _ _ _,?_⟩;cases q<;>rfl
theorem A14{R:Type}{a:Unit->Option R}{d:By->Bool->LL->Bool->Option R}(s:By)(z:Bool)(p:List Nat)(t:p.length<=1000000000):∀(r i n:Nat) (b:Bool),i+r=p.length->r<n->
  X1 LF n s z (B3 p) b (i:Int) a d=if (p.drop i).any (λp=>v8 65 p&&v8 p 90) then a () else d s z (B3 p) (b||((p.drop i).any λp=>v8 128 p)):=by
 intro r
 induction r with
 | zero=>
  intro i n b h j;obtain⟨n,rfl⟩:∃m,n=m+1:=⟨n-1,by omega⟩
  rw[X1];rw[D1,A5,j1 (by omega)];simp
 | succ r k=>
  intro i n b h j;obtain⟨n,rfl⟩:∃m,n=m+1:=⟨n-1,by omega⟩
  rw[X1];have f:A1 ((i:Int)+1)=((i+1:Nat):Int):=by rw[A7];rfl
  have g:p.drop i=p.getD i 0::p.drop (i+1):=by
   rw[j4,j8 (by omega),aa3,ab8]
  rw[D1,A8,E5,b8,Pw (by omega),Yy _ _ (by omega),g,ab5,ab5,f];simp only[cond_true];generalize p.getD i 0=q;have go:∀c:Bool,X1 LF n s z (B3 p) c ((i+1:Nat):Int) a d=_:=λc=>k (i+1) n c (by omega) (by omega)
  simp only[go];by_cases l:q<65
  ·rw[show ltI (q:Int) (65:Int)=true from A8,show v8 65 q=false by rw[j9,ne_eq,p4];omega];have e:v8 128 q=false:=by rw[j9,ne_eq,p4];omega
   rw[show ltI (q:Int) (128:Int)=true from A8,e];cases b<;>simp
  ·rw[show ltI (q:Int) (65:Int)=false from A5,show v8 65 q=true by rw[p4];omega];by_cases e:90<q
   ·rw[show ltI (90:Int) (q:Int)=true from A8,show v8 q 90=false by rw[j9,ne_eq,p4];omega];by_cases o:q<128
    ·rw[show ltI (q:Int) (128:Int)=true from A8,show v8 128 q=false by rw[j9,ne_eq,p4];omega];cases b<;>simp
    ·rw[show ltI (q:Int) (128:Int)=false from A5,show v8 128 q=true by rw[p4];omega];cases b<;>simp
   ·rw[show ltI (90:Int) (q:Int)=false from A5,show v8 q 90=true by rw[p4];omega];cases b<;>simp
theorem A15{R:Type}{a:Bool->Option R}(s:By)(b:A3 s.length=true):Bg1 LF s a=a (Dc s):=by
 have c:=C1;unfold Bg1 Dc;rw[b,cond_true];simp only[vl];by_cases h:(M9 s).2=0
 ·have e:(((M9 s).2:Int)!=(0:Int))=false:=by rw[h];rfl
  rw[e,cond_false,Cp,h];have g:=XM s;refine a8 (A14 s _ (M9 s).1 (by omega) (M9 s).1.length 0 LF false (by omega) (by omega)) ?_;rw[k9];cases d:(M9 s).1.any (λp=>v8 65 p&&v8 p 90) with
  | true=>simp
  | false=>
   rw[if_neg (by simp),Cz,Uj,Ul];simp only[cond_true,vl,ac8,j0];by_cases f:(Ch (M9 s).1).2=0;all_goals grind
 grind
theorem Az5{R:Type}{g:Unit->Option R}{j:By->Option R}(s:By)(v:s.length<=1000000000):∀(r i n:Nat),i+r=s.length->r<n->
  N3 LF n s (i:Int) g j=if (s.drop i).all T2 then j s else g ():=by
 intro r
 induction r with
 | zero=>
  intro i n l c;obtain⟨n,rfl⟩:∃m,n=m+1:=⟨n-1,by omega⟩
  rw[N3];rw[A5,j1 (by omega)];rfl
 | succ r o=>
  intro i n l c;obtain⟨n,rfl⟩:∃m,n=m+1:=⟨n-1,by omega⟩
  rw[N3];have k:A1 ((i:Int)+1)=((i+1:Nat):Int):=by rw[A7];rfl
  rw[A8,E5,C9,D2 s i (by omega),k,aa4];simp only[cond_true];rw[o (i+1) n (by omega) (by omega)];generalize s.getD i 0=b;have f:=Oc b;have t:((b.toNat:Int)==45)=(b==45):=P8 b 45 (by omega);have u:((b.toNat:Int)==95)=(b==95):=P8 b 95 (by omega);rw[t,u];cases a:T2 b with
  | true=>
   rw[f] at a;simp only[x8];by_cases d:b=45
   ·subst d;simp (disch:=decide) [ltI]
   ·by_cases e:b=95
    ·subst e;simp (disch:=decide) [ltI]
    ·rcases a with a|a|a|a
     ·rw[show ltI (b.toNat:Int) 97=false from A5,show ltI (122:Int) b.toNat=false from A5];rfl
     ·rw[show ltI (b.toNat:Int) 97=true from A8,show ltI (b.toNat:Int) 48=false from A5,show ltI (57:Int) b.toNat=false from A5];rfl
     ·exact absurd a d
     ·exact absurd a e
  | false=>
   have c:¬((97<=b.toNat/\b.toNat<=122)\/(48<=b.toNat/\b.toNat<=57)\/b=45\/b=95):=λh=>by rw[f.2 h] at a;cases a
   have p:(b==45)=false:=by simpa using λh=>c (.inr (.inr (.inl h)))
   have q:(b==95)=false:=by simpa using λh=>c (.inr (.inr (.inr h)))
   rw[p,q];simp only[j0,cond_true,cond_false,Bool.false_and,ac9,if_false];by_cases d:b.toNat<48
   ·rw[show ltI (b.toNat:Int) 97=true from A8,show ltI (b.toNat:Int) 48=true from A8];rfl
   ·by_cases e:b.toNat<97
    ·rw[show ltI (b.toNat:Int) 97=true from A8,show ltI (b.toNat:Int) 48=false from A5,show ltI (57:Int) b.toNat=true from A8];rfl
    ·rw[show ltI (b.toNat:Int) 97=false from A5,show ltI (122:Int) b.toNat=true from A8,show ltI (b.toNat:Int) 48=false from A5,show ltI (57:Int) b.toNat=true from A8];rfl
theorem Cd6(s:By)(h:4<=s.length):(s.take 4==([120,110,45,45]:List UInt8))=xnB.isPrefixOf s:=by
 match s,h with
 | a::b::c::d::t,_=>
  simp only[List.take_succ_cons,List.take_zero,xnB,List.isPrefixOf,ab4];rw[show((a::b::c::d::[])==([120,110,45,45]:List UInt8))=(a==120&&(b==110&&(c==45&&(d==45&&true)))) from rfl,ab4];rw[ab9];simp only[w9,beq_iff_eq];exact⟨λh=>⟨h.1.symm,h.2.1.symm,h.2.2.1.symm,h.2.2.2.symm⟩,λh=>⟨h.1.symm,h.2.1.symm,h.2.2.1.symm,h.2.2.2.symm⟩⟩
theorem Az6{R:Type}{c:Bool->Option R}(s:By)(e:A3 s.length=true):Bf6 LF s c=c (K6 s):=by
 have k:=L4 e;have i:=C1;unfold Bf6 K6;by_cases a:s=[]
 ·grind
 ·have r:0<s.length:=x7.2 a;have j:s.isEmpty=false:=by simpa using a
  have b:(s==([]:List UInt8))=false:=by simpa using a
  rw[b,cond_false,j];by_cases n:63<s.length
  ·rw[A8,show v8 s.length 63=false by rw[j9,ne_eq,p4];omega];rfl
  ·rw[A5,cond_false,show v8 s.length 63=true by rw[p4];omega,E5];have m:(bAt s 0==(45:Int))=(s.getD 0 0==45):=by rw[Z5];exact P8 _ 45 (by omega)
   have d:A1 ((s.length:Int)-1)=((s.length-1:Nat):Int):=by rw[A7];omega
   rw[m,d];simp only[cond_true,vl];rw[E5,C9,show((((s.getD (s.length-1) 0).toNat:Nat):Int)==45)=(s.getD (s.length-1) 0==45) from P8 _ 45 (by omega)];cases f:(s.getD 0 0==45) with
   | true=>
    grind
   | false=>
    rw[show(s.getD 0 0 !=45)=true by unfold bne;rw[f];rfl];simp only[cond_true,cond_false];cases g:(s.getD (s.length-1) 0==45) with
    | true=>
     grind
    | false=>
     rw[show(s.getD (s.length-1) 0 !=45)=true by unfold bne;rw[g];rfl];simp only[cond_false];refine a8 (Az5 s k s.length 0 LF (by omega) (by omega)) ?_;rw[k9];cases o:s.all T2 with
     | false=>simp
     | true=>
      rw[if_pos rfl];simp only[j0,x8,ab4];by_cases p:s.length<4
      ·rw[A8];have:xnB.isPrefixOf s=false:=by
        rw[j9,ne_eq,ab0];intro h;have:=h.length_le;simp only[xnB,s8,x5] at this;omega
       grind
      ·rw[A5,cond_false,H9,cond_true,J8];have l:(aa1 (b9 4) s==([120,110,45,45]:List UInt8))=xnB.isPrefixOf s:=Cd6 s (by omega);rw[l];cases q:xnB.isPrefixOf s with
       | false=>rfl
       | true=>
        rw[H9,P9];simp only[c9,cond_false,cond_true];rw[E1 (by rw[j7];omega)];rfl
theorem Az3{R:Type}{h:By->Int->Option R}(s:By)(c:A3 s.length=true):Bf5 LF s h=h (I5 s).1 ((I5 s).2:Nat):=by
 have m:=L4 c;have j:=C1;unfold Bf5 I5;rw[c,cond_true];cases f:Cr s with
 | none=>rfl
 | some p=>
  have hN:(Qp s)=p:=by unfold Qp;rw[f];rfl
  rw[hN,Cp,D1];simp only[ad2,c9,cond_false,cond_true];by_cases d:256<p.length
  ·rw[if_pos d,A8];rfl
  ·rw[if_neg d,A5,cond_false,E1 (by rw[Ff];exact m)];by_cases e:p.length<s.length
   ·rw[if_pos e,A8];have a:=ZK (l:=s) (by rw[f];rfl);cases g:Cr (B6 s) with
    | none=>rw[g] at a;cases a
    | some q=>
     have b:Qp (B6 s)=q:=by unfold Qp;rw[g];rfl
     have k:=XS q;rw[b,Cp,Cz,Uj,Ul];simp only[cond_true,vl];rw[E6 (by omega),cond_true,E1 (by rw[j5];simp only[s8,x5];omega),cond_true];by_cases i:(Ch q).2=0
     ·rw[i,if_pos rfl];show cond (not (K6 (xnB++(Ch q).1))) _ _=_;cases n:K6 (xnB++(Ch q).1) with
      | true=>rfl
      | false=>rfl
     grind
   ·rw[if_neg e,A5];grind
section
variable {Z R : Type} (L : Nat) (Q : G1) (Y : Yh Z) (s : Z) (k : Out -> St Z -> Option R)
noncomputable abbrev FU:Code:=C3 ad6
noncomputable def Qs(L:Nat):Cfg:=B4 L [115] (A2 []) [] (A2 [(7,[2]),(2,[2]),(4,[2]),(6,[2]),(5,[0,23]),(3,[0,12]),(1,[0,2]),(0,[0])]) [] (A2 [(0,[])]) (some [2]) [] [] []
noncomputable def IP{R:Type}(a:Int)(h:Bool)(f:Int->Option R)(g:Int->Bool->Option R):Option R:=cond h (vl (A1 (wu8 (a-97))) λb=>vl (A1 (b+10)) λc=>f c) (cond (not (ltI a 65)) (cond (not (ltI 70 a)) (vl (A1 (wu8 (a-65))) λd=>vl (A1 (d+10)) λe=>f e) (g a (not (ltI 70 a)))) (g a false))
abbrev ZX(b:Code):Prop:=∀(k:Out->St Z->Option R) a c,A9 (Qs L) Q Y b ⟨gp [(0,p8 a),(12,pB c)] 21,[],s⟩ k=IP a c (λn0=>k .ret ⟨gp [(2,pI n0)] 32,[],s⟩) (λa c=>k .normal ⟨gp [(0,p8 a),(23,pB c)] 10,[],s⟩)
theorem Bq5:ZX (R:=R) L Q Y s (cd [1,0,0,1,1,1] FU):=by intro k a b;unfold IP;kernel_rfl
noncomputable def IQ{R:Type}(b:Int)(l:Bool)(f:Int->Option R)(j:Int->Bool->Option R):Option R:=cond l (vl (A1 (wu8 (b-48))) λg=>f g) (cond (not (ltI b 97)) (IP b (not (ltI 102 b)) (λh=>f h) (λc d=>j c d)) (IP b false (λi=>f i) (λe a=>j e a)))
abbrev IR(b:Code):Prop:=∀(k:Out->St Z->Option R) a c,A9 (Qs L) Q Y b ⟨gp [(0,p8 a),(2,pB c)] 31,[],s⟩ k=IQ a c (λn0=>k .ret ⟨gp [(2,pI n0)] 32,[],s⟩) (λa c=>k .normal ⟨gp [(0,p8 a),(23,pB c)] 10,[],s⟩)
theorem Bq6(a:Code)(b:ZX (R:=R) L Q Y s a):IR (R:=R) L Q Y s (cd [1,0,0,1] (G4 [1,0,0,1,1,1] a FU)):=by intro k c d;unfold IQ;simp only[<-b k];kernel_rfl
theorem Bq7:IR (R:=R) L Q Y s (cd [1,0,0,1] FU):=by intro k a b;exact a8 (by kernel_rfl) (Bq6 L Q Y s (cd [1,0,0,1,1,1] FU) (Bq5 L Q Y s) k a b)
noncomputable def rhx{R:Type}(L:Nat)(c:Int)(d:Int->Option R):Option R:=cond (not (ltI c 48)) (IQ c (not (ltI 57 c)) (λa=>d a) (λe f=>d (-1))) (IQ c false (λb=>d b) (λg h=>d (-1)))
theorem C66(b:Code)(a:IR (R:=PV × List Blk × Z) L Q Y s b)(c:Int):A9 (Qs L) Q Y (cd [] (G4 [1,0,0,1] b FU)) ⟨[p8 c]++tps 34,[],s⟩ (F2 (Qs L) ad6)=rhx L c (λe=>some (pI e,[],s)):=by unfold rhx;exact let d:=(E2 0 (D9 (Qs L) Q Y (cd [1,1] FU) (F2 (Qs L) ad6)));(a8 (by kernel_rfl) (A0 ((a d c (not (ltI 57 c))).trans (by kernel_rfl)) ((a d c false).trans (by kernel_rfl))))
theorem C67(d:Nat)(b0):evC (Qs L) (d+1) Z Y 115 [p8 b0] [] s=rhx L b0 (λa=>some (pI a,[],s)):=
 (evE (fn:=ad6) (by kernel_rfl)).trans (a8 (by kernel_rfl) (C66 L (evC (Qs L) d) Y s (cd [1,0,0,1] FU) (Bq7 L (evC (Qs L) d) Y s) b0))
noncomputable abbrev Bb1:Code:=C3 ag0
noncomputable def Kq(L:Nat):Cfg:=B4 L [85] (A2 [(3,[0,1,0,0,0])]) [(115,C15)] (A2 [(11,[2,0]),(4,[0,3,0]),(10,[0,3,0]),(9,[0,3,0]),(8,[2,0]),(7,[0,3,0,36]),(6,[0,3,0]),(5,[0,3,0,9]),(3,[0,3,0,3]),(2,[0,3,0]),(1,[0,3]),(0,[0])]) [115] (A2 [(0,[4]),(1,[0,3,0])]) (some [2,0]) [] [] []
noncomputable def O0{R:Type}(L n:Nat)(b:By)(a:Int)(c:LL)(d:LL->Option R)(j:LL->Option R):Option R:=match n with|0=>none|n+1=>cond (ltI a (b.length:Int)) (cond (inR a b.length) (cond ((bAt b a)!=37) (cond (inR a b.length) (cond (F7 (c.length+1)) (O0 L n b (A1 (a+1)) (c++[[(SV.int .u8 (bAt b a))]]) d j) none) none) (vl (A1 ((b.length:Int)-a)) λl=>cond (ltI l 3) (d c) (cond (inR (A1 (a+1)) b.length) (vl (bAt b (A1 (a+1))) λf=>cond (inR f 256) (cond (ltI (Eg (u8n f)) (0:Int)) (d c) (cond (inR (A1 (a+2)) b.length) (vl (bAt b (A1 (a+2))) λg=>cond (inR g 256) (cond (ltI (Eg (u8n g)) (0:Int)) (d c) (cond (inR (A1 (a+1)) b.length) (vl (bAt b (A1 (a+1))) λh=>cond (inR h 256) (vl (A1 ((16:Int)*(Eg (u8n h)))) λm=>cond (inR (A1 (a+2)) b.length) (vl (bAt b (A1 (a+2))) λi=>cond (inR i 256) (vl (A1 (m+(Eg (u8n i)))) λo=>cond (F7 (c.length+1)) (vl (A1 ((A1 (a+2))+1)) λe=>O0 L n b e (c++[[(SV.int .u8 (wu8 o))]]) d j) none) none) none) none) none)) none) none)) none) none))) none) (j c)
theorem ZV(n s0 i1 l2):C4 1 ((Kq L).keep 3) (bd (Kq L) Q Y (cd [1,1,0,1,0,0] Bb1)) n ⟨gp [(0,pS s0),(3,.fl 0),(0,pI i1)] 57,[.arr true 5 1 l2],s⟩ k =
 O0 L n s0 i1 l2 (λa=>k .ret ⟨gp [(2,pS ([]:List UInt8)),(0,pB false)] 59,[.arr true 5 1 a],s⟩) (λa=>k (.exit 0) ⟨gp [(4,.fl 0)] 58,[.arr true 5 1 a],s⟩):=by
 induction n generalizing s0 i1 l2 with
 | zero=>rfl
 | succ n b=>rw[O0];simp only[<-b];kernel_rfl
noncomputable def Bf3{R:Type}(L:Nat)(d:By)(c:By->Bool->LL->Option R):Option R:=O0 L L d 0 [] (λb=>c ([]:List UInt8) false b) (λa=>cond (ab6 a Mz) (c (y9 Kv a) true a) none)
theorem B94(d:Nat)(s0):evC (Kq L) (d+1) Z Y 85 [pS s0] [] s=Bf3 L s0 (λb c a=>some (.tup [pS b,pB c],[.arr true 5 1 a],s)):=by refine(evE (fn:=ag0) (by kernel_rfl)).trans ?_;generalize evC (Kq L) d=Q;unfold Bf3;exact(a8 (by kernel_rfl) ((ZV L Q Y s (E2 0 (D9 (Kq L) Q Y (cd [1,1,1] Bb1) (F2 (Kq L) ag0))) L s0 0 []).trans (by kernel_rfl)))
noncomputable abbrev B11:Code:=C3 af9
noncomputable def Sd(L:Nat):Cfg:=B4 L [66] (A2 [(5,[2,0,0])]) [(86,Rj),(88,Jd),(94,PS)] (A2 [(9,[2]),(6,[3,0]),(8,[2]),(7,[3,0,24]),(5,[3,0,16]),(4,[3,0]),(3,[3]),(2,[2]),(1,[0,14]),(0,[0])]) [86,94] (A2 [(0,[]),(1,[3,0])]) (some [2]) [] [] []
noncomputable def Lp{R:Type}(L n:Nat)(b:LL)(a:Int)(c:Unit->Option R)(d:Unit->Option R):Option R:=match n with|0=>none|n+1=>cond (ltI a (b.length:Int)) (cond (inR a b.length) (cond (okE Oq b (b9 a) 0) (cond (A3 (j6 (gX b (b9 a) 0))) (cond (not (K6 (gX b (b9 a) 0))) (c ()) (Lp L n b (A1 (a+1)) c d)) none) none) none) (d ())
theorem Az2(n p0 i1):C4 0 ((Sd L).keep 5) (bd (Sd L) Q Y (cd [1,1,1,0,1,0,0] B11)) n ⟨gp [(3,.s (.sl false false 1 p0)),(0,pI i1)] 25,[],s⟩ k =
 Lp L n p0 i1 (λ_=>k .ret ⟨gp [(2,pB false)] 27,[],s⟩) (λ_=>k (.exit 0) ⟨gp [] 30,[],s⟩):=by
 induction n generalizing p0 i1 with
 | zero=>rfl
 | succ n a=>rw[Lp];simp only[<-a];kernel_rfl
noncomputable def Ct8{R:Type}(L:Nat)(a:By)(b:Bool->Option R):Option R:=cond (a==[]) (b false) (cond (ltI 253 (a.length:Int)) (b false) (cond (A3 a.length) (cond (G0 a) (b false) (cond (A3 a.length) (vl (D4 (pcs (u8n (46:Int)) a)) λc=>Lp L L c 0 (λ_=>b false) (λ_=>b true)) none)) none))
theorem Ct9(d:Nat)(name0):evC (Sd L) (d+1) Z Y 66 [pS name0] [] s=Ct8 L name0 (λb=>some (pB b,[],s)):=by refine(evE (fn:=af9) (by kernel_rfl)).trans ?_;generalize evC (Sd L) d=Q;unfold Ct8;exact(a8 (by kernel_rfl) (A0 rfl (A0 rfl (A0 (A0 rfl (A0 (A4 λa=>((Az2 L Q Y s (E2 0 (D9 (Sd L) Q Y (cd [1,1,1,1] B11) (F2 (Sd L) af9))) L a 0).trans (by kernel_rfl))) rfl)) rfl))))
noncomputable def RU(L:Nat):Cfg:=B4 L [48] (A2 []) [(66,Bz1)] (A2 [(9,[2]),(4,[2]),(6,[2]),(8,[2]),(7,[1,32]),(5,[1,1,2,16]),(3,[1,1,2,0]),(2,[1,1,2]),(1,[1,1]),(0,[1])]) [66] (A2 [(0,[])]) (some [2]) [] [] []
noncomputable def Ca0{R:Type}(L:Nat)(c:Int)(b:By)(d e f g h i j l a:Int)(m:Bool->Int->By->Int->Int->Int->Int->Int->Int->Int->Int->Int->LL->Option R):Option R:=cond (c==1) (cond (A3 b.length) (cond (Z3 b) (cond (d==0) (m ((e==0)&&((f==0)&&((g==0)&&((h==0)&&((i==0)&&((j==0)&&((l==0)&&((a==0)&&true)))))))) c b d e f g h i j l a (x3 8 [(SV.int .u16 (0:Int))])) (m false c b d e f g h i j l a (x3 8 [(SV.int .u16 (0:Int))]))) (m false c b d e f g h i j l a (x3 8 [(SV.int .u16 (0:Int))]))) none) (cond (c==2) (cond (b==[]) (m ((e==0)&&((f==0)&&((g==0)&&((h==0)&&((i==0)&&((j==0)&&((l==0)&&((a==0)&&true)))))))) c b d e f g h i j l a (x3 8 [(SV.int .u16 (0:Int))])) (m false c b d e f g h i j l a (x3 8 [(SV.int .u16 (0:Int))]))) (cond (c==3) (cond (b==[]) (m (d==0) c b d e f g h i j l a (x3 8 [(SV.int .u16 (0:Int))])) (m false c b d e f g h i j l a (x3 8 [(SV.int .u16 (0:Int))]))) (m false c b d e f g h i j l a (x3 8 [(SV.int .u16 (0:Int))]))))
theorem Ca1(d:Nat)(h0 h1 h2 h3 h4 h5 h6 h7 h8 h9 h10):evC (RU L) (d+1) Z Y 48 [.agg [pI h0,pS h1,p32 h2,p16 h3,p16 h4,p16 h5,p16 h6,p16 h7,p16 h8,p16 h9,p16 h10]] [] s=Ca0 L h0 h1 h2 h3 h4 h5 h6 h7 h8 h9 h10 (λm e n f g h i j n8 l b c a=>some (pB m,[.box [pI e,pS n,p32 f,p16 g,p16 h,p16 i,p16 j,p16 n8,p16 l,p16 b,p16 c],.arr false 25 1 a],s)):=by refine(evE (fn:=Tryz.f48) (by kernel_rfl)).trans ?_;generalize evC (RU L) d=Q;unfold Ca0;kernel_rfl
noncomputable def RT(L:Nat):Cfg:=B4 L [52] (A2 []) [(48,PO),(70,Bz3),(71,Bz5)] (A2 [(8,[2]),(5,[2]),(7,[2]),(6,[1,10]),(4,[1,5,0]),(3,[1,5]),(2,[2]),(1,[1,3]),(0,[1])]) [48,70,71] (A2 [(0,[1])]) (some [2]) [] [] []
noncomputable def B97{R:Type}(L:Nat)(j:Int)(l:By)(b c d e f g h i a:Int)(o:By->Int->By->Int->Int->Int->Int->Int->Int->Int->Int->Int->Option R):Option R:=cond (A3 l.length) (cond (ltN b 4294967296) (cond (ok8 c d e f g h i a) (cond (not (M6 (mkH j l b (n8 c d e f g h i a)))) (o ([]:List UInt8) j l b c d e f g h i a) (cond (j==1) (o l j l b c d e f g h i a) (cond (j==2) (cond (ltN b 4294967296) (o (Hd (b9 b)) j l b c d e f g h i a) none) (cond (ok8 c d e f g h i a) (vl (Mw (n8 c d e f g h i a)) λm=>cond (F3 1 m.length) (vl (([91]:List UInt8)++m) λn=>cond (F3 n.length 1) (vl (n++[93]) λp=>o p j l b c d e f g h i a) none) none) none)))) none) none) none
theorem B98(d:Nat)(h0 h1 h2 h3 h4 h5 h6 h7 h8 h9 h10):evC (RT L) (d+1) Z Y 52 [.agg [pI h0,pS h1,p32 h2,p16 h3,p16 h4,p16 h5,p16 h6,p16 h7,p16 h8,p16 h9,p16 h10]] [] s=B97 L h0 h1 h2 h3 h4 h5 h6 h7 h8 h9 h10 (λl c m e f g h i n8 j a b=>some (pS l,[.box [pI c,pS m,p32 e,p16 f,p16 g,p16 h,p16 i,p16 n8,p16 j,p16 a,p16 b]],s)):=by refine(evE (fn:=Tryz.f52) (by kernel_rfl)).trans ?_;generalize evC (RT L) d=Q;unfold B97;kernel_rfl
end
section
variable {Z R : Type} (L : Nat) (Q : G1) (Y : Yh Z) (s : Z) (k : Out -> St Z -> Option R)
noncomputable abbrev Q4:Code:=C3 ae9
noncomputable def J7(L:Nat):Cfg:=B4 L [63] (A2 [(23,[2,0,6,0,0])]) [(84,Bz6),(85,A94),(86,Rj),(87,A99),(88,Jd),(89,A97)] (A2 [(35,[2,0]),(34,[2,0]),(33,[2,7,108]),(32,[2,0]),(31,[2,7,105]),(24,[2,7,0,0]),(30,[2,7,0,0]),(29,[2,7,0,0,0]),(28,[2,7,0,0,0,94]),(27,[2,0]),(26,[2,7,0,0,0,0,89]),(25,[2,7,0,0,0,0]),(23,[2,7,0,0,79]),(22,[2,7,0,0]),(21,[2,7,0]),(20,[2,3,3]),(19,[2,0]),(18,[2,0]),(17,[2,5,74]),(16,[2,5,0]),(15,[2,3,69]),(14,[2,3]),(13,[2,3,62]),(12,[2,0]),(11,[2,3,51]),(10,[2,3,0]),(9,[2,0]),(8,[2,0]),(7,[2,1,43]),(6,[2,1,0]),(5,[2,0]),(4,[0,1,33]),(3,[0,1,22]),(2,[2,0]),(1,[0,1,14]),(0,[0,1])]) [85,86,87,89] (A2 [(0,[2,7]),(1,[2,7,0,0])]) (some [2,0]) [] [] []
noncomputable def Gk{R:Type}(b:By)(e:Bool)(f:Unit->Option R)(g:Int->Int->Int->Int->Int->Int->Int->Int->Int->Int->LL->Option R)(h:By->Bool->Option R):Option R:=cond e (vl (A1 ((b.length:Int)-1)) λd=>cond (inR d b.length) (cond ((bAt b d)!=93) (f ()) (cond (ltI (b.length:Int) (2:Int)) (f ()) (vl (A1 ((b.length:Int)-1)) λc=>cond (I2 1 c b.length) (vl (cut b 1 c) λa=>cond (A3 a.length) (cond (not (aa5 (v6B a))) (g 14 0 0 0 0 0 0 0 0 0 [[(SV.int .u16 (↑(v6c 0 a):Int))],[(SV.int .u16 (↑(v6c 1 a):Int))],[(SV.int .u16 (↑(v6c 2 a):Int))],[(SV.int .u16 (↑(v6c 3 a):Int))],[(SV.int .u16 (↑(v6c 4 a):Int))],[(SV.int .u16 (↑(v6c 5 a):Int))],[(SV.int .u16 (↑(v6c 6 a):Int))],[(SV.int .u16 (↑(v6c 7 a):Int))]]) (g 0 3 (↑(v6c 0 a):Int) (↑(v6c 1 a):Int) (↑(v6c 2 a):Int) (↑(v6c 3 a):Int) (↑(v6c 4 a):Int) (↑(v6c 5 a):Int) (↑(v6c 6 a):Int) (↑(v6c 7 a):Int) [[(SV.int .u16 (↑(v6c 0 a):Int))],[(SV.int .u16 (↑(v6c 1 a):Int))],[(SV.int .u16 (↑(v6c 2 a):Int))],[(SV.int .u16 (↑(v6c 3 a):Int))],[(SV.int .u16 (↑(v6c 4 a):Int))],[(SV.int .u16 (↑(v6c 5 a):Int))],[(SV.int .u16 (↑(v6c 6 a):Int))],[(SV.int .u16 (↑(v6c 7 a):Int))]])) none) none))) none) (h b e)
abbrev Vy(b:Code):Prop:=∀(k:Out->St Z->Option R) a c,A9 (J7 L) Q Y b ⟨gp [(0,pS a),(1,.ptr 0 0 0),(22,pB c)] 97,[.box [pI (0:Int),pS ([]:List UInt8),p32 (0:Int),p16 (0:Int),p16 (0:Int),p16 (0:Int),p16 (0:Int),p16 (0:Int),p16 (0:Int),p16 (0:Int),p16 (0:Int)]],s⟩ k=Gk a c (λ_=>k .ret ⟨gp [(2,.ptr 0 0 0),(0,pI (14:Int))] 119,[.box [pI (0:Int),pS ([]:List UInt8),p32 (0:Int),p16 (0:Int),p16 (0:Int),p16 (0:Int),p16 (0:Int),p16 (0:Int),p16 (0:Int),p16 (0:Int),p16 (0:Int)]],s⟩) (λn0 d e f g h i j n8 l l10=>k .ret ⟨gp [(2,.ptr 0 0 0),(0,pI n0)] 119,[.box [pI d,pS ([]:List UInt8),p32 (0:Int),p16 e,p16 f,p16 g,p16 h,p16 i,p16 j,p16 n8,p16 l],.arr false 25 1 l10],s⟩) (λa c=>k .normal ⟨gp [(0,pS a),(1,.ptr 0 0 0),(22,pB c)] 97,[.box [pI (0:Int),pS ([]:List UInt8),p32 (0:Int),p16 (0:Int),p16 (0:Int),p16 (0:Int),p16 (0:Int),p16 (0:Int),p16 (0:Int),p16 (0:Int),p16 (0:Int)]],s⟩)
theorem KH:Vy (R:=R) L Q Y s (cd [1,1,0,1] Q4):=by intro k a b;unfold Gk;kernel_rfl
noncomputable def I9{R:Type}(L n:Nat)(a:By)(e:LL)(c:Int)(g:Int->Option R)(h:By->Option R):Option R:=match n with|0=>none|n+1=>cond (ltI c (e.length:Int)) (cond (inR c e.length) (cond (okE Oq e (b9 c) 0) (cond (A3 (j6 (gX e (b9 c) 0))) (vl ((I5 (gX e (b9 c) 0))).1 λb=>vl (↑((I5 (gX e (b9 c) 0))).2:Int) λd=>cond (d !=0) (g d) (cond (ltI 0 c) (cond (F3 a.length 1) (vl (a++[46]) λf=>cond (F3 f.length b.length) (I9 L n (f++b) e (A1 (c+1)) g h) none) none) (cond (F3 a.length b.length) (I9 L n (a++b) e (A1 (c+1)) g h) none))) none) none) none) (h a)
theorem Qy(n a p1 i2):C4 1 ((J7 L).keep 23) (bd (J7 L) Q Y (cd [1,1,1,1,1,1,1,1,1,0,1,0,0] Q4)) n ⟨gp [(2,.ptr 0 0 0),(7,pS a),(0,.s (.sl false false 1 p1)),(0,pI i2)] 110,[.box [pI (0:Int),pS ([]:List UInt8),p32 (0:Int),p16 (0:Int),p16 (0:Int),p16 (0:Int),p16 (0:Int),p16 (0:Int),p16 (0:Int),p16 (0:Int),p16 (0:Int)]],s⟩ k =
 I9 L n a p1 i2 (λn0=>k .ret ⟨gp [(2,.ptr 0 0 0),(0,pI n0)] 119,[.box [pI (0:Int),pS ([]:List UInt8),p32 (0:Int),p16 (0:Int),p16 (0:Int),p16 (0:Int),p16 (0:Int),p16 (0:Int),p16 (0:Int),p16 (0:Int),p16 (0:Int)]],s⟩) (λa=>k (.exit 0) ⟨gp [(2,.ptr 0 0 0),(7,pS a)] 112,[.box [pI (0:Int),pS ([]:List UInt8),p32 (0:Int),p16 (0:Int),p16 (0:Int),p16 (0:Int),p16 (0:Int),p16 (0:Int),p16 (0:Int),p16 (0:Int),p16 (0:Int)]],s⟩):=by
 induction n generalizing a p1 i2 with
 | zero=>rfl
 | succ n b=>rw[I9];simp only[<-b];kernel_rfl
noncomputable def Cs{R:Type}(L:Nat)(b:By)(c:Int->Int->By->Int->Option R):Option R:=cond (A3 b.length) (cond (G0 b) (cond (A3 b.length) (cond (not (aa5 (pnB b))) (c 14 0 ([]:List UInt8) 0) (c 0 2 ([]:List UInt8) (↑(M3 (pnB b)):Int))) none) (cond (A3 b.length) (vl (D4 (pcs (u8n (46:Int)) b)) λd=>I9 L L ([]:List UInt8) d 0 (λe=>c e 0 ([]:List UInt8) 0) (λa=>cond (ltI 253 (a.length:Int)) (c 3 0 ([]:List UInt8) 0) (cond (A3 a.length) (cond (G0 a) (c 14 0 ([]:List UInt8) 0) (c 0 1 a 0)) none))) none)) none
abbrev Vz(b:Code):Prop:=∀(k:Out->St Z->Option R) s0,A9 (J7 L) Q Y b ⟨gp [(2,.ptr 0 0 0),(3,pS s0)] 116,[.box [pI (0:Int),pS ([]:List UInt8),p32 (0:Int),p16 (0:Int),p16 (0:Int),p16 (0:Int),p16 (0:Int),p16 (0:Int),p16 (0:Int),p16 (0:Int),p16 (0:Int)]],s⟩ k=Cs L s0 (λn0 a d c=>k .ret ⟨gp [(2,.ptr 0 0 0),(0,pI n0)] 119,[.box [pI a,pS d,p32 c,p16 (0:Int),p16 (0:Int),p16 (0:Int),p16 (0:Int),p16 (0:Int),p16 (0:Int),p16 (0:Int),p16 (0:Int)]],s⟩)
theorem KI:Vz (R:=R) L Q Y s (cd [1,1,1,1,1,1] Q4):=by intro k b;unfold Cs;exact(a8 (by kernel_rfl) (A0 (A0 (A0 (A0 rfl rfl) rfl) (A0 (A4 λa=>((Qy L Q Y s (E2 0 (D9 (J7 L) Q Y (cd [1,1,1,1,1,1,1,1,1,1] Q4) k)) L ([]:List UInt8) a 0).trans (by kernel_rfl))) rfl)) rfl))
noncomputable def Ln{R:Type}(L:Nat)(b:By)(c:Int->Int->By->Int->Option R):Option R:=cond (A3 b.length) (cond (G0 b) (cond (A3 b.length) (cond (not (aa5 (pnB b))) (c 14 0 ([]:List UInt8) 0) (c 0 2 ([]:List UInt8) (↑(M3 (pnB b)):Int))) none) (cond (A3 b.length) (vl (D4 (pcs (u8n (46:Int)) b)) λd=>I9 L L ([]:List UInt8) d 0 (λe=>c e 0 ([]:List UInt8) 0) (λa=>cond (ltI 253 (a.length:Int)) (c 3 0 ([]:List UInt8) 0) (cond (A3 a.length) (cond (G0 a) (c 14 0 ([]:List UInt8) 0) (c 0 1 a 0)) none))) none)) none
abbrev Wa(b:Code):Prop:=∀(k:Out->St Z->Option R) s0 b1,A9 (J7 L) Q Y b ⟨gp [(2,.ptr 0 0 0),(3,pS s0),(62,pB b1)] 53,[.box [pI (0:Int),pS ([]:List UInt8),p32 (0:Int),p16 (0:Int),p16 (0:Int),p16 (0:Int),p16 (0:Int),p16 (0:Int),p16 (0:Int),p16 (0:Int),p16 (0:Int)]],s⟩ k=Ln L s0 (λn0 a d c=>k .ret ⟨gp [(2,.ptr 0 0 0),(0,pI n0)] 119,[.box [pI a,pS d,p32 c,p16 (0:Int),p16 (0:Int),p16 (0:Int),p16 (0:Int),p16 (0:Int),p16 (0:Int),p16 (0:Int),p16 (0:Int)]],s⟩)
theorem KK:Wa (R:=R) L Q Y s (cd [1,1,1,1,1,1] Q4):=by intro k c b;unfold Ln;exact(a8 (by kernel_rfl) (A0 (A0 (A0 (A0 rfl rfl) rfl) (A0 (A4 λa=>((Qy L Q Y s (E2 0 (D9 (J7 L) Q Y (cd [1,1,1,1,1,1,1,1,1,1] Q4) k)) L ([]:List UInt8) a 0).trans (by kernel_rfl))) rfl)) rfl))
noncomputable def Ct{R:Type}(L:Nat)(a:By)(r:Int->Int->By->Int->Option R):Option R:=cond (A3 a.length) (cond (not (aa5 (R2 a))) (r 14 0 ([]:List UInt8) 0) (cond (not ((En a)==[])) (vl (A1 ((↑(j6 (En a)):Int)-1)) λb=>cond (inR b (j6 (En a))) (cond ((bAt (En a) b)==46) (vl (A1 ((↑(j6 (En a)):Int)-1)) λc=>cond (I2 0 c (j6 (En a))) (vl (cut (En a) (0:Int) c) λn=>Cs L n (λd e o f=>r d e o f)) none) (Ln L (En a) (λg h p i=>r g h p i))) none) (Ln L (En a) (λj l q m=>r j l q m)))) none
abbrev Lo(b:Code):Prop:=∀(k:Out->St Z->Option R) raw0 b1,A9 (J7 L) Q Y b ⟨gp [(0,pS raw0),(1,.ptr 0 0 0),(22,pB b1)] 97,[.box [pI (0:Int),pS ([]:List UInt8),p32 (0:Int),p16 (0:Int),p16 (0:Int),p16 (0:Int),p16 (0:Int),p16 (0:Int),p16 (0:Int),p16 (0:Int),p16 (0:Int)]],s⟩ k=Ct L raw0 (λn0 a d c=>k .ret ⟨gp [(2,.ptr 0 0 0),(0,pI n0)] 119,[.box [pI a,pS d,p32 c,p16 (0:Int),p16 (0:Int),p16 (0:Int),p16 (0:Int),p16 (0:Int),p16 (0:Int),p16 (0:Int),p16 (0:Int)]],s⟩)
theorem KL(b:Code)(c:Vz (R:=R) L Q Y s b)(a:Wa (R:=R) L Q Y s b):Lo (R:=R) L Q Y s (cd [1,1,1] (G4 [1,1,1,1,1,1] b Q4)):=by intro k d h;unfold Ct;exact(a8 (by kernel_rfl) (A0 (A0 rfl (A0 (A4 λe=>(A0 (A0 (A4 λg=>(A0 (A4 λf=>((c k f).trans (by kernel_rfl))) rfl)) ((a k (En d) ((bAt (En d) e)==46)).trans (by kernel_rfl))) rfl)) ((a k (En d) false).trans (by kernel_rfl)))) rfl))
theorem KM:Lo (R:=R) L Q Y s (cd [1,1,1] Q4):=by intro k a b;exact a8 (by kernel_rfl) (KL L Q Y s (cd [1,1,1,1,1,1] Q4) (KI L Q Y s) (KK L Q Y s) k a b)
noncomputable def Vx{R:Type}(L:Nat)(a:By)(j:Int->By->Int->Int->Int->By->Int->Option R)(O:Int->Int->Int->Int->Int->Int->Int->Int->Int->Int->LL->Option R):Option R:=cond (ltI 1024 (a.length:Int)) (j 0 ([]:List UInt8) 0 3 0 ([]:List UInt8) 0) (cond (not (a==[])) (cond (inR 0 a.length) (Gk a ((bAt a (0:Int))==91) (λ_=>j 0 ([]:List UInt8) 0 14 0 ([]:List UInt8) 0) (λn o p q r t u v w x l=>O o p q r t u v w x n l) (λb M=>Ct L b (λy d h e=>j d h e y d h e))) none) (Gk a false (λ_=>j 0 ([]:List UInt8) 0 14 0 ([]:List UInt8) 0) (λz A B C D F G H I J m=>O A B C D F G H I J z m) (λc N=>Ct L c (λK f i g=>j f i g K f i g))))
theorem Ay9(e:Code)(a:Vy (R:=PV × List Blk × Z) L Q Y s e)(d:Code)(b:Lo (R:=PV × List Blk × Z) L Q Y s d)(c:By):A9 (J7 L) Q Y (cd [] (G4 [1,1,1] d (G4 [1,1,0,1] e Q4))) ⟨[pS c]++tps 122,[],s⟩ (F2 (J7 L) ae9)=Vx L c (λj l m n v y w=>some (.tup [.agg [pI j,pS l,p32 m,p16 (0:Int),p16 (0:Int),p16 (0:Int),p16 (0:Int),p16 (0:Int),p16 (0:Int),p16 (0:Int),p16 (0:Int)],pI n],[.box [pI v,pS y,p32 w,p16 (0:Int),p16 (0:Int),p16 (0:Int),p16 (0:Int),p16 (0:Int),p16 (0:Int),p16 (0:Int),p16 (0:Int)]],s)) (λj l m n q r t u r8 x l10=>some (.tup [.agg [pI j,pS ([]:List UInt8),p32 (0:Int),p16 l,p16 m,p16 n,p16 q,p16 r,p16 t,p16 u,p16 r8],pI x],[.box [pI j,pS ([]:List UInt8),p32 (0:Int),p16 l,p16 m,p16 n,p16 q,p16 r,p16 t,p16 u,p16 r8],.arr false 25 1 l10],s)):=by unfold Vx;exact let o:=(F2 (J7 L) ae9);let p:=(D9 (J7 L) Q Y d o);(a8 (by kernel_rfl) (A0 rfl (A0 (A0 ((a p c ((bAt c (0:Int))==91)).trans (congr (congr (congr rfl (by kernel_rfl)) (by kernel_rfl)) (fx2 λf h=>(a8 (by kernel_rfl) ((b o f h).trans (by kernel_rfl)))))) rfl) ((a p c false).trans (congr (congr (congr rfl (by kernel_rfl)) (by kernel_rfl)) (fx2 λg i=>(a8 (by kernel_rfl) ((b o g i).trans (by kernel_rfl)))))))))
theorem Az0(d:Nat)(raw0):evC (J7 L) (d+1) Z Y 63 [pS raw0] [] s=Vx L raw0 (λa b c e j n l=>some (.tup [.agg [pI a,pS b,p32 c,p16 (0:Int),p16 (0:Int),p16 (0:Int),p16 (0:Int),p16 (0:Int),p16 (0:Int),p16 (0:Int),p16 (0:Int)],pI e],[.box [pI j,pS n,p32 l,p16 (0:Int),p16 (0:Int),p16 (0:Int),p16 (0:Int),p16 (0:Int),p16 (0:Int),p16 (0:Int),p16 (0:Int)]],s)) (λa b c e f g h i r8 m l10=>some (.tup [.agg [pI a,pS ([]:List UInt8),p32 (0:Int),p16 b,p16 c,p16 e,p16 f,p16 g,p16 h,p16 i,p16 r8],pI m],[.box [pI a,pS ([]:List UInt8),p32 (0:Int),p16 b,p16 c,p16 e,p16 f,p16 g,p16 h,p16 i,p16 r8],.arr false 25 1 l10],s)):=
 (evE (fn:=ae9) (by kernel_rfl)).trans (a8 (by kernel_rfl) (Ay9 L (evC (J7 L) d) Y s (cd [1,1,0,1] Q4) (KH L (evC (J7 L) d) Y s) (cd [1,1,1] Q4) (KM L (evC (J7 L) d) Y s) raw0))
end
theorem Ca3{R:Type}{g:Int->Option R}(b:Int)(h:inR b 256=true):rhx LF b g=g (Eg (u8n b)):=by
 simp only[inR,w9,decide_eq_true_eq] at h;have j:b=((u8n b).toNat:Int):=by
  unfold u8n;simp;omega
 generalize u8n b=c at *;subst j;have i:=c.toNat_lt;unfold rhx;simp only[IQ,IP,vl,Eg];rcases Cg c with⟨d,f,e⟩|⟨d,f,e⟩|⟨d,f,e⟩|⟨d,f,o,e⟩
 ·have a:A1 (wu8 ((c.toNat:Int)-48))=((dig c:Nat):Int):=by
   rw[L6,A7];omega
  rw[S6];simp (disch:=omega) only[B5,E3,c9,j0,cond_false,cond_true,a]
 ·have a:A1 (A1 (wu8 ((c.toNat:Int)-97))+10)=((dig c:Nat):Int):=by
   rw[L6,C5 (n:=(c.toNat:Int)-97) (by omega) (by omega),A7];omega
  rw[S6];simp (disch:=omega) only[B5,E3,c9,j0,cond_false,cond_true,a]
 ·have a:A1 (A1 (wu8 ((c.toNat:Int)-65))+10)=((dig c:Nat):Int):=by
   rw[L6,C5 (n:=(c.toNat:Int)-65) (by omega) (by omega),A7];omega
  rw[S6];simp (disch:=omega) only[B5,E3,c9,j0,cond_false,cond_true,a]
 ·rw[e,if_neg (by decide)];by_cases k:c.toNat<48
  ·simp (disch:=omega) only[B5,E3,c9,j0,cond_false,cond_true]
  ·by_cases l:c.toNat<65
   ·simp (disch:=omega) only[B5,E3,c9,j0,cond_false,cond_true]
   ·by_cases m:c.toNat<97
    ·simp (disch:=omega) only[B5,E3,c9,j0,cond_false,cond_true]
    ·simp (disch:=omega) only[B5,E3,c9,j0,cond_false,cond_true]
theorem Ay6(s:By)(Q:s.length<=1000000000):∀(m i n:Nat) (a:By),i<=s.length->s.length-i<=m->m<n->a.length<=i->
  (∀t,R2 (s.drop i)=some t->∀(R:Type) (c:LL->Option R) (d:LL->Option R),O0 LF n s (i:Int) (a.map D7) c d=d ((a++t).map D7))/\
  (R2 (s.drop i)=none->∃l,∀(R:Type) (c:LL->Option R) (d:LL->Option R),O0 LF n s (i:Int) (a.map D7) c d=c l):=by
 intro m
 induction m with
 | zero=>
  intro i n a K L M J;obtain⟨n,rfl⟩:∃m,n=m+1:=⟨n-1,by omega⟩
  rw[j1 (by omega)];refine⟨λt f R c d=>?_,λh=>(by cases h)⟩;simp only[R2,p7] at f;subst f;rw[O0];rw[A5,ac1];rfl
 | succ m G=>
  intro i n a K L M J;obtain⟨n,rfl⟩:∃m,n=m+1:=⟨n-1,by omega⟩
  by_cases z:i<s.length
  ·have D:A1 ((i:Int)+1)=((i+1:Nat):Int):=by rw[A7];rfl
   have H:A1 ((i:Int)+2)=((i+2:Nat):Int):=by rw[A7];rfl
   have I:A1 (((i+2:Nat):Int)+1)=((i+3:Nat):Int):=by rw[A7];omega
   have F:A1 ((s.length:Int)-i)=((s.length-i:Nat):Int):=by rw[A7];omega
   have p:(a.map D7).length=a.length:=p5 _;have v:∀b:UInt8,a.map D7++[[SV.int .u8 (b.toNat:Int)]]=(a++[b]).map D7:=λb=>by rw[aa6];rfl
   have C:(((s.getD i 0).toNat:Int)!=37) = !(s.getD i 0==37):=congrArg _ (P8 _ 37 (by omega));rw[D2 s i z];by_cases g:s.getD i 0=37
   ·by_cases P:i+2<s.length
    ·rw[D2 s (i+1) (by omega),D2 s (i+1+1) (by omega),g,IG];obtain⟨A,B⟩:=G (i+3) n (a++[y8 (16*dig (s.getD (i+1) 0)+dig (s.getD (i+2) 0))]) (by omega) (by omega) (by omega) (by simp;omega);have top:∀(R:Type) (c:LL->Option R) (d:LL->Option R),O0 LF (n+1) s (i:Int) (a.map D7) c d=cond (decide (dig (s.getD (i+1) 0)<16)&&decide (dig (s.getD (i+2) 0)<16)) (O0 LF n s ((i+3:Nat):Int) ((a++[y8 (16*dig (s.getD (i+1) 0)+dig (s.getD (i+2) 0))]).map D7) c d) (c (a.map D7)):=by
      intro R c d;rw[O0];rw[A8,E5,C9,C,g,p,H,F,D,E5,E5,C9,C9];simp only[vl];rw[E3 (show(3:Int)<=((s.length-i:Nat):Int) by omega)];simp only[cond_true,c9,cond_false,beq_self_eq_true,VK,Ib,XO,F0 (show a.length+1<=68719476736 by omega),I];generalize s.getD (i+1) 0=x at *;generalize s.getD (i+2) 0=y at *;by_cases N:dig x<16
      ·by_cases O:dig y<16
       ·have w1:Eg x=(dig x:Int):=by unfold Eg;rw[if_pos N]
        have T:Eg y=(dig y:Int):=by unfold Eg;rw[if_pos O]
        have U:A1 ((16:Int)*(dig x:Int))=((16*dig x:Nat):Int):=by rw[A7];omega
        have V:A1 (((16*dig x:Nat):Int)+(dig y:Int))=((16*dig x+dig y:Nat):Int):=by rw[A7];omega
        have W:wu8 ((16*dig x+dig y:Nat):Int)=((y8 (16*dig x+dig y)).toNat:Int):=by
         rw[L6];simp;omega
        grind
       grind
      grind
     by_cases o:dig (s.getD (i+1) 0)<16/\dig (s.getD (i+2) 0)<16
     ·rw[if_pos o];have w:(decide (dig (s.getD (i+1) 0)<16)&&decide (dig (s.getD (i+2) 0)<16))=true:=by rw[decide_eq_true o.1,decide_eq_true o.2];rfl
      refine⟨λt f R c d=>?_,λh=>?_⟩
      ·cases j:R2 (s.drop (i+3)) with
       | none=>rw[j] at f;cases f
       | some q=>
        rw[j] at f;simp only[ac3,p7] at f;subst f;rw[top,w,cond_true,A q j,v7];rfl
      ·cases j:R2 (s.drop (i+3)) with
       | some q=>rw[j] at h;cases h
       | none=>
        obtain⟨l,e⟩:=B j;exact⟨l,λR c d=>by rw[top,w,cond_true,e]⟩
     ·rw[if_neg o];have w:(decide (dig (s.getD (i+1) 0)<16)&&decide (dig (s.getD (i+2) 0)<16))=false:=by grind
      exact⟨λt h=>(by cases h),λ_=>⟨_,λR c d=>by rw[top,w,cond_false]⟩⟩
    ·have k:R2 (s.getD i 0::s.drop (i+1))=none:=by
      rw[g];cases o:s.drop (i+1) with
      | nil=>rfl
      | cons x r=>
       cases r with
       | nil=>rfl
       | cons y S=>
        exfalso;have:=congrArg j6 o;rw[j7,s8,s8] at this;omega
     rw[k];refine⟨λt h=>(by cases h),λ_=>⟨a.map D7,λR c d=>?_⟩⟩;rw[O0];rw[A8,E5,C9,C,g,F];simp only[vl];rw[B5 (show((s.length-i:Nat):Int)<3 by omega)];rfl
   ·rw[TX _ g];obtain⟨A,B⟩:=G (i+1) n (a++[s.getD i 0]) (by omega) (by omega) (by omega) (by simp;omega);have u:(s.getD i 0==37)=false:=by simpa using g
    have top:∀(R:Type) (c:LL->Option R) (d:LL->Option R),O0 LF (n+1) s (i:Int) (a.map D7) c d=O0 LF n s ((i+1:Nat):Int) ((a++[s.getD i 0]).map D7) c d:=by
     intro R c d;rw[O0];rw[A8,E5,C9,C,u,p,F0 (by omega),D,v];rfl
    refine⟨λt f R c d=>?_,λh=>?_⟩
    ·cases j:R2 (s.drop (i+1)) with
     | none=>rw[j] at f;cases f
     | some q=>
      rw[j] at f;simp only[ac3,p7] at f;subst f;rw[top,A q j,v7];rfl
    ·cases j:R2 (s.drop (i+1)) with
     | some q=>rw[j] at h;cases h
     | none=>
      obtain⟨l,e⟩:=B j;exact⟨l,λR c d=>by rw[top,e]⟩
  ·rw[j1 (by omega)];refine⟨λt f R c d=>?_,λh=>(by cases h)⟩;simp only[R2,p7] at f;subst f;rw[O0];rw[A5,ac1];rfl
theorem B95(s:By)(d:A3 s.length=true):∃r H,Bf3 LF s (λi j h=>rv (.tup [.s (.str i),.s (.bool j)]) [.arr true 5 1 h])=rv r H/\
  r.stab [0,0] H = .tup [.s (.str (En s)),.s (.bool (R2 s).isSome)]:=by
 have g:=L4 d;have f:=C1;obtain⟨b,c⟩:=Ay6 s g s.length 0 LF [] (by omega) (by omega) (by omega) (by simp);rw[k9] at b c;unfold En;cases a:R2 s with
 | none=>
  obtain⟨l,e⟩:=c a;exact⟨.tup [.s (.str []),.s (.bool false)],[.arr true 5 1 l],e _ _ _,rfl⟩
 | some t=>
  refine⟨.tup [.s (.str t),.s (.bool true)],[.arr true 5 1 (t.map D7)],?_,rfl⟩;unfold Bf3;refine a8 (b t a _ _ _) ?_;rw[x6,V9,W8];rfl
theorem Bq3{R:Type}{a b:Unit->Option R}(l:List By)(k:l.length<=1000000001)(h:∀x∈l,x.length<=1000000000):∀(r i n:Nat),i+r=l.length->r<n->
  Lp LF n (D4 l) (i:Int) a b=if (l.drop i).all K6 then b () else a ():=by
 intro r
 induction r with
 | zero=>
  intro i n e f;obtain⟨n,rfl⟩:∃m,n=m+1:=⟨n-1,by omega⟩
  rw[Lp];rw[F5,A5,j1 (by omega)];rfl
 | succ r j=>
  intro i n e f;obtain⟨n,rfl⟩:∃m,n=m+1:=⟨n-1,by omega⟩
  rw[Lp];have c:A1 ((i:Int)+1)=((i+1:Nat):Int):=by rw[A7];rfl
  have d:l.drop i=l.getD i []::l.drop (i+1):=by
   rw[j4,j8 (by omega),aa3,ab8]
  have g:(l.getD i []).length<=1000000000:=h _ (by
   rw[j4,j8 (by omega),aa3];exact aa0 _)
  rw[F5,A8,E5,b8,Q8 (by omega),V5,E1 g,d,aa4,c];simp only[cond_true];rw[j (i+1) n (by omega) (by omega)];cases K6 (l.getD i []) with
  | true=>rw[x8];rfl
  | false=>rfl
theorem Bq4{R:Type}{c:Bool->Option R}(s:By)(b:A3 s.length=true):Ct8 LF s c=c (Z3 s):=by
 have k:=L4 b;have d:=C1;unfold Ct8;by_cases a:s=[]
 ·subst a;rfl
 ·have f:(s==([]:By))=false:=by simpa using a
  rw[f,cond_false];unfold Z3;by_cases i:253<s.length
  ·rw[A8,show v8 s.length 253=false by rw[j9,ne_eq,p4];omega];rfl
  ·rw[A5,cond_false,b,cond_true,show v8 s.length 253=true by rw[p4];omega];cases j:G0 s with
   | true=>rfl
   | false=>
    rw[cond_false,cond_true];have g:=Hp 46 s;have e:=Fy 46 s;refine a8 (Bq3 (pcs 46 s) (by omega) (λx h=>by have:=(Db h).2;omega) (pcs 46 s).length 0 LF (by omega) (by omega)) ?_;grind
theorem Ca2(j:Int)(i:By)(v4 a b c d e f g h:Int)(n:A3 i.length=true)(o:ltN v4 4294967296=true)(p:ok8 a b c d e f g h=true) :
  ∃r H,Ca0 LF j i v4 a b c d e f g h (λz q A t u v w x n8 y l m k=>rv (.s (.bool z)) [.box (Ql q A t u v w x n8 y l m),.arr false 25 1 k])=rv r H/\
   r.stab [] H = .s (.bool (M6 (mkH j i v4 (n8 a b c d e f g h)))):=Bc8 j i v4 a b c d e f g h n o p
theorem B99(j:Int)(i:By)(v4 a b c d e f g h:Int)(m:A3 i.length=true)(n:ltN v4 4294967296=true)(o:ok8 a b c d e f g h=true) :
  ∃r H,B97 LF j i v4 a b c d e f g h (λy p z q t u v w n8 x k l=>rv (.s (.str y)) [.box (Ql p z q t u v w n8 x k l)])=rv r H/\
   r.stab [] H = .s (.str (Io (mkH j i v4 (n8 a b c d e f g h)))):=Bc7 j i v4 a b c d e f g h m n o
def jn:Nat->By->List By->By
 | _,name,[]=>name
 | 0,name,x::r=>jn 1 (name++x) r
 | i+1,name,x::r=>jn (i+2) (name++[46]++x) r
theorem Bd2:∀(l:List By) (i:Nat) (name:By),jn (i+1) name l=name++ad5 [46] l
 | [],i,name=>by simp[jn,ad5]
 | x::r,i,name=>by
  rw[jn,Bd2 r];simp[ad5]
theorem Co9(l:List By):jn 0 [] l=ac4 l [46]:=by
 cases l with
 | nil=>rfl
 | cons x r=>rw[jn,Bd2,Lib.join_cons,x6]
theorem Cd9{x:By}(h:(I5 x).2=0):(I5 x).1.length<=63:=by
 have a:F6 [x]=([(I5 x).1],0):=by simp[F6,h]
 have:=(Jf [x] (by rw[a])).1 (I5 x).1 (by rw[a];simp);exact(Qk this).le
theorem UJ(e:List By)(C:e.length<=1000000)(D:∀x∈e,x.length<=1000000000):∀(c:List By) (i n:Nat) (name:By),e.drop i=c->i+c.length=e.length->c.length<n->name.length<=64*i->
  ((F6 c).2=0->∀(R:Type) (a:Int->Option R) (b:By->Option R),I9 LF n name (D4 e) (i:Int) a b=b (jn i name (F6 c).1))/\
  ((F6 c).2≠0->∀(R:Type) (a:Int->Option R) (b:By->Option R),I9 LF n name (D4 e) (i:Int) a b=a ((F6 c).2:Nat)):=by
 intro c
 induction c with
 | nil=>
  intro i n name p q y t;obtain⟨n,rfl⟩:∃m,n=m+1:=⟨n-1,by omega⟩
  simp only[x5] at q;refine⟨λ_ R a b=>?_,λh=>absurd rfl h⟩;rw[I9];rw[F5,A5];simp only[F6,jn];rfl
 | cons x r z=>
  intro i n name p q y t;simp only[s8] at q y;obtain⟨n,rfl⟩:∃m,n=m+1:=⟨n-1,by omega⟩
  have A:A1 ((i:Int)+1)=((i+1:Nat):Int):=by rw[A7];rfl
  have k:e.getD i []=x:=by
   have:=congrArg (λl=>l.getD 0 []) p;simpa[j4,List.getElem?_drop] using this
  have g:e.drop (i+1)=r:=by
   rw[<-aa9,p];rfl
  have u:x.length<=1000000000:=D x (by
   rw[<-k,j4,j8 (by omega),aa3];exact aa0 _)
  have top:∀(R:Type) (a:Int->Option R) (b:By->Option R),I9 LF (n+1) name (D4 e) (i:Int) a b=cond (((I5 x).2:Int)!=0) (a ((I5 x).2:Nat)) (cond (ltI 0 (i:Int)) (cond (F3 name.length 1) (cond (F3 (name++[46]).length (I5 x).1.length) (I9 LF n (name++[46]++(I5 x).1) (D4 e) ((i+1:Nat):Int) a b) none) none) (cond (F3 name.length (I5 x).1.length) (I9 LF n (name++(I5 x).1) (D4 e) ((i+1:Nat):Int) a b) none)):=by
   intro R a b;rw[I9];rw[F5,A8,E5,b8,Q8 (by omega),V5,k,E1 u,A];rfl
  unfold F6;by_cases h:(I5 x).2=0
  ·rw[if_pos h];have B:=Cd9 h;have o:(((I5 x).2:Int)!=0)=false:=by rw[h];rfl
   cases i with
   | zero=>
    obtain⟨v,w⟩:=z 1 n (name++(I5 x).1) g (by omega) (by omega) (by rw[j5];omega);have d:∀(R:Type) (a:Int->Option R) (b:By->Option R),I9 LF (n+1) name (D4 e) ((0:Nat):Int) a b=I9 LF n (name++(I5 x).1) (D4 e) ((1:Nat):Int) a b:=by
     intro R a b;rw[top,o,A5,E6 (m:=name.length) (n:=(I5 x).1.length) (by omega)];rfl
    exact⟨λf R a b=>(d R a b).trans (v f R a b),λf R a b=>(d R a b).trans (w f R a b)⟩
   | succ j=>
    obtain⟨v,w⟩:=z (j+2) n (name++[46]++(I5 x).1) g (by omega) (by omega) (by rw[j5,j5,s7];omega);have d:∀(R:Type) (a:Int->Option R) (b:By->Option R),I9 LF (n+1) name (D4 e) ((j+1:Nat):Int) a b=I9 LF n (name++[46]++(I5 x).1) (D4 e) ((j+2:Nat):Int) a b:=by
     intro R a b;rw[top,o,A8,E6 (by omega),E6 (by rw[j5,s7];omega)];rfl
    exact⟨λf R a b=>(d R a b).trans (v f R a b),λf R a b=>(d R a b).trans (w f R a b)⟩
  ·rw[if_neg h];have o:(((I5 x).2:Int)!=0)=true:=by simpa using h
   exact⟨λf=>absurd f h,λ_ R a b=>by rw[top,o,cond_true]⟩
theorem KJ{R:Type}{b:Int->Int->By->Int->Option R}(u:By)(q:u.length<=1024):Cs LF u b =
  if G0 u then (match pnB u with
   | some v=>b 0 2 [] (v:Nat)
   | none=>b 14 0 [] 0)
  else if (F6 (pcs 46 u)).2=0 then (
   if 253<(ac4 (F6 (pcs 46 u)).1 [46]).length then b 3 0 [] 0 else if G0 (ac4 (F6 (pcs 46 u)).1 [46]) then b 14 0 [] 0 else b 0 1 (ac4 (F6 (pcs 46 u)).1 [46]) 0)
  else b ((F6 (pcs 46 u)).2:Nat) 0 [] 0:=by
 have h:=C1;unfold Cs;rw[N0,cond_true];cases o:G0 u with
 | true=>
  rw[if_pos rfl,cond_true,cond_true];cases p:pnB u with
  | none=>rfl
  | some v=>rfl
 | false=>
  rw[if_neg (by simp),cond_false,cond_true];have l:=Hp 46 u;have i:=Fy 46 u;obtain⟨f,m⟩:=UJ (pcs 46 u) (by omega) (λx d=>by have:=(Db d).2;omega) (pcs 46 u) 0 LF [] (k9) (by omega) (by omega) (by simp);rw[Co9] at f;by_cases c:(F6 (pcs 46 u)).2=0
  ·rw[if_pos c];refine a8 (f c _ _ _) ?_;obtain⟨g,n⟩:=Jf _ c;have j:=TA [46] 63 (F6 (pcs 46 u)).1 (λx d=>(Qk (g x d)).le);have e:(63+([46]:By).length)*(F6 (pcs 46 u)).1.length<=64*1025:=ae7 (by simp) (by omega);generalize ac4 (F6 (pcs 46 u)).1 [46]=name at *;by_cases a:253<name.length
   ·rw[if_pos a,A8,cond_true]
   ·rw[if_neg a,A5,cond_false,N0,cond_true];cases k:G0 name with
    | true=>rfl
    | false=>rfl
  ·rw[if_neg c];exact m c _ _ _
abbrev C68:Int->By->Int->Int->Int->By->Int->Option (PV × List Blk × Unit):=λc d e f a g b=>rv (.tup [.agg (Ql c d e 0 0 0 0 0 0 0 0),.s (.int .i64 f)]) [.box (Ql a g b 0 0 0 0 0 0 0 0)]
abbrev Dg1:Int->Int->Int->Int->Int->Int->Int->Int->Int->Int->LL->Option (PV × List Blk × Unit):=λa b c d e f g h r8 i l10=>rv (.tup [.agg (Ql a [] 0 b c d e f g h r8),.s (.int .i64 i)]) [.box (Ql a [] 0 b c d e f g h r8),.arr false 25 1 l10]
theorem VG{t:By}(h:t≠[])(a:t.getD (t.length-1) 0=46):I1 t=t.take (t.length-1):=by unfold I1;rw[if_pos ((CW t 46 h).2 a),List.dropLast_eq_take]
theorem Af8{t:By}(h:t≠[])(a:¬t.getD (t.length-1) 0=46):I1 t=t:=by unfold I1;grind
theorem Qx(s:By)(x:s.length<=1024)(j:s.head?≠some 91):∃r H,Ct LF s (λh b d c=>C68 b d c h b d c)=rv r H/\r.stab [0,0] H = .tup [AW (C6 s).1,.s (.int .i64 ((C6 s).2:Nat))]:=by
 have l:=C1;unfold Ct;rw[N0,cond_true];cases i:R2 s with
 | none=>
  have e:C6 s=(K4,14):=by unfold C6;rw[F9,if_neg j,i]
  rw[e];exact⟨_,_,rfl,rfl⟩
 | some t=>
  have p:t.length<=s.length:=DA s t i;have q:En s=t:=by unfold En;rw[i];rfl
  have o:(I1 t).length<=t.length:=by unfold I1;split<;>simp
  have m:C6 s=if G0 (I1 t) then (match pnB (I1 t) with
      | some v=>(⟨2,[],v,z8⟩,0)
      | none=>(K4,14))
     else if (F6 (pcs 46 (I1 t))).2=0 then (
      let name:=ac4 (F6 (pcs 46 (I1 t))).1 [46]
      if 253<name.length then (K4,3) else if G0 name then (K4,14) else (⟨1,name,0,z8⟩,0))
     else (K4,(F6 (pcs 46 (I1 t))).2):=by
   unfold C6;rw[F9,if_neg j,i];rfl
  have f:∃r H,Cs LF (I1 t) (λh b d c=>C68 b d c h b d c)=rv r H/\r.stab [0,0] H = .tup [AW (C6 s).1,.s (.int .i64 ((C6 s).2:Nat))]:=by
   rw[KJ _ (by omega),m];split
   ·split<;>exact⟨_,_,rfl,rfl⟩
   ·split
    ·simp only;split
     ·exact⟨_,_,rfl,rfl⟩
     ·split<;>exact⟨_,_,rfl,rfl⟩
    ·exact⟨_,_,rfl,rfl⟩
  rw[q];simp only[ad2,c9,cond_false];by_cases a:t=[]
  ·subst a;exact f
  ·have w:0<t.length:=x7.2 a;have n:(t==([]:By))=false:=by simpa using a
   have k:A1 ((t.length:Int)-1)=((t.length-1:Nat):Int):=by rw[A7];omega
   have u:(((t.getD (t.length-1) 0).toNat:Int)==46)=(t.getD (t.length-1) 0==46):=P8 _ 46 (by omega);rw[n,k];simp only[j0,cond_true,vl];rw[E5,C9,u,cond_true];by_cases g:t.getD (t.length-1) 0=46
   ·rw[g,beq_self_eq_true,cond_true,H9,cond_true,J8,b8,<-VG a g];exact f
   ·rw[show(t.getD (t.length-1) 0==46)=false by simpa using g,cond_false];rw[Af8 a g] at f;exact f
theorem Az1(s:By)(k:A3 s.length=true):∃r H,Vx LF s C68 Dg1=rv r H/\r.stab [0,0] H = .tup [AW (C6 s).1,.s (.int .i64 ((C6 s).2:Nat))]:=by
 have u:=L4 k;have l:=C1;unfold Vx;by_cases i:1024<s.length
 ·have e:C6 s=(K4,3):=by unfold C6;rw[if_pos i]
  rw[e,A8,cond_true];exact⟨_,_,rfl,rfl⟩
 ·rw[A5,cond_false];by_cases c:s=[]
  ·subst c;exact Qx [] (by simp) (by simp)
  ·have q:0<s.length:=x7.2 c;have m:(s==([]:By))=false:=by simpa using c
   have o:(bAt s 0==(91:Int))=(s.getD 0 0==91):=by rw[Z5];exact P8 _ 91 (by omega)
   have g:s.head? = some (s.getD 0 0):=by
    cases s with
    | nil=>exact absurd rfl c
    | cons b t=>rfl
   rw[m,j0,cond_true,E5,cond_true,o];by_cases f:s.getD 0 0=91
   ·have e:C6 s=P0 s:=by unfold C6 P0;rw[if_neg i,if_pos (by rw[g,f])]<;>rfl
    have j:A1 ((s.length:Int)-1)=((s.length-1:Nat):Int):=by rw[A7];omega
    have p:(((s.getD (s.length-1) 0).toNat:Int)!=93) = !(s.getD (s.length-1) 0==93):=congrArg _ (P8 _ 93 (by omega));rw[e,f,beq_self_eq_true];unfold Gk P0;simp only[vl,j,cond_true];rw[E5,C9,p,cond_true];by_cases d:s.getD (s.length-1) 0=93
    ·have f:2<=s.length:=by grind
     rw[if_pos ⟨(CW s 93 c).2 d,f⟩,d,beq_self_eq_true,c9,cond_false,A5,cond_false,show(1:Int)=((1:Nat):Int) from rfl,H9,cond_true,Ef];have n:((s.take (s.length-1)).drop 1).length<=s.length:=by rw[j7,p6];omega
     rw[N0,cond_true];unfold v6c;cases v:v6B ((s.take (s.length-1)).drop 1) with
     | none=>exact⟨_,_,rfl,rfl⟩
     | some a=>exact⟨_,_,rfl,rfl⟩
    ·rw[if_neg (λh=>d ((CW s 93 c).1 h.1)),show(s.getD (s.length-1) 0==93)=false by simpa using d];exact⟨_,_,rfl,rfl⟩
   ·rw[show(s.getD 0 0==91)=false by simpa using f];exact Qx s (by omega) (by rw[g];simpa using f)
section
theorem JR:B0 j2 GX 148 Tt:=xf [] (GC LF) Xp rfl trivial rfl (by kernel_rfl) follows λargs=>by
 unfold Xp;split
 ·rename_i n;exact⟨rfl,rfl,rfl,_,_,(Br4 LF noY () 0 n).trans (Aa8 n ),rfl⟩
 ·trivial
theorem Ah2:B0 j2 GX 151 EJ:=xf [] (W4 LF) Xn rfl trivial rfl (by kernel_rfl) follows λargs=>by
 unfold Xn;split
 ·rename_i d c f;exact λa=>λb=>λe=>⟨rfl,rfl,rfl,_,_,(Bp4 LF noY () 0 d c f).trans (ZN d c f a b e),rfl⟩
 ·trivial
theorem Ci4:B0 j2 GX 149 Aj5:=xf [] (An0 LF) PX rfl trivial rfl (by kernel_rfl) follows λargs=>by
 unfold PX;split
 ·rename_i k b;exact λa=>λc=>⟨rfl,rfl,rfl,_,_,(Cv0 LF noY () 0 k b).trans (Bs0 k b a c),rfl⟩
 ·trivial
theorem Cz4:B0 j2 GX 150 A92:=xf [] (RS LF) EK rfl trivial rfl (by kernel_rfl) follows λargs=>by
 unfold EK;split
 ·rename_i d;exact λa=>⟨rfl,rfl,rfl,_,_,(B84 LF noY () 0 d).trans (Aw1 d a),rfl⟩
 ·trivial
theorem Da9:B0 j2 GX 176 Bz7:=xf [] (Ij LF) QD rfl trivial rfl (by kernel_rfl) follows λargs=>by
 unfold QD;split
 ·rename_i b;exact λa=>⟨rfl,rfl,rfl,_,_,(Cw1 LF noY () 0 b).trans (Bt0 b a),rfl⟩
 ·trivial
theorem Ci1:B0 j2 GX 120 Aj1:=xf [0,0] (M0 LF) PM rfl ⟨JR,Ci4,Cz4,Ah2,trivial⟩ rfl (by kernel_rfl) follows λargs=>by
 unfold PM;split
 ·rename_i b a p;exact λc=>(let⟨r,H,e,q⟩:=Ct5 b a p c;⟨rfl,rfl,rfl,r,H,(Ct3 LF noY () 0 b a p).trans e,q⟩)
 ·trivial
theorem C01:B0 j2 GX 156 A98:=xf [1,0] (J3 LF) EU rfl ⟨Da9,Ci4,Ah2,JR,trivial⟩ rfl (by kernel_rfl) follows λargs=>by
 unfold EU;split
 ·rename_i s;exact λa=>(let⟨r,H,e,q⟩:=Cb1 s a;⟨rfl,rfl,rfl,r,H,(Cb0 LF noY () 0 s).trans e,q⟩)
 ·trivial
theorem Da4:B0 j2 GX 119 Bz2:=xf [1,0] (N8 LF) PW rfl ⟨JR,trivial⟩ rfl (by kernel_rfl) follows λargs=>by
 unfold PW;split
 ·rename_i s;exact λa=>(let⟨r,H,e,q⟩:=Cu8 s a;⟨rfl,rfl,rfl,r,H,(Cu7 LF noY () 0 s).trans e,q⟩)
 ·trivial
theorem C03:B0 j2 GX 127 Ba0:=xf [] (Ku LF) EW rfl ⟨C01,Ci1,trivial⟩ rfl (by kernel_rfl) follows λargs=>by
 unfold EW;split
 ·rename_i s;exact λa=>⟨rfl,rfl,rfl,_,_,(Cb3 LF noY () 0 s).trans (A15 s a),rfl⟩
 ·trivial
theorem Bh9:B0 j2 GX 94 PS:=xf [] (Ks LF) ER rfl ⟨C03,trivial⟩ rfl (by kernel_rfl) follows λargs=>by
 unfold ER;split
 ·rename_i s;exact λa=>⟨rfl,rfl,rfl,_,_,(Ca5 LF noY () 0 s).trans (Az6 s a),rfl⟩
 ·trivial
theorem Cz9:B0 j2 GX 89 A97:=xf [0,0] (RV LF) EQ rfl ⟨Da4,Ci2,Ci1,Bh9,trivial⟩ rfl (by kernel_rfl) follows λargs=>by
 unfold EQ;split
 ·rename_i s;exact λa=>⟨rfl,rfl,rfl,_,_,(Ca4 LF noY () 0 s).trans (Az3 s a),rfl⟩
 ·trivial
theorem De8:B0 j2 GX 115 C15:=xf [] (Qs LF) Aj2 rfl trivial rfl (by kernel_rfl) follows λargs=>by
 unfold Aj2;split
 ·rename_i b;exact λa=>⟨rfl,rfl,rfl,_,_,(C67 LF noY () 0 b).trans (Ca3 b a),rfl⟩
 ·trivial
theorem Cz6:B0 j2 GX 85 A94:=xf [0,0] (Kq LF) EM rfl ⟨De8,trivial⟩ rfl (by kernel_rfl) follows λargs=>by
 unfold EM;split
 ·rename_i s;exact λa=>(let⟨r,H,e,q⟩:=B95 s a;⟨rfl,rfl,rfl,r,H,(B94 LF noY () 0 s).trans e,q⟩)
 ·trivial
theorem Bw8:B0 j2 GX 63 KX:=xf [0,0] (J7 LF) Ri rfl ⟨Da8,Cz6,JQ,C02,Oz,Cz9,trivial⟩ rfl (by kernel_rfl) follows λargs=>by
 unfold Ri;split
 ·rename_i s;exact λa=>(let⟨r,H,e,q⟩:=Az1 s a;⟨rfl,rfl,rfl,r,H,(Az0 LF noY () 0 s).trans e,q⟩)
 ·trivial
theorem Da3:B0 j2 GX 66 Bz1:=xf [] (Sd LF) PP rfl ⟨JQ,Oz,Bh9,trivial⟩ rfl (by kernel_rfl) follows λargs=>by
 unfold PP;split
 ·rename_i s;exact λa=>⟨rfl,rfl,rfl,_,_,(Ct9 LF noY () 0 s).trans (Bq4 s a),rfl⟩
 ·trivial
theorem Bh8:B0 j2 GX 48 PO:=xf [] (RU LF) EP rfl ⟨Da3,trivial⟩ rfl (by kernel_rfl) follows λargs=>by
 unfold EP;split
 ·rename_i j k v4 a b c d f g h i;exact λl=>λm=>λn=>(let⟨r,H,e,q⟩:=Ca2 j k v4 a b c d f g h i l m n;⟨rfl,rfl,rfl,r,H,(Ca1 LF noY () 0 j k v4 a b c d f g h i).trans e,q⟩)
 ·trivial
theorem Cz8:B0 j2 GX 52 A96:=xf [] (RT LF) EO rfl ⟨Bh8,Da5,Da7,trivial⟩ rfl (by kernel_rfl) follows λargs=>by
 unfold EO;split
 ·rename_i j k v4 a b c d f g h i;exact λl=>λm=>λn=>(let⟨r,H,e,q⟩:=B99 j k v4 a b c d f g h i l m n;⟨rfl,rfl,rfl,r,H,(B98 LF noY () 0 j k v4 a b c d f g h i).trans e,q⟩)
 ·trivial
end
section
theorem Ah4:B0 j2 GX 23 FD:=xf [] (GD LF) Xs rfl trivial rfl (by kernel_rfl) follows λargs=>by
 unfold Xs;split
 ·rename_i s;exact⟨rfl,rfl,rfl,_,_,(Bs3 LF noY () 0 s).trans (Ad5 s ),rfl⟩
 ·trivial
theorem Bi0:B0 j2 GX 45 PY:=xf [] (RY LF) FE rfl trivial rfl (by kernel_rfl) follows λargs=>by
 unfold FE;split
 ·rename_i s;exact⟨rfl,rfl,rfl,_,_,(Cc4 LF noY () 0 s).trans (A35 s ),rfl⟩
 ·trivial
theorem C04:B0 j2 GX 62 Ba1:=xf [] (Ac LF) EX rfl trivial rfl (by kernel_rfl) follows λargs=>by
 unfold EX;split
 ·rename_i s t;exact λa=>λb=>⟨rfl,rfl,rfl,_,_,(Cb5 LF noY () 0 s t).trans (A28 s t a b),rfl⟩
 ·trivial
theorem C07:B0 j2 GX 61 Ba4:=xf [0,0,0] (K8 LF) FC rfl ⟨Ci2,trivial⟩ rfl (by kernel_rfl) follows λargs=>by
 unfold FC;split
 ·rename_i s;exact λa=>⟨rfl,rfl,rfl,_,_,(Cc3 LF noY () 0 s).trans (A34 s a),rfl⟩
 ·trivial
theorem C05:B0 j2 GX 41 Ba2:=xf [0,0] (I8 LF) EY rfl ⟨C07,Ah4,C04,Bw8,Bi0,trivial⟩ rfl (by kernel_rfl) follows λargs=>by
 unfold EY;split
 ·rename_i s;exact λa=>(let⟨r,H,e,q⟩:=Cb9 s a;⟨rfl,rfl,rfl,r,H,(Cb8 LF noY () 0 s).trans e,q⟩)
 ·trivial
theorem Bw9:B0 j2 GX 14 Xr:=xf [0,0] (Yn LF) Rk rfl ⟨C05,trivial⟩ rfl (by kernel_rfl) follows λargs=>by
 unfold Rk;split
 ·rename_i s;exact λa=>(let⟨r,H,e,q⟩:=A31 s a;⟨rfl,rfl,rfl,r,H,(A30 LF noY () 0 s).trans e,q⟩)
 ·trivial
end
theorem Cc1(b q:By)(m:Int)(n:By)(v4 d e f g i j k l a:Int)(p:By) :
  ∃r H,Bg2 LF b q m n v4 d e f g i j k l a p (λo c=>rv (.s (.int .i64 o)) c)=rv r H/\r.stab [] H = .s (.int .i64 (prt b a)):=by
 unfold Bg2 prt;cases h:a==-1 with
 | true=>rw[show(a !=(-1:Int))=false by simp[bne,h]];exact⟨_,_,rfl,rfl⟩
 | false=>rw[show(a !=(-1:Int))=true by simp[bne,h]];exact⟨_,_,rfl,rfl⟩
section
theorem C06:B0 j2 GX 27 Ba3:=xf [] (RX LF) EZ rfl ⟨Bi0,trivial⟩ rfl (by kernel_rfl) follows λargs=>by
 unfold EZ;split
 ·rename_i n o j k v4 a b c d f g h i l m;exact(let⟨r,H,e,q⟩:=Cc1 n o j k v4 a b c d f g h i l m ; ⟨rfl,rfl,rfl,r,H,(Cc0 LF noY () 0 n o j k v4 a b c d f g h i l m).trans e,q⟩)
 ·trivial
end
section
variable {Z R : Type} (L : Nat) (Q : G1) (Y : Yh Z) (s : Z) (k : Out -> St Z -> Option R)
noncomputable abbrev WZ:Code:=C3 af8
noncomputable def Fs(L:Nat):Cfg:=B4 L [37] (A2 [(2,[0,0,2,0])]) [] (A2 [(6,[4]),(3,[0,0,3]),(5,[4]),(4,[0,0,3,12]),(2,[0,0,3,3]),(1,[0,0,3]),(0,[0,0])]) [] (A2 [(0,[]),(1,[0,0,3])]) (some [4]) [] [] []
noncomputable def Cl{R:Type}(L n:Nat)(n0:Int)(d c:Bool)(b:LL)(a:Int)(e:Unit->Option R)(f:Unit->Option R):Option R:=match n with|0=>none|n+1=>cond (ltI a (b.length:Int)) (cond (inR a b.length) (cond (okE Oq b (b9 a) 0) (cond (ltI n0 (↑(j6 (gX b (b9 a) 0)):Int)) (e ()) (Cl L n n0 d c b (A1 (a+1)) e f)) none) none) (f ())
theorem TC(n n0 l_z1 l_t2 l3 i4):C4 0 ((Fs L).keep 2) (bd (Fs L) Q Y (cd [1,0,1,0,0] WZ)) n ⟨gp [(0,pI n0),(0,.s (.sl l_z1 l_t2 1 l3)),(3,pI i4)] 13,[],s⟩ k =
 Cl L n n0 l_z1 l_t2 l3 i4 (λ_=>k .ret ⟨gp [(4,pB false)] 14,[],s⟩) (λ_=>k (.exit 0) ⟨gp [] 19,[],s⟩):=by
 induction n generalizing n0 l_z1 l_t2 l3 i4 with
 | zero=>rfl
 | succ n a=>rw[Cl];simp only[<-a];kernel_rfl
noncomputable def TB{R:Type}(L:Nat)(n0:Int)(b a:Bool)(d:LL)(c:Bool->Option R):Option R:=Cl L L n0 b a d 0 (λ_=>c false) (λ_=>c true)
theorem Bl9(d:Nat)(n0 l_z1 l_t2 l3):evC (Fs L) (d+1) Z Y 37 [pI n0,.s (.sl l_z1 l_t2 1 l3)] [] s=TB L n0 l_z1 l_t2 l3 (λa=>some (pB a,[],s)):=by refine(evE (fn:=af8) (by kernel_rfl)).trans ?_;generalize evC (Fs L) d=Q;unfold TB;exact(a8 (by kernel_rfl) ((TC L Q Y s (E2 0 (D9 (Fs L) Q Y (cd [1,1] WZ) (F2 (Fs L) af8))) L n0 l_z1 l_t2 l3 0).trans (by kernel_rfl)))
end
end
section
open Go Go.Proofs Go.Sort
set_option maxRecDepth 100000
theorem AZ{R:Type}(n:Int)(z t:Bool)(l:List By)(c d:Unit->Option R)(j:l.length<=1000000000):∀(r:List By) (i m:Nat),l.drop i=r->r.length<m->Cl LF m n z t (D4 l) (i:Int) c d=if Lz n r then d () else c ()
 | [],i,m,h,b=>by
  obtain⟨m,rfl⟩:∃q,m=q+1:=⟨m-1,by simp at b;omega⟩
  rw[Cl];have:l.length<=i:=ac5.1 h;rw[E3 (by rw[F5];omega)];rfl
 | x::r,i,m,h,b=>by
  obtain⟨m,rfl⟩:∃q,m=q+1:=⟨m-1,by simp at b;omega⟩
  rw[Cl];have a:i<l.length:=Decidable.byContradiction λg=>by
   rw[ac5.2 (by omega)] at h;cases h
  have o:l.getD i []=x:=by
   have:=ab1 a;rw[h] at this;rw[j4,j8 a];exact(af2 this).1.symm
  have k:l.drop (i+1)=r:=by
   have:=ab1 a;rw[h] at this;exact(af2 this).2.symm
  rw[B5 (by rw[F5];omega),cond_true,J6 (by omega) (by rw[F5];omega),cond_true,b8,Q8 a,cond_true,V5,o];have e:Lz n (x::r)=(!(ltI n (x.length:Int))&&Lz n r):=rfl;rw[e];by_cases f:n<(x.length:Int)
  ·rw[B5 f];rfl
  ·rw[A5,cond_false,A7,j0,x8];exact AZ n z t l c d j r (i+1) m k (by simp at b;omega)
theorem YP{R:Type}{b:Bool->Option R}(n:Int)(z t:Bool)(l:LL)(c:l.all isS=true)(d:A3 l.length=true):TB LF n z t l b=b (Lz n (l.map elS)):=by
 have e:=C1;have a:=L4 d;rw[Bg5 c] at a ⊢;generalize l.map elS=q at a ⊢;rw[F5] at a;unfold TB;rw[show(0:Int)=((0:Nat):Int) from rfl,AZ n z t q _ _ a q 0 LF rfl (by omega)];have:y9 elS (D4 q)=q:=by
  unfold D4;rw[List.map_map];exact List.map_id'' (λ_=>rfl) q
 rw[this];cases Lz n q<;>rfl
end
section
open Go Go.Proofs
set_option maxRecDepth 100000
section
theorem Ch3:B0 j2 GX 37 DX:=xf [] (Fs LF) Xj rfl trivial rfl (by kernel_rfl) follows λargs=>by
 unfold Xj;split
 ·rename_i n b a l;exact λc=>λd=>⟨rfl,rfl,rfl,_,_,(Bl9 LF noY () 0 n b a l).trans (YP n b a l c d),rfl⟩
 ·trivial
end
end
section
open Go
def ofB(u:Bb):Bool:=G3 u.sch&&Mg u
structure OC where
 s:By
 k:Int
 n:By
 v:Int
 a:List Int
 p:Int
 b:Bool
def ofC(i n:By)(j:Int)(k:By)(v4 a b c d e f g h l:Int)(m:By):OC:=
 cond (ofB (mkU i n j k v4 (n8 a b c d e f g h) l m)) ⟨i,j,k,v4,[a,b,c,d,e,f,g,h],prt i l,true⟩ ⟨[],0,[],0,[0,0,0,0,0,0,0,0],0,false⟩
abbrev oS(c:OC):By:=c.s
abbrev oK(c:OC):Int:=c.k
abbrev oN(c:OC):By:=c.n
abbrev oV(c:OC):Int:=c.v
abbrev oA(c:OC)(i:Nat):Int:=c.a.getD i 0
abbrev oP(c:OC):Int:=c.p
abbrev oB(c:OC):Bool:=c.b
def Df5:By:=[108,111,99,97,108,104,111,115,116]
def YU(i:Int)(j:By)(v4 a b c d e f g h:Int):Bool:=
 cond (M6 (mkH i j v4 (n8 a b c d e f g h))) (cond (i==2) (On .u32 v4 24==127) (cond (i==3) ((a==0)&&((b==0)&&((c==0)&&((d==0)&&((e==0)&&((f==0)&&((g==0)&&((h==1)&&true)))))))) (Uc Df5 j))) false
def B05:By:=[102,105,108,101]
def Ak9:By:=[97,98,111,117,116]
def A56(i n:By)(k:Int)(l:By)(v4 a b c d e f g h m:Int)(j:By):Bool:=
 cond (Mg (mkU i n k l v4 (n8 a b c d e f g h) m j)) (cond (i==Ie||(i==JU||i==B05)) true (cond (i==Ak9) (j==[98,108,97,110,107]||j==[115,114,99,100,111,99]) (cond (G3 i) (YU k l v4 a b c d e f g h) false))) false
def ZB(b:By)(h:B2)(a:Int):By:=
 if G3 b=true/\M6 h=true/\0<=a/\a<=65535 then b++58::47::47::(Io h++(if a=J9 b then [] else 58::Bw a)) else []
end
section
open Go Go.Proofs
set_option maxRecDepth 100000
section
def Ai7:List PV->Tr
 | [.agg [.s (.str l),.s (.str m),.s (.int .i64 n),.s (.str i),.s (.int .u32 v4),.s (.int .u16 a),.s (.int .u16 b),.s (.int .u16 c),.s (.int .u16 d),.s (.int .u16 e),.s (.int .u16 f),.s (.int .u16 g),.s (.int .u16 h),.s (.int .i64 j),.s (.str k)]]=>.need (smU l m i k) (.need (ltN v4 4294967296) (.need (ok8 a b c d e f g h) (.need (Ip j) (.ret (.tup [.agg [.s (.str (oS (ofC l m n i v4 a b c d e f g h j k))),.s (.int .i64 (oK (ofC l m n i v4 a b c d e f g h j k))),.s (.str (oN (ofC l m n i v4 a b c d e f g h j k))),.s (.int .u32 (oV (ofC l m n i v4 a b c d e f g h j k))),.s (.int .u16 (oA (ofC l m n i v4 a b c d e f g h j k) 0)),.s (.int .u16 (oA (ofC l m n i v4 a b c d e f g h j k) 1)),.s (.int .u16 (oA (ofC l m n i v4 a b c d e f g h j k) 2)),.s (.int .u16 (oA (ofC l m n i v4 a b c d e f g h j k) 3)),.s (.int .u16 (oA (ofC l m n i v4 a b c d e f g h j k) 4)),.s (.int .u16 (oA (ofC l m n i v4 a b c d e f g h j k) 5)),.s (.int .u16 (oA (ofC l m n i v4 a b c d e f g h j k) 6)),.s (.int .u16 (oA (ofC l m n i v4 a b c d e f g h j k) 7)),.s (.int .i64 (oP (ofC l m n i v4 a b c d e f g h j k)))],.s (.bool (oB (ofC l m n i v4 a b c d e f g h j k)))]) []))))
 | _=>.fail
def By5(args:List PV):Tr:=Ai7 (B8 [[0,0,0,0,0,0,0,0,0,0,0,0,0,0,0]] args)
def PA:List PV->Tr
 | [.agg [.s (.str l),.s (.int .i64 j),.s (.str i),.s (.int .u32 v4),.s (.int .u16 a),.s (.int .u16 b),.s (.int .u16 c),.s (.int .u16 d),.s (.int .u16 e),.s (.int .u16 f),.s (.int .u16 g),.s (.int .u16 h),.s (.int .i64 k)]]=>.need (A3 (j6 i)) (.need (ltN v4 4294967296) (.need (ok8 a b c d e f g h) (.ret (.s (.str (ZB l (mkH j i v4 (n8 a b c d e f g h)) k))) [])))
 | _=>.fail
def EE(args:List PV):Tr:=PA (B8 [[0,0,0,0,0,0,0,0,0,0,0,0,0]] args)
def EF:List PV->Tr
 | [.agg [.s (.int .i64 j),.s (.str i),.s (.int .u32 v4),.s (.int .u16 a),.s (.int .u16 b),.s (.int .u16 c),.s (.int .u16 d),.s (.int .u16 e),.s (.int .u16 f),.s (.int .u16 g),.s (.int .u16 h)]]=>.need (A3 (j6 i)) (.need (ltN v4 4294967296) (.need (ok8 a b c d e f g h) (.ret (.s (.bool (YU j i v4 a b c d e f g h))) [])))
 | _=>.fail
def CM(args:List PV):Tr:=EF (B8 [[0,0,0,0,0,0,0,0,0,0,0]] args)
def Xk:List PV->Tr
 | [.agg [.s (.str l),.s (.str m),.s (.int .i64 n),.s (.str i),.s (.int .u32 v4),.s (.int .u16 a),.s (.int .u16 b),.s (.int .u16 c),.s (.int .u16 d),.s (.int .u16 e),.s (.int .u16 f),.s (.int .u16 g),.s (.int .u16 h),.s (.int .i64 j),.s (.str k)]]=>.need (smU l m i k) (.need (ltN v4 4294967296) (.need (ok8 a b c d e f g h) (.need (Ip j) (.ret (.s (.bool (A56 l m n i v4 a b c d e f g h j k))) []))))
 | _=>.fail
def EG(args:List PV):Tr:=Xk (B8 [[0,0,0,0,0,0,0,0,0,0,0,0,0,0,0]] args)
def ES:List PV->Tr
 | [.agg [.s (.str l),.s (.int .i64 j),.s (.str i),.s (.int .u32 v4),.s (.int .u16 a),.s (.int .u16 b),.s (.int .u16 c),.s (.int .u16 d),.s (.int .u16 e),.s (.int .u16 f),.s (.int .u16 g),.s (.int .u16 h),.s (.int .i64 k)]]=>.need (A3 (j6 i)) (.need (ltN v4 4294967296) (.need (ok8 a b c d e f g h) (.ret (.s (.str (ZB l (mkH j i v4 (n8 a b c d e f g h)) k))) [])))
 | _=>.fail
def PU(args:List PV):Tr:=ES (B8 [[0,0,0,0,0,0,0,0,0,0,0,0,0]] args)
def Rd:List PV->Tr
 | []=>.ret (.s (.bool true)) []
 | _=>.fail
def Xd(args:List PV):Tr:=Rd (B8 [] args)
end
section
variable {Z R : Type} (L : Nat) (Q : G1) (Y : Yh Z) (s : Z) (k : Out -> St Z -> Option R)
noncomputable def B21(L:Nat):Cfg:=B4 L [31] (A2 []) [(22,Ph),(16,Xz),(26,Aj9)] (A2 [(3,[2,0]),(2,[2,0]),(1,[1,0,9]),(0,[1,0])]) [22,16,26] (A2 []) (some [2,0]) [] [] []
noncomputable def oof{R:Type}(L:Nat)(f o:By)(n:Int)(g:By)(h i j l u8 m a b c d:Int)(e:By)(p:By->Int->By->Int->Int->Int->Int->Int->Int->Int->Int->Int->Int->Bool->(List Blk)->Option R):Option R:=cond (not (G3 f)) (p e0 0 e0 0 0 0 0 0 0 0 0 0 0 false [(bU f o n g h i j l u8 m a b c d e),bO0]) (cond (smU f o g e) (cond (ltN h 4294967296) (cond (ok8 i j l u8 m a b c) (cond (Ip d) (cond (not (Mg (mkU f o n g h (n8 i j l u8 m a b c) d e))) (p e0 0 e0 0 0 0 0 0 0 0 0 0 0 false [(bU f o n g h i j l u8 m a b c d e),bO0]) (p f n g h i j l u8 m a b c (prt f d) true [(bU f o n g h i j l u8 m a b c d e),(bO f n g h i j l u8 m a b c (prt f d))])) none) none) none) none)
theorem C59(d:Nat)(u0 u1 u2 u3 u4 u5 u6 u7 u8 u9 u10 u11 u12 u13 u14):evC (B21 L) (d+1) Z Y 31 [(gU u0 u1 u2 u3 u4 u5 u6 u7 u8 u9 u10 u11 u12 u13 u14)] [] s=oof L u0 u1 u2 u3 u4 u5 u6 u7 u8 u9 u10 u11 u12 u13 u14 (λg h i j l m n o r8 p b c e f a=>some (.tup [(gO g h i j l m n o r8 p b c e),pB f],a,s)):=by refine(evE (fn:=Tryz.f31) (by kernel_rfl)).trans ?_;generalize evC (B21 L) d=Q;unfold oof;kernel_rfl
noncomputable def Am7(L:Nat):Cfg:=B4 L [38] (A2 []) [(22,Ph),(46,OL),(50,Ai1),(26,Aj9),(51,OQ)] (A2 [(6,[2]),(5,[3]),(4,[1,1,33]),(3,[1,1]),(2,[2]),(1,[1,21]),(0,[1])]) [22,46,50,26,51] (A2 []) (some [2]) [] [] []
noncomputable def Cq9{R:Type}(L:Nat)(d:By)(p:Int)(e:By)(f g h i j l m b c a:Int)(q:By->(List Blk)->Option R):Option R:=cond (not (G3 d)) (q e0 [(bO d p e f g h i j l m b c a)]) (cond (A3 e.length) (cond (ltN f 4294967296) (cond (ok8 g h i j l m b c) (cond (not (M6 (mkH p e f (n8 g h i j l m b c)))) (q e0 [(bO d p e f g h i j l m b c a)]) (cond (ltI a 0) (q e0 [(bO d p e f g h i j l m b c a)]) (cond (ltI 65535 a) (q e0 [(bO d p e f g h i j l m b c a)]) (cond (F3 d.length 3) (vl (d++[58,47,47]) λn=>cond (A3 e.length) (cond (ltN f 4294967296) (cond (ok8 g h i j l m b c) (vl (Io (mkH p e f (n8 g h i j l m b c))) λo=>cond (F3 n.length o.length) (cond (a !=(prt d ((-1):Int))) (cond (Ip a) (cond (F3 1 (j6 (Bw a))) (vl (([58]:List UInt8)++(Bw a)) λr=>cond (F3 (j6 (n++o)) r.length) (q ((n++o)++r) [(bO d p e f g h i j l m b c a)]) none) none) none) (q (n++o) [(bO d p e f g h i j l m b c a)])) none) none) none) none) none)))) none) none) none)
theorem Cr0(d:Nat)(o0 o1 o2 o3 o4 o5 o6 o7 o8 o9 o10 o11 o12):evC (Am7 L) (d+1) Z Y 38 [(gO o0 o1 o2 o3 o4 o5 o6 o7 o8 o9 o10 o11 o12)] [] s=Cq9 L o0 o1 o2 o3 o4 o5 o6 o7 o8 o9 o10 o11 o12 (λb a=>some (pS b,a,s)):=by refine(evE (fn:=Tryz.f38) (by kernel_rfl)).trans ?_;generalize evC (Am7 L) d=Q;unfold Cq9;kernel_rfl
noncomputable def RO(L:Nat):Cfg:=B4 L [33] (A2 []) [(46,OL),(47,Bx8)] (A2 [(8,[2]),(5,[2]),(7,[2]),(6,[1,12]),(4,[1,5,0]),(3,[1,5]),(2,[2]),(1,[1,3]),(0,[1])]) [46,47] (A2 [(0,[1])]) (some [2]) [] [] []
noncomputable def Be7{R:Type}(L:Nat)(c:Int)(b:By)(d e f g h i j l a:Int)(m:Bool->(List Blk)->Option R):Option R:=cond (A3 b.length) (cond (ltN d 4294967296) (cond (ok8 e f g h i j l a) (cond (not (M6 (mkH c b d (n8 e f g h i j l a)))) (m false [(bH c b d e f g h i j l a)]) (cond (c==2) (vl (On .u32 d (24:Int)) λn=>m (n==127) [(bH c b d e f g h i j l a)]) (cond (c==3) (m ((e==0)&&((f==0)&&((g==0)&&((h==0)&&((i==0)&&((j==0)&&((l==0)&&((a==1)&&true)))))))) [(bH c b d e f g h i j l a)]) (cond (A3 b.length) (m (Uc ([108,111,99,97,108,104,111,115,116]:List UInt8) b) [(bH c b d e f g h i j l a)]) none)))) none) none) none
theorem B71(d:Nat)(h0 h1 h2 h3 h4 h5 h6 h7 h8 h9 h10):evC (RO L) (d+1) Z Y 33 [(gH h0 h1 h2 h3 h4 h5 h6 h7 h8 h9 h10)] [] s=Be7 L h0 h1 h2 h3 h4 h5 h6 h7 h8 h9 h10 (λb a=>some (pB b,a,s)):=by refine(evE (fn:=Tryz.f33) (by kernel_rfl)).trans ?_;generalize evC (RO L) d=Q;unfold Be7;kernel_rfl
noncomputable abbrev Nl:Code:=C3 ae8
noncomputable def W0(L:Nat):Cfg:=B4 L [35] (A2 []) [(16,Xz),(22,Ph),(33,CM)] (A2 [(10,[2]),(7,[2]),(9,[2]),(8,[1,10]),(6,[1,5,0]),(5,[1,5,0]),(4,[1,5,0]),(3,[1,5]),(2,[2]),(1,[1,3]),(0,[1])]) [16,22,33] (A2 [(0,[1])]) (some [2]) [] [] []
noncomputable def Fg{R:Type}(g:By)(q:Bool)(n:By)(h:Int)(o:By)(i j l n8 m b c d e f:Int)(a:By)(p:Bool->(List Blk)->Option R)(r:Bool->By->By->Int->By->Int->Int->Int->Int->Int->Int->Int->Int->Int->Int->By->Option R):Option R:=cond q (p true [(bU g n h o i j l n8 m b c d e f a)]) (cond (g==[97,98,111,117,116]) (cond (a==[98,108,97,110,107]) (p true [(bU g n h o i j l n8 m b c d e f a)]) (p (a==[115,114,99,100,111,99]) [(bU g n h o i j l n8 m b c d e f a)])) (r (g==[97,98,111,117,116]) g n h o i j l n8 m b c d e f a))
abbrev BD(b:Code):Prop:=∀(k:Out->St Z->Option R) s0 b1 n h o i j l n8 m a c d e f g,A9 (W0 L) Q Y b ⟨gp [(1,.ptr 0 0 0),(5,pS s0),(0,pB b1)] 21,[(bU s0 n h o i j l n8 m a c d e f g)],s⟩ k=Fg s0 b1 n h o i j l n8 m a c d e f g (λp q=>k .ret ⟨gp [(2,pB p)] 27,q,s⟩) (λp r n h o i j l n8 m a c d e f g=>k .normal ⟨gp [(1,.ptr 0 0 0),(10,pB p)] 17,[(bU r n h o i j l n8 m a c d e f g)],s⟩)
theorem TS:BD (R:=R) L Q Y s (cd [1,1,0,1,0,1] Nl):=by intro k n g o h p i j l n8 m a b c d e f;unfold Fg;kernel_rfl
noncomputable def Fh{R:Type}(n p:By)(m:Int)(l:By)(g h i n8 j a b c d e:Int)(f:By)(o:Bool->(List Blk)->Option R):Option R:=cond (G3 n) (cond (A3 l.length) (cond (ltN g 4294967296) (cond (ok8 h i n8 j a b c d) (o (YU m l g h i n8 j a b c d) [(bU n p m l g h i n8 j a b c d e f)]) none) none) none) (o false [(bU n p m l g h i n8 j a b c d e f)])
abbrev BE(b:Code):Prop:=∀(k:Out->St Z->Option R) a s1 s2 n3 s4 n5 n6 n7 n8 n9 n10 n11 n12 n13 n14 s15,A9 (W0 L) Q Y b ⟨gp [(1,.ptr 0 0 0),(10,pB a)] 17,[(bU s1 s2 n3 s4 n5 n6 n7 n8 n9 n10 n11 n12 n13 n14 s15)],s⟩ k=Fh s1 s2 n3 s4 n5 n6 n7 n8 n9 n10 n11 n12 n13 n14 s15 (λa c=>k .ret ⟨gp [(2,pB a)] 27,c,s⟩)
theorem TT:BE (R:=R) L Q Y s (cd [1,1,1] Nl):=by intro k g n o h p i j l n8 m a b c d e f;unfold Fh;kernel_rfl
noncomputable def IE{R:Type}(L:Nat)(f h:By)(u2:Int)(i:By)(j l m n u8 o a b c d:Int)(e:By)(g:Bool->(List Blk)->Option R):Option R:=cond (smU f h i e) (cond (ltN j 4294967296) (cond (ok8 l m n u8 o a b c) (cond (Ip d) (cond (not (Mg (mkU f h u2 i j (n8 l m n u8 o a b c) d e))) (g false [(bU f h u2 i j l m n u8 o a b c d e)]) (cond (f==[104,116,116,112,115]) (Fg f (f==[104,116,116,112,115]) h u2 i j l m n u8 o a b c d e g (λc0 b3 b4 a9 b5 b0 b1 b2 p q r t u v w X=>Fh b3 b4 a9 b5 b0 b1 b2 p q r t u v w X g)) (cond (f==[119,115,115]) (Fg f (f==[119,115,115]) h u2 i j l m n u8 o a b c d e g (λb6 a0 a1 x a2 y z A B C D F G H I a3=>Fh a0 a1 x a2 y z A B C D F G H I a3 g)) (Fg f (f==[102,105,108,101]) h u2 i j l m n u8 o a b c d e g (λb7 a4 a5 J a6 K M N O P S T U V W a7=>Fh a4 a5 J a6 K M N O P S T U V W a7 g))))) none) none) none) none
theorem Bn3(c:Code)(a:BD (R:=PV × List Blk × Z) L Q Y s c)(d:Code)(b:BE (R:=PV × List Blk × Z) L Q Y s d)(j u1:By)(u2:Int)(u3:By)(u4 u5 u6 u7 u8 u9 e f g h:Int)(i:By):A9 (W0 L) Q Y (cd [] (G4 [1,1,1] d (G4 [1,1,0,1,0,1] c Nl))) ⟨[(gU j u1 u2 u3 u4 u5 u6 u7 u8 u9 e f g h i)]++tps 29,[],s⟩ (F2 (W0 L) ae8)=IE L j u1 u2 u3 u4 u5 u6 u7 u8 u9 e f g h i (λr0 H1=>some (pB r0,H1,s)):=by unfold IE;exact let K0:=(F2 (W0 L) ae8);let K1:=(E2 0 (D9 (W0 L) Q Y d K0));(a8 (by kernel_rfl) (A0 (A0 (A0 (A0 (A0 rfl (A0 ((a K1 j (j==[104,116,116,112,115]) u1 u2 u3 u4 u5 u6 u7 u8 u9 e f g h i).trans (congr (congr rfl (by kernel_rfl)) (fx1 λa6=>(fx1 λb2=>(fx1 λb3=>(fx1 λa7=>(fx1 λb4=>(fx1 λa9=>(fx1 λb0=>(fx1 λb1=>(fx1 λn=>(fx1 λo=>(fx1 λp=>(fx1 λq=>(fx1 λr=>(fx1 λt=>(fx1 λu=>(fx1 λV=>(a8 (by kernel_rfl) ((b K0 a6 b2 b3 a7 b4 a9 b0 b1 n o p q r t u V).trans (by kernel_rfl))))))))))))))))))))) (A0 ((a K1 j (j==[119,115,115]) u1 u2 u3 u4 u5 u6 u7 u8 u9 e f g h i).trans (congr (congr rfl (by kernel_rfl)) (fx1 λl=>(fx1 λW=>(fx1 λX=>(fx1 λv=>(fx1 λa0=>(fx1 λw=>(fx1 λx=>(fx1 λy=>(fx1 λz=>(fx1 λA=>(fx1 λB=>(fx1 λC=>(fx1 λD=>(fx1 λF=>(fx1 λG=>(fx1 λa1=>(a8 (by kernel_rfl) ((b K0 l W X v a0 w x y z A B C D F G a1).trans (by kernel_rfl))))))))))))))))))))) ((a K1 j (j==[102,105,108,101]) u1 u2 u3 u4 u5 u6 u7 u8 u9 e f g h i).trans (congr (congr rfl (by kernel_rfl)) (fx1 λm=>(fx1 λa2=>(fx1 λa3=>(fx1 λH=>(fx1 λa4=>(fx1 λI=>(fx1 λJ=>(fx1 λK=>(fx1 λM=>(fx1 λN=>(fx1 λO=>(fx1 λP=>(fx1 λS=>(fx1 λT=>(fx1 λU=>(fx1 λa5=>(a8 (by kernel_rfl) ((b K0 m a2 a3 H a4 I J K M N O P S T U a5).trans (by kernel_rfl)))))))))))))))))))))))) rfl) rfl) rfl) rfl))
theorem Bn4(d:Nat)(u0 u1 u2 u3 u4 u5 u6 u7 u8 u9 u10 u11 u12 u13 u14):evC (W0 L) (d+1) Z Y 35 [(gU u0 u1 u2 u3 u4 u5 u6 u7 u8 u9 u10 u11 u12 u13 u14)] [] s=IE L u0 u1 u2 u3 u4 u5 u6 u7 u8 u9 u10 u11 u12 u13 u14 (λb a=>some (pB b,a,s)):=
 (evE (fn:=ae8) (by kernel_rfl)).trans (a8 (by kernel_rfl) (Bn3 L (evC (W0 L) d) Y s (cd [1,1,0,1,0,1] Nl) (TS L (evC (W0 L) d) Y s) (cd [1,1,1] Nl) (TT L (evC (W0 L) d) Y s) u0 u1 u2 u3 u4 u5 u6 u7 u8 u9 u10 u11 u12 u13 u14))
noncomputable def RW(L:Nat):Cfg:=B4 L [39] (A2 []) [(23,FD),(48,PO),(52,A96),(27,Ba3),(53,DP)] (A2 [(6,[2]),(5,[3]),(4,[1,1,33]),(3,[1,1]),(2,[2]),(1,[1,21]),(0,[1])]) [23,48,52,27,53] (A2 []) (some [2]) [] [] []
noncomputable def Bf7{R:Type}(L:Nat)(d:By)(p:Int)(e:By)(f g h i j l m b c a:Int)(q:By->(List Blk)->Option R):Option R:=cond (not (G3 d)) (q e0 [(bO d p e f g h i j l m b c a)]) (cond (A3 e.length) (cond (ltN f 4294967296) (cond (ok8 g h i j l m b c) (cond (not (M6 (mkH p e f (n8 g h i j l m b c)))) (q e0 [(bO d p e f g h i j l m b c a)]) (cond (ltI a 0) (q e0 [(bO d p e f g h i j l m b c a)]) (cond (ltI 65535 a) (q e0 [(bO d p e f g h i j l m b c a)]) (cond (F3 d.length 3) (vl (d++[58,47,47]) λn=>cond (A3 e.length) (cond (ltN f 4294967296) (cond (ok8 g h i j l m b c) (vl (Io (mkH p e f (n8 g h i j l m b c))) λo=>cond (F3 n.length o.length) (cond (a !=(prt d ((-1):Int))) (cond (ltN a 9223372036854775808) (vl (af1 (b9 a)) λr=>cond (F3 1 r.length) (vl (([58]:List UInt8)++r) λt=>cond (F3 (j6 (n++o)) t.length) (q ((n++o)++t) [(bO d p e f g h i j l m b c a)]) none) none) none) (q (n++o) [(bO d p e f g h i j l m b c a)])) none) none) none) none) none)))) none) none) none)
theorem Ca7(d:Nat)(o0 o1 o2 o3 o4 o5 o6 o7 o8 o9 o10 o11 o12):evC (RW L) (d+1) Z Y 39 [(gO o0 o1 o2 o3 o4 o5 o6 o7 o8 o9 o10 o11 o12)] [] s=Bf7 L o0 o1 o2 o3 o4 o5 o6 o7 o8 o9 o10 o11 o12 (λb a=>some (pS b,a,s)):=by refine(evE (fn:=Tryz.f39) (by kernel_rfl)).trans ?_;generalize evC (RW L) d=Q;unfold Bf7;kernel_rfl
end
abbrev Dd4(f:Int->By->Int->Int->Int->Int->Int->Int->Int->Int->Int->(Bool->List Blk->Option (PV × List Blk × Unit))->Option (PV × List Blk × Unit))(k:Int)(j:By)(v4 a b c d e g h i:Int):Prop:=
 A3 j.length=true->ltN v4 4294967296=true->ok8 a b c d e g h i=true->∃r H,f k j v4 a b c d e g h i (λm l=>rv (.s (.bool m)) l)=rv r H/\r.stab [] H = .s (.bool (YU k j v4 a b c d e g h i))
theorem B72(a:Int)(j:By)(v4 b c d e f g h i:Int):Dd4 (Be7 LF) a j v4 b c d e f g h i:=λk l m=>by
 unfold Be7 YU;rw[k,l,m];cases M6 (mkH a j v4 (n8 b c d e f g h i))<;>cases a==2<;>cases a==3<;>exact⟨_,_,rfl,rfl⟩
abbrev rvO(m:By)(f:Int)(n:By)(g h i j k n8 l c d e:Int)(b:Bool)(a:List Blk):=rv (.tup [gO m f n g h i j k n8 l c d e,.s (.bool b)]) a
abbrev pvO(q:OC):PV:=.tup [gO (oS q) (oK q) (oN q) (oV q) (oA q 0) (oA q 1) (oA q 2) (oA q 3) (oA q 4) (oA q 5) (oA q 6) (oA q 7) (oP q),.s (.bool (oB q))]
theorem C60(a m:By)(n:Int)(j:By)(v4 b c d e f g h i k:Int)(l:By)(o:smU a m j l=true)(p:ltN v4 4294967296=true)(q:ok8 b c d e f g h i=true)(t:Ip k=true) :
  ∃r H,oof LF a m n j v4 b c d e f g h i k l rvO=rv r H/\r.stab [0,0] H=pvO (ofC a m n j v4 b c d e f g h i k l):=by
 unfold oof ofC ofB;rw[o,p,q,t,show(mkU a m n j v4 (n8 b c d e f g h i) k l).sch=a from rfl];cases G3 a<;>cases Mg (mkU a m n j v4 (n8 b c d e f g h i) k l)<;>exact⟨_,_,rfl,rfl⟩
theorem BY{s:By}(h:G3 s=true):s.length<=5:=by simp only[G3,ac0,beq_iff_eq] at h;rcases h with(rfl|rfl)|rfl|rfl<;>decide
theorem ZC{b F:By}{a:Int}(e:¬a=J9 b):(b++[58,47,47]++F)++([58]++Bw a)=b++58::47::47::(F++(if a=J9 b then [] else 58::Bw a)):=by rw[if_neg e];simp
theorem Cr1(b:By)(n:Int)(c:By)(v4 d f g i j k l m a:Int)(h0:A3 c.length=true)(h1:ltN v4 4294967296=true)(o:ok8 d f g i j k l m=true) :
  ∃r H,Cq9 LF b n c v4 d f g i j k l m a (λv t=>rv (.s (.str v)) t)=rv r H/\r.stab [] H = .s (.str (ZB b (mkH n c v4 (n8 d f g i j k l m)) a)):=by
 have x:=Uo (CT (h0:=n) (h1:=c) h1 o);unfold Cq9 ZB;rw[h0,h1,o];cases u:G3 b with
 | false=>exact⟨_,_,rfl,rfl⟩
 | true=>
  have y:=BY u;cases z:M6 (mkH n c v4 (n8 d f g i j k l m)) with
  | false=>exact⟨_,_,rfl,rfl⟩
  | true=>
   by_cases p:0<=a
   ·by_cases q:a<=65535
    ·have w:=Pt (Ny.2 ⟨by omega,by omega⟩:Ip a=true);rw[A5,A5,if_pos ⟨rfl,rfl,p,q⟩,Ny.2 ⟨by omega,by omega⟩,show prt b (-1)=J9 b from rfl];simp only[vl,cond_true,cond_false,c9];rw[E6 (by omega),cond_true,E6 (by simp;omega),cond_true];by_cases e:a=J9 b
     ·rw[show(a !=J9 b)=false by simpa using e,if_pos e];refine⟨_,_,rfl,?_⟩;simp;rfl
     ·rw[show(a !=J9 b)=true by simpa using e,cond_true,E6 (by omega),cond_true,E6 (by simp;omega),<-ZC e];exact⟨_,_,rfl,rfl⟩
    ·rw[A5,A8,if_neg (λh=>q h.2.2.2)];exact⟨_,_,rfl,rfl⟩
   ·rw[A8,if_neg (λh=>p h.2.2.1)];exact⟨_,_,rfl,rfl⟩
theorem Ca8(b:By)(n:Int)(c:By)(v4 d f g i j k l m a:Int)(h0:A3 c.length=true)(h1:ltN v4 4294967296=true)(o:ok8 d f g i j k l m=true) :
  ∃r H,Bf7 LF b n c v4 d f g i j k l m a (λw t=>rv (.s (.str w)) t)=rv r H/\r.stab [] H = .s (.str (ZB b (mkH n c v4 (n8 d f g i j k l m)) a)):=by
 have y:=Uo (CT (h0:=n) (h1:=c) h1 o);unfold Bf7 ZB;rw[h0,h1,o];cases v:G3 b with
 | false=>exact⟨_,_,rfl,rfl⟩
 | true=>
  have z:=BY v;cases A:M6 (mkH n c v4 (n8 d f g i j k l m)) with
  | false=>exact⟨_,_,rfl,rfl⟩
  | true=>
   by_cases p:0<=a
   ·by_cases q:a<=65535
    ·have x:=Pt (Ny.2 ⟨by omega,by omega⟩:Ip a=true);have u:af1 a.toNat=Bw a:=(F9).symm;rw[A5,A5,if_pos ⟨rfl,rfl,p,q⟩,E0.2 ⟨by omega,by omega⟩,show prt b (-1)=J9 b from rfl,u];simp only[vl,cond_true,cond_false,c9];rw[E6 (by omega),cond_true,E6 (by simp;omega),cond_true];by_cases e:a=J9 b
     ·rw[show(a !=J9 b)=false by simpa using e,if_pos e];refine⟨_,_,rfl,?_⟩;simp;rfl
     ·rw[show(a !=J9 b)=true by simpa using e,cond_true,E6 (by omega),cond_true,E6 (by simp;omega),<-ZC e];exact⟨_,_,rfl,rfl⟩
    ·rw[A5,A8,if_neg (λh=>q h.2.2.2)];exact⟨_,_,rfl,rfl⟩
   ·rw[A8,if_neg (λh=>p h.2.2.1)];exact⟨_,_,rfl,rfl⟩
theorem Bn5(a m:By)(n:Int)(b:By)(v4 d e f g h i j k l:Int)(c:By)(o:smU a m b c=true)(q:ltN v4 4294967296=true)(t:ok8 d e f g h i j k=true)(u:Ip l=true) :
  ∃r H,IE LF a m n b v4 d e f g h i j k l c (λv p=>rv (.s (.bool v)) p)=rv r H/\r.stab [] H = .s (.bool (A56 a m n b v4 d e f g h i j k l c)):=by
 obtain⟨x,y,z,A⟩:=UZ o;have w:A3 b.length=true:=N0;unfold IE Fg Fh A56;simp only[o,q,t,u,w,show(a==([104,116,116,112,115]:List UInt8))=(a==Ie) from rfl,show(a==([119,115,115]:List UInt8))=(a==JU) from rfl,show(a==([102,105,108,101]:List UInt8))=(a==B05) from rfl,show(a==([97,98,111,117,116]:List UInt8))=(a==Ak9) from rfl];cases Mg (mkU a m n b v4 (n8 d e f g h i j k) l c)<;>cases a==Ie<;>cases a==JU<;>cases a==B05<;>cases a==Ak9<;>cases G3 a<;>cases c==([98,108,97,110,107]:List UInt8)<;>exact⟨_,_,rfl,rfl⟩
section
variable {Z R : Type} (L : Nat) (Q : G1) (Y : Yh Z) (s : Z) (k : Out -> St Z -> Option R)
noncomputable def LN(L:Nat):Cfg:=B4 L [30] (A2 []) [(14,Xr),(31,By5),(38,EE),(35,EG),(33,CM)] (A2 [(4,[0]),(3,[1,1,0,0]),(2,[1,1,0]),(1,[1]),(0,[])]) [38,35,33] (A2 []) (some [0]) [] [] []
noncomputable def Bb6(L:Nat):Cfg:=B4 L [9] (A2 []) [(37,DX),(30,Xd),(38,EE),(39,PU)] (A2 [(3,[2]),(2,[2]),(1,[1,8]),(0,[1])]) [37,30,38,39] (A2 []) (some [2]) [] [] []
noncomputable def lof{R:Type}(L:Nat)(e:By)(n:Int)(d:By)(f g h i j l m a b c:Int)(o:Bool->(List Blk)->Option R):Option R:=cond (ab6 [[(SV.str e)],[(SV.str d)]] isS) (cond (not (Lz (400:Int) (y9 elS [[(SV.str e)],[(SV.str d)]]))) (o true [(bO e n d f g h i j l m a b c)]) (cond (A3 d.length) (cond (ltN f 4294967296) (cond (ok8 g h i j l m a b) (vl (ZB e (mkH n d f (n8 g h i j l m a b)) c) λp=>cond (A3 d.length) (cond (ltN f 4294967296) (cond (ok8 g h i j l m a b) (vl (ZB e (mkH n d f (n8 g h i j l m a b)) c) λq=>cond (p==q) (o true [(bO e n d f g h i j l m a b c)]) (o false [(bO e n d f g h i j l m a b c)])) none) none) none) none) none) none)) none
theorem C57(d:Nat)(o0 o1 o2 o3 o4 o5 o6 o7 o8 o9 o10 o11 o12):evC (Bb6 L) (d+1) Z Y 9 [(gO o0 o1 o2 o3 o4 o5 o6 o7 o8 o9 o10 o11 o12)] [] s=lof L o0 o1 o2 o3 o4 o5 o6 o7 o8 o9 o10 o11 o12 (λb a=>some (pB b,a,s)):=by refine(evE (fn:=ac7) (by kernel_rfl)).trans ?_;generalize evC (Bb6 L) d=Q;unfold lof;kernel_rfl
end
def B74:List Ty:=[.str,.int .i64,.str,.int .u32,.int .u16,.int .u16,.int .u16,.int .u16,.int .u16,.int .u16,.int .u16,.int .u16,.int .i64]
theorem Ck7{P:Program}{t:Nat}{v:PV}(h:WE P t v)(e:Mv P 20 t=some B74)(B:FS P t=true) :
  ∃r o p v4 a b c d f g i j q,v=gO r o p v4 a b c d f g i j q/\ltN v4 4294967296=true/\ok8 a b c d f g i j=true:=by
 obtain⟨L,l,k,m,n⟩:=h;rw[e] at k;obtain rfl:=aa7 k;simp only[B74,Ty.ofL] at m;obtain⟨_,_,rfl,⟨r,rfl,_⟩,_,_,rfl,⟨o,rfl,O,Q⟩,_,_,rfl,⟨p,rfl,N⟩,_,_,rfl,⟨v4,rfl,v1,M⟩,_,_,rfl,u,_,_,rfl,k,_,_,rfl,m,_,_,rfl,w,_,_,rfl,x,_,_,rfl,y,_,_,rfl,z,_,_,rfl,A,_,_,rfl,⟨q,rfl,R,S⟩,rfl⟩:=m;simp[IntKind.min,IntKind.max,IntKind.signed,IntKind.bits] at v1 M;obtain⟨a,rfl,C⟩:=Ot u;obtain⟨b,rfl,D⟩:=Ot k;obtain⟨c,rfl,F⟩:=Ot m;obtain⟨d,rfl,G⟩:=Ot w;obtain⟨f,rfl,H⟩:=Ot x;obtain⟨g,rfl,I⟩:=Ot y;obtain⟨i,rfl,J⟩:=Ot z;obtain⟨j,rfl,K⟩:=Ot A;rcases n with⟨_,rfl⟩|⟨n,_⟩
 ·exact⟨r,o,p,v4,a,b,c,d,f,g,i,j,q,rfl,E0.2 ⟨v1,by omega⟩,by simp[ok8,C,D,F,G,H,I,J,K]⟩
 ·rw[B] at n;cases n
theorem Cp6(args:List PV)(h:Ki j2 [43] args):∃d c,evC (Bb6 LF) d Unit noY 9 args [] ()=some (.s (.bool true),c,()):=by
 obtain⟨v1,v,rfl,n,rfl⟩:=h;obtain⟨b,q,a,v4,e,f,g,i,j,k,l,m,u,rfl,r,t⟩:=Ck7 n (by kernel_rfl) (by kernel_rfl);refine⟨1,?_⟩;show Tru _;refine Eq.subst (motive:=Tru) (C57 (Z:=Unit) LF noY () 0 b q a v4 e f g i j k l m u).symm ?_;unfold lof;rw[show ab6 [[SV.str b],[SV.str a]] isS=true from rfl,cond_true,show y9 elS [[SV.str b],[SV.str a]]=[b,a] from rfl];cases p:Lz 400 [b,a] with
 | false=>exact⟨_,rfl⟩
 | true=>
  have o:A3 a.length=true:=by
   simp only[Lz,aa4,List.all_nil,ab4,w9,ad3,Jp] at p;exact N0
  simp only[o,r,t,vl,cond_true,cond_false,c9,beq_self_eq_true];exact⟨_,rfl⟩
section
theorem Bh6:B0 j2 GX 33 CM:=xf [] (RO LF) EF rfl ⟨A79,C91,trivial⟩ rfl (by kernel_rfl) follows λargs=>by
 unfold EF;split
 ·rename_i j k v4 a b c d f g h i;exact λl=>λm=>λn=>(let⟨r,H,e,q⟩:=B72 j k v4 a b c d f g h i l m n;⟨rfl,rfl,rfl,r,H,(B71 LF noY () 0 j k v4 a b c d f g h i).trans e,q⟩)
 ·trivial
theorem De7:B0 j2 GX 31 By5:=xf [0,0] (B21 LF) Ai7 rfl ⟨Xa,NU,Cj3,trivial⟩ rfl (by kernel_rfl) follows λargs=>by
 unfold Ai7;split
 ·rename_i n o j k v4 a b c d f g h i l m;exact λp=>λt=>λu=>λv=>(let⟨r,H,e,q⟩:=C60 n o j k v4 a b c d f g h i l m p t u v;⟨rfl,rfl,rfl,r,H,(C59 LF noY () 0 n o j k v4 a b c d f g h i l m).trans e,q⟩)
 ·trivial
theorem Ch7:B0 j2 GX 38 EE:=xf [] (Am7 LF) PA rfl ⟨Xa,A79,Cg9,Cj3,Bh4,trivial⟩ rfl (by kernel_rfl) follows λargs=>by
 unfold PA;split
 ·rename_i m j k v4 a b c d f g h i l;exact λn=>λo=>λp=>(let⟨r,H,e,q⟩:=Cr1 m j k v4 a b c d f g h i l n o p;⟨rfl,rfl,rfl,r,H,(Cr0 LF noY () 0 m j k v4 a b c d f g h i l).trans e,q⟩)
 ·trivial
theorem Ch8:B0 j2 GX 35 EG:=xf [] (W0 LF) Xk rfl ⟨NU,Xa,Bh6,trivial⟩ rfl (by kernel_rfl) follows λargs=>by
 unfold Xk;split
 ·rename_i n o j k v4 a b c d f g h i l m;exact λp=>λt=>λu=>λv=>(let⟨r,H,e,q⟩:=Bn5 n o j k v4 a b c d f g h i l m p t u v;⟨rfl,rfl,rfl,r,H,(Bn4 LF noY () 0 n o j k v4 a b c d f g h i l m).trans e,q⟩)
 ·trivial
theorem C00:B0 j2 GX 39 PU:=xf [] (RW LF) ES rfl ⟨Ah4,Bh8,Cz8,C06,A78,trivial⟩ rfl (by kernel_rfl) follows λargs=>by
 unfold ES;split
 ·rename_i m j k v4 a b c d f g h i l;exact λn=>λo=>λp=>(let⟨r,H,e,q⟩:=Ca8 m j k v4 a b c d f g h i l n o p;⟨rfl,rfl,rfl,r,H,(Ca7 LF noY () 0 m j k v4 a b c d f g h i l).trans e,q⟩)
 ·trivial
end
section
theorem WU:DF (evC (LN LF) 1 Unit noY 30 [] [] ())=true:=by kernel_rfl
theorem Bw4:B0 j2 GX 30 Xd:=
 B0.fix (pf:=Rd) _ (by
  have h:=A82 (C₀:=LN LF) (L7.ok (l:=[(14,Xr),(31,By5),(38,EE),(35,EG),(33,CM)]) rfl ⟨Bw9,De7,Ch7,Ch8,Bh6,trivial⟩) (I4 rfl (by kernel_rfl)) follows WU;have e:(λargs:List PV=>match args with|[]=>Tr.ret (.s (.bool true)) []|_=>.fail)=Rd:=by
   funext args
   cases args<;>rfl
  rw[<-e];exact h)
end
end
section
open Go Go.ChangeAt Go.ChangeShapes Go.Proofs Go.RowKit Go.WideShapes
set_option maxRecDepth 100000
section
theorem As0(os:Os)(a:os.Started)(H:Type)(enc:TypeId × Value->H) :
  ReturnsInHanded {} Tryz.checked os 9 .any (λw args=>(Rows.originFormatMatchesSpecSpec.pre enc j2 ac7 Rows.originFormatMatchesSpecRow.domain false w args/\laidMetH j2 Ea w)/\sizedMet enc j2 ac7 (OpenSpec.ofChange Rows.originFormatMatchesSpecSpec) false w args) (Rows.originFormatMatchesSpecSpec.post enc j2 ac7 false true false false):=
 Ar4 a (C:=Bb6 LF) (tb:=4) rfl rfl (L7.ok (l:=[(37,DX),(30,Xd),(38,EE),(39,PU)]) rfl ⟨Ch3,Bw4,Ch7,C00,trivial⟩) (I4 rfl (by kernel_rfl)) (by kernel_rfl) af0 (c:=C3 ac7) rfl (by kernel_rfl)
  (by
   intro t d;obtain rfl:t=43:=by simpa using(show t∈[43] from d)
   exact⟨⟨by kernel_rfl,of_decide_eq_true (by kernel_rfl)⟩,by kernel_rfl⟩) rfl (by kernel_rfl) rfl
  (λds b=>by
   match ds,b with
   | [e],_=>rfl)
  #[(.agg #[(.string ⟨#[]⟩),(.int .i64 0),(.string ⟨#[]⟩),(.int .u32 0),(.int .u16 0),(.int .u16 0),(.int .u16 0),(.int .u16 0),(.int .u16 0),(.int .u16 0),(.int .u16 0),(.int .u16 0),(.int .i64 0)])] 8 (by kernel_rfl) (by kernel_rfl) (by kernel_rfl)
  (λargs h=>Cp6 args h)
theorem Bm3:Rows.OriginFormatMatchesSpecSaid:=
 OpenClaim.holds_of_wide 9 ac7 rfl rfl rfl rfl rfl rfl rfl ⟨rfl,rfl,rfl,rfl,rfl⟩ rfl rfl rfl rfl rfl (by kernel_rfl) af0 (by kernel_rfl)
  (of_decide_eq_true (by kernel_rfl)) (by unfold Func.isWrapper;first|(rw[if_pos (by decide +kernel)];kernel_rfl)|(rw[if_neg (by decide +kernel)];exact⟨rfl,rfl⟩))
  (λos a H enc _=>As0 os a H enc)
theorem lof_card:Rows.OriginFormatMatchesSpecCardSaid:=
 Claim7.holds_tied_plain_at .later [] [.data,.data,.data,.data,.pinned] true (true, "0163afbbd4bdcc0cb024432ec76efa84c49da410dbc3a82ef375aee9434dc149") false Bm3 (λ_ h=>by cases h) (by kernel_rfl) (λ_ h=>by cases h) originFormatMatchesSpec_row_tie rfl ⟨rfl,rfl⟩ (by kernel_rfl) rfl
  (λf fn c b=>by
   obtain rfl:f=9:=aa7 ((show j2.funcNamed "hstsstore/hstsstorelaw16.OriginFormatMatchesSpec" = some 9 by kernel_rfl).symm.trans c) |>.symm
   obtain rfl:fn=ac7:=(aa7 (af0.symm.trans b)).symm;exact⟨by kernel_rfl,λj t e=>by
    have d:t∈[43]:=Array.mem_toList_iff.2 (Array.mem_of_getElem? e);have a:([43].all λu=>!j2.wantsStandIn u)=true:=by kernel_rfl
    exact(show j2.wantsStandIn t=false by simpa using List.all_eq_true.1 a t d)⟩)
  (by kernel_rfl)
end
end
#print axioms lof_card
end Go.Proofs.YtcfingekgbbclaaGreatDoor.E
