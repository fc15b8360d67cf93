/-
  Parts of the proof, merged by a program of the prover's own; no condition.
-/
import Derived.Test.YtghjngpjgomdnaaGreatDoorKMC3
import Derived.Lib.JoinLaws
import Derived.Lib.TrimAscii
import Derived.Lib.TrimUEq
import Derived.Lib.ValidLaws
import Derived.Shelf.LaysM
import Derived.Shelf.SlSortCmp.Insertion
import Derived.Shelf.Small.Strs
import Derived.Shelf.Spec.SlicesInsert
import Derived.Shelf.Spec.SlicesInsertGrow
import Derived.Shelf.Spec.TrailingZeros
import Derived.Shelf.Strconv.Itoa3
import Derived.Shelf.Strings.Count
import Derived.Shelf.Strings.Cut
import Derived.Shelf.Strings.IndexAnyAll
import Derived.Shelf.Strings.LastIndex
import Derived.Shelf.Strings.OnBuilder
import Derived.Shelf.Strings.Search3
import Derived.Shelf.Unicode.ValidAny
import Derived.Shelf.Utf8.RuneCount
import Derived.Sort.AssemblyPlain
import Derived.Test.YtghjngpjgomdnaaGreatDoorProg
open List renaming map->a7,all->a8,drop_of_length_le->c9,getD_eq_getElem?_getD->j3,length->j4,drop_zero->j7,length_map->j8,getElem?_eq_getElem->j9,length_eq_zero_iff->o3,length_drop->o6,isEmpty->o9,length_cons->p5,countP_le_length->p7,length_append->p9,length_take->s7,append_assoc->u6,all_eq_true->u9,all_cons->w9,map_congr_left->x9,append_nil->y7,nil_append->y8,map_cons->aa9,length_nil->ab1,map_append->ab2,length_pos_iff->ab3,replicate->ab6,drop_eq_getElem_cons->ac0,countP_cons_of_neg->ad1,filter_cons->ad2,map_map->ad4,countP_pos_iff->ae2,filter_eq_self->ae3,any_cons->ae4,getElem?_map->af2,map_nil->af3,take_add_one->af4,toArray->af5,cons_append->ag2,drop->ag3,getD->ag4,getElem_mem->ag5,take_length->ag6,append->ah4,drop_drop->ai0,all_map->aj0,map_id->aj4
open Int renaming toNat->b8,toNat_natCast->b9,eq_ofNat_of_zero_le->o0,tdiv->x3,add->y5,ofNat_zero->ad8,tmod->ae8,max_def->ah1,min_def->ah2,natCast_mul->ah6,mul_nonneg->ah8
open Bool renaming not_false->j0,not_true->j2,and_eq_true->k9,eq_false_iff->o7,true_and->u7,false_eq_true->aa1,false_or->aa8,and_true->ac8,eq_iff_iff->ah5,false_and->ah7
open Go.Proofs.Tryz renaming prog->j5,underlying3->r9,zeroValue3->s5,underlying4->s8,underlying9->s9,zeroValue4->u4,zeroValue9->u5,underlying5->v7,sizeOf3->w6,zeroValue5->w8,isAgg3->x5,sizeOf4->x6,sizeOf9->x7,underlying0->x8,zeroValue0->aa0,underlying104->aa2,isAgg4->aa3,isAgg9->aa4,sizeOf5->aa5,zeroValue104->aa6,isAgg5->ab0,sizeOf0->ab4,sizeOf104->ab7,underlying171->ab8,isAgg0->ac4,underlying57->ac5,zeroValue171->ac6,isAgg104->ac9,zeroValue57->ad3,func122->ad5,func145->ad6,sizeOf171->ae0,f116->ae1,isAgg171->ae5,sizeOf57->ae6,func106->af6,func124->af7,func125->af8,func133->af9,func153->ag0,isAgg57->ag1,f113->ag8,f117->ag9,f147->ah0,f42->ai2,f127->ai5,f129->ai6,f140->ai7,f158->ai8,func115->aj2,func149->aj3,f12->aj6,f13->aj7,f17->aj8,f20->aj9,f26->ak0,f27->ak1,f63->ak2,f64->ak3,f91->ak4,f4->al5
open Eq renaming trans->j6
open Option.some renaming injEq->o5
open Nat renaming ble->o8,ble_eq->p4,le_refl->x4,div_le_self->y9,ble_eq_true_of_le->aa7,le_of_ble_eq_true->ad7,mul_le_mul->ad9,add_sub_cancel->ae7,succ_ne_zero->ag7,mod_lt->ai1,pow_succ->aj1
open UInt8 renaming ofNat->p6,toNat->ak5
open Go.Lib renaming decodeL->s6,runeCountL->ab5,decodeL_drop->ad0,decodeL_ascii->ae9,firstTab->af0,runeCountFrom->af1,decodeN->ah3,decodeL_le->ah9,decodeL_N->ai3,index->ai4,validGoD->ai9
open Go.Fn renaming func->u0
open Go.Shelf renaming Ren->v8
open Option renaming map_some->z7,isSome_map->ac2
open Classical renaming byContradiction->ab9
open Function renaming comp_def->ac1
open Go.RowKit.Below renaming refl->ac3
open Go.Utf8 renaming decode->ac7
open Go.Proofs.Lays renaming n137->ak6,n138->ak7,n143->ak8,n145->ak9,n156->al0,n195->al1,n196->al2
open Go.Proofs.Lays2 renaming n21->al3
namespace Go.Proofs.YtghjngpjgomdnaaGreatDoor.E
set_option linter.all false
section
open Go Go.Proofs
theorem Br0(s:By):oct s=match F1 10 0 s with|some n=>(if n<=255 then (if Lib.decDigits n=s then some n else none) else none)|none=>none:=by unfold oct;grind
theorem GH{R:Type}{g:Unit->Option R}{h:By->Option R}(s:By)(q:s.length<=1000000000):∀(r i n v:Nat),i+r=s.length->r<n->U2 LF n s (i:Int) g h=if (F1 10 v (s.drop i)).isSome then h s else g ():=by
 intro r
 induction r with
 | zero=>
  intro i n v k l;obtain⟨n,rfl⟩:∃m,n=m+1:=⟨n-1,by omega⟩
  rw[U2];rw[A6,c9 (by omega)];rfl
 | succ r o=>
  intro i n v k l;obtain⟨n,rfl⟩:∃m,n=m+1:=⟨n-1,by omega⟩
  rw[U2,J0 s i (by omega)];rw[J1];have j:=(s.getD i 0).toNat_lt;generalize s.getD i 0=b at *;have f:((i:Int)+1)=((i+1:Nat):Int):=by omega
  simp (disch:=omega) only[D0,M4,cond_true,G7];simp only[F1];rw[f,o (i+1) n (min (v*10+dig b) Jx) (by omega) (by omega)];rcases Iz b with⟨a,d,e⟩|⟨a,d,e⟩|⟨a,d,e⟩|⟨a,d,p,e⟩
  ·simp only[if_pos (show dig b<10 by omega)];rw[A6,A6];rfl
  ·simp only[if_neg (show ¬dig b<10 by omega)];rw[A6,A8];rfl
  ·simp only[if_neg (show ¬dig b<10 by omega)];rw[A6,A8];rfl
  ·simp only[if_neg (show ¬dig b<10 by omega)];by_cases c:b.toNat<48
   ·rw[A8];rfl
   ·rw[A6,A8];rfl
theorem GI{R:Type}{a:Bool->Option R}(s:By)(b:A3 s.length=true):Sz LF s a=a (!s.isEmpty&&(F1 10 0 s).isSome):=by
 have c:=N6 b;have:=F9;unfold Sz;refine j6 (GH s c s.length 0 LF 0 (by omega) (by omega)) ?_;rw[j7];cases d:F1 10 0 s with
 | none=>simp
 | some v=>cases s<;>rfl
theorem ZX{R:Type}{g:Int->Option R}(b:Int)(h:inR b 256=true):An5 LF b g=g (dig (u8n b):Int):=by
 simp only[inR,k9,decide_eq_true_eq] at h;have j:b=((u8n b).toNat:Int):=by
  unfold u8n;simp;omega
 generalize u8n b=c at *;subst j;have i:=c.toNat_lt;unfold An5;simp only[Np,No,vl];rcases Iz c with⟨d,f,e⟩|⟨d,f,e⟩|⟨d,f,e⟩|⟨d,f,o,e⟩
 ·have a:A2 (wu8 ((c.toNat:Int)-48))=((dig c:Nat):Int):=by
   rw[R7,A5];omega
  simp (disch:=omega) only[D0,E4,j2,j0,cond_false,cond_true,a]
 ·have a:A2 (A2 (wu8 ((c.toNat:Int)-97))+10)=((dig c:Nat):Int):=by
   rw[R7,G7 (n:=(c.toNat:Int)-97) (by omega) (by omega),A5];omega
  simp (disch:=omega) only[D0,E4,j2,j0,cond_false,cond_true,a]
 ·have a:A2 (A2 (wu8 ((c.toNat:Int)-65))+10)=((dig c:Nat):Int):=by
   rw[R7,G7 (n:=(c.toNat:Int)-65) (by omega) (by omega),A5];omega
  simp (disch:=omega) only[D0,E4,j2,j0,cond_false,cond_true,a]
 ·rw[e];by_cases k:c.toNat<48
  ·simp (disch:=omega) only[D0,E4,j2,j0,cond_false,cond_true];rfl
  ·by_cases l:c.toNat<65
   ·simp (disch:=omega) only[D0,E4,j2,j0,cond_false,cond_true];rfl
   ·by_cases m:c.toNat<97
    ·simp (disch:=omega) only[D0,E4,j2,j0,cond_false,cond_true];rfl
    ·simp (disch:=omega) only[D0,E4,j2,j0,cond_false,cond_true];rfl
theorem KO{R:Type}{g:Unit->Option R}{h:Int->Option R}(s:By)(p:s.length<=1000000000):∀(r i a n:Nat),i+r=s.length->r<n->a<=Jx->
  Dt LF n s (a:Int) (i:Int) g h=match F1 16 a (s.drop i) with|some v=>h (v:Int)|none=>g ():=by
 intro r
 induction r with
 | zero=>
  intro i a n k l j;obtain⟨n,rfl⟩:∃m,n=m+1:=⟨n-1,by omega⟩
  rw[Dt];rw[A6,c9 (by omega)];rfl
 | succ r o=>
  intro i a n k l j;obtain⟨n,rfl⟩:∃m,n=m+1:=⟨n-1,by omega⟩
  rw[Dt,J0 s i (by omega)];rw[J1,Od,UF];generalize s.getD i 0=b at *;have c:((i:Int)+1)=((i+1:Nat):Int):=by omega
  have f:Jx=1099511627776:=rfl;simp (disch:=omega) only[D0,M4,cond_true,vl,G7];simp only[F1];rw[c];by_cases e:dig b<16
  ·have d:A2 (A2 ((a:Int)*16)+(dig b:Int))=((a*16+dig b:Nat):Int):=by
    rw[G7 (n:=(a:Int)*16) (by omega) (by omega),A5];simp
   rw[if_pos e,A8];simp (disch:=omega) only[G7,j2,cond_false] at d ⊢;rw[d,Ap3];exact o (i+1) _ n (by omega) (by omega) (by omega)
  ·rw[if_neg e,A6];rfl
theorem SZ{R:Type}{f:Unit->Option R}{g:Int->Option R}(s:By)(u:s.length<=1000000000)(base:Nat)(t:base<=16):∀(r i a n:Nat),i+r=s.length->r<n->a<=Jx->
  Bu LF n s (base:Int) (a:Int) (i:Int) f g=match F1 base a (s.drop i) with|some v=>g (v:Int)|none=>f ():=by
 intro r
 induction r with
 | zero=>
  intro i a n l o k;obtain⟨n,rfl⟩:∃m,n=m+1:=⟨n-1,by omega⟩
  rw[Bu];rw[A6,c9 (by omega)];rfl
 | succ r p=>
  intro i a n l o k;obtain⟨n,rfl⟩:∃m,n=m+1:=⟨n-1,by omega⟩
  rw[Bu,J0 s i (by omega)];rw[J1,Od,UF];generalize s.getD i 0=b at *;have c:((i:Int)+1)=((i+1:Nat):Int):=by omega
  have e:Jx=1099511627776:=rfl;simp only[F1,vl];rw[A8,K2,c,G7 (n:=((i+1:Nat):Int)) (by omega) (by omega)];simp only[cond_true];by_cases d:dig b<base
  ·have q:a*base<=1099511627776*16:=ad9 (by omega) (by omega);have h:A2 ((a:Int)*(base:Int))=((a*base:Nat):Int):=by
    rw[<-ah6];exact A5
   have j:A2 (((a*base:Nat):Int)+(dig b:Int))=((a*base+dig b:Nat):Int):=by
    rw[A5];rfl
   rw[if_pos d,A8,h,j,Ap3];exact p (i+1) _ n (by omega) (by omega) (by omega)
  ·rw[if_neg d,A6];rfl
theorem Aa4{R:Type}{a:Int->Bool->Option R}(s:By)(p:A3 s.length=true):Ao3 LF s a=a (Ln (Cu s):Int) (Cu s).isSome:=by
 have u:=N6 p;have:=F9;have o:∀x:By,x.length<=1000000000->Dt LF LF x 0 0 (λ_=>a 0 false) (λn=>a n true)=a (Ln (F1 16 0 x):Int) (F1 16 0 x).isSome:=by
  intro x f;refine j6 (KO x f x.length 0 0 LF (by omega) (by omega) (by unfold Jx;omega)) ?_;rw[j7];cases F1 16 0 x<;>rfl
 have c:∀(x:By) (b:Nat),b<=16->x.length<=1000000000->Bu LF LF x (b:Int) 0 0 (λ_=>a 0 false) (λn=>a n true)=a (Ln (F1 b 0 x):Int) (F1 b 0 x).isSome:=by
  intro x b q f;refine j6 (SZ x f b q x.length 0 0 LF (by omega) (by omega) (by unfold Jx;omega)) ?_;rw[j7];cases F1 b 0 x<;>rfl
 have d:=λx=>c x 10 (by omega)
 have g:=λx=>c x 8 (by omega)
 have i:=λx=>c x 16 (by omega)
 rw[show((10:Nat):Int)=10 from rfl] at d;rw[show((8:Nat):Int)=8 from rfl] at g;rw[show((16:Nat):Int)=16 from rfl] at i;unfold Ao3 Cu;by_cases e:s=[]
 ·subst e;rfl
 have j:(s==([]:By))=false:=by simpa using e
 have t:0<s.length:=ab3.2 e;rw[if_neg e,j];simp only[cond_false,Td,Te,Jr,Js,Jt,vl];have k:=T3 (s.getD 0 0) 48 (by omega);have l:=T3 (s.getD 1 0) 120 (by omega);have m:=T3 (s.getD 1 0) 88 (by omega);rw[show((48:Nat):Int)=48 from rfl] at k;rw[show((120:Nat):Int)=120 from rfl] at l;rw[show((88:Nat):Int)=88 from rfl] at m;simp only[Hp,VI,k,l,m,show p6 48=(48:UInt8) from rfl,show p6 120=(120:UInt8) from rfl,show p6 88=(88:UInt8) from rfl];by_cases r:2<=s.length
 ·simp (disch:=omega) only[E4,M4,R4,j0,cond_true,N7,show 1<s.length by omega,true_and];unfold W6;grind
 ·rw[A8];have f:W6 s=false:=by
   cases h:W6 s with
   | false=>rfl
   | true=>have:=Jc h;omega
  grind
def r8(n:Nat):LL:=ab6 n [SV.int .u16 0]
theorem Gj(n:Nat):ptI (n:Int)=Ba n:=rfl
theorem KD{R:Type}{a:Bool->Option R}(n:Int):GE LF n a=a (ptI n):=by
 unfold GE;by_cases h:n<0
 ·rw[D0 h];have:ptI n=false:=by
   cases n with
   | ofNat m=>exact absurd h (by simp)
   | negSucc m=>rfl
  grind
 ·obtain⟨m,rfl⟩:=o0 (show 0<=n by omega);rw[A6,Gj];unfold Ba;by_cases b:1114111<m
  ·rw[A8];have:o8 m 1114111=false:=by rw[o7,ne_eq,p4];omega
   grind
  ·rw[A6];have:o8 m 1114111=true:=by rw[p4];omega
   rw[this];by_cases c:m<55296
   ·rw[A8];have:Nat.blt m 55296=true:=by rw[Nat.blt_eq];omega
    grind
   ·rw[A6];have e:Nat.blt m 55296=false:=by rw[o7,ne_eq,Nat.blt_eq];omega
    rw[e];simp only[j0,cond_true,cond_false,aa8,u7]
    congr 1
theorem Ul{d k:Nat}(h:455<d):Pd d k=Pd (d / 35) (k+36):=by rw[Pd,dif_pos h]
theorem Kr{d k:Nat}(h:¬ 455<d):Pd d k=k+36*d / (d+38):=by rw[Pd,dif_neg h]
theorem JZ{R:Type}{k0:Int->Int->Option R}:∀(d n k:Nat),d<2305843009213693952->d<n->k+d<=4611686018427387904->
  ∃a b,a<=455/\b<=k+d/\Pd d k=b+36*a / (a+38)/\Ce LF n (d:Int) (k:Int) k0=k0 (a:Int) (b:Int):=by
 intro d
 induction d using Nat.strongRecOn with
 | _ d l=>
  intro n k p r q;obtain⟨n,rfl⟩:∃m,n=m+1:=⟨n-1,by omega⟩
  rw[Ce];by_cases h:455<d
  ·obtain⟨a,b,g,o,i,j⟩:=l (d / 35) (by omega) n (k+36) (by omega) (by omega) (by omega);refine⟨a,b,g,by omega,by rw[Ul h];exact i,?_⟩;have e:x3 (d:Int) 35=((d / 35:Nat):Int):=K5 d 35;have c:A2 ((d / 35:Nat):Int)=((d / 35:Nat):Int):=A5;have f:A2 ((k:Int)+36)=((k+36:Nat):Int):=by rw[A5];rfl
   rw[A8];simp only[cond_true,vl,e,c,f];exact j
  ·refine⟨d,k,by omega,by omega,Kr h,?_⟩;rw[A6];rfl
theorem KA{R:Type}{k0:Int->Option R}(d c:Int)(f:Bool)(z:ltN d 1152921504606846976=true)(A:ltN c 1000000=true)(B:ltI 0 c=true):Wx LF d c f k0=k0 (M0 d.toNat c.toNat f:Nat):=by
 obtain⟨k,F⟩:=K7.1 z;obtain⟨j,D⟩:=K7.1 A;obtain⟨d,rfl⟩:=o0 k;obtain⟨c,rfl⟩:=o0 j;have J:=WF.1 B;have C:=F9;have key:∀x:Nat,x<1152921504606846976->Cd LF (x:Int) (c:Int) k0=k0 ((Pd (x+x / c) 0:Nat):Int):=by
  intro x L;have G:x / c<=x:=y9 _ _;unfold Cd;have g:x3 (x:Int) (c:Int)=((x / c:Nat):Int):=K5 x c;generalize x / c=q at *;have h:A2 (q:Int)=(q:Int):=A5;have o:A2 ((x:Int)+(q:Int))=((x+q:Nat):Int):=by rw[A5];rfl
  rw[show((c:Int)!=0)=true by simp;omega];simp only[cond_true,vl,g,h,o];obtain⟨a,n,H,I,w,y⟩:=JZ (R:=R) (k0:=λb l=>vl (A2 ((36)*b)) λm=>vl (A2 (b+(38))) λe=>cond (e !=(0)) (vl (A2 (x3 m e)) λi=>k0 (A2 (l+i))) none) (x+q) LF 0 (by omega) (by omega) (by omega);refine j6 y ?_;have K:36*a / (a+38)<=36*a:=y9 _ _;have p:A2 (36*(a:Int))=((36*a:Nat):Int):=by rw[A5];rfl
  have r:A2 ((a:Int)+38)=((a+38:Nat):Int):=by rw[A5];rfl
  have t:x3 ((36*a:Nat):Int) ((a+38:Nat):Int)=((36*a / (a+38):Nat):Int):=K5 _ _;have u:A2 ((36*a / (a+38):Nat):Int)=((36*a / (a+38):Nat):Int):=A5;have v:A2 ((n:Int)+((36*a / (a+38):Nat):Int))=((n+36*a / (a+38):Nat):Int):=by rw[A5];rfl
  simp only[vl,p,r,t,u,v];rw[show(((a+38:Nat):Int)!=0)=true by simp;omega,w];rfl
 unfold Wx M0;rw[b9,b9];cases f with
 | true=>
  have g:x3 (d:Int) 700=((d / 700:Nat):Int):=K5 d 700;have h:A2 ((d / 700:Nat):Int)=((d / 700:Nat):Int):=A5;simp only[cond_true,vl,g,h,if_true];exact key _ (by omega)
 | false=>
  have g:x3 (d:Int) 2=((d / 2:Nat):Int):=K5 d 2;have h:A2 ((d / 2:Nat):Int)=((d / 2:Nat):Int):=A5;simp only[cond_false,vl,g,h,aa1,if_false];exact key _ (by omega)
theorem Zl{d:Nat}(h:d<36):(T4 d).toNat=if d<26 then 97+d else 22+d:=by unfold T4;split<;>simp<;>omega
theorem ZQ{R:Type}{b:Int->Option R}(d:Int)(c:ltN d 36=true):A04 LF d b=b ((T4 d.toNat).toNat:Nat):=by
 obtain⟨a,e⟩:=K7.1 c;obtain⟨d,rfl⟩:=o0 a;unfold A04;rw[b9,Zl (by omega)];by_cases h:d<26
 ·rw[A8,if_pos h];simp only[cond_true,vl]
  congr 1
  rw[A5,R7];rfl
 ·rw[A6,if_neg h];simp only[cond_false,vl]
  congr 1
  rw[G7 (n:=48+(d:Int)) (by omega) (by omega),A5,R7];omega
theorem Sc(b:UInt8):(97<=b.toNat/\b.toNat<=122/\Hg b=some (b.toNat-97))\/(65<=b.toNat/\b.toNat<=90/\Hg b=some (b.toNat-65))\/(48<=b.toNat/\b.toNat<=57/\Hg b=some (b.toNat-22))\/(¬(97<=b.toNat/\b.toNat<=122)/\¬(65<=b.toNat/\b.toNat<=90)/\¬(48<=b.toNat/\b.toNat<=57)/\Hg b=none):=by unfold Hg;grind
theorem ZT{R:Type}{g:Int->Option R}(b:Int)(h:inR b 256=true):An2 LF b g=g (C9 (u8n b)):=by
 simp only[inR,k9,decide_eq_true_eq] at h;have j:b=((u8n b).toNat:Int):=by
  unfold u8n;simp;omega
 generalize u8n b=c at *;subst j;have i:=c.toNat_lt;unfold An2 C9;simp only[Nl,Nk,vl];rcases Sc c with⟨d,f,e⟩|⟨d,f,e⟩|⟨d,f,e⟩|⟨d,f,o,e⟩
 ·have a:A2 (wu8 ((c.toNat:Int)-97))=((c.toNat-97:Nat):Int):=by
   rw[R7,A5];omega
  simp (disch:=omega) only[D0,E4,j2,j0,cond_false,cond_true,a,e]
 ·have a:A2 (wu8 ((c.toNat:Int)-65))=((c.toNat-65:Nat):Int):=by
   rw[R7,A5];omega
  simp (disch:=omega) only[D0,E4,j2,j0,cond_false,cond_true,a,e]
 ·have a:A2 (A2 (wu8 ((c.toNat:Int)-48))+26)=((c.toNat-22:Nat):Int):=by
   rw[R7,G7 (n:=(c.toNat:Int)-48) (by omega) (by omega),A5];omega
  simp (disch:=omega) only[D0,E4,j2,j0,cond_false,cond_true,a,e]
 ·rw[e];by_cases k:c.toNat<48
  ·simp (disch:=omega) only[D0,E4,j2,j0,cond_false,cond_true]
  ·by_cases l:c.toNat<65
   ·simp (disch:=omega) only[D0,E4,j2,j0,cond_false,cond_true]
   ·by_cases m:c.toNat<97
    ·simp (disch:=omega) only[D0,E4,j2,j0,cond_false,cond_true]
    ·simp (disch:=omega) only[D0,E4,j2,j0,cond_false,cond_true]
end
section
open Go
theorem Jf(s:By):(G8 s).length=s.length:=j8 _
theorem Ge(s:By)(i:Nat):(G8 s).getD i 0=Gd (s.getD i 0):=by unfold G8;simp only[j3,af2];cases s[i]?<;>rfl
theorem YX{s:By}:G8 s=[]↔s=[]:=by unfold G8;simp
theorem PY(s:By)(i:Nat):(G8 s).drop i=G8 (s.drop i):=by unfold G8;rw[List.map_drop]
theorem Rk(b:UInt8):S6 b=true↔(97<=b.toNat/\b.toNat<=122)\/(48<=b.toNat/\b.toNat<=57)\/b=45\/b=95:=by simp[S6,or_assoc]
def sh(n:Nat)(i:Int):Int:=if i=-1 then -1 else i+n
end
section
open Go Go.Op
abbrev Ent:=By × Bool
abbrev Q1:=By × Bool × Int
def Br3(e:Ent):List SV:=[.str e.1,.bool e.2]
def Jw(p:Q1):List SV:=[.str p.1,.bool p.2.1,.int .i64 p.2.2]
def Br4(l:List Ent):LL:=l.map Br3
def G9(l:List Q1):LL:=l.map Jw
def Bn2:List SV->Bool|[.str _,.bool _]=>true|_=>false
def C1:List SV->Bool|[.str _,.bool _,.int .i64 n]=>Bf7 n|_=>false
def Bm3(a:List SV):Ent:=((a.getD 0 .nilp).gS,(a.getD 1 .nilp).gB)
def A7(a:List SV):Q1:=((a.getD 0 .nilp).gS,(a.getD 1 .nilp).gB,(a.getD 2 .nilp).gI)
theorem AE{b c:Type}(f:c->b)(g:b->c):∀l:List b,(∀x∈l,f (g x)=x)->l=(l.map g).map f
 | [],_=>rfl
 | a::r,h=>by
  rw[aa9,aa9,h a (by simp),<-AE f g r λx d=>h x (by simp[d])]
theorem Ad{l:LL}(h:l.all C1=true):l=G9 (l.map A7):=AE Jw A7 l λx a=>by
 have:=u9.1 h x a;unfold C1 at this;split at this
 ·rfl
 ·cases this
@[simp] theorem Bm4(l:List Ent):(Br4 l).length=l.length:=j8 ..
@[simp] theorem D3(l:List Q1):(G9 l).length=l.length:=j8 ..
def noE:Ent:=([],false)
def noP:Q1:=([],false,0)
theorem X2{l:List Q1}{i:Nat}(h:i<l.length):(G9 l).getD i []=Jw (l.getD i noP):=by unfold G9;simp[j3,j9 h]
theorem Bj:∀x y:By,bytesLess x y=decide (x<y)
 | [],[]=>by simp[bytesLess]
 | _::_,[]=>by simp[bytesLess]
 | [],_::_=>by simp[bytesLess]
 | a::x,b::y=>by
  rw[bytesLess,Bj x y];simp only[List.cons_lt_cons_iff];by_cases c:a<b<;>by_cases d:a=b<;>by_cases e:x<y<;>simp[c,d,e]
def rl(s:By):List By:=(pcs 46 s).reverse
def ZA:List By->List By->Bool
 | _,[]=>false
 | [],_::_=>true
 | x::r,y::q=>bytesLess x y||(x==y&&ZA r q)
def Wp(a b:By):Bool:=ZA (rl a) (rl b)
def Az(a b:By):Int:=cond (bytesLess a b) (-1) (cond (bytesLess b a) 1 0)
def Ai4(a b:Int):Int:=cond (ltI a b) (-1) (cond (ltI b a) 1 0)
def Si(a b:By):Int:=cond (Wp a b) (-1) (cond (Wp b a) 1 0)
theorem IL(a b:By):decide (Si a b<0)=Wp a b:=by
 unfold Si;cases Wp a b with
 | true=>rfl
 | false=>cases Wp b a<;>rfl
def asc(h:List By):Bool:=match h with
 | []=>true
 | [_]=>true
 | a::b::r=>Wp a b&&asc (b::r)
theorem Gp(c:UInt8):∀(p a s:By),I5 c a (p++c::s)=I5 c a p++I5 c [] s
 | [],a,s=>by simp[I5]
 | b::r,a,s=>by
  simp only[ag2,I5];split
  ·rw[Gp c r [] s];rfl
  ·exact Gp c r _ s
def smE(a:List SV):Bool:=A3 (elS a).length
def P5(z:Bool)(l:LL):Bool:=!z||l.isEmpty
def Xc(h:By)(e:Int):Bool:=Bc h&&(!ltI e 0&&!ltI 1099511627776 e)
def ixE(l:List Ent):Int:=match l.findIdx? (λe=>!Bc e.1) with|some j=>(j:Int)|none=>-1
def Wi(a:Option By):List Q1->Nat
 | []=>0
 | p::r=>if Xc p.1 p.2.2 then (match a with
   | some q=>if Wp q p.1 then Wi (some p.1) r else 8
   | none=>Wi (some p.1) r) else 1
def Kd(a:Int)(l:List Q1):Nat:=cond (ltI a (l.length:Nat)) 11 (Wi none l)
def Lu(n:Int)(l:LL):Bool:=!ltI n l.length&&l.all λa=>!ltI 300 (elS a).length
abbrev Br1:={e:Ent // e.1.length<=1000000000}
instance:Inhabited Br1:=⟨⟨noE,by decide⟩⟩
theorem Hy{l:List Q1}{i:Nat}(h:i<l.length):gX (G9 l) i 0=(l.getD i noP).1:=by unfold gX gC;rw[X2 h];rfl
theorem PB{l:List Q1}{i:Nat}(h:i<l.length):gY (G9 l) i 1=(l.getD i noP).2.1:=by unfold gY gC;rw[X2 h];rfl
theorem Qa{l:List Q1}{i:Nat}(h:i<l.length):gE (G9 l) i 2=(l.getD i noP).2.2:=by unfold gE gC;rw[X2 h];rfl
theorem Jl{l:List Q1}{i:Nat}(h:i<l.length):okE ⟨true,true,[.str,.bool,.int .i64]⟩ (G9 l) i 0=true:=by unfold okE;rw[X2 h];simp[h,okS,Jw,SV.has]
theorem Tf{l:List Q1}(h:(G9 l).all smE=true){i:Nat}(a:i<l.length):A3 (l.getD i noP).1.length=true:=by
 have:=u9.1 h ((G9 l).getD i []) (by
  rw[j3,j9 (by simpa using a)];exact ag5 _)
 rw[X2 a] at this;exact this
end
section
open Go Go.Proofs
set_option maxRecDepth 100000
section
variable {W R : Type} (Y : Nat) (J : E2) (Q : Yh W) (s : W) (k : Out -> St W -> Option R)
noncomputable def EK(Y:Nat):Cfg:=C3 Y [90] (A4 []) [] (A4 [(1,[6]),(0,[3,0,0])]) [] (A4 []) (some [6]) [] [] []
noncomputable def Al4{R:Type}(Y:Nat)(d b:By)(a:Int)(c:By->By->Int->Option R):Option R:=c d b a
theorem Al5(d:Nat)(a sep1 sepSave2):evC (EK Y) (d+1) W Q 90 [pS a,pS sep1,pI sepSave2] [] s=Al4 Y a sep1 sepSave2 (λa c b=>some (.fnr (u0 113) [] [.ptr 1 0 0,.ptr 0 0 0,.ptr 2 0 0],[.box [pS a],.box [pS c],.box [pI b]],s)):=by refine(evE (fn:=Tryz.f90) (by kernel_rfl)).trans ?_;generalize evC (EK Y) d=J;unfold Al4;kernel_rfl
noncomputable def OE(Y:Nat):Cfg:=C3 Y [62] (A4 []) [(90,CO)] (A4 [(1,[4]),(0,[0,0])]) [] (A4 []) (some [4]) [] [] []
noncomputable def Bh6{R:Type}(Y:Nat)(c a:By)(b:By->By->Option R):Option R:=b c a
theorem A43(d:Nat)(a sep1):evC (OE Y) (d+1) W Q 62 [pS a,pS sep1] [] s=Bh6 Y a sep1 (λa b=>some (.fnr (u0 113) [] [.ptr 1 0 0,.ptr 0 0 0,.ptr 2 0 0],[.box [pS a],.box [pS b],.box [pI (0:Int)]],s)):=by refine(evE (fn:=Tryz.f62) (by kernel_rfl)).trans ?_;generalize evC (OE Y) d=J;unfold Bh6;kernel_rfl
noncomputable abbrev Zd:Code:=F0 ai2
noncomputable def Ht(Y:Nat):Cfg:=C3 Y [42] (A4 []) [(61,It),(62,NE),(63,CQ)] (A4 [(7,[2]),(6,[2]),(5,[2,13]),(4,[2,0]),(3,[2,9]),(2,[2]),(1,[0,1,7]),(0,[0,1])]) [61,63] (A4 [(0,[2]),(1,[2])]) (some [2]) [] [(113,Sq)] []
noncomputable def Su{R:Type}(Y:Nat)(a:By)(xs:List By)(self:Unit->Option R)(c:Unit->Option R)(b:Unit->Option R):Option R:=cond (A3 a.length) (cond (not (N5 a)) (b ()) (self ())) none
noncomputable def Vz{R:Type}(Y:Nat)(L:List By)(b:Unit->Option R)(c:Unit->Option R):Option R:=Bn8 (α:=Unit->Option R) (λ_=>b ()) (λa xs self _=>Su Y a xs self  b c) L ()
theorem JE{R:Type}(Y:Nat)(a:By)(xs:List By)(b:Unit->Option R)(c:Unit->Option R):Vz Y (a::xs)  b c=Su Y a xs (λ_=>Vz Y xs  b c)  b c:=rfl
theorem YJ(L:List By):T8 #[13] (gp [(2,.ptr 0 0 0),(9,.fnr (u0 113) [] [.bad,.bad,.bad])] 4) (bd (Ht Y) J Q (cd [1,1,0,1,0,0] Zd)) (bd (Ht Y) J Q (cd [1,1,0,1,0,1] Zd)) (L.map (λ(a:By)=>([pS a]:List PV))) [.box [pB false],.dead,.dead,.dead] s (rgK (gp [(2,.ptr 0 0 0),(9,.fnr (u0 113) [] [.bad,.bad,.bad])] 4) (λH=>U5 H [2,1,3] [.box [.bad],.box [.bad],.box [.bad]]) k) =
 Vz Y L  (λ_=>k .normal ⟨gp [(2,.ptr 0 0 0),(9,.fnr (u0 113) [] [.bad,.bad,.bad])] 4,[.box [pB false],.box [.bad],.box [.bad],.box [.bad]],s⟩) (λ_=>k .ret ⟨gp [(2,.ptr 0 0 0),(9,.fnr (u0 113) [] [.bad,.bad,.bad])] 4,[.box [pB false],.box [.bad],.box [.bad],.box [.bad]],s⟩):=by
 induction L with
 | nil=>rfl
 | cons a xs b=>rw[JE];unfold Su;exact(j6 (by kernel_rfl) (A1 (A1 rfl b) rfl))
noncomputable def FC{R:Type}(Y:Nat)(a:By)(b:Unit->Option R)(c:Unit->Option R):Option R:=cond ((A3 a.length)&&((1==1)&&((0:Int)==0))) (Vz Y (pcs (ag4 ([46]:List UInt8) 0 0) a)  b c) none
abbrev JD(b:Code):Prop:=∀(k:Out->St W->Option R) s0,B8 (Ht Y) J Q b ⟨gp [(2,.ptr 0 0 0),(9,.fnr (u0 113) [] [.ptr 2 0 0,.ptr 1 0 0,.ptr 3 0 0])] 4,[.box [pB false],.box [pS s0],.box [pS ([46]:List UInt8)],.box [pI (0:Int)]],s⟩ k=FC Y s0 (λ_=>k .normal ⟨gp [(2,.ptr 0 0 0),(9,.fnr (u0 113) [] [.bad,.bad,.bad])] 4,[.box [pB false],.box [.bad],.box [.bad],.box [.bad]],s⟩) (λ_=>k .ret ⟨gp [(2,.ptr 0 0 0),(9,.fnr (u0 113) [] [.bad,.bad,.bad])] 4,[.box [pB false],.box [.bad],.box [.bad],.box [.bad]],s⟩)
theorem YI:JD (R:=R) Y J Q s (cd [1,1,0,1,0] Zd):=by intro k a;unfold FC;exact((Bm5 [1,1,0,1,0] (by kernel_rfl)).trans (by kernel_rfl)).trans (QK (YJ Y J Q s k (pcs (ag4 ([46]:List UInt8) 0 0) a) ))
noncomputable def hvn{R:Type}(Y:Nat)(a:By)(b:Unit->Option R)(c:Bool->Bool->Option R):Option R:=cond (ltI 253 (a.length:Int)) (b ()) (cond (A3 a.length) (cond (R1 a) (b ()) (FC Y a (λ_=>c true true) (λ_=>c false false))) none)
theorem Bf4(a:Code)(c:JD (R:=PV × List Blk × W) Y J Q s a)(b:By):B8 (Ht Y) J Q (cd [] (X3 [1,1,0,1,0] a Zd)) ⟨[pS b]++tps 16,[],s⟩ (J6 (Ht Y) ai2)=hvn Y b (λ_=>some (pB false,[.box [pB false]],s)) (λe d=>some (pB e,[.box [pB d],.box [.bad],.box [.bad],.box [.bad]],s)):=by unfold hvn;exact(j6 (by kernel_rfl) (A1 rfl (A1 (A1 rfl ((c (I2 0 (I8 (Ht Y) J Q (cd [1,1,1] Zd) (J6 (Ht Y) ai2))) b).trans (by kernel_rfl))) rfl)))
theorem Bf5(d:Nat)(name0):evC (Ht Y) (d+1) W Q 42 [pS name0] [] s=hvn Y name0 (λ_=>some (pB false,[.box [pB false]],s)) (λb a=>some (pB b,[.box [pB a],.box [.bad],.box [.bad],.box [.bad]],s)):=
 (evE (fn:=ai2) (by kernel_rfl)).trans (j6 (by kernel_rfl) (Bf4 Y (evC (Ht Y) d) Q s (cd [1,1,0,1,0] Zd) (YI Y (evC (Ht Y) d) Q s) name0))
noncomputable abbrev Md:Code:=F0 ag8
noncomputable def T5(Y:Nat):Cfg:=C3 Y [113] (A4 [(5,[0,0,0,0]),(1,[0,1])]) [(114,Ly),(115,Uh)] (A4 [(10,[]),(9,[0,0,0,0]),(8,[0,0,0,0,3,34]),(7,[0,0,0,0,3,0]),(6,[0,0,0,0,3,25]),(5,[0,0,0,0,3]),(4,[0,1]),(3,[0,1,3,18]),(2,[0,1,3]),(1,[0,1,11]),(0,[0,0,0,0,7])]) [115] (A4 [(2,[0,1]),(3,[0,0,0,0]),(0,[]),(1,[0,1])]) (some []) [] [] []
noncomputable def Xt{W R:Type}(Q:Yh W)(Y n:Nat)(d a:By)(c:Int)(s:W)(b:By->By->Int->W->Option R):Option R:=match n with|0=>none|n+1=>cond (ltI 0 (a.length:Int)) none (b d a c s)
theorem LK(n:Nat)(b c:By)(a:Int)(s:W):E7 3 ((T5 Y).keep 1) (bd (T5 Y) J Q (cd [0,1,0,0,0,0] Md)) n ⟨gp [(0,.yd),(1,.ptr 1 0 0)] 49,[.box [pS b],.box [pS c],.box [pI a]],s⟩ k =
 Xt Q Y n b c a s (λb c a s=>k (.exit 0) ⟨gp [] 52,[.box [pS b],.box [pS c],.box [pI a]],s⟩):=by
 induction n generalizing b c a s with
 | zero=>rfl
 | succ n d=>rw[Xt];kernel_rfl
noncomputable def O0{W R:Type}(Q:Yh W)(Y n:Nat)(c a:By)(g:Int)(s:W)(i:By->By->Int->W->Option R)(j:By->By->Int->W->Option R):Option R:=match n with
 | 0=>none
 | n+1=>
  cond (A3 a.length)
   (cond (ltI (ai4 a c) (0:Int))
   (i c a g s)
   (vl (A2 ((ai4 a c)+g)) λe=>
    cond (N3 0 e a.length)
    (ydK (Q [pS (cut a 0 e)] s) λd b=>
     (cond (not d)
     (j c a g b)
     (vl (A2 ((ai4 a c)+(c.length:Int))) λf=>
      cond (N3 f (a.length:Int) a.length)
      (vl (cut a f (a.length:Int)) λh=>
       O0 Q Y n c h g b i j)
      none)))
    none))
   none
theorem LM(n:Nat)(b c:By)(a:Int)(s:W):E7 3 ((T5 Y).keep 5) (bd (T5 Y) J Q (cd [1,0,0,0] Md)) n ⟨gp [(0,.yd),(0,.ptr 0 0 0),(0,.ptr 1 0 0),(0,.ptr 2 0 0)] 48,[.box [pS b],.box [pS c],.box [pI a]],s⟩ k =
 O0 Q Y n b c a s (λb c a s=>k (.exit 2) ⟨gp [(0,.yd),(1,.ptr 1 0 0)] 49,[.box [pS b],.box [pS c],.box [pI a]],s⟩) (λb c a s=>k .ret ⟨gp [] 52,[.box [pS b],.box [pS c],.box [pI a]],s⟩):=by
 induction n generalizing b c a s with
 | zero=>rfl
 | succ n d=>rw[O0];simp only[<-d];kernel_rfl
noncomputable def LJ{W R:Type}(Q:Yh W)(Y:Nat)(p t:By)(n:Int)(s:W)(j:By->By->Int->W->Option R):Option R:=
 cond ((p.length:Int)==0)
 (Xt Q Y Y p t n s (λm o l q=>j m o l q))
 (O0 Q Y Y p t n s (λr a c e=>ydK (Q [pS a] e) λi b=>
  (j r a c b)) (λf g d h=>j f g d h))
theorem Ap6(d:Nat)(p t n s):evC (T5 Y) (d+1) W Q 113 [.yd,.ptr 0 0 0,.ptr 1 0 0,.ptr 2 0 0] [.box [pS p],.box [pS t],.box [pI n]] s=LJ Q Y p t n s (λb c a s=>some (.tup [],[.box [pS b],.box [pS c],.box [pI a]],s)):=by refine(evE (fn:=ag8) (by kernel_rfl)).trans ?_;generalize evC (T5 Y) d=J;unfold LJ;exact(j6 (by kernel_rfl) (A1 ((LK Y J Q (I2 0 (I8 (T5 Y) J Q (cd [0,1,0,1] Md) (I8 (T5 Y) J Q (cd [1] Md) (J6 (T5 Y) ag8)))) Y p t n s).trans (by kernel_rfl)) ((LM Y J Q (I2 2 (I8 (T5 Y) J Q (cd [1,1] Md) (J6 (T5 Y) ag8))) Y p t n s).trans (by kernel_rfl))))
end
end
end Go.Proofs.YtghjngpjgomdnaaGreatDoor.E
namespace Go.Proofs
open Go.Shelf
def Tryz.lays156_ren:v8:=⟨fun|156=>130|165=>150|166=>151|169=>152|240=>169|241=>170|276=>178|277=>179|n=>n,fun|31=>108|9=>9|3=>3|4=>4|0=>0|20=>20|72=>164|76=>168|70=>162|37=>33|75=>167|127=>187|164=>193|5=>5|80=>170|n=>n,fun|n=>n⟩
theorem Tryz.lays156:al0 j5 Tryz.lays156_ren:={
 mixed:=by kernel_rfl
 f156:=Tryz.func130.trans (congrArg some (by kernel_rfl))
 f165:=Tryz.func150.trans (congrArg some (by kernel_rfl))
 f166:=Tryz.func151.trans (congrArg some (by kernel_rfl))
 f169:=Tryz.func152.trans (congrArg some (by kernel_rfl))
 f240:=Tryz.func169.trans (congrArg some (by kernel_rfl))
 f241:=Tryz.func170.trans (congrArg some (by kernel_rfl))
 f276:=Tryz.func178.trans (congrArg some (by kernel_rfl))
 f277:=Tryz.func179.trans (congrArg some (by kernel_rfl))
 t0:=x8
 a0:=ac4
 z0:=ab4
 v0:=aa0
 t3:=r9
 a3:=x5
 z3:=w6
 v3:=s5
 t4:=s8
 a4:=aa3
 z4:=x6
 v4:=u4
 t9:=s9
 a9:=aa4
 z9:=x7
 v9:=u5
 t20:=Tryz.underlying20
 a20:=Tryz.isAgg20
 z20:=Tryz.sizeOf20
 v20:=Tryz.zeroValue20
 t31:=Tryz.underlying108
 a31:=Tryz.isAgg108
 z31:=Tryz.sizeOf108
 v31:=Tryz.zeroValue108
 t37:=Tryz.underlying33
 a37:=Tryz.isAgg33
 z37:=Tryz.sizeOf33
 v37:=Tryz.zeroValue33
 t70:=Tryz.underlying162
 a70:=Tryz.isAgg162
 z70:=Tryz.sizeOf162
 v70:=Tryz.zeroValue162
 t72:=Tryz.underlying164
 a72:=Tryz.isAgg164
 z72:=Tryz.sizeOf164
 v72:=Tryz.zeroValue164
 t75:=Tryz.underlying167
 a75:=Tryz.isAgg167
 z75:=Tryz.sizeOf167
 v75:=Tryz.zeroValue167
 t76:=Tryz.underlying168
 a76:=Tryz.isAgg168
 z76:=Tryz.sizeOf168
 v76:=Tryz.zeroValue168
 t127:=Tryz.underlying187
 a127:=Tryz.isAgg187
 z127:=Tryz.sizeOf187
 v127:=Tryz.zeroValue187
 t164:=Tryz.underlying193
 a164:=Tryz.isAgg193
 z164:=Tryz.sizeOf193
 v164:=Tryz.zeroValue193 }
theorem Tryz.Builder_Extra_156:Builder.Extra j5 Tryz.lays156_ren:={
 sizeBuilder:=by kernel_rfl
 liesBuilder:=by kernel_rfl
 t5:=v7
 a5:=ab0
 z5:=aa5
 v5:=w8
 infoByte:=by kernel_rfl
 cellsByte:=by kernel_rfl
 sizeByte:=by kernel_rfl
 neB5:=by decide }
def Tryz.lays195_ren:v8:=⟨fun|195=>149|n=>n,fun|9=>9|3=>3|0=>0|4=>4|n=>n,fun|n=>n⟩
theorem Tryz.lays195:al1 j5 Tryz.lays195_ren:={
 mixed:=by kernel_rfl
 f195:=aj3.trans (congrArg some (by kernel_rfl))
 t0:=x8
 a0:=ac4
 z0:=ab4
 v0:=aa0
 t3:=r9
 a3:=x5
 z3:=w6
 v3:=s5
 t4:=s8
 a4:=aa3
 z4:=x6
 v4:=u4
 t9:=s9
 a9:=aa4
 z9:=x7
 v9:=u5 }
def Tryz.lays143_ren:v8:=⟨fun|143=>115|219=>106|217=>122|225=>125|224=>124|267=>133|266=>145|314=>153|n=>n,fun|9=>9|3=>3|4=>4|5=>5|46=>104|146=>171|51=>57|n=>n,fun|1=>0|n=>n⟩
theorem Tryz.lays143:ak8 j5 Tryz.lays143_ren:={
 mixed:=by kernel_rfl
 f143:=aj2.trans (congrArg some (by kernel_rfl))
 f217:=ad5.trans (congrArg some (by kernel_rfl))
 f219:=af6.trans (congrArg some (by kernel_rfl))
 f224:=af7.trans (congrArg some (by kernel_rfl))
 f225:=af8.trans (congrArg some (by kernel_rfl))
 f266:=ad6.trans (congrArg some (by kernel_rfl))
 f267:=af9.trans (congrArg some (by kernel_rfl))
 f314:=ag0.trans (congrArg some (by kernel_rfl))
 t3:=r9
 a3:=x5
 z3:=w6
 v3:=s5
 t4:=s8
 a4:=aa3
 z4:=x6
 v4:=u4
 t5:=v7
 a5:=ab0
 z5:=aa5
 v5:=w8
 t9:=s9
 a9:=aa4
 z9:=x7
 v9:=u5
 t46:=aa2
 a46:=ac9
 z46:=ab7
 v46:=aa6
 t51:=ac5
 a51:=ag1
 z51:=ae6
 v51:=ad3
 t146:=ab8
 a146:=ae5
 z146:=ae0
 v146:=ac6
 g1:=by kernel_rfl }
def Tryz.lays145_ren:v8:=⟨fun|145=>50|220=>77|219=>106|217=>122|225=>125|224=>124|267=>133|266=>145|314=>153|n=>n,fun|9=>9|4=>4|59=>88|3=>3|5=>5|46=>104|146=>171|51=>57|n=>n,fun|1=>0|n=>n⟩
theorem Tryz.lays145:ak9 j5 Tryz.lays145_ren:={
 mixed:=by kernel_rfl
 f145:=Tryz.func50.trans (congrArg some (by kernel_rfl))
 f217:=ad5.trans (congrArg some (by kernel_rfl))
 f219:=af6.trans (congrArg some (by kernel_rfl))
 f220:=Tryz.func77.trans (congrArg some (by kernel_rfl))
 f224:=af7.trans (congrArg some (by kernel_rfl))
 f225:=af8.trans (congrArg some (by kernel_rfl))
 f266:=ad6.trans (congrArg some (by kernel_rfl))
 f267:=af9.trans (congrArg some (by kernel_rfl))
 f314:=ag0.trans (congrArg some (by kernel_rfl))
 t3:=r9
 a3:=x5
 z3:=w6
 v3:=s5
 t4:=s8
 a4:=aa3
 z4:=x6
 v4:=u4
 t5:=v7
 a5:=ab0
 z5:=aa5
 v5:=w8
 t9:=s9
 a9:=aa4
 z9:=x7
 v9:=u5
 t46:=aa2
 a46:=ac9
 z46:=ab7
 v46:=aa6
 t51:=ac5
 a51:=ag1
 z51:=ae6
 v51:=ad3
 t59:=Tryz.underlying88
 a59:=Tryz.isAgg88
 z59:=Tryz.sizeOf88
 v59:=Tryz.zeroValue88
 t146:=ab8
 a146:=ae5
 z146:=ae0
 v146:=ac6
 g1:=by kernel_rfl }
def Tryz.lays138_ren:v8:=⟨fun|138=>157|195=>149|218=>171|143=>115|219=>106|217=>122|225=>125|224=>124|267=>133|266=>145|314=>153|n=>n,fun|9=>9|3=>3|4=>4|5=>5|0=>0|46=>104|146=>171|51=>57|n=>n,fun|1=>0|n=>n⟩
theorem Tryz.lays138:ak7 j5 Tryz.lays138_ren:={
 mixed:=by kernel_rfl
 f138:=Tryz.func157.trans (congrArg some (by kernel_rfl))
 f143:=aj2.trans (congrArg some (by kernel_rfl))
 f195:=aj3.trans (congrArg some (by kernel_rfl))
 f217:=ad5.trans (congrArg some (by kernel_rfl))
 f218:=Tryz.func171.trans (congrArg some (by kernel_rfl))
 f219:=af6.trans (congrArg some (by kernel_rfl))
 f224:=af7.trans (congrArg some (by kernel_rfl))
 f225:=af8.trans (congrArg some (by kernel_rfl))
 f266:=ad6.trans (congrArg some (by kernel_rfl))
 f267:=af9.trans (congrArg some (by kernel_rfl))
 f314:=ag0.trans (congrArg some (by kernel_rfl))
 t0:=x8
 a0:=ac4
 z0:=ab4
 v0:=aa0
 t3:=r9
 a3:=x5
 z3:=w6
 v3:=s5
 t4:=s8
 a4:=aa3
 z4:=x6
 v4:=u4
 t5:=v7
 a5:=ab0
 z5:=aa5
 v5:=w8
 t9:=s9
 a9:=aa4
 z9:=x7
 v9:=u5
 t46:=aa2
 a46:=ac9
 z46:=ab7
 v46:=aa6
 t51:=ac5
 a51:=ag1
 z51:=ae6
 v51:=ad3
 t146:=ab8
 a146:=ae5
 z146:=ae0
 v146:=ac6
 g1:=by kernel_rfl }
def Tryz.lays196_ren:v8:=⟨fun|196=>148|259=>168|n=>n,fun|9=>9|4=>4|3=>3|5=>5|12=>12|119=>175|0=>0|46=>104|139=>178|138=>177|53=>192|n=>n,fun|3=>1|4=>2|n=>n⟩
theorem Tryz.lays196:al2 j5 Tryz.lays196_ren:={
 mixed:=by kernel_rfl
 f196:=Tryz.func148.trans (congrArg some (by kernel_rfl))
 f259:=Tryz.func168.trans (congrArg some (by kernel_rfl))
 t0:=x8
 a0:=ac4
 z0:=ab4
 v0:=aa0
 t3:=r9
 a3:=x5
 z3:=w6
 v3:=s5
 t4:=s8
 a4:=aa3
 z4:=x6
 v4:=u4
 t5:=v7
 a5:=ab0
 z5:=aa5
 v5:=w8
 t9:=s9
 a9:=aa4
 z9:=x7
 v9:=u5
 t12:=Tryz.underlying12
 a12:=Tryz.isAgg12
 z12:=Tryz.sizeOf12
 v12:=Tryz.zeroValue12
 t46:=aa2
 a46:=ac9
 z46:=ab7
 v46:=aa6
 t53:=Tryz.underlying192
 a53:=Tryz.isAgg192
 z53:=Tryz.sizeOf192
 v53:=Tryz.zeroValue192
 t119:=Tryz.underlying175
 a119:=Tryz.isAgg175
 z119:=Tryz.sizeOf175
 t138:=Tryz.underlying177
 a138:=Tryz.isAgg177
 z138:=Tryz.sizeOf177
 v138:=Tryz.zeroValue177
 t139:=Tryz.underlying178
 a139:=Tryz.isAgg178
 z139:=Tryz.sizeOf178
 v139:=Tryz.zeroValue178
 g3:=by kernel_rfl
 g4:=by kernel_rfl }
def Tryz.lays2_21_ren:v8:=⟨fun|21=>159|27=>173|28=>174|35=>180|39=>182|n=>n,fun|22=>136|3=>3|4=>4|0=>0|n=>n,fun|n=>n⟩
theorem Tryz.lays2_21:al3 j5 Tryz.lays2_21_ren:={
 mixed:=by kernel_rfl
 f21:=Tryz.func159.trans (congrArg some (by kernel_rfl))
 f27:=Tryz.func173.trans (congrArg some (by kernel_rfl))
 f28:=Tryz.func174.trans (congrArg some (by kernel_rfl))
 f35:=Tryz.func180.trans (congrArg some (by kernel_rfl))
 f39:=Tryz.func182.trans (congrArg some (by kernel_rfl))
 t0:=x8
 a0:=ac4
 z0:=ab4
 v0:=aa0
 t3:=r9
 a3:=x5
 z3:=w6
 v3:=s5
 t4:=s8
 a4:=aa3
 z4:=x6
 v4:=u4
 t22:=Tryz.underlying136
 a22:=Tryz.isAgg136
 z22:=Tryz.sizeOf136
 v22:=Tryz.zeroValue136
 i3:=by kernel_rfl }
def Tryz.lays137_ren:v8:=⟨fun|137=>94|217=>122|266=>145|n=>n,fun|9=>9|5=>5|3=>3|n=>n,fun|n=>n⟩
theorem Tryz.lays137:ak6 j5 Tryz.lays137_ren:={
 mixed:=by kernel_rfl
 f137:=Tryz.func94.trans (congrArg some (by kernel_rfl))
 f217:=ad5.trans (congrArg some (by kernel_rfl))
 f266:=ad6.trans (congrArg some (by kernel_rfl))
 t3:=r9
 a3:=x5
 z3:=w6
 v3:=s5
 t5:=v7
 a5:=ab0
 z5:=aa5
 v5:=w8
 t9:=s9
 a9:=aa4
 z9:=x7
 v9:=u5 }
end Go.Proofs
namespace Go.Proofs.YtghjngpjgomdnaaGreatDoor.E
set_option linter.all false
section
open Go Go.Proofs Go.Sort
set_option maxRecDepth 100000
theorem Ak0{C:Cfg}{St:Nat->Prop}{w:World}{g:Nat}{k:IntKind}{zs:List Int}(a:GOK C St w)(b:C.G=GX)(h:GX.tab g=some (k,zs)):∃e x,w.heap[g]? = some (.cells (zs.map λz=>Value.int k z).toArray e x):=(a.1 g k zs (by rw[b];exact h)).2
theorem Aj9{C:Cfg}{St:Nat->Prop}{w:World}(a:GOK C St w)(b:C.G=GX):∃m,w.cell? ⟨0,0,none⟩=some (.int .i64 m):=(a.2 _ (by rw[b];rfl)).2
theorem EZ{w:World}{g:Nat}{a:List Int}{k:IntKind}{e:TypeId}{x}(h:w.heap[g]? = some (.cells (a.map λz=>Value.int k z).toArray e x))(i:Nat)(b:i<a.length):w.cell? ⟨g,i,none⟩=some (.int k (a.getD i 0)):=by simp[World.cell?,h,j3,j9 b]
theorem Aw1{C:Cfg}{St:Nat->Prop}{w:World}(f:GOK C St w)(a:C.G=GX):Lib.Utf8Tabs 1 2 w:=by
 obtain⟨j,m,h⟩:=Ak0 (g:=1) (k:=.u8) (zs:=af0) f a rfl;obtain⟨b,n,d⟩:=Ak0 (g:=2) (k:=.u8) (zs:=Cj) f a rfl;refine⟨λc a=>?_,λi l=>⟨?_,?_⟩⟩
 ·rw[EZ h c (by simp[af0];omega)];simp[af0,j3,j9,a]
 ·rw[EZ d (2*i) (by simp[Cj];omega)];have:2*i<32:=by omega
  simp[Cj,j3,this]
 ·rw[EZ d (2*i+1) (by simp[Cj];omega)];have:2*i+1<32:=by omega
  have e:(2*i+1) / 2=i:=by omega
  have b:¬(2*i+1) % 2=0:=by omega
  simp[Cj,j3,this,e,b]
theorem UN:A9 j5 GX 115 Uh:=by
 refine A9.fix (pf:=DR) _ (M5 (fn:=Tryz.f115) (by kernel_rfl) (by kernel_rfl) (by kernel_rfl) ?_);intro args ret o h;unfold DR at h;split at h
 ·rename_i s p;obtain⟨b,h⟩:=D5 h;obtain⟨rfl,rfl⟩:=I7 h;refine⟨rfl,rfl,λC r a t w q c f d=>?_⟩;obtain⟨U,V,rfl,j,k⟩:=d.arr2;obtain⟨n,rfl,rfl⟩:=j.inv_str;obtain⟨l,rfl,rfl⟩:=k.inv_str;obtain⟨m,g⟩:=Aj9 c a;have i:=N6 b;refine(Any.strings_Index Tryz.lays143 n l m w (by simp at i;omega) g).mono ?_;rintro e w' ⟨rfl,rfl⟩;exact⟨_,rfl,ac3 _ _,VP.mk_int _ _⟩
 ·cases h
theorem As4:A9 j5 GX 50 NC:=by
 refine A9.fix (pf:=DP) _ (M5 (fn:=Tryz.f50) (by kernel_rfl) (by kernel_rfl) (by kernel_rfl) ?_);intro args ret q h;unfold DP at h;split at h
 ·rename_i s p;obtain⟨b,h⟩:=D5 h;obtain⟨rfl,rfl⟩:=I7 h;refine⟨rfl,rfl,λC t a u w r c f d=>?_⟩;obtain⟨U,V,rfl,j,k⟩:=d.arr2;obtain⟨o,rfl,rfl⟩:=j.inv_str;obtain⟨l,rfl,rfl⟩:=k.inv_str;obtain⟨m,g⟩:=Aj9 c a;have i:=N6 b;refine(Any.strings_Cut Tryz.lays145 o l m w (by simp at i;omega) g).mono ?_;rintro e w' ⟨rfl,n,rfl⟩;exact⟨_,rfl,IC _ _,VP.mk_tup3 (VP.mk_str _) (VP.mk_str _) (VP.mk_bool _)⟩
 ·cases h
theorem As3:A9 j5 GX 157 NB:=by
 refine A9.fix (pf:=DO) _ (M5 (fn:=Tryz.f157) (by kernel_rfl) (by kernel_rfl) (by kernel_rfl) ?_);intro args ret o h;unfold DO at h;split at h
 ·rename_i s p;obtain⟨f,h⟩:=D5 h;obtain⟨rfl,rfl⟩:=I7 h;refine⟨rfl,rfl,λC t g u w q r j i=>?_⟩;obtain⟨U,V,rfl,l,m⟩:=i.arr2;obtain⟨n,rfl,rfl⟩:=l.inv_str;obtain⟨b,rfl,k⟩:=m.inv_str;obtain⟨c,rfl⟩:∃c,p=[c]:=by
   match p,f with
   | [c],_=>exact⟨c,rfl⟩
  have a:b=⟨#[c]⟩:=by
   cases b with
   | mk d=>congr 1;exact Array.toList_inj.1 k
  subst a;refine(Any.strings_Count_one Tryz.lays138 n c w).mono ?_;rintro e w' ⟨rfl,rfl⟩;exact⟨_,rfl,ac3 _ _,VP.mk_int _ _⟩
 ·cases h
theorem A46{l:LL}(h:l.all isS=true):l=H5 (l.map elS):=by
 unfold H5;rw[ad4]
 symm
 rw[x9 (g:=id)]
 ·simp
 ·intro x a;have:=u9.1 h x a;unfold isS at this;split at this
  ·rfl
  grind
theorem A79:A9 j5 GX 130 VG:=by
 refine A9.fix (pf:=Ui) _ (M5 (fn:=Tryz.f130) (by kernel_rfl) (by kernel_rfl) (by kernel_rfl) ?_);intro args ret Hc h;unfold Ui at h;split at h
 ·rename_i z t l p;obtain⟨L,h⟩:=D5 h;obtain⟨O,h⟩:=D5 h;obtain⟨P,h⟩:=D5 h;obtain⟨rfl,rfl⟩:=I7 h;refine⟨rfl,rfl,λC hP Q Γ w Vs hG H R=>?_⟩;obtain⟨U,V,rfl,Z,hv⟩:=R.arr2;obtain⟨u,rfl,rfl⟩:=hv.inv_str;have m:=N6 O;have hn:=N6 P;have Y:=Z.inv_s;have c:∀(a:Option Addr) (cap:Nat),l=[]->Calls j5 130 #[.slice a 0 cap,.string u] w λe w'=>∃V,e = .returned V/\RowKit.Below w.heap.size w w'/\VP Γ (A0 []) w' (.s (.str (Lib.join (l.map elS) u.data.toList))) V:=by
   intro a cap T;subst T;refine(Any.strings_Join_none Tryz.lays156 Tryz.Builder_Extra_156 a cap u w).mono ?_;rintro e w' ⟨rfl,rfl⟩;exact⟨_,rfl,ac3 _ _,VP.mk_str _⟩
  cases Y with
  | nil=>exact c _ _ rfl
  | emp=>exact c _ _ rfl
  | sl _ _ g off n cap sz Vc I M hm ht S W y K=>
   subst I;have N:=A46 L;have J:∀i (h:i<l.length),∃b:ByteArray,(l[i])=[SV.str b.data.toList]/\w.cell? ⟨g,off+i,none⟩=some (.string b):=by
    intro i B;have d:=u9.1 L (l[i]) (ag5 B);unfold isS at d;split at d
    ·rename_i x r;have k:=y i B 0 (by rw[r];simp);have o:=K i B 0 (by rw[r];simp);simp only[r,List.getElem_cons_zero] at o;obtain⟨b,f,rfl⟩:=o.inv_str;rw[f] at k;exact⟨b,r,by simpa using k⟩
    ·cases d
   obtain⟨xs,q,A⟩:∃xs:List ByteArray,xs.map (·.data.toList)=l.map elS/\∀(j:Nat) x,xs[j]? = some x->w.cell? ⟨g,off+j,none⟩=some (.string x):=by
    refine⟨(l.map elS).map λs=>⟨s.toArray⟩,by simp[ac1],?_⟩;intro j x d;simp only[af2] at d;cases D:l[j]? with
    | none=>simp[D] at d
    | some el=>
     obtain⟨F,rfl⟩:=List.getElem?_eq_some_iff.1 D;obtain⟨b,f,v⟩:=J j F;simp only[D,z7,o5] at d;rw[f] at d;simp[elS,SV.gS] at d;rw[<-d];exact v
   have G:xs.length=l.length:=by
    have:=congrArg j4 q;simpa using this
   rw[<-q] at m ⊢;have f:g<w.heap.size:=H g S;have X:l.length<=140737488355328:=by omega
   refine(G▸Any.strings_Join Tryz.lays156 Tryz.Builder_Extra_156 g off cap xs u w A f (by omega) (by omega) (by omega)).mono ?_;rintro e w' ⟨rfl,hw⟩;exact⟨_,rfl,hw,VP.mk_str _⟩
 ·cases h
end
section
open Go Go.Proofs
set_option maxRecDepth 100000
section
variable {W R : Type} (L : Nat) (Q : E2) (Y : Yh W) (s : W) (k : Out -> St W -> Option R)
noncomputable def YG{R:Type}(L n:Nat)(a:Nat)(i c:Int)(e:LL)(g:Int->LL->Option R)(h:Nat->LL->Option R):Option R:=match n with|0=>none|n+1=>cond (ltI c i) (cond (inR c a) (cond (okE Jy e (0+(b8 c)) 0) (vl (gX e (0+(b8 c)) 0) λb=>cond (A3 b.length) (vl (↑((Ip b)).2:Int) λd=>cond (d !=0) (g d e) (cond (inR c a) (cond (decide ((0+(b8 c))<e.length)) (vl (List.set e (0+(b8 c)) (F4 (ag4 e (0+(b8 c)) []) 0 [(SV.str ((Ip b)).1)])) λf=>YG L n a i (A2 (c+1)) f g h) none) none)) none) none) none) (h a e)
noncomputable abbrev VK:Code:=F0 ak4
noncomputable def Fr(L:Nat):Cfg:=C3 L [91] (A4 [(6,[0,1,0,1,10,0,0])]) [(116,Af0),(117,MU)] (A4 [(13,[2]),(12,[0,3,0,2]),(11,[0,2,1,10,0,0]),(10,[0,2,1,10,0,0]),(9,[2]),(8,[0,2,1,1,8,0,0,8]),(7,[0,2,1,1,8,0,0]),(6,[0,2,1,10,0,0,0]),(5,[0,2,1,10,0,0]),(4,[0,2,1]),(3,[2]),(2,[0,2,11]),(1,[0,2,0]),(0,[0])]) [117] (A4 [(0,[0,2,1]),(1,[0,2,1,10,0,0])]) (some [2]) [] [] []
noncomputable def Q9{R:Type}(L n:Nat)(i:By)(b:Bool)(a:LL)(c:Bool)(h e:Int)(f:Unit->Option R)(g:By->Bool->LL->Bool->Option R):Option R:=match n with|0=>none|n+1=>cond (ltI e h) (cond (inR e a.length) (cond (okE Dd a (b8 e) 0) (vl (gE a (b8 e) 0) λd=>cond (not (ltI d 65)) (cond (not (ltI 90 d)) (f ()) (cond c (Q9 L n i b a (ltI d 128) h (A2 (e+1)) f g) (Q9 L n i b a false h (A2 (e+1)) f g))) (cond c (Q9 L n i b a (ltI d 128) h (A2 (e+1)) f g) (Q9 L n i b a false h (A2 (e+1)) f g))) none) none) (g i b a c)
theorem JQ(n d a b c n4 n5):E7 0 ((Fr L).keep 6) (bd (Fr L) Q Y (cd [1,1,1,1,0,1,0,0] VK)) n ⟨gp [(0,pS d),(2,.s (.sl a a 1 b)),(1,pB c),(10,.s (.sl a a 1 b)),(0,pI n4),(0,pI n5)] 31,[],s⟩ k =
 Q9 L n d a b c n4 n5 (λ_=>k .ret ⟨gp [(2,pB false)] 47,[],s⟩) (λd a b c=>k (.exit 0) ⟨gp [(0,pS d),(2,.s (.sl a a 1 b)),(1,pB c)] 44,[],s⟩):=by
 induction n generalizing d a b c n4 n5 with
 | zero=>rfl
 | succ n e=>rw[Q9];simp only[<-e];kernel_rfl
noncomputable def WE{R:Type}(L:Nat)(d:By)(e:Bool->Option R):Option R:=cond (A3 d.length) (cond ((↑((J9 d)).2:Int)!=0) (e false) (Q9 L L d (o9 ((J9 d)).1) (Sl ((J9 d)).1) true (↑(j4 (Sl ((J9 d)).1)):Int) 0 (λ_=>e false) (λg c a b=>cond (a8 a Hz) (vl ((Q7 (a7 elI a))).1 λh=>vl (↑((Q7 (a7 elI a))).2:Int) λf=>cond (not b) (cond (f==0) (e (h==g)) (e false)) (e false)) none))) none
theorem Al3(d:Nat)(s0):evC (Fr L) (d+1) W Y 91 [pS s0] [] s=WE L s0 (λa=>some (pB a,[],s)):=by refine(evE (fn:=ak4) (by kernel_rfl)).trans ?_;generalize evC (Fr L) d=Q;unfold WE;exact(j6 (by kernel_rfl) (A1 (A1 rfl ((JQ L Q Y s (I2 0 (I8 (Fr L) Q Y (cd [1,1,1,1,1] VK) (J6 (Fr L) ak4))) L s0 (o9 ((J9 s0)).1) (Sl ((J9 s0)).1) true (↑(j4 (Sl ((J9 s0)).1)):Int) 0).trans (by kernel_rfl))) rfl))
noncomputable abbrev Ag7:Code:=F0 ak2
noncomputable def Lc(L:Nat):Cfg:=C3 L [63] (A4 [(4,[0,1,26,0])]) [(71,Ae0),(91,UV)] (A4 [(11,[2]),(10,[5,0]),(9,[0,28,0]),(8,[2]),(7,[0,28,0,28]),(6,[0,3,24,0]),(5,[0,2,25,0]),(4,[0,28,0,0]),(3,[0,28,0]),(2,[2]),(1,[0,26]),(0,[0])]) [71,91] (A4 [(0,[0]),(1,[0,28,0])]) (some [2]) [] [] []
noncomputable def N0{R:Type}(L n:Nat)(b:By)(e a:Int)(c:Unit->Option R)(d:By->Option R):Option R:=match n with|0=>none|n+1=>cond (ltI a e) (cond (inR a b.length) (cond (not (ltI (bAt b a) (97:Int))) (cond (not (not (ltI 122 (bAt b a)))) (cond (not (ltI (bAt b a) (48:Int))) (cond (not (not (ltI 57 (bAt b a)))) (cond ((bAt b a)!=45) (cond ((bAt b a)!=95) (c ()) (N0 L n b e (A2 (a+1)) c d)) (N0 L n b e (A2 (a+1)) c d)) (N0 L n b e (A2 (a+1)) c d)) (cond ((bAt b a)!=45) (cond ((bAt b a)!=95) (c ()) (N0 L n b e (A2 (a+1)) c d)) (N0 L n b e (A2 (a+1)) c d))) (N0 L n b e (A2 (a+1)) c d)) (cond (not (ltI (bAt b a) (48:Int))) (cond (not (not (ltI 57 (bAt b a)))) (cond ((bAt b a)!=45) (cond ((bAt b a)!=95) (c ()) (N0 L n b e (A2 (a+1)) c d)) (N0 L n b e (A2 (a+1)) c d)) (N0 L n b e (A2 (a+1)) c d)) (cond ((bAt b a)!=45) (cond ((bAt b a)!=95) (c ()) (N0 L n b e (A2 (a+1)) c d)) (N0 L n b e (A2 (a+1)) c d)))) none) (d b)
theorem QE(n a n1 n2):E7 0 ((Lc L).keep 4) (bd (Lc L) Q Y (cd [1,1,0,1,0,0] Ag7)) n ⟨gp [(0,pS a),(28,pI n1),(0,pI n2)] 41,[],s⟩ k =
 N0 L n a n1 n2 (λ_=>k .ret ⟨gp [(2,pB false)] 69,[],s⟩) (λa=>k (.exit 0) ⟨gp [(0,pS a)] 71,[],s⟩):=by
 induction n generalizing a n1 n2 with
 | zero=>rfl
 | succ n b=>rw[N0];simp only[<-b];kernel_rfl
noncomputable def Ay4{R:Type}(L:Nat)(a:By)(b:Bool->Option R):Option R:=cond (ltI (a.length:Int) (1:Int)) (b false) (cond (ltI 63 (a.length:Int)) (b false) (cond (inR 0 a.length) (cond ((bAt a (0:Int))==45) (b false) (vl (A2 ((a.length:Int)-1)) λd=>cond (inR d a.length) (cond ((bAt a d)==45) (b false) (N0 L L a (a.length:Int) 0 (λ_=>b false) (λc=>cond (A3 c.length) (vl (Vh c ([120,110,45,45]:List UInt8)) λe=>cond (not (List.isPrefixOf ([120,110,45,45]:List UInt8) c)) (b true) (cond (A3 e.length) (b (Ae e)) none)) none))) none)) none))
theorem Ay5(d:Nat)(s0):evC (Lc L) (d+1) W Y 63 [pS s0] [] s=Ay4 L s0 (λb=>some (pB b,[],s)):=by refine(evE (fn:=ak2) (by kernel_rfl)).trans ?_;generalize evC (Lc L) d=Q;unfold Ay4;exact(j6 (by kernel_rfl) (A1 rfl (A1 rfl (A1 (A1 rfl (B5 λa=>(A1 (A1 rfl ((QE L Q Y s (I2 0 (I8 (Lc L) Q Y (cd [1,1,1] Ag7) (J6 (Lc L) ak2))) L s0 (s0.length:Int) 0).trans (by kernel_rfl))) rfl))) rfl))))
noncomputable abbrev NL:Code:=F0 ai6
noncomputable def Hu(L:Nat):Cfg:=C3 L [129] (A4 [(9,[2,0,1,20])]) [(148,HT),(149,HS),(53,Om),(117,MU),(63,CQ)] (A4 [(18,[2,0]),(17,[2,0]),(16,[4,41]),(15,[4]),(14,[2,0]),(13,[8,32]),(12,[8,0]),(11,[5,20]),(10,[5,1,18]),(9,[5,20,0,0]),(8,[5,20]),(7,[4,0]),(6,[4,19]),(5,[0,3]),(2,[2,0]),(4,[2,0]),(3,[0,13]),(1,[0,9]),(0,[0])]) [148,149,53,117,63] (A4 [(1,[5]),(2,[5,20]),(0,[0])]) (some [2,0]) [] [] []
noncomputable def Bm{R:Type}(L n:Nat)(c:LL)(b:By)(a:Nat)(e:LL->By->Nat->Option R):Option R:=match n with|0=>none|n+1=>cond (decide (a<b.length)) (vl ((ac7 ⟨af5 b⟩ a)).1 λd=>cond (G1 (c.length+1)) (Bm L n (c++[[(SV.int .i64 (A2 d))]]) b (a+((ac7 ⟨af5 b⟩ a)).2) e) none) (e c b a)
theorem PM(n:Nat)(a:LL)(c:By)(b:Nat):E7 2 ((Hu L).keep 9) (bd (Hu L) Q Y (cd [1,1,1,0,1,0,1,0,1,0,0] NL)) n ⟨gp [(5,.fl 0),(20,.it 1)] 21,[.arr true 3 1 a,.iter c b],s⟩ k =
 Bm L n a c b (λa c b=>k (.exit 1) ⟨gp [(5,.fl 0)] 42,[.arr true 3 1 a,.iter c b],s⟩):=by
 induction n generalizing a c b with
 | zero=>rfl
 | succ n d=>rw[Bm];simp only[<-d];kernel_rfl
noncomputable def JN{R:Type}(L:Nat)(b:By)(g:By->Int->Option R)(h:By->Int->LL->By->Nat->Option R):Option R:=cond (A3 b.length) (cond (not (Option.isSome (Sm b))) (g ([]:List UInt8) 4) (cond (A3 b.length) (vl (↑(ab5 b):Int) λi=>cond (ltI 256 i) (g ([]:List UInt8) 3) (cond (A3 b.length) (cond (A3 b.length) (vl (↑(ab5 b):Int) λj=>cond (ltI j (b.length:Int)) (Bm L L [] (G8 b) 0 (λa e d=>cond (a8 a Hz) (vl ((Q7 (a7 elI a))).1 λf=>vl (↑((Q7 (a7 elI a))).2:Int) λl=>cond (l !=0) (h ([]:List UInt8) 14 a e d) (cond (VQ 4 f.length) (vl (([120,110,45,45]:List UInt8)++f) λc=>cond (A3 c.length) (cond (not (N5 c)) (h ([]:List UInt8) 14 a e d) (h c 0 a e d)) none) none)) none)) (cond (A3 (j4 (G8 b))) (cond (not (N5 (G8 b))) (g ([]:List UInt8) 14) (g (G8 b) 0)) none)) none) none)) none)) none
theorem Ax3(d:Nat)(s0):evC (Hu L) (d+1) W Y 129 [pS s0] [] s=JN L s0 (λa b=>some (.tup [pS a,pI b],[],s)) (λa b c h e=>some (.tup [pS a,pI b],[.arr true 3 1 c,.iter h e],s)):=by refine(evE (fn:=ai6) (by kernel_rfl)).trans ?_;generalize evC (Hu L) d=Q;unfold JN;exact(j6 (by kernel_rfl) (A1 (A1 rfl (A1 (B5 λf=>(A1 rfl (A1 (A1 (B5 λg=>(A1 ((PM L Q Y s (I2 1 (I8 (Hu L) Q Y (cd [1,1,1,0,1,0,1,1] NL) (I8 (Hu L) Q Y (cd [1,1,1,1] NL) (J6 (Hu L) ai6)))) L [] (G8 s0) 0).trans (by kernel_rfl)) (A1 (A1 rfl rfl) rfl))) rfl) rfl))) rfl)) rfl))
noncomputable abbrev Kt:Code:=F0 ah0
noncomputable def Ed(L:Nat):Cfg:=C3 L [147] (A4 []) [] (A4 [(7,[2]),(2,[2]),(4,[2]),(6,[2]),(5,[0,23]),(3,[0,12]),(1,[0,2]),(0,[0])]) [] (A4 [(0,[])]) (some [2]) [] [] []
noncomputable def Mw{R:Type}(a:Int)(h:Bool)(f:Int->Option R)(g:Int->Bool->Option R):Option R:=cond h (vl (A2 (wu8 (a-97))) λb=>vl (A2 (b+10)) λc=>f c) (cond (not (ltI a 65)) (cond (not (ltI 70 a)) (vl (A2 (wu8 (a-65))) λd=>vl (A2 (d+10)) λe=>f e) (g a (not (ltI 70 a)))) (g a false))
abbrev Zt(b:Code):Prop:=∀(k:Out->St W->Option R) a c,B8 (Ed L) Q Y b ⟨gp [(0,p8 a),(12,pB c)] 21,[],s⟩ k=Mw a c (λn0=>k .ret ⟨gp [(2,pI n0)] 32,[],s⟩) (λa c=>k .normal ⟨gp [(0,p8 a),(23,pB c)] 10,[],s⟩)
theorem PE:Zt (R:=R) L Q Y s (cd [1,0,0,1,1,1] Kt):=by intro k a b;unfold Mw;kernel_rfl
noncomputable def Mx{R:Type}(b:Int)(l:Bool)(f:Int->Option R)(j:Int->Bool->Option R):Option R:=cond l (vl (A2 (wu8 (b-48))) λg=>f g) (cond (not (ltI b 97)) (Mw b (not (ltI 102 b)) (λh=>f h) (λc d=>j c d)) (Mw b false (λi=>f i) (λe a=>j e a)))
abbrev Qc(b:Code):Prop:=∀(k:Out->St W->Option R) a c,B8 (Ed L) Q Y b ⟨gp [(0,p8 a),(2,pB c)] 31,[],s⟩ k=Mx a c (λn0=>k .ret ⟨gp [(2,pI n0)] 32,[],s⟩) (λa c=>k .normal ⟨gp [(0,p8 a),(23,pB c)] 10,[],s⟩)
theorem PG(a:Code)(b:Zt (R:=R) L Q Y s a):Qc (R:=R) L Q Y s (cd [1,0,0,1] (X3 [1,0,0,1,1,1] a Kt)):=by intro k c d;unfold Mx;simp only[<-b k];kernel_rfl
theorem PH:Qc (R:=R) L Q Y s (cd [1,0,0,1] Kt):=by intro k a b;exact j6 (by kernel_rfl) (PG L Q Y s (cd [1,0,0,1,1,1] Kt) (PE L Q Y s) k a b)
noncomputable def Ak2{R:Type}(L:Nat)(c:Int)(d:Int->Option R):Option R:=cond (not (ltI c 48)) (Mx c (not (ltI 57 c)) (λa=>d a) (λe f=>d (-1))) (Mx c false (λb=>d b) (λg h=>d (-1)))
theorem Aw4(b:Code)(a:Qc (R:=PV × List Blk × W) L Q Y s b)(c:Int):B8 (Ed L) Q Y (cd [] (X3 [1,0,0,1] b Kt)) ⟨[p8 c]++tps 34,[],s⟩ (J6 (Ed L) ah0)=Ak2 L c (λe=>some (pI e,[],s)):=by unfold Ak2;exact let d:=(I2 0 (I8 (Ed L) Q Y (cd [1,1] Kt) (J6 (Ed L) ah0)));(j6 (by kernel_rfl) (A1 ((a d c (not (ltI 57 c))).trans (by kernel_rfl)) ((a d c false).trans (by kernel_rfl))))
theorem Aw5(d:Nat)(b0):evC (Ed L) (d+1) W Y 147 [p8 b0] [] s=Ak2 L b0 (λa=>some (pI a,[],s)):=
 (evE (fn:=ah0) (by kernel_rfl)).trans (j6 (by kernel_rfl) (Aw4 L (evC (Ed L) d) Y s (cd [1,0,0,1] Kt) (PH L (evC (Ed L) d) Y s) b0))
noncomputable abbrev Ag4:Code:=F0 ai5
noncomputable def Kz(L:Nat):Cfg:=C3 L [127] (A4 [(3,[0,1,0,0,0])]) [(147,Ae2)] (A4 [(14,[2,0]),(4,[0,3,0]),(13,[0,3,0]),(12,[0,3,0]),(11,[2,0]),(10,[0,3,0,0,0,39]),(9,[0,3,0,0,0]),(8,[2,0]),(7,[0,3,0,25]),(6,[0,3,0]),(5,[0,3,0,14]),(3,[0,3,0,8]),(2,[0,3,0]),(1,[0,3]),(0,[0])]) [147] (A4 [(0,[4]),(1,[0,3,0])]) (some [2,0]) [] [] []
noncomputable def N8{R:Type}(L n:Nat)(b:By)(a:Int)(c:LL)(f:LL->Option R)(g:LL->Option R):Option R:=match n with|0=>none|n+1=>cond (ltI a (b.length:Int)) (cond (inR a b.length) (cond ((bAt b a)!=37) (cond (inR a b.length) (cond (G1 (c.length+1)) (N8 L n b (A2 (a+1)) (c++[[(SV.int .u8 (bAt b a))]]) f g) none) none) (cond (not (ltI (A2 (a+2)) (b.length:Int))) (f c) (cond (inR (A2 (a+1)) b.length) (vl (bAt b (A2 (a+1))) λd=>cond (inR d 256) (cond (inR (A2 (a+2)) b.length) (vl (bAt b (A2 (a+2))) λe=>cond (inR e 256) (cond (ltI (Ps (u8n d)) (0:Int)) (f c) (cond (ltI (Ps (u8n e)) (0:Int)) (f c) (vl (A2 ((16:Int)*(Ps (u8n d)))) λh=>vl (A2 (h+(Ps (u8n e)))) λi=>cond (G1 (c.length+1)) (vl (A2 ((A2 (a+2))+1)) λj=>N8 L n b j (c++[[(SV.int .u8 (wu8 i))]]) f g) none))) none) none) none) none))) none) (g c)
theorem PD(n s0 i1 l2):E7 1 ((Kz L).keep 3) (bd (Kz L) Q Y (cd [1,0,1,1,0,1,0,0] Ag4)) n ⟨gp [(0,pS s0),(3,.fl 0),(0,pI i1)] 54,[.arr false 5 1 l2],s⟩ k =
 N8 L n s0 i1 l2 (λa=>k .ret ⟨gp [(2,pS ([]:List UInt8)),(0,pB false)] 56,[.arr false 5 1 a],s⟩) (λa=>k (.exit 0) ⟨gp [(4,.fl 0)] 55,[.arr false 5 1 a],s⟩):=by
 induction n generalizing s0 i1 l2 with
 | zero=>rfl
 | succ n b=>rw[N8];simp only[<-b];kernel_rfl
noncomputable def Ak1{R:Type}(L:Nat)(c:By)(d:By->Bool->LL->Option R):Option R:=cond ((decide ((0:Int)<=(c.length:Int)))&&(G1 (b8 (c.length:Int)))) (N8 L L c 0 [] (λb=>d ([]:List UInt8) false b) (λa=>cond (a8 a Sk) (d (a7 Pu a) true a) none)) none
theorem Aw2(d:Nat)(s0):evC (Kz L) (d+1) W Y 127 [pS s0] [] s=Ak1 L s0 (λb c a=>some (.tup [pS b,pB c],[.arr false 5 1 a],s)):=by refine(evE (fn:=ai5) (by kernel_rfl)).trans ?_;generalize evC (Kz L) d=Q;unfold Ak1;exact(j6 (by kernel_rfl) (A1 ((PD L Q Y s (I2 0 (I8 (Kz L) Q Y (cd [1,0,1,1,1] Ag4) (J6 (Kz L) ai5))) L s0 0 []).trans (by kernel_rfl)) rfl))
end
section
variable {W R : Type} (L : Nat) (Y : E2) (Q : Yh W) (s : W) (k : Out -> St W -> Option R)
noncomputable def NZ(L:Nat):Cfg:=C3 L [160] (A4 []) [] (A4 [(2,[2]),(1,[1,1]),(0,[1])]) [] (A4 []) (some [2]) [] [] []
noncomputable def Bh2{R:Type}(L:Nat)(b:Int)(a:Int->Option R):Option R:=a b
theorem A12(d:Nat)(b):evC (NZ L) (d+1) W Q 160 [pI b] [] s=Bh2 L b (λn0=>some (.fnr (u0 175) [] [.ptr 1 0 0,.ptr 0 0 0],[.box [pI n0],.box [pI (0:Int)]],s)):=by refine(evE (fn:=Tryz.f160) (by kernel_rfl)).trans ?_;generalize evC (NZ L) d=Y;unfold Bh2;kernel_rfl
noncomputable def EO(L:Nat):Cfg:=C3 L [175] (A4 []) [] (A4 [(2,[2]),(1,[0,0]),(0,[0,0])]) [] (A4 []) (some [2]) [] [] []
noncomputable def WQ{R:Type}(L:Nat)(k b:Int)(d:Int->Int->Int->Option R):Option R:=vl (A2 ((A2 (k+36))-b)) λa=>vl (if ((26:Int)<(if ((1:Int) > a) then (1:Int) else a)) then (26:Int) else (if ((1:Int) > a) then (1:Int) else a)) λc=>d c (A2 (k+36)) b
theorem An0(d:Nat)(k b):evC (EO L) (d+1) W Q 175 [.ptr 0 0 0,.ptr 1 0 0] [.box [pI k],.box [pI b]] s=WQ L k b (λe a c=>some (pI e,[.box [pI a],.box [pI c]],s)):=by refine(evE (fn:=Tryz.f175) (by kernel_rfl)).trans ?_;generalize evC (EO L) d=Y;unfold WQ;kernel_rfl
noncomputable abbrev Bd7:Code:=F0 ai7
noncomputable def Pn(L:Nat):Cfg:=C3 L [140] (A4 [(2,[0,0,4,0])]) [(160,Tu),(161,MT)] (A4 [(6,[0,0,5]),(5,[0,0,5,0]),(4,[6]),(3,[0,0,5,0,6]),(2,[0,0,5,0]),(1,[0,0,5]),(0,[0,0,0])]) [161] (A4 [(0,[6]),(1,[0,0,5])]) (some [6]) [(175,Iu)] [] [175]
noncomputable def Dn{R:Type}(L n:Nat)(f:Int)(p:Bool)(g:LL)(a b:Int)(o:Bool->LL->Int->Int->Option R):Option R:=match n with|0=>none|n+1=>cond (ltN b 1000000000000) (cond (ltN a 1000000) (cond (ltI f (I6 b a)) (cond (ltN f 36) (vl (↑(ak5 (T4 (b8 f))):Int) λh=>cond (G1 (g.length+1)) (o p (g++[[(SV.int .u8 h)]]) a (y5 b (36:Int))) none) none) (vl (A2 (f-(I6 b a))) λi=>vl (A2 ((36:Int)-(I6 b a))) λc=>cond (c !=0) (vl (A2 ((I6 b a)+(ae8 i c))) λd=>cond (ltN d 36) (vl (↑(ak5 (T4 (b8 d))):Int) λj=>cond (G1 (g.length+1)) (vl (A2 (f-(I6 b a))) λl=>vl (A2 ((36:Int)-(I6 b a))) λe=>cond (e !=0) (vl (A2 (x3 l e)) λm=>Dn L n m p (g++[[(SV.int .u8 j)]]) a (y5 b (36:Int)) o) none) none) none) none)) none) none
theorem QS(n q0 z1 l2 a n4):E7 3 ((Pn L).keep 2) (bd (Pn L) Y Q (cd [1,1,0,0] Bd7)) n ⟨gp [(0,.fl 0),(0,pI q0),(5,.fnr (u0 175) [] [.ptr 2 0 0,.ptr 1 0 0])] 31,[.arr z1 5 1 l2,.box [pI a],.box [pI n4]],s⟩ k =
 Dn L n q0 z1 l2 a n4 (λe c d a=>k .ret ⟨gp [(6,.fl 0)] 32,[.arr e 5 1 c,.box [pI d],.box [pI a]],s⟩):=by
 induction n generalizing q0 z1 l2 a n4 with
 | zero=>rfl
 | succ n b=>rw[Dn];simp only[<-b];kernel_rfl
noncomputable def Bg9{R:Type}(L:Nat)(q b:Int)(z:Bool)(l:LL)(f:Bool->LL->Int->Int->Option R):Option R:=Dn L L q z l b 0 (λe a c d=>f e a c d)
theorem Az8(d:Nat)(q b z l):evC (Pn L) (d+1) W Q 140 [.fl 0,pI q,pI b] [.arr z 5 1 l] s=Bg9 L q b z l (λf a c e=>some (.fl 0,[.arr f 5 1 a,.box [pI c],.box [pI e]],s)):=by refine(evE (fn:=ai7) (by kernel_rfl)).trans ?_;generalize evC (Pn L) d=Y;unfold Bg9;exact(j6 (by kernel_rfl) ((QS L Y Q s (I2 0 (J6 (Pn L) ai7)) L q z l b 0).trans (by kernel_rfl)))
noncomputable abbrev Ay:Code:=F0 ag9
noncomputable def M3(L:Nat):Cfg:=C3 L [117] (A4 [(29,[0,1,0,0,2,0,0,0,0,61,0,0]),(21,[0,1,0,0,2,0,0,0,0,0,38,0,0]),(17,[0,1,0,0,2,0,0,0,0]),(5,[0,1,0,0,15,0,0])]) [(139,Hl),(141,Hk)] (A4 [(40,[2,0]),(18,[0,3,2,0,0,0,0]),(39,[0,3,2,0,0,0,0]),(38,[0,3,2,0,0,0,0,61,0,0]),(32,[0,3,2,0,0,0,0,61,0,0]),(37,[0,3,2,0,0,0,0,61,0,0]),(36,[0,3,2,0,0,0,0,61,0,0]),(35,[0,3,2,0,1,0,61,0,0]),(34,[0,3,2,0,0,1,61,0,0]),(33,[0,3,2,0,0,0,0,61,0,0,9]),(31,[0,3,2,0,0,0,0,4,56,0,0,3]),(30,[0,3,2,0,0,0,0,4,56,0,0]),(29,[0,3,2,0,0,0,0,61,0,0,0]),(28,[0,3,2,0,0,0,0,61,0,0]),(27,[0,3,2,0,0,0,0]),(26,[0,3,2,1,0,0,0]),(25,[0,3,2,0,0,0,0,0,38,0,0]),(24,[0,3,2,0,0,0,0,0,38,0,0]),(23,[0,3,2,0,0,0,0,0,1,36,0,0,5]),(22,[0,3,2,0,0,0,0,0,1,36,0,0]),(21,[0,3,2,0,0,0,0,0,38,0,0,0]),(20,[0,3,2,0,0,0,0,0,38,0,0]),(19,[0,3,2,0,0,0,0,0]),(17,[0,3,2,0,0,0,0,36]),(16,[0,3,2,0,0,0,0]),(15,[0,3,2,0,0,0]),(14,[0,3,2]),(13,[0,3,2,32]),(12,[0,3,2]),(11,[0,3,15,0,0]),(10,[0,3,15,0,0]),(9,[0,3,1,13,0,0,7]),(8,[2,0]),(7,[0,3,1,13,0,0,5]),(6,[0,3,1,13,0,0]),(5,[0,3,15,0,0,0]),(4,[0,3,15,0,0]),(3,[0,3]),(2,[2,0]),(1,[0,18]),(0,[0])]) [139,141] (A4 [(2,[4]),(3,[0,3,2,0,0,0,0]),(6,[0,3,2,0,0,0,0]),(7,[0,3,2,0,0,0,0,61,0,0]),(8,[0,3,2,0,0,0,0,61,0,0]),(4,[0,3,2,0,0,0,0,0]),(5,[0,3,2,0,0,0,0,0,38,0,0]),(0,[0,3]),(1,[0,3,15,0,0])]) (some [2,0]) [(140,CW)] [] [140]
noncomputable def O9{R:Type}(L n:Nat)(c b:Bool)(a:LL)(i e:Int)(f:LL)(g:LL->Option R)(h:Bool->Bool->LL->LL->Option R):Option R:=match n with|0=>none|n+1=>cond (ltI e i) (cond (inR e a.length) (cond (okE Dd a (b8 e) 0) (vl (gE a (b8 e) 0) λd=>cond (not (ptI d)) (g f) (cond (ltI d 128) (cond (G1 (f.length+1)) (O9 L n c b a i (A2 (e+1)) (f++[[(SV.int .u8 (wu8 d))]]) g h) none) (O9 L n c b a i (A2 (e+1)) f g h))) none) none) (h c b a f)
theorem RE(n b a c n3 n4 l5):E7 1 ((M3 L).keep 5) (bd (M3 L) Y Q (cd [1,1,1,0,1,0,0] Ay)) n ⟨gp [(0,.s (.sl b a 1 c)),(3,.fl 0),(15,.s (.sl b a 1 c)),(0,pI n3),(0,pI n4)] 84,[.arr true 5 1 l5],s⟩ k =
 O9 L n b a c n3 n4 l5 (λe=>k .ret ⟨gp [(2,pS ([]:List UInt8)),(0,pI (2:Int))] 103,[.arr true 5 1 e],s⟩) (λb a c f=>k (.exit 0) ⟨gp [(0,.s (.sl b a 1 c)),(3,.fl 0)] 102,[.arr true 5 1 f],s⟩):=by
 induction n generalizing b a c n3 n4 l5 with
 | zero=>rfl
 | succ n d=>rw[O9];simp only[<-d];kernel_rfl
noncomputable def Dq{R:Type}(L n:Nat)(c b:Bool)(a:LL)(d o e f g m q h:Int)(i:LL)(p:Bool->Bool->LL->Int->Int->Int->Int->Int->Int->LL->Option R):Option R:=match n with|0=>none|n+1=>cond (ltI h q) (cond (inR h a.length) (cond (okE Dd a (b8 h) 0) (vl (gE a (b8 h) 0) λj=>cond (not (ltI j o)) (vl (if (j<m) then j else m) λl=>Dq L n c b a d o e f g l q (A2 (h+1)) i p) (Dq L n c b a d o e f g m q (A2 (h+1)) i p)) none) none) (p c b a d o e f g m i)
theorem RF(n b a c d i e f g h n9 n10 l11):E7 1 ((M3 L).keep 21) (bd (M3 L) Y Q (cd [1,1,1,1,1,1,1,0,1,0,0,1,0,0,1,0,1,0,0] Ay)) n ⟨gp [(0,.s (.sl b a 1 c)),(3,.fl 0),(2,pI d),(0,pI i),(0,pI e),(0,pI f),(0,pI g),(0,pI h),(38,.s (.sl b a 1 c)),(0,pI n9),(0,pI n10)] 53,[.arr true 5 1 l11],s⟩ k =
 Dq L n b a c d i e f g h n9 n10 l11 (λb a c d i e f g h l=>k (.exit 4) ⟨gp [(0,.s (.sl b a 1 c)),(3,.fl 0),(2,pI d),(0,pI i),(0,pI e),(0,pI f),(0,pI g),(0,pI h)] 94,[.arr true 5 1 l],s⟩):=by
 induction n generalizing b a c d i e f g h n9 n10 l11 with
 | zero=>rfl
 | succ n j=>rw[Dq];simp only[<-j];kernel_rfl
noncomputable def X1{R:Type}(L n:Nat)(d c:Bool)(a:LL)(e o b g f j m:Int)(h:LL)(u:Bool->Bool->LL->Int->Int->Int->Int->Int->LL->Option R):Option R:=match n with|0=>none|n+1=>cond (ltI m j) (cond (inR m a.length) (cond (okE Dd a (b8 m) 0) (vl (gE a (b8 m) 0) λl=>cond (ltI l o) (vl (A2 (b+1)) λq=>X1 L n d c a e o q g f j (A2 (m+1)) h u) (cond (l==o) (cond (ltN b 1152921504606846976) (cond (ltN g 1000000) (cond (o8 h.length 100000) (vl (ah4 h (a7 D7 (L3 (b8 b) 0 (b8 g)))) λp=>vl (A2 (f+1)) λi=>cond (ltN b 1152921504606846976) (cond (ltN i 1000000) (cond (ltI 0 i) (vl (↑(M0 (b8 b) (b8 i) (f==e)):Int) λr=>vl (A2 (f+1)) λt=>X1 L n d c a e o 0 r t j (A2 (m+1)) p u) none) none) none) none) none) none) (X1 L n d c a e o b g f j (A2 (m+1)) h u))) none) none) (u d c a e o b g f h)
theorem RG(n b a c d h e f g n8v n9 l10):E7 1 ((M3 L).keep 29) (bd (M3 L) Y Q (cd [1,1,1,1,1,1,1,0,1,0,0,1,0,0,1,1,1,1,0,1,0,0] Ay)) n ⟨gp [(0,.s (.sl b a 1 c)),(3,.fl 0),(2,pI d),(0,pI h),(0,pI e),(0,pI f),(0,pI g),(61,.s (.sl b a 1 c)),(0,pI n8v),(0,pI n9)] 31,[.arr true 5 1 l10],s⟩ k =
 X1 L n b a c d h e f g n8v n9 l10 (λb a c d h e f g j=>k (.exit 6) ⟨gp [(0,.s (.sl b a 1 c)),(3,.fl 0),(2,pI d),(0,pI h),(0,pI e),(0,pI f),(0,pI g)] 95,[.arr true 5 1 j],s⟩):=by
 induction n generalizing b a c d h e f g n8v n9 l10 with
 | zero=>rfl
 | succ n i=>rw[X1];simp only[<-i];kernel_rfl
noncomputable def Bq{R:Type}(L n:Nat)(j i:Bool)(b:LL)(v K w y u:Int)(J:LL)(I:LL->Option R):Option R:=match n with|0=>none|n+1=>cond (ltI u (b.length:Int)) (Dq L L j i b v K w y u 1114112 (b.length:Int) 0 J (λe c a l B o q g x z=>vl (A2 (g+1)) λC=>vl (A2 ((A2 (x-B))*C)) λD=>X1 L L e c a l x (A2 (o+D)) q g (a.length:Int) 0 z (λf d h m F p r t A=>vl (A2 (p+1)) λG=>vl (A2 (F+1)) λH=>Bq L n f d h m H G r t A I))) (I J)
theorem Xb(n points_z0 points_t1 points2 basic3 n4 delta5 bias6 done7 l8):E7 1 ((M3 L).keep 17) (bd (M3 L) Y Q (cd [1,1,1,1,1,1,1,0,1,0,0] Ay)) n ⟨gp [(0,.s (.sl points_z0 points_t1 1 points2)),(3,.fl 0),(2,pI basic3),(0,pI n4),(0,pI delta5),(0,pI bias6),(0,pI done7)] 95,[.arr true 5 1 l8],s⟩ k =
 Bq L n points_z0 points_t1 points2 basic3 n4 delta5 bias6 done7 l8 (λB=>k (.exit 2) ⟨gp [(4,.fl 0)] 102,[.arr true 5 1 B],s⟩):=by
 induction n generalizing points_z0 points_t1 points2 basic3 n4 delta5 bias6 done7 l8 with
 | zero=>rfl
 | succ n A=>rw[Bq];exact(j6 (by kernel_rfl) (A1 ((RF L Y Q s (I2 4 (I8 (M3 L) Y Q (cd [1,1,1,1,1,1,1,0,1,0,0,1,0,0,1,1] Ay) (I2 3 (I8 (M3 L) Y Q (cd [1,1,1,1,1,1,1,0,1,0,0,1,1] Ay) (lpK 1 ((M3 L).keep 17) (bd (M3 L) Y Q (cd [1,1,1,1,1,1,1,0,1,0,0] Ay)) n k))))) L points_z0 points_t1 points2 basic3 n4 delta5 bias6 done7 1114112 (points2.length:Int) 0 l8).trans (congr rfl (Aw0 λd b a g x i j m t q=>(j6 (by kernel_rfl) (B5 λy=>(B5 λu=>((RG L Y Q s (I2 6 (I8 (M3 L) Y Q (cd [1,1,1,1,1,1,1,0,1,0,0,1,0,0,1,1,1,1,1] Ay) (I2 3 (I8 (M3 L) Y Q (cd [1,1,1,1,1,1,1,0,1,0,0,1,1] Ay) (lpK 1 ((M3 L).keep 17) (bd (M3 L) Y Q (cd [1,1,1,1,1,1,1,0,1,0,0] Ay)) n k))))) L d b a g t (A2 (i+u)) j m (a.length:Int) 0 q).trans (congr rfl (fx9 λe c f h z p l o r=>(j6 (by kernel_rfl) (B5 λv=>(B5 λw=>(A e c f h w v l o r))))))))))))) rfl))
noncomputable def KB{R:Type}(L:Nat)(l j:Bool)(p:LL)(m:Unit->Option R)(h:By->Int->LL->Option R):Option R:=cond (ltI 256 (p.length:Int)) (m ()) (O9 L L l j p (p.length:Int) 0 [] (λi=>h ([]:List UInt8) 2 i) (λb a c g=>vl (g.length:Int) λf=>cond (ltI 0 f) (cond (G1 (g.length+1)) (Bq L L b a c f 128 0 72 f (g++[[(SV.int .u8 (45:Int))]]) (λd=>cond (a8 d Sk) (h (a7 Pu d) 0 d) none)) none) (Bq L L b a c f 128 0 72 f g (λe=>cond (a8 e Sk) (h (a7 Pu e) 0 e) none))))
theorem A06(d:Nat)(p_z p_t p):evC (M3 L) (d+1) W Q 117 [.s (.sl p_z p_t 1 p)] [] s=KB L p_z p_t p (λ_=>some (.tup [pS ([]:List UInt8),pI (3:Int)],[],s)) (λi j h=>some (.tup [pS i,pI j],[.arr true 5 1 h],s)):=by refine(evE (fn:=ag9) (by kernel_rfl)).trans ?_;generalize evC (M3 L) d=Y;unfold KB;exact let g:=(I2 2 (I8 (M3 L) Y Q (cd [1,1,1,1,1,1,1,1] Ay) (J6 (M3 L) ag9)));(j6 (by kernel_rfl) (A1 rfl ((RE L Y Q s (I2 0 (I8 (M3 L) Y Q (cd [1,1,1,1] Ay) (J6 (M3 L) ag9))) L p_z p_t p (p.length:Int) 0 []).trans (congr (congr rfl (by kernel_rfl)) (fx4 λb a c f=>(j6 (by kernel_rfl) (B5 λe=>(A1 (A1 ((Xb L Y Q s g L b a c e 128 0 72 e (f++[[(SV.int .u8 (45:Int))]])).trans (by kernel_rfl)) rfl) ((Xb L Y Q s g L b a c e 128 0 72 e f).trans (by kernel_rfl))))))))))
end
theorem Ob(k b:Nat):I6 ((36*k:Nat):Int) (b:Int)=(thr k b:Int):=by unfold I6 thr;omega
theorem ZS{R:Type}{a:Int->Option R}(b:Int):Bh2 LF b a=a b:=rfl
theorem RK{R:Type}{a:Int->Int->Int->Option R}(k b:Int)(e:ltN k 1000000000000=true)(f:ltN b 1000000=true):WQ LF k b a=a (I6 k b) (y5 k 36) b:=by
 obtain⟨g,h⟩:=K7.1 e;obtain⟨i,j⟩:=K7.1 f;unfold WQ;have c:A2 (k+36)=k+36:=A5;have d:A2 (k+36-b)=k+36-b:=A5;simp only[vl,c,d];have:(if (26:Int)<(if (1:Int) > k+36-b then (1:Int) else k+36-b) then (26:Int) else (if (1:Int) > k+36-b then (1:Int) else k+36-b))=I6 k b:=by
  unfold I6;omega
 grind
theorem Jb{q k b:Nat}(h:q<thr k b):L3 q k b=[T4 q]:=by rw[L3,dif_pos h]
theorem Pv{q k b:Nat}(h:¬q<thr k b):L3 q k b=T4 (thr k b+(q-thr k b) % (36-thr k b))::L3 ((q-thr k b) / (36-thr k b)) (k+1) b:=by rw[L3,dif_neg h]
theorem EW{x y m:Nat}(a:10<=y)(h:x<10*m):x / y<m:=by have b:x / y<=x / 10:=Nat.div_le_div_left a (by omega);omega
theorem OU(b:Nat):∀(r q k:Nat),q<10 ^ r->(L3 q k b).length<=r+1:=by
 intro r
 induction r with
 | zero=>
  intro q k h;have c:=P9 k b;rw[Jb (by simp at h;omega)];simp
 | succ r d=>
  intro q k h;have c:=P9 k b;by_cases a:q<thr k b
  ·rw[Jb a];simp
  ·rw[Pv a,p5];have:=d ((q-thr k b) / (36-thr k b)) (k+1) (EW (by omega) (by rw[aj1] at h;omega));omega
theorem ZK(z:Bool)(b:Nat)(L:b<1000000):∀(r q k n:Nat) (l:LL),q<10 ^ r->q<1152921504606846976->k+r<=1000->r<n->l.length+r<=200000->
  ∃(d f:Int),∀(R:Type) (a:Bool->LL->Int->Int->Option R),Dn LF n (q:Int) z l (b:Int) ((36*k:Nat):Int) a=a z (l++(L3 q k b).map D7) d f:=by
 have c:∀(q k n:Nat) (l:LL),q<thr k b->k<=1000->l.length<=200000->∃(d f:Int),∀(R:Type) (a:Bool->LL->Int->Int->Option R),Dn LF (n+1) (q:Int) z l (b:Int) ((36*k:Nat):Int) a=a z (l++(L3 q k b).map D7) d f:=by
  intro q k n l g i j;have p:=P9 k b;refine⟨(b:Int),y5 ((36*k:Nat):Int) 36,λR a=>?_⟩;rw[Dn];rw[L7,L7,Ob,A8,L7,Jb g];simp only[vl,cond_true,b9];rw[E9 (by omega)];rfl
 intro r
 induction r with
 | zero=>
  intro q k n l h _ i H j;have p:=P9 k b;obtain⟨n,rfl⟩:∃m,n=m+1:=⟨n-1,by omega⟩
  exact c q k n l (by simp at h;omega) (by omega) (by omega)
 | succ r I=>
  intro q k n l h o i H j;have p:=P9 k b;obtain⟨n,rfl⟩:∃m,n=m+1:=⟨n-1,by omega⟩
  by_cases g:q<thr k b
  ·exact c q k n l g (by omega) (by omega)
  ·have D:(q-thr k b) / (36-thr k b)<10 ^ r:=EW (by omega) (by rw[aj1] at h;omega);have F:(q-thr k b) / (36-thr k b)<=q:=Nat.le_trans (y9 _ _) (by omega);have G:(q-thr k b) % (36-thr k b)<36-thr k b:=ai1 _ (by omega);obtain⟨d,f,e⟩:=I ((q-thr k b) / (36-thr k b)) (k+1) n (l++[D7 (T4 (thr k b+(q-thr k b) % (36-thr k b)))]) D (by omega) (by omega) (by omega) (by rw[p9,List.length_singleton];omega);refine⟨d,f,λR a=>?_⟩;rw[Dn];have t:A2 ((q:Int)-(thr k b:Int))=((q-thr k b:Nat):Int):=by rw[A5];omega
   have u:A2 ((36:Int)-(thr k b:Int))=((36-thr k b:Nat):Int):=by rw[A5];omega
   have v:ae8 ((q-thr k b:Nat):Int) ((36-thr k b:Nat):Int)=(((q-thr k b) % (36-thr k b):Nat):Int):=Fi _ _;have w:x3 ((q-thr k b:Nat):Int) ((36-thr k b:Nat):Int)=(((q-thr k b) / (36-thr k b):Nat):Int):=K5 _ _;have C:((((36-thr k b:Nat):Int))!=0)=true:=by rw[bne_iff_ne];omega
   rw[L7,L7,Ob,A6];simp only[vl,t,u,v,w,C,cond_true,cond_false];rw[Pv g];generalize J:(q-thr k b) / (36-thr k b)=A at *;generalize K:(q-thr k b) % (36-thr k b)=B at *;have x:A2 ((thr k b:Int)+(B:Int))=((thr k b+B:Nat):Int):=by rw[A5];rfl
   have y:A2 (A:Int)=(A:Int):=A5;rw[x,y,L7,E9 (by omega),b9,show y5 ((36*k:Nat):Int) 36=((36*(k+1):Nat):Int) from(by show((36*k:Nat):Int)+36=_;omega)];refine j6 (e R a) ?_;simp[u6]
theorem ZL(q b:Int)(z:Bool)(l:LL)(h:ltN q 1152921504606846976=true)(i:ltN b 1000000=true)(j:o8 l.length 100000=true) :
  ∃(c d:Int),∀(R:Type) (a:Bool->LL->Int->Int->Option R),Bg9 LF q b z l a=a z (ah4 l ((L3 q.toNat 0 b.toNat).map D7)) c d:=by
 obtain⟨f,m⟩:=K7.1 h;obtain⟨g,n⟩:=K7.1 i;obtain⟨q,rfl⟩:=o0 f;obtain⟨b,rfl⟩:=o0 g;have o:=ad7 j;have k:=F9;obtain⟨c,d,e⟩:=ZK z b (by omega) 19 q 0 LF l (by omega) (by omega) (by omega) (by omega) (by omega);exact⟨c,d,λR a=>e R _⟩
def T9(l:List Int):LL:=l.map λx=>[SV.int .i64 x]
def C0(l:List Nat):LL:=l.map λx:Nat=>[SV.int .i64 (x:Int)]
theorem Ji(l:List Nat):T9 (l.map λn:Nat=>(n:Int))=C0 l:=by simp[T9,C0,ac1]
theorem P3(l:List Int):(T9 l).length=l.length:=by simp[T9]
theorem C7(l:List Nat):(C0 l).length=l.length:=by simp[C0]
theorem Ig(a b:List Nat):C0 (a++b)=C0 a++C0 b:=by simp[C0]
theorem FW{l:List Int}{i:Nat}(h:i<l.length):okE Dd (T9 l) i 0=true:=by unfold okE T9 Dd;simp[j3,h,okS,SV.has]
theorem PA(l:List Int)(i:Nat)(h:i<l.length):gE (T9 l) i 0=l.getD i 0:=by unfold gE gC T9;simp[j3,j9 h,SV.gI]
theorem Jk{l:List Nat}{i:Nat}(h:i<l.length):okE Dd (C0 l) i 0=true:=by rw[<-Ji];exact FW (by simpa using h)
theorem Pz(l:List Nat)(i:Nat)(h:i<l.length):gE (C0 l) i 0=(l.getD i 0:Int):=by rw[<-Ji,PA _ _ (by simpa using h)];grind
theorem VZ{l:LL}(h:l.all Hz=true):∃P:List Int,l=T9 P:=by
 induction l with
 | nil=>exact⟨[],rfl⟩
 | cons x r b=>
  simp only[w9,k9] at h;obtain⟨P,rfl⟩:=b h.2;have a:=h.1;unfold Hz at a;split at a
  ·rename_i n;exact⟨n::P,rfl⟩
  ·cases a
theorem IT(P:List Int):(T9 P).map elI=P:=by
 unfold T9;rw[ad4]
 conv=>rhs;rw[<-aj4 P]
 apply x9;intro x _;simp[elI,SV.gI]
theorem IS(l:List Int)(i:Nat)(h:i<l.length):l.drop i=l.getD i 0::l.drop (i+1):=by simp_all
theorem Mq(l:List Nat)(i:Nat)(h:i<l.length):l.drop i=l.getD i 0::l.drop (i+1):=by simp_all
theorem At7:∀(r d k:Nat),d<456*35 ^ r->Pd d k<=k+36*r+36:=by
 intro r
 induction r with
 | zero=>
  intro d k h;rw[Kr (by simp at h;omega)];have:36*d / (d+38)<=36:=by
   apply Nat.div_le_of_le_mul;omega
  omega
 | succ r b=>
  intro d k h;by_cases a:455<d
  ·rw[Ul a];grind
  grind
theorem Ho(d c:Nat)(f:Bool)(h:d<1152921504606846976):M0 d c f<=500:=by
 unfold M0;have a:∀x:Nat,x<=d->Pd (x+x / c) 0<=500:=by
  intro x a;have:=y9 x c;have:=At7 11 (x+x / c) 0 (by omega);omega
 grind
theorem Zn{q k b:Nat}(h:q<1152921504606846976):(L3 q k b).length<=20:=OU b 19 q k (by omega)
theorem WO(z t:Bool)(c:List Nat)(a m:Nat)(Q:m<=1114112)(P:c.length<=256):∀(r i n:Nat) (s:BZ),i+r=c.length->r<n->s.delta+r<=1000000000000->s.bias<=500->s.out.length+20*r<=90000->s.done+r<=1000->a<=256->
  (∀(R:Type) (d:Bool->Bool->LL->Int->Int->Int->Int->Int->LL->Option R),X1 LF n z t (C0 c) (a:Int) (m:Int) (s.delta:Int) (s.bias:Int) (s.done:Int) (c.length:Int) (i:Int) (s.out.map D7) d =
   d z t (C0 c) (a:Int) (m:Int) ((F7 m a (c.drop i) s).delta:Int) ((F7 m a (c.drop i) s).bias:Int) ((F7 m a (c.drop i) s).done:Int) ((F7 m a (c.drop i) s).out.map D7))/\
  (F7 m a (c.drop i) s).bias<=500/\(F7 m a (c.drop i) s).out.length<=s.out.length+20*(c.drop i).countP (· == m)/\(F7 m a (c.drop i) s).done=s.done+(c.drop i).countP (· == m)/\
  (F7 m a (c.drop i) s).delta<=(if 0<(c.drop i).countP (· == m) then r else s.delta+r):=by
 intro r
 induction r with
 | zero=>
  intro i n s N O K x L M y;obtain⟨n,rfl⟩:∃m,n=m+1:=⟨n-1,by omega⟩
  rw[c9 (by omega)];refine⟨λR d=>?_,x,by simp[F7],by simp[F7],by simp[F7]⟩;rw[X1];rw[A6];rfl
 | succ r F=>
  intro i n s N O K x L M y;obtain⟨n,rfl⟩:∃m,n=m+1:=⟨n-1,by omega⟩
  rw[Mq c i (by omega)];have C:=Pz c i (by omega);have ok:=Jk (l:=c) (i:=i) (by omega);generalize c.getD i 0=p at *;have A:A2 ((i:Int)+1)=((i+1:Nat):Int):=by rw[A5];rfl
  have I:A2 ((s.delta:Int)+1)=((s.delta+1:Nat):Int):=by rw[A5];rfl
  have J:A2 ((s.done:Int)+1)=((s.done+1:Nat):Int):=by rw[A5];rfl
  by_cases D:p<m
  ·have e:(p==m)=false:=by rw[beq_eq_false_iff_ne];omega
   have j:F7 m a (p::c.drop (i+1)) s=F7 m a (c.drop (i+1)) { s with delta:=s.delta+1 }:=by rw[F7,if_pos D]
   obtain⟨o,u,v,w,f⟩:=F (i+1) n { s with delta:=s.delta+1 } (by omega) (by omega) (by simp only;omega) x (by simp only;omega) (by simp only;omega) y;rw[j,ad1 (by rw[e];simp)];refine⟨λR d=>?_,u,v,w,?_⟩
   ·rw[X1];rw[A8,C7,K2,b9,ok];simp only[cond_true,vl,C,A,I];rw[A8,cond_true];exact o R d
   ·simp only at f;split at f<;>split<;>omega
  ·by_cases H:p=m
   ·subst H;have G:=Zn (q:=s.delta) (k:=0) (b:=s.bias) (by omega);have B:=Ho s.delta (s.done+1) (s.done==a) (by omega);have j:F7 p a (p::c.drop (i+1)) s=F7 p a (c.drop (i+1)) { delta:=0,bias:=M0 s.delta (s.done+1) (s.done==a),done:=s.done+1,out:=s.out++L3 s.delta 0 s.bias }:=by rw[F7,if_neg D,if_pos rfl]
    obtain⟨o,u,v,w,f⟩:=F (i+1) n { delta:=0,bias:=M0 s.delta (s.done+1) (s.done==a),done:=s.done+1,out:=s.out++L3 s.delta 0 s.bias } (by omega) (by omega) (by simp only;omega) B (by simp only[p9];omega) (by simp only;omega) y;rw[j,List.countP_cons_of_pos (by simp)];refine⟨λR d=>?_,u,?_,?_,?_⟩
    ·rw[X1];have g:((s.done:Int)==(a:Int))=(s.done==a):=by grind
     rw[A8,C7,K2,b9,ok];simp only[cond_true,vl,C,A,J];rw[A6,cond_false,beq_self_eq_true,cond_true,L7,L7,j8,aa7 (show s.out.length<=100000 by omega),L7,A8,g];simp only[cond_true,b9];have h:ah4 (s.out.map D7) ((L3 s.delta 0 s.bias).map D7)=(s.out++L3 s.delta 0 s.bias).map D7:=by rw[ab2];rfl
     rw[h];exact o R d
    ·simp only[p9] at v;omega
    ·simp only at w;omega
    ·simp only at f;rw[Kc];split at f<;>omega
   ·have e:(p==m)=false:=by rw[beq_eq_false_iff_ne];omega
    have j:F7 m a (p::c.drop (i+1)) s=F7 m a (c.drop (i+1)) s:=by rw[F7,if_neg D,if_neg H]
    obtain⟨o,u,v,w,f⟩:=F (i+1) n s (by omega) (by omega) (by omega) x (by omega) (by omega) y;rw[j,ad1 (by rw[e];simp)];refine⟨λR d=>?_,u,v,w,?_⟩
    ·rw[X1];rw[A8,C7,K2,b9,ok];simp only[cond_true,vl,C,A];rw[A6,cond_false,show((p:Int)==(m:Int))=false by rw[beq_eq_false_iff_ne];omega,cond_false];exact o R d
    ·split at f<;>split<;>omega
theorem RH{R:Type}{k0:Bool->Bool->LL->Int->Int->Int->Int->Int->Int->LL->Option R}(z t:Bool)(a:List Nat)(k:a.length<=256)(n0:Nat)(b delta c done:Int)(l:LL):∀(r i n m:Nat),i+r=a.length->r<n->
  Dq LF n z t (C0 a) b (n0:Int) delta c done (m:Int) (a.length:Int) (i:Int) l k0=k0 z t (C0 a) b (n0:Int) delta c done ((F6 n0 (a.drop i) m:Nat):Int) l:=by
 intro r
 induction r with
 | zero=>
  intro i n m g j;obtain⟨n,rfl⟩:∃m,n=m+1:=⟨n-1,by omega⟩
  rw[Dq];rw[A6,c9 (by omega)];rfl
 | succ r d=>
  intro i n m g j;obtain⟨n,rfl⟩:∃m,n=m+1:=⟨n-1,by omega⟩
  have f:=Pz a i (by omega);have ok:=Jk (l:=a) (i:=i) (by omega);rw[Dq,Mq a i (by omega)];generalize a.getD i 0=p at *;have e:A2 ((i:Int)+1)=((i+1:Nat):Int):=by rw[A5];rfl
  rw[A8,C7,K2,b9,ok];simp only[cond_true,vl,f,e,F6];by_cases h:n0<=p
  ·rw[if_pos h,A6,j0,cond_true];have:(if (p:Int)<(m:Int) then (p:Int) else (m:Int))=((min m p:Nat):Int):=by split<;>omega
   rw[this];exact d (i+1) n (min m p) (by omega) (by omega)
  ·rw[if_neg h,A8,j2,cond_false];exact d (i+1) n m (by omega) (by omega)
theorem Aq(n:Nat):∀(l:List Nat) (m:Nat),(F6 n l m=m\/(F6 n l m∈l/\n<=F6 n l m))/\F6 n l m<=m/\∀p∈l,n<=p->F6 n l m<=p
 | [],m=>⟨.inl rfl,x4 _,λp h=>by cases h⟩
 | q::r,m=>by
  obtain⟨a,b,c⟩:=Aq n r (if n<=q then min m q else m);simp only[F6];grind
theorem Mi{n m:Nat}(a:n<=m):∀l:List Nat,(∀p∈l,n<=p->m<=p)->l.countP (λp=>decide (p<m+1))=l.countP (λp=>decide (p<n))+l.countP (· == m)
 | [],_=>rfl
 | p::l,h=>by
  have d:=Mi a l (λq b=>h q (List.mem_cons_of_mem _ b));have c:=h p List.mem_cons_self;grind
theorem OH{n:Nat}{l:List Nat}(h:l.countP (λp=>decide (p<n))<l.length):∃p∈l,n<=p:=by
 apply ab9;intro a;have:l.countP (λp=>decide (p<n))=l.length:=by simp_all
 omega
theorem Am7(z t:Bool)(a:List Nat)(b:Nat)(x:a.length<=256)(N:b<=256)(g:∀p∈a,p<=1114111):∀(f n d:Nat) (s:BZ),s.done=a.countP (λp=>decide (p<n))->a.length<=s.done+f->f<d->s.delta<=300->s.bias<=500->s.out.length+20*(a.length-s.done)<=80000->n<=1114112->
  ∀(R:Type) (k0:LL->Option R),Bq LF d z t (C0 a) (b:Int) (n:Int) (s.delta:Int) (s.bias:Int) (s.done:Int) (s.out.map D7) k0=k0 ((M6 a b f n s).out.map D7):=by
 intro f;have M:=F9
 induction f with
 | zero=>
  intro n d s P S T I v J L R k0;obtain⟨d,rfl⟩:∃m,d=m+1:=⟨d-1,by omega⟩
  rw[Bq];rw[C7,A6];rfl
 | succ f U=>
  intro n d s P S T I v J L R k0;obtain⟨d,rfl⟩:∃m,d=m+1:=⟨d-1,by omega⟩
  rw[Bq];rw[C7];have O:a.countP (λp=>decide (p<n))<=a.length:=p7;by_cases j:s.done<a.length
  ·obtain⟨A,k,q⟩:=OH (n:=n) (l:=a) (by omega);obtain⟨g1,g2,u⟩:=Aq n a 1114112;have g4:=u A k q;have g5:=g A k;have e:F6 n a 1114112∈a/\n<=F6 n a 1114112:=by grind
   have Q:M6 a b (f+1) n s=M6 a b f (F6 n a 1114112+1) { F7 (F6 n a 1114112) b a { s with delta:=s.delta+(F6 n a 1114112-n)*(s.done+1) } with delta:=(F7 (F6 n a 1114112) b a { s with delta:=s.delta+(F6 n a 1114112-n)*(s.done+1) }).delta+1 }:=by
    rw[M6,if_pos j]
   rw[Q,A8,cond_true];have c:=λ(K:Bool->Bool->LL->Int->Int->Int->Int->Int->Int->LL->Option R)=>RH (k0:=K) z t a x n (b:Int) (s.delta:Int) (s.bias:Int) (s.done:Int) (s.out.map D7) a.length 0 LF 1114112 (by omega) (by omega)
   rw[j7] at c;refine j6 (c _) ?_;generalize F6 n a 1114112=m at *;have y:(m-n)*(s.done+1)<=1114112*256:=ad9 (by omega) (by omega);have B:A2 ((s.done:Int)+1)=((s.done+1:Nat):Int):=by rw[A5];rfl
   have C:A2 ((m:Int)-(n:Int))=((m-n:Nat):Int):=by rw[A5];omega
   have D:A2 (((m-n:Nat):Int)*((s.done+1:Nat):Int))=(((m-n)*(s.done+1):Nat):Int):=by
    rw[<-ah6];exact A5
   have F:A2 ((s.delta:Int)+(((m-n)*(s.done+1):Nat):Int))=((s.delta+(m-n)*(s.done+1):Nat):Int):=by
    rw[A5];rfl
   simp only[vl,B,C,D,F];have i:=WO z t a b m (by omega) x a.length 0 LF { s with delta:=s.delta+(m-n)*(s.done+1) } (by omega) (by omega) (by simp only;omega) v (by simp only;omega) (by simp only;omega) N;rw[j7] at i;obtain⟨V,W,X,Y,Z⟩:=i;rw[C7];refine j6 (V R _) ?_;have h:0<a.countP (· == m):=ae2.2 ⟨m,e.1,by simp⟩;rw[if_pos h] at Z;have r:=Mi e.2 a u;generalize F7 m b a { s with delta:=s.delta+(m-n)*(s.done+1) } = o at *;simp only at X Y;have G:A2 ((o.delta:Int)+1)=((o.delta+1:Nat):Int):=by rw[A5];rfl
   have H:A2 ((m:Int)+1)=((m+1:Nat):Int):=by rw[A5];rfl
   have w:a.countP (λp=>decide (p<m+1))<=a.length:=p7;simp only[G,H];exact U (m+1) d { o with delta:=o.delta+1 } (by simp only;omega) (by simp only;omega) (by omega) (by simp only;omega) W (by simp only;omega) (by omega) R k0
  ·rw[A6];rw[M6,if_neg j];rfl
def Q2(l:List Int):By:=(l.filter λx=>decide (x<128)).map λx=>p6 x.toNat
theorem Aq5(x:Int)(a:0<=x)(h:x<128):[SV.int .u8 (wu8 x)]=D7 (p6 x.toNat):=by
 unfold D7;have e:wu8 x=x:=by unfold wu8;exact Int.emod_eq_of_lt a (show x<256 by omega)
 rw[e];have:((p6 x.toNat).toNat:Int)=x:=by simp;omega
 rw[this]
theorem Lp{x:Int}(h:ptI x=true):0<=x/\x<=1114111:=by
 cases x with
 | negSucc m=>cases h
 | ofNat m=>
  have:Ba m=true:=h;unfold Ba at this;simp only[k9,p4] at this;grind
theorem RC(z t:Bool)(P:List Int)(A:P.length<=256):∀(r i n:Nat) (out:By),i+r=P.length->r<n->out.length+r<=1000->
  ((P.drop i).all ptI=true->∀(R:Type) (a:LL->Option R) (b:Bool->Bool->LL->LL->Option R),O9 LF n z t (T9 P) (P.length:Int) (i:Int) (out.map D7) a b=b z t (T9 P) ((out++Q2 (P.drop i)).map D7))/\
  ((P.drop i).all ptI=false->∃l,∀(R:Type) (a:LL->Option R) (b:Bool->Bool->LL->LL->Option R),O9 LF n z t (T9 P) (P.length:Int) (i:Int) (out.map D7) a b=a l):=by
 intro r
 induction r with
 | zero=>
  intro i n out u v w;obtain⟨n,rfl⟩:∃m,n=m+1:=⟨n-1,by omega⟩
  rw[c9 (by omega)];refine⟨λ_ R a b=>?_,λh=>(by cases h)⟩;rw[O9];rw[A6];simp[Q2]
 | succ r q=>
  intro i n out u v w;obtain⟨n,rfl⟩:∃m,n=m+1:=⟨n-1,by omega⟩
  have j:=PA P i (by omega);have ok:=FW (l:=P) (i:=i) (by omega);rw[IS P i (by omega)];generalize P.getD i 0=x at *;have p:A2 ((i:Int)+1)=((i+1:Nat):Int):=by rw[A5];rfl
  cases f:ptI x with
  | false=>
   refine⟨λh=>?_,λ_=>⟨out.map D7,λR a b=>?_⟩⟩
   ·rw[w9,f] at h;cases h
   ·rw[O9];rw[A8,P3,K2,b9,ok];simp only[cond_true,vl,j,f,j0]
  | true=>
   obtain⟨y,B⟩:=Lp f;rw[w9,f,u7];by_cases c:x<128
   ·have d:Q2 (x::P.drop (i+1))=p6 x.toNat::Q2 (P.drop (i+1)):=by
     unfold Q2;rw[List.filter_cons_of_pos (by simpa using c)];rfl
    have g:out.map D7++[[SV.int .u8 (wu8 x)]]=(out++[p6 x.toNat]).map D7:=by rw[Aq5 x y c];simp
    obtain⟨k,o⟩:=q (i+1) n (out++[p6 x.toNat]) (by omega) (by omega) (by simp;omega);have step:∀(R:Type) (a:LL->Option R) (b:Bool->Bool->LL->LL->Option R),O9 LF (n+1) z t (T9 P) (P.length:Int) (i:Int) (out.map D7) a b=O9 LF n z t (T9 P) (P.length:Int) ((i+1:Nat):Int) ((out++[p6 x.toNat]).map D7) a b:=by
     intro R a b;rw[O9];rw[A8,P3,K2,b9,ok];simp only[cond_true,vl,j,f,j2,cond_false,p];rw[D0 c,j8,E9 (by omega),g];rfl
    refine⟨λh R a b=>?_,λh=>?_⟩
    ·rw[step,k h,d];simp
    ·obtain⟨l,e⟩:=o h;exact⟨l,λR a b=>by rw[step];exact e R a b⟩
   ·have d:Q2 (x::P.drop (i+1))=Q2 (P.drop (i+1)):=by
     unfold Q2;rw[List.filter_cons_of_neg (by simpa using c)]
    obtain⟨k,o⟩:=q (i+1) n out (by omega) (by omega) (by omega);have step:∀(R:Type) (a:LL->Option R) (b:Bool->Bool->LL->LL->Option R),O9 LF (n+1) z t (T9 P) (P.length:Int) (i:Int) (out.map D7) a b=O9 LF n z t (T9 P) (P.length:Int) ((i+1:Nat):Int) (out.map D7) a b:=by
     intro R a b;rw[O9];rw[A8,P3,K2,b9,ok];simp only[cond_true,vl,j,f,j2,cond_false,p];rw[A6];rfl
    refine⟨λh R a b=>?_,λh=>?_⟩
    ·rw[step,k h,d]
    ·obtain⟨l,e⟩:=o h;exact⟨l,λR a b=>by rw[step];exact e R a b⟩
theorem WR{P:List Int}(h:P.all ptI=true):∃a:List Nat,P=a.map (λn:Nat=>(n:Int))/\a.all Ba=true/\∀p∈a,p<=1114111:=by
 induction P with
 | nil=>exact⟨[],rfl,rfl,by simp⟩
 | cons x P c=>
  rw[w9,k9] at h;obtain⟨a,rfl,b,e⟩:=c h.2;obtain⟨d,f⟩:=Lp h.1;obtain⟨m,rfl⟩:=o0 d;refine⟨m::a,rfl,?_,?_⟩
  ·rw[w9,b,ac8];exact h.1
  grind
theorem Up(a:List Nat):Q2 (a.map λn:Nat=>(n:Int))=G0 a:=by
 unfold Q2 G0
 induction a with
 | nil=>rfl
 | cons p r b=>
  grind
theorem Ky(a:List Nat):(G0 a).length=a.countP (λp=>decide (p<128)):=by unfold G0;grind
theorem RD(z t:Bool)(P:List Int):(Q7 P=([],3)/\∀(R:Type) (b:Unit->Option R) (f:By->Int->LL->Option R),KB LF z t (T9 P) b f=b ())\/
  (∃l,∀(R:Type) (b:Unit->Option R) (f:By->Int->LL->Option R),KB LF z t (T9 P) b f=f (Q7 P).1 ((Q7 P).2:Nat) l):=by
 have x:=F9;by_cases j:256<P.length
 ·refine .inl ⟨by unfold Q7;rw[if_pos j],λR b f=>?_⟩;unfold KB;rw[P3,A8];rfl
 ·right
  obtain⟨v,w⟩:=RC z t P (by omega) P.length 0 LF [] (by omega) (by omega) (by simp;omega);rw[j7] at v w;cases g:P.all ptI with
  | false=>
   obtain⟨l,e⟩:=w g;refine⟨l,λR b f=>?_⟩;unfold KB;rw[P3,A6,cond_false];refine j6 (e R _ _) ?_;unfold Q7;rw[if_neg j,g];rfl
  | true=>
   obtain⟨a,rfl,A,q⟩:=WR g;rw[j8] at j;have m:Q7 (a.map λn:Nat=>(n:Int))=Bl a:=by
    unfold Q7;rw[j8,if_neg j,g];simp[ac1]
   have k:=Ky a;have y:a.countP (λp=>decide (p<128))<=a.length:=p7;have main:∀(o:By),o.length<=300->∀(R:Type) (b:LL->Option R),Bq LF LF z t (C0 a) ((G0 a).length:Int) 128 0 72 ((G0 a).length:Int) (o.map D7) b=b ((M6 a (G0 a).length 256 128 { delta:=0,bias:=72,done:=(G0 a).length,out:=o }).out.map D7):=by
    intro o B R b;exact Am7 z t a (G0 a).length (by omega) (by omega) q 256 128 LF { delta:=0,bias:=72,done:=(G0 a).length,out:=o } k (by simp only;omega) (by omega) (by simp) (by simp) (by simp only;omega) (by omega) R b
   have d:Bl a=((M6 a (G0 a).length 256 128 { delta:=0,bias:=72,done:=(G0 a).length,out:=if (G0 a).isEmpty then [] else G0 a++[45] }).out,0):=by
    unfold Bl;grind
   refine⟨(Bl a).1.map D7,λR b f=>?_⟩;unfold KB;rw[P3,j8,A6,cond_false,m];have i:=v g R;rw[j8] at i;refine j6 (i _ _) ?_;rw[y8,Up,Ji];simp only[vl,j8];by_cases c:G0 a=[]
   ·rw[c,ab1,A6,cond_false];have r:=main [] (by simp) R;rw[c,ab1] at r;rw[af3] at r;refine j6 (r _) ?_;rw[c] at d;rw[d];simp only[List.isEmpty_nil,if_true,ab1];rw[Et,Fd];rfl
   ·have u:0<(G0 a).length:=ab3.2 c;rw[A8,cond_true,E9 (by omega),cond_true];have h:(G0 a).map D7++[[SV.int .u8 (45:Int)]]=(G0 a++[45]).map D7:=by rw[ab2];rfl
    rw[h];refine j6 (main (G0 a++[45]) (by simp;omega) R _) ?_;rw[d,if_neg (by simpa using c)];rw[Et,Fd];rfl
theorem A07(z t:Bool)(p:LL)(b:p.all Hz=true):∃r H,KB LF z t p (λ_=>rv (.tup [.s (.str []),.s (.int .i64 3)]) []) (λd e l=>rv (.tup [.s (.str d),.s (.int .i64 e)]) [.arr true 5 1 l])=rv r H/\
  r.stab [0,0] H = .tup [.s (.str (Q7 (p.map elI)).1),.s (.int .i64 ((Q7 (p.map elI)).2:Nat))]:=by
 obtain⟨P,rfl⟩:=VZ b;rw[IT];rcases RD z t P with⟨c,a⟩|⟨l,a⟩
 ·exact⟨_,_,a _ _ _,by rw[c];rfl⟩
 ·exact⟨_,_,a _ _ _,rfl⟩
section
variable {W R : Type} (L : Nat) (Y : E2) (Q : Yh W) (s : W) (k : Out -> St W -> Option R)
noncomputable abbrev Bd6:Code:=F0 ai8
noncomputable def Pl(L:Nat):Cfg:=C3 L [158] (A4 [(3,[0,1,0,0])]) [(160,Tu),(172,MY)] (A4 [(17,[2]),(16,[0,2,0,53]),(15,[0,2,0]),(14,[2]),(13,[0,2,0,1,45]),(12,[0,2,0,0,0]),(11,[2]),(10,[0,2,0,0,41]),(9,[0,2,0,0]),(8,[0,2,0,0]),(7,[2]),(6,[0,2,0,0,18]),(5,[0,2,0,0]),(4,[2]),(3,[0,2,0,11]),(2,[0,2,0]),(1,[0,2]),(0,[0])]) [172] (A4 [(0,[2]),(1,[0,2,0])]) (some [2]) [(175,Iu)] [] [175]
noncomputable def Bk{R:Type}(L n:Nat)(p:Int)(c:By)(j o d:Int)(g l:Bool)(i:LL)(a:Int)(h:Int->By->Int->Int->Int->Bool->Bool->LL->Int->Option R):Option R:=match n with|0=>none|n+1=>cond (c==[]) (h 4 c j o d g l i a) (cond (inR 0 c.length) (cond (inR (bAt c (0:Int)) 256) (vl (C9 (u8n (bAt c (0:Int)))) λf=>cond (ltI f 0) (h 4 c j o d g l i a) (cond (N3 1 (c.length:Int) c.length) (vl (cut c 1 (c.length:Int)) λe=>vl (A2 (o+(A2 (f*p)))) λb=>cond (ltI 1099511627776 b) (h 19 e j b d g l i a) (cond (ltN a 1000000000000) (cond (ltN d 1000000) (cond (ltI f (I6 a d)) (h 0 e j b d g l i (y5 a (36:Int))) (vl (A2 ((36:Int)-(I6 a d))) λm=>cond (ltI 1099511627776 (A2 (p*m))) (h 19 e j b d g l i (y5 a (36:Int))) (Bk L n (A2 (p*m)) e j b d g l i (y5 a (36:Int)) h))) none) none)) none)) none) none)
theorem OS(n w0 g e f b c h d a):E7 4 ((Pl L).keep 3) (bd (Pl L) Y Q (cd [1,1,1,0,0] Bd6)) n ⟨gp [(0,.ptr 0 0 0),(2,.fnr (u0 175) [] [.ptr 3 0 0,.ptr 2 0 0]),(0,pI w0)] 54,[.box [pS g,.fl 1,pI e,pI f,pI b,pB c],.arr h 3 1 d,.box [pI b],.box [pI a]],s⟩ k =
 Bk L n w0 g e f b c h d a (λn0 g e f b c h d a=>k .ret ⟨gp [(2,pI n0)] 56,[.box [pS g,.fl 1,pI e,pI f,pI b,pB c],.arr h 3 1 d,.box [pI b],.box [pI a]],s⟩):=by
 induction n generalizing w0 g e f b c h d a with
 | zero=>rfl
 | succ n i=>rw[Bk];simp only[<-i];kernel_rfl
noncomputable def Be5{R:Type}(L:Nat)(g:By)(n i b:Int)(q z:Bool)(l:LL)(p:Int->By->Int->Int->Int->Bool->Bool->LL->Int->Option R):Option R:=Bk L L 1 g n i b q z l 0 (λj o m d e a h c f=>p j o m d e a h c f)
theorem Av1(d:Nat)(rest n i b st z l):evC (Pl L) (d+1) W Q 158 [.ptr 0 0 0] [.box [pS rest,.fl 1,pI n,pI i,pI b,pB st],.arr z 3 1 l] s=Be5 L rest n i b st z l (λj m g h c e o f a=>some (pI j,[.box [pS m,.fl 1,pI g,pI h,pI c,pB e],.arr o 3 1 f,.box [pI c],.box [pI a]],s)):=by refine(evE (fn:=ai8) (by kernel_rfl)).trans ?_;generalize evC (Pl L) d=Y;unfold Be5;exact(j6 (by kernel_rfl) ((OS L Y Q s (I2 0 (J6 (Pl L) ai8)) L 1 rest n i b st z l 0).trans (by kernel_rfl)))
noncomputable def EH(L:Nat):Cfg:=C3 L [138] (A4 []) [(141,Hk),(139,Hl)] (A4 [(16,[2]),(15,[]),(14,[0]),(13,[2]),(12,[0,67]),(11,[2]),(10,[0,4,60]),(9,[0,4]),(8,[0,4]),(7,[0,4]),(6,[0,4]),(5,[0,2,1]),(4,[2]),(3,[0,2,0,8]),(2,[0,2,0]),(1,[0,2]),(0,[0])]) [141,139] (A4 []) (some [2]) [(158,CC),(159,DT)] [] [158,159]
noncomputable def VT{R:Type}(L:Nat)(a:By)(n i b:Int)(m z:Bool)(l:LL)(j:Int->By->Int->Int->Int->Bool->Bool->LL->Option R):Option R:=cond (A3 a.length) (cond (ltN b 1000000) (cond (ltN i 1099511627777) (cond ((Wr b a i)!=0) (j (Wr b a i) (Ws b a i) n (Lm b a i) b m z l) (vl (A2 ((l.length:Int)+1)) λc=>vl (A2 ((Lm b a i)-i)) λh=>cond (ltN h 1152921504606846976) (cond (ltN c 1000000) (cond (ltI 0 c) (vl (↑(M0 (b8 h) (b8 c) (not m)):Int) λf=>cond (c !=0) (vl (A2 (x3 (Lm b a i) c)) λd=>cond (c !=0) (vl (ae8 (Lm b a i) c) λe=>cond (not (ptI (A2 (n+d)))) (j 2 (Ws b a i) (A2 (n+d)) e f true z l) (cond (ltI 256 c) (j 3 (Ws b a i) (A2 (n+d)) e f true z l) (cond (ltN e (Nat.add l.length 1)) (cond (o8 l.length 100000) (vl (Ga l (b8 e) (A2 (n+d))) λg=>j 0 (Ws b a i) (A2 (n+d)) (A2 (e+1)) f true z g) none) none))) none) none) none) none) none)) none) none) none
theorem Aj3(d:Nat)(rest n i b st z l):evC (EH L) (d+1) W Q 138 [.ptr 0 0 0] [.box [pS rest,.fl 1,pI n,pI i,pI b,pB st],.arr z 3 1 l] s=VT L rest n i b st z l (λh j e f g a m c=>some (pI h,[.box [pS j,.fl 1,pI e,pI f,pI g,pB a],.arr m 3 1 c],s)):=by refine(evE (fn:=Tryz.f138) (by kernel_rfl)).trans ?_;generalize evC (EH L) d=Y;unfold VT;kernel_rfl
noncomputable abbrev Ku:Code:=F0 ae1
noncomputable def T1(L:Nat):Cfg:=C3 L [116] (A4 [(20,[2,0,1]),(13,[0,1,0,1,0,22,0]),(4,[0,1,0,9,0])]) [(43,Lz)] (A4 [(24,[2,0]),(23,[2,0]),(22,[5,2,59]),(21,[5,2]),(20,[5,58]),(19,[2,0]),(18,[5,53]),(17,[5]),(16,[0,4,0,22,0]),(15,[0,4,0,22,0]),(14,[0,4,0,0,21,0]),(13,[0,4,0,22,0,0]),(12,[0,4,0,22,0]),(11,[0,4,0,21]),(10,[0,4,0]),(9,[0,4]),(8,[0,12,0]),(7,[2,0]),(6,[0,12,0,5]),(5,[0,3,8,0]),(4,[0,12,0,0]),(3,[0,12,0]),(2,[2,0]),(1,[0,10]),(0,[0])]) [43] (A4 [(4,[5]),(5,[5]),(2,[0,4,0]),(3,[0,4,0,22,0]),(0,[0]),(1,[0,12,0])]) (some [2,0]) [(138,Sp)] [] [138] (nt:=[(155,1,3,1)])
noncomputable def Gi{R:Type}(L n:Nat)(b:By)(e a:Int)(c:Unit->Option R)(d:By->Option R):Option R:=match n with|0=>none|n+1=>cond (ltI a e) (cond (inR a b.length) (cond (not (ltI (bAt b a) (128:Int))) (c ()) (Gi L n b e (A2 (a+1)) c d)) none) (d b)
theorem QZ(n a n1 n2):E7 0 ((T1 L).keep 4) (bd (T1 L) Y Q (cd [1,1,0,1,0,0] Ku)) n ⟨gp [(0,pS a),(12,pI n1),(0,pI n2)] 59,[],s⟩ k =
 Gi L n a n1 n2 (λ_=>k .ret ⟨gp [(2,.fl 0),(0,pI (4:Int))] 70,[.arr true 3 1 []],s⟩) (λa=>k (.exit 0) ⟨gp [(0,pS a)] 73,[],s⟩):=by
 induction n generalizing a n1 n2 with
 | zero=>rfl
 | succ n b=>rw[Gi];simp only[<-b];kernel_rfl
noncomputable def Dp{R:Type}(L n:Nat)(c:By)(a b:Int)(d:LL)(e:By->Int->LL->Option R):Option R:=match n with|0=>none|n+1=>cond (ltI b a) (cond (inR b c.length) (cond (G1 (d.length+1)) (Dp L n c a (A2 (b+1)) (d++[[(SV.int .i64 (A2 (bAt c b)))]]) e) none) none) (e c a d)
theorem RA(n b a n2 l3):E7 2 ((T1 L).keep 13) (bd (T1 L) Y Q (cd [1,1,1,1,0,1,1,0,0,1,0,0] Ku)) n ⟨gp [(0,pS b),(4,.ptr 1 0 0),(0,pI a),(22,pI a),(0,pI n2)] 43,[.arr true 3 1 l3,.box [pS b,.fl 0,pI (128:Int),pI (0:Int),pI (72:Int),pB false]],s⟩ k =
 Dp L n b a n2 l3 (λb a d=>k (.exit 2) ⟨gp [(0,pS b),(4,.ptr 1 0 0),(0,pI a)] 67,[.arr true 3 1 d,.box [pS b,.fl 0,pI (128:Int),pI (0:Int),pI (72:Int),pB false]],s⟩):=by
 induction n generalizing b a n2 l3 with
 | zero=>rfl
 | succ n c=>rw[Dp];simp only[<-c];kernel_rfl
noncomputable def N9{R:Type}(L n:Nat)(b:LL)(a:By)(c d e:Int)(f:Bool)(i:Int->LL->By->Int->Int->Int->Bool->Option R)(j:LL->By->Int->Int->Int->Bool->Option R):Option R:=match n with|0=>none|n+1=>cond (not (a==[])) (cond (A3 a.length) (cond (ltN e 1000000) (cond (ltN d 1099511627777) (cond (ltN c 1152921504606846976) (cond (o8 b.length 100000) (vl ((D6 (DS.mk a c d e f b))).1 λh=>vl (DS.l ((D6 (DS.mk a c d e f b))).2) λg=>cond (h !=0) (i h g (DS.rest ((D6 (DS.mk a c d e f b))).2) (DS.n ((D6 (DS.mk a c d e f b))).2) (DS.i ((D6 (DS.mk a c d e f b))).2) (DS.b ((D6 (DS.mk a c d e f b))).2) (DS.st ((D6 (DS.mk a c d e f b))).2)) (N9 L n g (DS.rest ((D6 (DS.mk a c d e f b))).2) (DS.n ((D6 (DS.mk a c d e f b))).2) (DS.i ((D6 (DS.mk a c d e f b))).2) (DS.b ((D6 (DS.mk a c d e f b))).2) (DS.st ((D6 (DS.mk a c d e f b))).2) i j)) none) none) none) none) none) (j b a c d e f)
theorem Xa(n d f e a b c):E7 2 ((T1 L).keep 20) (bd (T1 L) Y Q (cd [1,1,1,1,1,1,0,0,0] Ku)) n ⟨gp [(5,.ptr 1 0 0)] 68,[.arr true 3 1 d,.box [pS f,.fl 0,pI e,pI a,pI b,pB c]],s⟩ k =
 N9 L n d f e a b c (λn0 i l a b j g=>k .ret ⟨gp [(2,.fl 2),(0,pI n0)] 70,[.arr true 3 1 i,.box [pS l,.fl 0,pI a,pI b,pI j,pB g],.arr true 3 1 []],s⟩) (λd f e a b c=>k (.exit 4) ⟨gp [(5,.ptr 1 0 0)] 68,[.arr true 3 1 d,.box [pS f,.fl 0,pI e,pI a,pI b,pB c]],s⟩):=by
 induction n generalizing d f e a b c with
 | zero=>rfl
 | succ n h=>rw[N9];simp only[<-h];kernel_rfl
noncomputable def Nj{R:Type}(L:Nat)(M:By)(N:Int->Option R)(K:Int->LL->By->Int->Int->Int->Bool->Option R)(O:LL->By->Int->Int->Int->Bool->Option R):Option R:=cond (ltI 1024 (M.length:Int)) (N 3) (Gi L L M (M.length:Int) 0 (λ_=>N 4) (λa=>cond (A3 a.length) (vl (L6 (u8n (45:Int)) a) λC=>cond (ltI 0 C) (Dp L L a C 0 [] (λb h c=>vl (A2 (h+1)) λD=>cond (N3 D (b.length:Int) b.length) (vl (cut b D (b.length:Int)) λJ=>cond (ltI 256 (c.length:Int)) (K 3 c J 128 0 72 false) (N9 L L c J 128 0 72 false (λn i F o p q d=>K n i F o p q d) (λj G r t u e=>O j G r t u e))) none)) (N9 L L [] a 128 0 72 false (λv l H w x y f=>K v l H w x y f) (λm I z A B g=>O m I z A B g))) none))
theorem A02(d:Nat)(s0):evC (T1 L) (d+1) W Q 116 [pS s0] [] s=Nj L s0 (λg=>some (.tup [.fl 0,pI g],[.arr true 3 1 []],s)) (λg o v e f r m=>some (.tup [.fl 2,pI g],[.arr true 3 1 o,.box [pS v,.fl 0,pI e,pI f,pI r,pB m],.arr true 3 1 []],s)) (λn u q e f l=>some (.tup [.fl 0,pI (0:Int)],[.arr true 3 1 n,.box [pS u,.fl 0,pI q,pI e,pI f,pB l]],s)):=by refine(evE (fn:=ae1) (by kernel_rfl)).trans ?_;generalize evC (T1 L) d=Y;unfold Nj;exact let i:=(I2 4 (I8 (T1 L) Y Q (cd [1,1,1,1,1,1,1] Ku) (J6 (T1 L) ae1)));(j6 (by kernel_rfl) (A1 rfl ((QZ L Y Q s (I2 0 (I8 (T1 L) Y Q (cd [1,1,1] Ku) (J6 (T1 L) ae1))) L s0 (s0.length:Int) 0).trans (congr (congr rfl (by kernel_rfl)) (fx1 λa=>(j6 (by kernel_rfl) (A1 (B5 λc=>(A1 ((RA L Y Q s (I2 2 (I8 (T1 L) Y Q (cd [1,1,1,1,0,1,1,0,1] Ku) (I8 (T1 L) Y Q (cd [1,1,1,1,1] Ku) (J6 (T1 L) ae1)))) L a c 0 []).trans (congr rfl (fx3 λt j b=>(j6 (by kernel_rfl) (B5 λp=>(A1 (B5 λh=>(A1 rfl ((Xa L Y Q s i L b h 128 0 72 false).trans (by kernel_rfl)))) rfl)))))) ((Xa L Y Q s i L [] a 128 0 72 false).trans (by kernel_rfl)))) rfl)))))))
noncomputable abbrev HZ:Code:=F0 ak3
noncomputable def Ck(L:Nat):Cfg:=C3 L [64] (A4 [(2,[0,0,2,0])]) [] (A4 [(6,[4]),(3,[0,0,3]),(5,[4]),(4,[0,0,3,11]),(2,[0,0,3,4]),(1,[0,0,3]),(0,[0,0])]) [] (A4 [(0,[]),(1,[0,0,3])]) (some [4]) [] [] []
noncomputable def Y9{R:Type}(L n:Nat)(b:By)(c a:Int)(d:Int->Option R)(e:Unit->Option R):Option R:=match n with|0=>none|n+1=>cond (not (ltI a 0)) (cond (inR a b.length) (cond ((bAt b a)==c) (d a) (Y9 L n b c (A2 (a-1)) d e)) none) (e ())
theorem FE(n s0 c1 i2):E7 0 ((Ck L).keep 2) (bd (Ck L) Y Q (cd [1,0,1,0,0] HZ)) n ⟨gp [(0,pS s0),(0,p8 c1),(3,pI i2)] 13,[],s⟩ k =
 Y9 L n s0 c1 i2 (λn0=>k .ret ⟨gp [(4,pI n0)] 14,[],s⟩) (λ_=>k (.exit 0) ⟨gp [] 19,[],s⟩):=by
 induction n generalizing s0 c1 i2 with
 | zero=>rfl
 | succ n a=>rw[Y9];simp only[<-a];kernel_rfl
noncomputable def FD{R:Type}(L:Nat)(d:By)(e:Int)(c:Int->Option R):Option R:=vl (A2 ((d.length:Int)-1)) λa=>Y9 L L d e a (λb=>c b) (λ_=>c (-1))
theorem YK(d:Nat)(s0 c1):evC (Ck L) (d+1) W Q 64 [pS s0,p8 c1] [] s=FD L s0 c1 (λb=>some (pI b,[],s)):=by refine(evE (fn:=ak3) (by kernel_rfl)).trans ?_;generalize evC (Ck L) d=Y;unfold FD;exact(j6 (by kernel_rfl) (B5 λa=>((FE L Y Q s (I2 0 (I8 (Ck L) Y Q (cd [1,1] HZ) (J6 (Ck L) ak3))) L s0 c1 a).trans (by kernel_rfl))))
noncomputable def EI(L:Nat):Cfg:=C3 L [43] (A4 []) [(64,HO)] (A4 [(1,[4]),(0,[0,0])]) [64] (A4 []) (some [4]) [] [] []
noncomputable def WB{R:Type}(L:Nat)(b:By)(a:Int)(c:Int->Option R):Option R:=cond (A3 b.length) (cond (inR a 256) (c (L6 (u8n a) b)) none) none
theorem Ak7(d:Nat)(s0 c1):evC (EI L) (d+1) W Q 43 [pS s0,p8 c1] [] s=WB L s0 c1 (λa=>some (pI a,[],s)):=by refine(evE (fn:=Tryz.f43) (by kernel_rfl)).trans ?_;generalize evC (EI L) d=Y;unfold WB;kernel_rfl
end
theorem Bz(c:UInt8):-1<=C9 c/\C9 c<=35:=by unfold C9 Hg;grind
theorem Gq(k b:Int):1<=I6 k b/\I6 k b<=26:=by unfold I6;omega
theorem Z4{x w:Int}(b:0<=x)(c:x<=35)(a:0<=w)(w1:w<=1099511627776):0<=x*w/\x*w<=38482906972160:=by refine⟨ah8 b a,?_⟩;have:=Int.mul_le_mul c w1 a (show(0:Int)<=35 by omega);omega
theorem Mo(b:Int):∀(s:By) (i w k:Int),0<=i->0<=w->w<=1099511627776->(O4 b s i w k).1=0->i<=(O4 b s i w k).2.2/\(O4 b s i w k).2.2<=1099511627776/\(O4 b s i w k).2.1.length<s.length
 | [],i,w,k,_,_,_,h=>by simp[O4] at h
 | c::r,i,w,k,m,d,a,h=>by
  have l:=Bz c;have o:=Gq k b;unfold O4 at h ⊢;split at h
  ·simp at h
  ·rename_i e;rw[if_neg e];have n:=Z4 (by omega) l.2 d a;split at h
   ·simp at h
   ·rename_i f;rw[if_neg f];split at h
    ·grind
    ·rename_i g;rw[if_neg g];split at h
     ·omega
     ·rename_i j;rw[if_neg j];obtain⟨p,q,t⟩:=Mo b r (i+C9 c*w) (w*(36-I6 k b)) (k+36) (by omega) (ah8 d (by omega)) (by omega) h;grind
theorem XW(f:Int)(b:Int)(g z:Bool)(l:LL)(M:0<=b)(N:b<1000000):∀(s:By) (n:Nat) (i w k:Int),s.length<n->s.length<=1000000000->0<=i->i<=1099511627776->0<=w->w<=1099511627776->0<=k->k+36*s.length<=100000000000->
  ∃H,∀(R:Type) (a:Int->By->Int->Int->Int->Bool->Bool->LL->Int->Option R),Bk LF n w s f i b g z l k a=a (O4 b s i w k).1 (O4 b s i w k).2.1 f (O4 b s i w k).2.2 b g z l H:=by
 intro s
 induction s with
 | nil=>
  intro n i w k K L O B G h P o;obtain⟨n,rfl⟩:∃m,n=m+1:=⟨n-1,by omega⟩
  refine⟨k,λR a=>?_⟩;rw[Bk];rfl
 | cons c r T=>
  intro n i w k K L O B G h P o;obtain⟨n,rfl⟩:∃m,n=m+1:=⟨n-1,by omega⟩
  rw[p5] at K L o;have S:=Bz c;have V:=Gq k b;have Q:u8n (bAt (c::r) 0)=c:=by unfold u8n bAt;simp
  have C:inR (bAt (c::r) 0) 256=true:=by rw[Hp];have:=c.toNat_lt;exact M4 (by omega) (by simp;omega)
  have j:cut (c::r) 1 ((c::r).length:Int)=r:=by
   have:=Mj (c::r) 1 (c::r).length;grind
  have F:((c::r)==([]:By))=false:=rfl;have start:∀(R:Type) (a:Int->By->Int->Int->Int->Bool->Bool->LL->Int->Option R),Bk LF (n+1) w (c::r) f i b g z l k a =
    cond (ltI (C9 c) 0) (a 4 (c::r) f i b g z l k)
     (vl (A2 (i+(A2 (C9 c*w)))) λd=>cond (ltI 1099511627776 d) (a 19 r f d b g z l k)
      (cond (ltI (C9 c) (I6 k b)) (a 0 r f d b g z l (y5 k 36))
       (vl (A2 (36-(I6 k b))) λp=>cond (ltI 1099511627776 (A2 (w*p))) (a 19 r f d b g z l (y5 k 36)) (Bk LF n (A2 (w*p)) r f d b g z l (y5 k 36) a)))):=by
   intro R a;rw[Bk];rw[F,C,M4 (by omega) (by rw[p5];omega),R4 (by omega) (by rw[p5];omega) (by omega),j,Q,L7,L7];rfl
  unfold O4;by_cases u:C9 c<0
  ·rw[if_pos u];refine⟨k,λR a=>?_⟩;rw[start,D0 u];rfl
  ·rw[if_neg u];have U:=Z4 (by omega) S.2 G h;have q:A2 (C9 c*w)=C9 c*w:=A5;have t:A2 (i+C9 c*w)=i+C9 c*w:=A5;by_cases v:1099511627776<i+C9 c*w
   ·rw[if_pos v];refine⟨k,λR a=>?_⟩;rw[start,A6,q,t];simp only[vl,cond_false];rw[D0 v];rfl
   ·rw[if_neg v];by_cases y:C9 c<I6 k b
    ·rw[if_pos y];refine⟨y5 k 36,λR a=>?_⟩;rw[start,A6,q,t];simp only[vl,cond_false];rw[A6,D0 y];rfl
    ·rw[if_neg y];have I:A2 (36-I6 k b)=36-I6 k b:=A5;have D:=Z4 (x:=36-I6 k b) (by omega) (by omega) G h;rw[Int.mul_comm] at D;have J:A2 (w*(36-I6 k b))=w*(36-I6 k b):=A5;by_cases A:1099511627776<w*(36-I6 k b)
     ·rw[if_pos A];refine⟨y5 k 36,λR a=>?_⟩;rw[start,A6,q,t];simp only[vl,cond_false];rw[A6,A6,I,J,D0 A];rfl
     ·rw[if_neg A];obtain⟨H,e⟩:=T n (i+C9 c*w) (w*(36-I6 k b)) (k+36) (by omega) (by omega) (by omega) (by omega) (by omega) (by omega) (by omega) (by omega);refine⟨H,λR a=>?_⟩;rw[start,A6,q,t];simp only[vl,cond_false];rw[A6,A6,I,J,A6];exact e R a
theorem XX(a:By)(n i b:Int)(f z:Bool)(l:LL)(h:A3 a.length=true)(j:ltN b 1000000=true)(k:ltN i 1099511627777=true) :
  ∃c,∀(R:Type) (d:Int->By->Int->Int->Int->Bool->Bool->LL->Int->Option R),Be5 LF a n i b f z l d=d (Wr b a i) (Ws b a i) n (Lm b a i) b f z l c:=by
 have q:=N6 h;obtain⟨g,p⟩:=K7.1 j;obtain⟨o,r⟩:=K7.1 k;have m:=F9;obtain⟨c,e⟩:=XW n b f z l g (by omega) a LF i 1 0 (by omega) (by omega) o (by omega) (by omega) (by omega) (by omega) (by omega);exact⟨c,λR d=>e R _⟩
theorem OT{R:Type}{j:Int->By->Int->Int->Int->Bool->Bool->LL->Option R}(a:By)(n i b:Int)(d z:Bool)(l:LL)(y:A3 a.length=true)(C:ltN b 1000000=true)(g:ltN i 1099511627777=true)(D:ltN n 1152921504606846976=true)(h:o8 l.length 100000=true) :
  VT LF a n i b d z l j=j (D6 ⟨a,n,i,b,d,l⟩).1 (D6 ⟨a,n,i,b,d,l⟩).2.rest (D6 ⟨a,n,i,b,d,l⟩).2.n (D6 ⟨a,n,i,b,d,l⟩).2.i (D6 ⟨a,n,i,b,d,l⟩).2.b (D6 ⟨a,n,i,b,d,l⟩).2.st z (D6 ⟨a,n,i,b,d,l⟩).2.l:=by
 obtain⟨F,Q⟩:=K7.1 g;obtain⟨n0,S⟩:=K7.1 D;have N:=ad7 h;unfold VT D6;rw[y,C,g];simp only[cond_true];by_cases e:Wr b a i=0
 ·rw[if_pos e,e];obtain⟨G,I,T⟩:=Mo b a i 1 0 F (by omega) (by omega) e;have H:i<=Lm b a i:=G;have J:Lm b a i<=1099511627776:=I;have o:A2 ((l.length:Int)+1)=(l.length:Int)+1:=A5;simp only[vl];rw[o];generalize Lm b a i=x at *;have f:0<=x:=by omega
  obtain⟨X,rfl⟩:=o0 f;have p:A2 ((X:Int)-i)=(X:Int)-i:=A5;have u:((l.length:Int)+1)=((l.length+1:Nat):Int):=rfl;have v:x3 (X:Int) ((l.length+1:Nat):Int)=((X / (l.length+1):Nat):Int):=K5 _ _;have w:ae8 (X:Int) ((l.length+1:Nat):Int)=((X % (l.length+1):Nat):Int):=Fi _ _;have M:=y9 X (l.length+1);have O:=ai1 X (show 0<l.length+1 by omega);rw[p,u,v,w];generalize K:X / (l.length+1)=A at *;generalize L:X % (l.length+1)=B at *;have q:A2 (A:Int)=(A:Int):=A5;have r:A2 (n+(A:Int))=n+(A:Int):=A5;have t:A2 ((B:Int)+1)=(B:Int)+1:=A5;have k:((0:Int)!=0)=false:=rfl;have m:((((l.length+1:Nat):Int))!=0)=true:=by rw[bne_iff_ne];omega
  rw[q,r,t,k,L7,L7,A8,m];simp only[cond_true,cond_false];cases P:ptI (n+(A:Int)) with
  | false=>simp
  | true=>
   simp only[j2,cond_false,if_true];by_cases c:(256:Int)<((l.length+1:Nat):Int)
   ·rw[if_pos c,D0 c];rfl
   ·rw[if_neg c,A6,cond_false,WG (by omega) (by show(B:Int)<((l.length+1:Nat):Int);omega),h];rfl
 ·rw[if_neg e,show(Wr b a i !=0)=true from bne_iff_ne.2 e];rfl
theorem JO(c:UInt8):∀l:By,-1<=L6 c l
 | []=>by simp[L6]
 | b::r=>by
  have:=JO c r;unfold L6;omega
theorem Wh(c b:UInt8):∀l:By,L6 c (l++[b])=if b=c then (l.length:Int) else L6 c l
 | []=>by
  by_cases h:b=c<;>simp[L6,h]
 | a::l=>by
  have d:=Wh c b l;rw[ag2,L6,d];by_cases h:b=c
  ·grind
  ·rw[if_neg h,if_neg h];rfl
theorem JG{R:Type}{b:Int->Option R}{d:Unit->Option R}(s:By)(c:UInt8)(o:s.length<=1000000000):∀(m n:Nat),m<=s.length->m<n->
  Y9 LF n s (c.toNat:Int) ((m:Int)-1) b d=if L6 c (s.take m)<0 then d () else b (L6 c (s.take m)):=by
 intro m
 induction m with
 | zero=>
  intro n i j;obtain⟨n,rfl⟩:∃m,n=m+1:=⟨n-1,by omega⟩
  rw[Y9];rw[A8];rfl
 | succ m l=>
  intro n i j;obtain⟨n,rfl⟩:∃m,n=m+1:=⟨n-1,by omega⟩
  rw[Y9];have e:(((m+1:Nat):Int)-1)=(m:Int):=by omega
  have f:A2 ((m:Int)-1)=(m:Int)-1:=A5;have k:s.take (m+1)=s.take m++[s.getD m 0]:=by
   rw[af4,j3,j9 (by omega)];rfl
  rw[e,f,A6,K2,J1,k,Wh];simp only[j0,cond_true];by_cases h:s.getD m 0=c
  ·rw[if_pos h,h,beq_self_eq_true,cond_true,s7,Nat.min_eq_left (by omega),V2]
  ·have a:(((s.getD m 0).toNat:Int)==(c.toNat:Int))=false:=by
    rw[beq_eq_false_iff_ne];intro g;exact h (UInt8.toNat.inj (Int.ofNat.inj g))
   rw[if_neg h,a,cond_false];exact l n (by omega) (by omega)
theorem Aq6{c:Int}(h:inR c 256=true):c=((u8n c).toNat:Int):=by simp only[inR,k9,decide_eq_true_eq] at h;unfold u8n;simp;omega
theorem JH{R:Type}{a:Int->Option R}(s:By)(c:Int)(e:A3 s.length=true)(f:inR c 256=true):FD LF s c a=a (L6 (u8n c) s):=by
 have j:=N6 e;have g:=F9;have i:=Aq6 f;generalize u8n c=d at *;subst i;unfold FD;have b:A2 ((s.length:Int)-1)=(s.length:Int)-1:=A5;simp only[vl];rw[b];refine j6 (JG s d (by omega) s.length LF (by omega) (by omega)) ?_;rw[ag6];have:=JO d s;by_cases h:L6 d s<0
 ·rw[if_pos h,show L6 d s=-1 by omega]
 ·rw[if_neg h]
theorem PN{R:Type}{a:Int->Option R}(s:By)(c:Int)(b:A3 s.length=true)(d:inR c 256=true):WB LF s c a=a (L6 (u8n c) s):=by unfold WB;grind
theorem Ib:∀s:By,(45∈s->L6 45 s=(E6 s:Int))/\(45∉s->L6 45 s=-1/\E6 s=0)
 | []=>⟨λh=>(by cases h),λ_=>⟨rfl,rfl⟩⟩
 | b::r=>by
  obtain⟨a,c⟩:=Ib r;unfold L6 E6;grind
theorem LY{c:UInt8}(h:Hg c=none):C9 c=-1:=by unfold C9;rw[h]
theorem LZ{c:UInt8}{x:Nat}(h:Hg c=some x):C9 c=x:=by unfold C9;rw[h]
theorem Mp(b:Nat):∀(s:By) (i w k:Nat),O4 (b:Int) s (i:Int) (w:Int) ((36*k:Nat):Int)=((((C8 b s i w k).2.2:Nat):Int),(O4 (b:Int) s (i:Int) (w:Int) ((36*k:Nat):Int)).2)/\
  ((C8 b s i w k).2.2=0->(O4 (b:Int) s (i:Int) (w:Int) ((36*k:Nat):Int)).2=((C8 b s i w k).2.1,((C8 b s i w k).1:Int)))
 | [],i,w,k=>⟨rfl,λh=>by simp[C8] at h⟩
 | c::r,i,w,k=>by
  unfold O4 C8;cases d:Hg c with
  | none=>
   rw[LY d,Kc];grind
  | some x=>
   rw[LZ d,V2,Ob];have e:(i:Int)+(x:Int)*(w:Int)=((i+x*w:Nat):Int):=by push_cast;rfl
   have n:=P9 k b;have f:(w:Int)*(36-(thr k b:Int))=((w*(36-thr k b):Nat):Int):=by grind
   have g:((36*k:Nat):Int)+36=((36*(k+1):Nat):Int):=by omega
   have a:Jx=1099511627776:=by decide
   rw[e,f,g,a];simp only;generalize i+x*w=I;generalize w*(36-thr k b)=W;by_cases j:1099511627776<I
   ·grind
   ·rw[V2,if_neg j];by_cases l:x<thr k b
    ·grind
    ·rw[V2,if_neg l];by_cases m:1099511627776<W
     ·grind
     ·rw[V2,if_neg m];exact Mp b r I W (k+1)
theorem Ak4(l:List Nat)(i n:Nat):Ga (C0 l) i (n:Int)=C0 (P4 l i n):=by unfold Ga P4 C0;simp_all
theorem FT(b:Nat)(s:By)(i:Nat):Wr (b:Int) s (i:Int)=((C8 b s i 1 0).2.2:Int)/\((C8 b s i 1 0).2.2=0->Ws (b:Int) s (i:Int)=(C8 b s i 1 0).2.1/\Lm (b:Int) s (i:Int)=((C8 b s i 1 0).1:Int)):=by obtain⟨a,c⟩:=Mp b s i 1 0;have e:O4 (b:Int) s (i:Int) 1 0=O4 (b:Int) s (i:Int) ((1:Nat):Int) ((36*0:Nat):Int):=rfl;unfold Wr Ws Lm;rw[e];refine⟨by rw[a],λh=>?_⟩;have:=c h;rw[this];exact⟨rfl,rfl⟩
theorem Bm2(s:By)(a:List Nat)(n i b:Nat)(c:Bool)(h:(C8 b s i 1 0).2.2=0)(q:i<=(C8 b s i 1 0).1)(o:Ba (n+(C8 b s i 1 0).1 / (a.length+1))=true)(p:¬ 256<a.length+1) :
  D6 ⟨s,(n:Int),(i:Int),(b:Int),c,C0 a⟩=(0,⟨(C8 b s i 1 0).2.1,((n+(C8 b s i 1 0).1 / (a.length+1):Nat):Int),(((C8 b s i 1 0).1 % (a.length+1)+1:Nat):Int),((M0 ((C8 b s i 1 0).1-i) (a.length+1) (!c):Nat):Int),true,C0 (P4 a ((C8 b s i 1 0).1 % (a.length+1)) (n+(C8 b s i 1 0).1 / (a.length+1)))⟩):=by
 obtain⟨j,k⟩:=FT b s i;obtain⟨l,m⟩:=k h;unfold D6;simp only;rw[j,h,if_pos (show((0:Nat):Int)=0 from rfl),l,m,C7];generalize (C8 b s i 1 0).1=X at *;have d:((a.length:Int)+1)=((a.length+1:Nat):Int):=rfl;have e:x3 (X:Int) ((a.length+1:Nat):Int)=((X / (a.length+1):Nat):Int):=K5 _ _;have f:ae8 (X:Int) ((a.length+1:Nat):Int)=((X % (a.length+1):Nat):Int):=Fi _ _;have g:(n:Int)+((X / (a.length+1):Nat):Int)=((n+X / (a.length+1):Nat):Int):=rfl;rw[d,e,f,g,Gj,o,if_pos rfl,V2,b9,Ak4,b9,show((X:Int)-(i:Int)).toNat=X-i by omega];rfl
theorem Be6(s:By)(a:List Nat)(n i b:Nat)(f:Bool):((C8 b s i 1 0).2.2≠0->(D6 ⟨s,(n:Int),(i:Int),(b:Int),f,C0 a⟩).1=((C8 b s i 1 0).2.2:Int))/\
  ((C8 b s i 1 0).2.2=0->Ba (n+(C8 b s i 1 0).1 / (a.length+1))=false->(D6 ⟨s,(n:Int),(i:Int),(b:Int),f,C0 a⟩).1=2)/\
  ((C8 b s i 1 0).2.2=0->Ba (n+(C8 b s i 1 0).1 / (a.length+1))=true->256<a.length+1->(D6 ⟨s,(n:Int),(i:Int),(b:Int),f,C0 a⟩).1=3):=by
 obtain⟨c,l⟩:=FT b s i;have g:(((C0 a).length:Int)+1)=((a.length+1:Nat):Int):=by rw[C7];rfl
 have j:∀X:Nat,x3 (X:Int) ((a.length+1:Nat):Int)=((X / (a.length+1):Nat):Int):=λX=>K5 _ _
 have k:∀A:Nat,(n:Int)+(A:Int)=((n+A:Nat):Int):=λA=>rfl
 refine⟨λh=>?_,λh e=>?_,λh e o=>?_⟩
 ·unfold D6;simp only;rw[c,V2]
 ·obtain⟨m,d⟩:=l h;unfold D6;simp only;rw[c,h,if_pos (show((0:Nat):Int)=0 from rfl),d,g,j,k,Gj,e,if_neg (by simp)]
 ·obtain⟨m,d⟩:=l h;unfold D6;simp only;rw[c,h,if_pos (show((0:Nat):Int)=0 from rfl),d,g,j,k,Gj,e,if_pos rfl,Kc]
theorem Y6(a:List Nat)(n i b:Nat)(f:Bool):F5 [] a n i b f=(a,0):=by rw[F5];rfl
theorem Cn{s:By}(c:s≠[])(a:List Nat)(n i b:Nat)(f:Bool)(h:(C8 b s i 1 0).2.2≠0):F5 s a n i b f=([],(C8 b s i 1 0).2.2):=by rw[F5,dif_neg c];grind
theorem Am{s:By}(c:s≠[])(a:List Nat)(n i b:Nat)(f:Bool)(h:(C8 b s i 1 0).2.2=0):F5 s a n i b f =
  if Ba (n+(C8 b s i 1 0).1 / (a.length+1)) then (if 256<a.length+1 then ([],3) else F5 (C8 b s i 1 0).2.1 (P4 a ((C8 b s i 1 0).1 % (a.length+1)) (n+(C8 b s i 1 0).1 / (a.length+1))) (n+(C8 b s i 1 0).1 / (a.length+1)) ((C8 b s i 1 0).1 % (a.length+1)+1) (M0 ((C8 b s i 1 0).1-i) (a.length+1) f) false) else ([],2):=by
 rw[F5,dif_neg c];simp only;rw[dif_pos h]
theorem V3(l:List Nat)(i n:Nat):(P4 l i n).length=l.length+1:=by unfold P4;grind
theorem ZP:∀(r:Nat) (s:By) (a:List Nat) (n i b f:Nat) (c:Bool),s.length<=r->r<f->s.length<=1000000->a.length<=256->n<=1114111->i<=1000->b<=500->
  ((F5 s a n i b (!c)).2=0->∃u t q p j,∀(R:Type) (d:Int->LL->By->Int->Int->Int->Bool->Option R) (g:LL->By->Int->Int->Int->Bool->Option R),N9 LF f (C0 a) s (n:Int) (i:Int) (b:Int) c d g=g (C0 (F5 s a n i b (!c)).1) u t q p j)/\
  ((F5 s a n i b (!c)).2≠0->(F5 s a n i b (!c)).1=[]/\∃l u t q p j,∀(R:Type) (d:Int->LL->By->Int->Int->Int->Bool->Option R) (g:LL->By->Int->Int->Int->Bool->Option R),N9 LF f (C0 a) s (n:Int) (i:Int) (b:Int) c d g=d ((F5 s a n i b (!c)).2:Nat) l u t q p j):=by
 intro r
 induction r with
 | zero=>
  intro s a n i b f c h K _ _ _ _ _;obtain⟨f,rfl⟩:∃m,f=m+1:=⟨f-1,by omega⟩
  have v:s=[]:=o3.1 (by omega);subst v;rw[Y6];refine⟨λ_=>⟨[],n,i,b,c,λR d g=>?_⟩,λh=>absurd rfl h⟩;rw[N9];rfl
 | succ r L=>
  intro s a n i b f c h K X Y Z h4 h5;obtain⟨f,rfl⟩:∃m,f=m+1:=⟨f-1,by omega⟩
  by_cases v:s=[]
  ·subst v;rw[Y6];refine⟨λ_=>⟨[],n,i,b,c,λR d g=>?_⟩,λh=>absurd rfl h⟩;rw[N9];rfl
  ·have start:∀(R:Type) (d:Int->LL->By->Int->Int->Int->Bool->Option R) (g:LL->By->Int->Int->Int->Bool->Option R),N9 LF (f+1) (C0 a) s (n:Int) (i:Int) (b:Int) c d g =
     cond ((D6 ⟨s,n,i,b,c,C0 a⟩).1 !=0) (d (D6 ⟨s,n,i,b,c,C0 a⟩).1 (D6 ⟨s,n,i,b,c,C0 a⟩).2.l (D6 ⟨s,n,i,b,c,C0 a⟩).2.rest (D6 ⟨s,n,i,b,c,C0 a⟩).2.n (D6 ⟨s,n,i,b,c,C0 a⟩).2.i (D6 ⟨s,n,i,b,c,C0 a⟩).2.b (D6 ⟨s,n,i,b,c,C0 a⟩).2.st)
      (N9 LF f (D6 ⟨s,n,i,b,c,C0 a⟩).2.l (D6 ⟨s,n,i,b,c,C0 a⟩).2.rest (D6 ⟨s,n,i,b,c,C0 a⟩).2.n (D6 ⟨s,n,i,b,c,C0 a⟩).2.i (D6 ⟨s,n,i,b,c,C0 a⟩).2.b (D6 ⟨s,n,i,b,c,C0 a⟩).2.st d g):=by
    intro R d g;rw[N9];rw[show(s==([]:By))=false from beq_eq_false_iff_ne.2 v,A42,L7,L7,L7,C7,aa7 (show a.length<=100000 by omega)];rfl
   obtain⟨G,H,I⟩:=Be6 s a n i b c;have o:=Bm2 s a n i b c;generalize D6 ⟨s,n,i,b,c,C0 a⟩=D at *;by_cases k:(C8 b s i 1 0).2.2=0
   ·rw[Am v a n i b (!c) k];obtain⟨M,N⟩:=FT b s i;obtain⟨O,P⟩:=N k;have J:Wr (b:Int) s (i:Int)=0:=by rw[M,k];rfl
    obtain⟨U,V,W⟩:=Mo b s i 1 0 (by omega) (by omega) (by omega) J;have A:(i:Int)<=Lm (b:Int) s (i:Int):=U;have B:Lm (b:Int) s (i:Int)<=1099511627776:=V;have C:(Ws (b:Int) s (i:Int)).length<s.length:=W;rw[P] at A B;rw[O] at C;cases x:Ba (n+(C8 b s i 1 0).1 / (a.length+1)) with
    | false=>
     rw[if_neg (by simp)];refine⟨λh=>by simp at h,λ_=>⟨rfl,D.2.l,D.2.rest,D.2.n,D.2.i,D.2.b,D.2.st,λR d g=>?_⟩⟩
     ·rw[start,H k x];rfl
    | true=>
     rw[if_pos rfl];by_cases w:256<a.length+1
     ·rw[if_pos w];refine⟨λh=>by simp at h,λ_=>⟨rfl,D.2.l,D.2.rest,D.2.n,D.2.i,D.2.b,D.2.st,λR d g=>?_⟩⟩;rw[start,I k x w];rfl
     ·rw[if_neg w];have o:=o k (by omega) x w;have z:n+(C8 b s i 1 0).1 / (a.length+1)<=1114111:=by
       unfold Ba at x;simp_all
      have F:=ai1 (C8 b s i 1 0).1 (show 0<a.length+1 by omega);have y:=Ho ((C8 b s i 1 0).1-i) (a.length+1) (!c) (by omega);have:=L (C8 b s i 1 0).2.1 (P4 a ((C8 b s i 1 0).1 % (a.length+1)) (n+(C8 b s i 1 0).1 / (a.length+1))) (n+(C8 b s i 1 0).1 / (a.length+1)) ((C8 b s i 1 0).1 % (a.length+1)+1) (M0 ((C8 b s i 1 0).1-i) (a.length+1) (!c)) f true (by omega) (by omega) (by omega) (by rw[V3];omega) z (by omega) y;obtain⟨Q,S⟩:=this;refine⟨λh=>?_,λh=>?_⟩
      ·obtain⟨u,t,q,p,j,e⟩:=Q h;refine⟨u,t,q,p,j,λR d g=>?_⟩;rw[start,o];exact e R d g
      ·obtain⟨T,l,u,t,q,p,j,e⟩:=S h;refine⟨T,l,u,t,q,p,j,λR d g=>?_⟩;rw[start,o];exact e R d g
   ·rw[Cn v a n i b (!c) k];refine⟨λh=>absurd h k,λ_=>⟨rfl,D.2.l,D.2.rest,D.2.n,D.2.i,D.2.b,D.2.st,λR d g=>?_⟩⟩;rw[start,G k,show(((C8 b s i 1 0).2.2:Int)!=0)=true by rw[bne_iff_ne];omega];rfl
theorem Fe(l:List Nat):Sl l=C0 l:=rfl
theorem QX{R:Type}{k0:Unit->Option R}{k1:By->Option R}(s:By)(f:s.length<=1000000):∀(r i n:Nat),i+r=s.length->r<n->
  Gi LF n s (s.length:Int) (i:Int) k0 k1=if (s.drop i).any (λb=>o8 128 b.toNat) then k0 () else k1 s:=by
 intro r
 induction r with
 | zero=>
  intro i n c d;obtain⟨n,rfl⟩:∃m,n=m+1:=⟨n-1,by omega⟩
  rw[Gi];rw[A6,c9 (by omega)];rfl
 | succ r e=>
  intro i n c d;obtain⟨n,rfl⟩:∃m,n=m+1:=⟨n-1,by omega⟩
  rw[Gi];have a:A2 ((i:Int)+1)=((i+1:Nat):Int):=by rw[A5];rfl
  rw[A8,K2,J1,J0 s i (by omega),a,ae4];simp only[cond_true];generalize s.getD i 0=b;by_cases h:128<=b.toNat
  ·rw[A6,aa7 h];rfl
  ·have:o8 128 b.toNat=false:=by rw[o7,ne_eq,p4];exact h
   rw[A8,this,aa8];exact e (i+1) n (by omega) (by omega)
theorem ZO{R:Type}{k0:By->Int->LL->Option R}(s:By)(q:s.length<=1000000)(k:Nat)(p:k<=s.length):∀(r i n:Nat) (l:List Nat),i+r=k->r<n->l.length=i->
  Dp LF n s (k:Int) (i:Int) (C0 l) k0=k0 s (k:Int) (C0 (l++((s.take k).drop i).map (·.toNat))):=by
 intro r
 induction r with
 | zero=>
  intro i n l f h g;obtain⟨n,rfl⟩:∃m,n=m+1:=⟨n-1,by omega⟩
  rw[Dp];rw[A6,c9 (by rw[s7];omega)];simp
 | succ r j=>
  intro i n l f h g;obtain⟨n,rfl⟩:∃m,n=m+1:=⟨n-1,by omega⟩
  rw[Dp];have c:A2 ((i:Int)+1)=((i+1:Nat):Int):=by rw[A5];rfl
  have e:(s.take k).drop i=s.getD i 0::(s.take k).drop (i+1):=by
   rw[J0 (s.take k) i (by rw[s7];omega)]
   congr 1
   rw[j3,j3,List.getElem?_take_of_lt (by omega)]
  rw[A8,K2,J1,e,C7,E9 (by omega),c];simp only[cond_true];generalize s.getD i 0=b;have o:=b.toNat_lt;have d:A2 (b.toNat:Int)=(b.toNat:Int):=A5;have a:C0 l++[[SV.int .i64 (A2 (b.toNat:Int))]]=C0 (l++[b.toNat]):=by rw[d,Ig];rfl
  rw[a,j (i+1) n _ (by omega) (by omega) (by simp;omega)];simp
theorem Ic:∀s:By,E6 s<=s.length-1
 | []=>by simp[E6]
 | b::r=>by
  have:=Ic r;unfold E6;grind
theorem QY(s:By)(L:A3 s.length=true):(∃e,J9 s=([],e)/\∀(R:Type) (k0:Int->Option R) (k1:Int->LL->By->Int->Int->Int->Bool->Option R) (a:LL->By->Int->Int->Int->Bool->Option R),Nj LF s k0 k1 a=k0 (e:Nat))\/
  (∃e l k j i f c,J9 s=([],e)/\∀(R:Type) (k0:Int->Option R) (k1:Int->LL->By->Int->Int->Int->Bool->Option R) (a:LL->By->Int->Int->Int->Bool->Option R),Nj LF s k0 k1 a=k1 (e:Nat) l k j i f c)\/
  ((J9 s).2=0/\∃k j i f c,∀(R:Type) (k0:Int->Option R) (k1:Int->LL->By->Int->Int->Int->Bool->Option R) (a:LL->By->Int->Int->Int->Bool->Option R),Nj LF s k0 k1 a=a (C0 (J9 s).1) k j i f c):=by
 have M:=F9;unfold J9;by_cases B:1024<s.length
 ·rw[if_pos B];refine .inl ⟨3,rfl,λR k0 k1 a=>?_⟩;unfold Nj;rw[A8];rfl
 ·rw[if_neg B];have asc:=λ(R:Type) (F:Unit->Option R) (G:By->Option R)=>QX (k0:=F) (k1:=G) s (by omega) s.length 0 LF (by omega) (by omega)
  rw[j7] at asc;cases z:s.any (λb=>o8 128 b.toNat) with
  | true=>
   rw[if_pos rfl];refine .inl ⟨4,rfl,λR k0 k1 a=>?_⟩;unfold Nj;rw[A6,cond_false];refine j6 (asc R _ _) ?_;rw[z,if_pos rfl];rfl
  | false=>
   rw[if_neg (by simp)];obtain⟨H,I⟩:=Ib s;have N:=Ic s;have key:∀(d:List Nat) (t:By),d.length<=256->t.length<=1024->(∀(R:Type) (k0:Int->Option R) (k1:Int->LL->By->Int->Int->Int->Bool->Option R) (a:LL->By->Int->Int->Int->Bool->Option R),Nj LF s k0 k1 a=N9 LF LF (C0 d) t 128 0 72 false k1 a)->
     (∃e l k j i f c,F5 t d 128 0 72 true=([],e)/\∀(R:Type) (k0:Int->Option R) (k1:Int->LL->By->Int->Int->Int->Bool->Option R) (a:LL->By->Int->Int->Int->Bool->Option R),Nj LF s k0 k1 a=k1 (e:Nat) l k j i f c)\/
     ((F5 t d 128 0 72 true).2=0/\∃k j i f c,∀(R:Type) (k0:Int->Option R) (k1:Int->LL->By->Int->Int->Int->Bool->Option R) (a:LL->By->Int->Int->Int->Bool->Option R),Nj LF s k0 k1 a=a (C0 (F5 t d 128 0 72 true).1) k j i f c):=by
    intro d t O U A;obtain⟨C,D⟩:=ZP t.length t d 128 0 72 LF false (x4 _) (by omega) (by omega) O (by omega) (by omega) (by omega);rw[j0] at C D;by_cases v:(F5 t d 128 0 72 true).2=0
    ·obtain⟨k,j,i,f,c,e⟩:=C v;exact .inr ⟨v,k,j,i,f,c,λR k0 k1 a=>by rw[A];exact e R k1 a⟩
    ·obtain⟨Q,l,k,j,i,f,c,e⟩:=D v;exact .inl ⟨_,l,k,j,i,f,c,Prod.ext Q rfl,λR k0 k1 a=>by rw[A];exact e R k1 a⟩
   have P:u8n 45=45:=rfl;have top:∀(R:Type) (k0:Int->Option R) (k1:Int->LL->By->Int->Int->Int->Bool->Option R) (a:LL->By->Int->Int->Int->Bool->Option R),Nj LF s k0 k1 a =
     cond (ltI 0 (L6 45 s)) (Dp LF LF s (L6 45 s) 0 [] (λn w r=>cond (N3 (A2 (w+1)) (n.length:Int) n.length)
      (vl (cut n (A2 (w+1)) (n.length:Int)) λx=>cond (ltI 256 (r.length:Int)) (k1 3 r x 128 0 72 false) (N9 LF LF r x 128 0 72 false k1 a)) none))
      (N9 LF LF [] s 128 0 72 false k1 a):=by
    intro R k0 k1 a;unfold Nj;rw[A6,cond_false];refine j6 (asc R _ _) ?_;rw[z,if_neg (by simp),L,P];rfl
   by_cases S:0<E6 s
   ·have u:45∈s:=by
     apply ab9;intro h;have:=(I h).2;omega
    have y:=H u;generalize E6 s=m at *;have g:=λ(R:Type) (K:By->Int->LL->Option R)=>ZO (k0:=K) s (by omega) m (by omega) m 0 LF [] (by omega) (by omega) rfl
    rw[j7] at g;have J:A2 ((m:Int)+1)=((m+1:Nat):Int):=by rw[A5];rfl
    have p:((s.take m).map (·.toNat)).length=m:=by rw[j8,s7];omega
    have q:∀(R:Type) (k0:Int->Option R) (k1:Int->LL->By->Int->Int->Int->Bool->Option R) (a:LL->By->Int->Int->Int->Bool->Option R),Nj LF s k0 k1 a =
      cond (ltI 256 (m:Int)) (k1 3 (C0 ((s.take m).map (·.toNat))) (s.drop (m+1)) 128 0 72 false) (N9 LF LF (C0 ((s.take m).map (·.toNat))) (s.drop (m+1)) 128 0 72 false k1 a):=by
     intro R k0 k1 a;rw[top,y,A8,cond_true];refine j6 (g R _) ?_;rw[J,R3,Mj,ag6,y8,C7,p];rfl
    by_cases o:256<m
    ·rw[if_pos o];refine .inr (.inl ⟨3,C0 ((s.take m).map (·.toNat)),s.drop (m+1),128,0,72,false,rfl,λR k0 k1 a=>?_⟩);rw[q,A8];rfl
    ·rw[if_neg o,if_neg (show ¬m=0 by omega)];exact .inr (key _ (s.drop (m+1)) (by rw[p];omega) (by rw[o6];omega) (λR k0 k1 a=>by rw[q,A6];rfl))
   ·have v:E6 s=0:=by omega
    have y:¬ 0<L6 45 s:=by
     by_cases T:45∈s;all_goals grind
    rw[v,V2,if_pos rfl];refine .inr (key [] s (by simp) (by omega) (λR k0 k1 a=>?_));rw[top,A6];rfl
theorem Nf(l:List Nat):(C0 l).isEmpty=l.isEmpty:=by cases l<;>rfl
theorem A03(s:By)(k:A3 s.length=true):∃r H,Nj LF s (λf=>rv (.tup [.fl 0,.s (.int .i64 f)]) [.arr true 3 1 []]) (λf o w c d t j=>rv (.tup [.fl 2,.s (.int .i64 f)]) [.arr true 3 1 o,.box [.s (.str w),.fl 0,.s (.int .i64 c),.s (.int .i64 d),.s (.int .i64 t),.s (.bool j)],.arr true 3 1 []]) (λn v q c d i=>rv (.tup [.fl 0,.s (.int .i64 (0:Int))]) [.arr true 3 1 n,.box [.s (.str v),.fl 0,.s (.int .i64 q),.s (.int .i64 c),.s (.int .i64 d),.s (.bool i)]])=rv r H/\
  r.stab [1,0] H = .tup [.s (.sl (J9 s).1.isEmpty (J9 s).1.isEmpty 1 (Sl (J9 s).1)),.s (.int .i64 ((J9 s).2:Nat))]:=by
 rcases QY s k with⟨e,a,b⟩|⟨e,l,u,p,m,h,g,a,b⟩|⟨a,u,p,m,h,g,b⟩
 ·refine⟨_,_,b _ _ _ _,?_⟩;rw[a];rfl
 ·refine⟨_,_,b _ _ _ _,?_⟩;rw[a];rfl
 ·refine⟨_,_,b _ _ _ _,?_⟩;rw[a,Fe];simp[PV.stab,Py,Sj,PV.snap,N1,Nf]
end
section
open Go
theorem Rs:∀(f:Nat) (l:By),ai9 f l=(Bf f l).isSome
 | 0,_=>rfl
 | f+1,l=>by
  unfold ai9 Bf;split
  ·rfl
  ·split
   ·rfl
   ·rw[Rs f,ac2]
theorem UH(l:By):Lib.validD l=(Sm l).isSome:=Rs _ l
theorem BH:∀(f:Nat) (s:ByteArray) (pos:Nat) (p:List Nat),pos<=s.size->Bf f (s.data.toList.drop pos)=some p->s.size-pos<=f->af1 s f pos=p.length
 | 0,s,pos,p,e,h,d=>by
  simp only[Bf,o5] at h;subst h;rfl
 | f+1,s,pos,p,e,h,d=>by
  have g:s.data.toList.length=s.size:=by rw[Array.length_toList];rfl
  unfold Bf at h;rw[ad0] at h;by_cases a:pos<s.size
  ·rw[if_neg (by rw[<-o3,o6];omega)] at h;split at h
   ·cases h
   ·cases b:Bf f (ag3 (ac7 s pos).2 (ag3 pos s.data.toList)) with
    | none=>rw[b] at h;cases h
    | some q=>
     rw[b] at h;simp only[z7,o5] at h;subst h;have i:=Lib.decode_width_pos s pos a;have c:pos+(ac7 s pos).2<=s.size:=by
      have:=ah9 (s.data.toList.drop pos) (by rw[ne_eq,<-o3,o6];omega);rw[ad0,o6] at this;omega
     rw[ai0] at b;unfold af1;rw[if_pos a,BH f s _ q c b (by omega)];grind
  ·rw[if_pos (by rw[<-o3,o6];omega)] at h;simp only[o5] at h;subst h;rw[Lib.runeCountFrom_end s _ _ a];rfl
theorem Xn{l:By}{p:List Nat}(h:Sm l=some p):ab5 l=p.length:=by
 unfold ab5 Lib.runeCount;have a:(ByteArray.mk l.toArray).size=l.length:=by simp[ByteArray.size]
 refine BH _ _ 0 p (Nat.zero_le _) ?_ (by omega);rw[a,j7];simpa[Sm] using h
end
section
open Go Go.Proofs
theorem Vk(l:List Nat):Q7 (l.map λn:Nat=>(n:Int))=Bl l:=by
 have b:(l.map λn:Nat=>(n:Int)).all ptI=l.all Ba:=by
  rw[aj0]
  congr 1
 have c:(l.map λn:Nat=>(n:Int)).map b8=l:=by
  rw[ad4];exact(x9 λa _=>by simp).trans (aj4 l)
 unfold Q7;rw[j8,b,c];by_cases h:256<l.length
 ·rw[if_pos h];unfold Bl;rw[if_pos h]
 ·rw[if_neg h];cases d:l.all Ba with
  | true=>rw[if_pos rfl]
  | false=>
   rw[if_neg (by simp)];unfold Bl;grind
theorem Vj(l:List Nat):(C0 l).map elI=l.map λn:Nat=>(n:Int):=by unfold C0;rw[ad4];exact x9 λa _=>rfl
theorem Ec(l:List Nat):(C0 l).all Hz=true:=by unfold C0;rw[aj0,u9];intro x _;rfl
theorem QA{R:Type}{a:Unit->Option R}{d:By->Bool->LL->Bool->Option R}(s:By)(z:Bool)(p:List Nat)(t:p.length<=1000000000):∀(r i n:Nat) (b:Bool),i+r=p.length->r<n->
  Q9 LF n s z (C0 p) b (p.length:Int) (i:Int) a d=if (p.drop i).any (λp=>o8 65 p&&o8 p 90) then a () else d s z (C0 p) (b&&!((p.drop i).any λp=>o8 128 p)):=by
 intro r
 induction r with
 | zero=>
  intro i n b h j;obtain⟨n,rfl⟩:∃m,n=m+1:=⟨n-1,by omega⟩
  rw[Q9];rw[A6,c9 (by omega)];simp
 | succ r k=>
  intro i n b h j;obtain⟨n,rfl⟩:∃m,n=m+1:=⟨n-1,by omega⟩
  rw[Q9];have f:A2 ((i:Int)+1)=((i+1:Nat):Int):=by rw[A5];rfl
  have g:p.drop i=p.getD i 0::p.drop (i+1):=by
   rw[j3,j9 (by omega),Option.getD_some,List.getElem_cons_drop]
  rw[A8,C7,K2,b9,Jk (by omega),Pz _ _ (by omega),g,ae4,ae4,f];simp only[cond_true,vl];generalize p.getD i 0=q;have go:∀c:Bool,Q9 LF n s z (C0 p) c (p.length:Int) ((i+1:Nat):Int) a d=_:=λc=>k (i+1) n c (by omega) (by omega)
  by_cases l:q<65
  ·rw[A8,show o8 65 q=false by rw[o7,ne_eq,p4];omega];have e:o8 128 q=false:=by rw[o7,ne_eq,p4];omega
   rw[show ltI (q:Int) (128:Int)=true from A8,e];simp only[j2,cond_false,ah7,aa8];cases b<;>simp only[cond_true,cond_false]<;>rw[go]
  ·rw[A6,show o8 65 q=true by rw[p4];omega];simp only[j0,cond_true,u7];by_cases e:90<q
   ·rw[A8,show o8 q 90=false by rw[o7,ne_eq,p4];omega];simp only[j2,cond_false,aa8];by_cases o:q<128
    ·rw[show ltI (q:Int) (128:Int)=true from A8,show o8 128 q=false by rw[o7,ne_eq,p4];omega];cases b<;>simp only[cond_true,cond_false,aa8]<;>rw[go]
    ·rw[show ltI (q:Int) (128:Int)=false from A6,show o8 128 q=true by rw[p4];omega];cases b<;>simp only[cond_true,cond_false,Bool.true_or,j2,Bool.and_false]<;>rw[go]<;>simp
   ·rw[A6,show o8 q 90=true by rw[p4];omega];simp
theorem OL:∀(m:Nat) (s:By) (a:List Nat) (n i b:Nat) (f:Bool),s.length<=m->a.length<=256->(F5 s a n i b f).1.length<=256:=by
 intro m
 induction m with
 | zero=>
  intro s a n i b f e d;obtain rfl:=o3.1 (Nat.le_zero.1 e);rw[Y6];exact d
 | succ m j=>
  intro s a n i b f e d;by_cases h:s=[]
  ·grind
  ·by_cases c:(C8 b s i 1 0).2.2=0
   ·rw[Am h _ _ _ _ _ c];have g:=Iy b s i 1 0 c;split
    ·split
     ·grind
     ·rename_i k;exact j _ _ _ _ _ _ (by omega) (by rw[V3];omega)
    grind
   ·rw[Cn h _ _ _ _ _ c];grind
theorem IP(s:By):(J9 s).1.length<=256:=by
 unfold J9;split
 ·grind
 ·split
  ·grind
  ·split
   ·grind
   ·rename_i h;exact OL _ _ _ _ _ _ _ (x4 _) (by rw[j8,s7];omega)
theorem QB{R:Type}{a:Bool->Option R}(s:By)(b:A3 s.length=true):WE LF s a=a (Ae s):=by
 have c:=F9;unfold WE Ae;rw[b,cond_true];by_cases h:(J9 s).2=0
 ·have e:(((J9 s).2:Int)!=(0:Int))=false:=by rw[h];rfl
  rw[e,cond_false,Fe,C7,h];have i:=IP s;refine j6 (QA s _ (J9 s).1 (by omega) (J9 s).1.length 0 LF true (by omega) (by omega)) ?_;rw[j7];cases d:(J9 s).1.any (λp=>o8 65 p&&o8 p 90) with
  | true=>simp
  | false=>
   rw[if_neg (by simp),Ec,Vj,Vk];simp only[cond_true,vl,u7,j0];cases f:(J9 s).1.any (λp=>o8 128 p) with
   | false=>simp
   | true=>
    simp only[j2,j0,cond_true,ac8,beq_self_eq_true,u7];by_cases g:(Bl (J9 s).1).2=0;all_goals grind
 grind
theorem ZB{R:Type}{d:Unit->Option R}{e:By->Option R}(s:By)(w:s.length<=1000000000):∀(r i n:Nat),i+r=s.length->r<n->
  N0 LF n s (s.length:Int) (i:Int) d e=if (s.drop i).all S6 then e s else d ():=by
 intro r
 induction r with
 | zero=>
  intro i n l c;obtain⟨n,rfl⟩:∃m,n=m+1:=⟨n-1,by omega⟩
  rw[N0];rw[A6,c9 (by omega)];rfl
 | succ r o=>
  intro i n l c;obtain⟨n,rfl⟩:∃m,n=m+1:=⟨n-1,by omega⟩
  rw[N0];have k:A2 ((i:Int)+1)=((i+1:Nat):Int):=by rw[A5];rfl
  rw[A8,K2,J1,J0 s i (by omega),k,w9];simp only[cond_true];rw[o (i+1) n (by omega) (by omega)];generalize s.getD i 0=b;have j:=Rk b;have u:((b.toNat:Int)!=45) = !(b==45):=congrArg _ (T3 b 45 (by omega));have v:((b.toNat:Int)!=95) = !(b==95):=congrArg _ (T3 b 95 (by omega));rw[u,v];have t:∀{x:Bool},S6 b=x->(if (S6 b&&(s.drop (i+1)).all S6)=true then e s else d ())=if (x&&(s.drop (i+1)).all S6)=true then e s else d ():=λh=>by rw[h]
  cases a:S6 b with
  | true=>
   rw[j] at a;simp only[u7];by_cases f:b=45
   ·subst f;simp (disch:=decide) [ltI]
   ·by_cases g:b=95
    ·subst g;simp (disch:=decide) [ltI]
    ·rcases a with a|a|a|a
     ·rw[show ltI (b.toNat:Int) 97=false from A6,show ltI (122:Int) b.toNat=false from A6];rfl
     ·rw[show ltI (b.toNat:Int) 97=true from A8,show ltI (b.toNat:Int) 48=false from A6,show ltI (57:Int) b.toNat=false from A6];rfl
     ·exact absurd a f
     ·exact absurd a g
  | false=>
   have c:¬((97<=b.toNat/\b.toNat<=122)\/(48<=b.toNat/\b.toNat<=57)\/b=45\/b=95):=λh=>by rw[j.2 h] at a;cases a
   have p:(b==45)=false:=by simpa using λh=>c (.inr (.inr (.inl h)))
   have q:(b==95)=false:=by simpa using λh=>c (.inr (.inr (.inr h)))
   rw[p,q];simp only[j0,cond_true,ah7,aa1,if_false];by_cases f:b.toNat<48
   ·rw[show ltI (b.toNat:Int) 97=true from A8,show ltI (b.toNat:Int) 48=true from A8];rfl
   ·by_cases g:b.toNat<97
    ·rw[show ltI (b.toNat:Int) 97=true from A8,show ltI (b.toNat:Int) 48=false from A6,show ltI (57:Int) b.toNat=true from A8];rfl
    ·rw[show ltI (b.toNat:Int) 97=false from A6,show ltI (122:Int) b.toNat=true from A8,show ltI (b.toNat:Int) 48=false from A6,show ltI (57:Int) b.toNat=true from A8];rfl
theorem ZC{R:Type}{a:Bool->Option R}(s:By)(b:A3 s.length=true):Ay4 LF s a=a (N5 s):=by
 have k:=N6 b;have h:=F9;unfold Ay4 N5;by_cases c:s=[]
 ·simp_all
 ·have o:0<s.length:=ab3.2 c;have j:s.isEmpty=false:=by simpa using c
  rw[A6,cond_false,j];by_cases m:63<s.length
  ·rw[A8,show o8 s.length 63=false by rw[o7,ne_eq,p4];omega];rfl
  ·rw[A6,cond_false,show o8 s.length 63=true by rw[p4];omega,K2];have l:(bAt s 0==(45:Int))=(s.getD 0 0==45):=by rw[Hp];exact T3 _ 45 (by omega)
   have d:A2 ((s.length:Int)-1)=((s.length-1:Nat):Int):=by rw[A5];omega
   rw[l,d];simp only[cond_true,vl];rw[K2,J1,show((((s.getD (s.length-1) 0).toNat:Nat):Int)==45)=(s.getD (s.length-1) 0==45) from T3 _ 45 (by omega)];cases e:(s.getD 0 0==45) with
   | true=>
    grind
   | false=>
    rw[show(s.getD 0 0 !=45)=true by unfold bne;rw[e];rfl];simp only[cond_true,cond_false];cases f:(s.getD (s.length-1) 0==45) with
    | true=>
     grind
    | false=>
     rw[show(s.getD (s.length-1) 0 !=45)=true by unfold bne;rw[f];rfl];simp only[cond_false];refine j6 (ZB s k s.length 0 LF (by omega) (by omega)) ?_;rw[j7];cases n:s.all S6 with
     | false=>simp
     | true=>
      rw[if_pos rfl,b,cond_true];simp only[j0,u7,ac8];show cond (!(xnB.isPrefixOf s)) _ _=_;cases g:xnB.isPrefixOf s with
      | false=>rfl
      | true=>
       have i:Vh s xnB=s.drop 4:=by unfold Vh;rw[g];rfl
       show cond (A3 (Vh s xnB).length) (a (Ae (Vh s xnB))) none=_;rw[i,L5 (by rw[o6];omega)];rfl
theorem OW(a:List Nat)(b:Nat)(F:a.length<=256)(A:b<=256)(d:∀p∈a,p<=1114111):∀(f n:Nat) (s:BZ),s.done=a.countP (λp=>decide (p<n))->s.delta<=300->s.bias<=500->s.out.length+20*(a.length-s.done)<=80000->n<=1114112->
  (M6 a b f n s).out.length<=80000:=by
 intro f;have z:=F9
 induction f with
 | zero=>intro n s C w q x y;unfold M6;omega
 | succ f G=>
  intro n s C w q x y;have B:a.countP (λp=>decide (p<n))<=a.length:=p7;by_cases h:s.done<a.length
  ·obtain⟨u,i,j⟩:=OH (n:=n) (l:=a) (by omega);obtain⟨L,M,o⟩:=Aq n a 1114112;have N:=o u i j;have O:=d u i;have c:F6 n a 1114112∈a/\n<=F6 n a 1114112:=by grind
   have D:M6 a b (f+1) n s=M6 a b f (F6 n a 1114112+1) { F7 (F6 n a 1114112) b a { s with delta:=s.delta+(F6 n a 1114112-n)*(s.done+1) } with delta:=(F7 (F6 n a 1114112) b a { s with delta:=s.delta+(F6 n a 1114112-n)*(s.done+1) }).delta+1 }:=by
    rw[M6,if_pos h]
   rw[D];generalize F6 n a 1114112=m at *;have t:(m-n)*(s.done+1)<=1114112*256:=ad9 (by omega) (by omega);have g:=WO false false a b m (by omega) F a.length 0 LF { s with delta:=s.delta+(m-n)*(s.done+1) } (by omega) (by omega) (by simp only;omega) q (by simp only;omega) (by simp only;omega) A;rw[j7] at g;obtain⟨_,H,I,J,K⟩:=g;have e:0<a.countP (· == m):=ae2.2 ⟨m,c.1,by simp⟩;rw[if_pos e] at K;have k:=Mi c.2 a o;generalize F7 m b a { s with delta:=s.delta+(m-n)*(s.done+1) } = v at *;simp only at I J;have r:a.countP (λp=>decide (p<m+1))<=a.length:=p7;exact G (m+1) { v with delta:=v.delta+1 } (by simp only;omega) (by simp only;omega) H (by simp only;omega) (by omega)
  ·rw[M6,if_neg h];omega
theorem Aj5(p:List Nat):(Bl p).1.length<=80000:=by
 unfold Bl;split
 ·grind
 ·rename_i h;split
  ·grind
  ·rename_i a;have d:∀q∈p,q<=1114111:=λq e=>by
    have a:p.all Ba=true:=by simpa using a
    have:=u9.1 a q e;simp only[Ba,k9,p4] at this;omega
   have b:=Ky p;have c:p.countP (λq=>decide (q<128))<=p.length:=p7;refine OW p _ (by omega) (by omega) d 256 128 _ b (by simp) (by simp) ?_ (by omega);grind
theorem FL{b:UInt8}(h:128<=b.toNat):Gd b=b:=by
 rcases Lk b with⟨_,e⟩|⟨_,e⟩|⟨_,a,_⟩
 all_goals omega
theorem FM{b:UInt8}(h:b.toNat<128):(Gd b).toNat<128:=by
 rcases Lk b with⟨_,e⟩|⟨_,e⟩|⟨_,a,e⟩
 all_goals grind
theorem XT(n:Nat)(a c d e:UInt8)(h:128<=a.toNat):ah3 n a.toNat (Gd c).toNat (Gd d).toNat (Gd e).toNat=ah3 n a.toNat c.toNat d.toNat e.toNat:=by
 have i:∀b:UInt8,b.toNat / 64=2->Gd b=b:=λb f=>FL (by omega)
 have j:∀b:UInt8,¬b.toNat / 64=2->¬(Gd b).toNat / 64=2:=λb f h=>by
  by_cases g:128<=b.toNat
  ·rw[FL g] at h;exact f h
  ·have:=FM (b:=b) (by omega);omega
 unfold ah3;grind
theorem Au6(l:By)(c:l≠[]):(s6 (G8 l)).2=(s6 l).2/\(¬((s6 l).1=65533/\(s6 l).2=1)->¬((s6 (G8 l)).1=65533/\(s6 (G8 l)).2=1)):=by
 cases l with
 | nil=>exact absurd rfl c
 | cons b t=>
  by_cases a:b.toNat<128
  ·have f:=ae9 b t a;have g:s6 (G8 (b::t))=((Gd b).toNat,1):=ae9 (Gd b) (G8 t) (FM a);rw[f,g];refine⟨rfl,λ_ h=>?_⟩;have:=FM a;omega
  ·have e:s6 (G8 (b::t))=s6 (b::t):=by
    rw[ai3,ai3,Jf,Ge,Ge,Ge,Ge];have d:Gd ((b::t).getD 0 0)=b:=FL (b:=b) (show 128<=b.toNat by omega);rw[d];exact XT (b::t).length b ((b::t).getD 1 0) ((b::t).getD 2 0) ((b::t).getD 3 0) (show 128<=b.toNat by omega)
   grind
theorem AR:∀(f:Nat) (l:By),(Bf f l).isSome=true->(Bf f (G8 l)).isSome=true
 | 0,_,_=>rfl
 | f+1,l,h=>by
  unfold Bf at h ⊢;by_cases a:l=[]
  ·subst a;rfl
  ·rw[if_neg a] at h;rw[if_neg (by rw[YX];exact a)];obtain⟨b,c⟩:=Au6 l a;split at h
   ·cases h
   ·rename_i d;rw[if_neg (c d),ac2,b,PY];rw[ac2] at h;exact AR f _ h
theorem An1{l:By}(h:(Sm l).isSome=true):(Sm (G8 l)).isSome=true:=by unfold Sm at h ⊢;rw[Jf];exact AR _ _ h
theorem YN(t:By)(C:t.length<=1000000000):∀(f pos:Nat) (P q:List Nat) (n:Nat),pos<=t.length->t.length-pos<=f->f<n->P.length<=pos->Bf f (t.drop pos)=some q->
  ∃m,∀(R:Type) (h:LL->By->Nat->Option R),Bm LF n (C0 P) t pos h=h (C0 (P++q)) t m:=by
 intro f
 induction f with
 | zero=>
  intro pos P q n u v w x a;obtain⟨n,rfl⟩:∃m,n=m+1:=⟨n-1,by omega⟩
  simp only[Bf,o5] at a;subst a;refine⟨pos,λR h=>?_⟩;rw[Bm];rw[decide_eq_false (by omega),cond_false,y7]
 | succ f z=>
  intro pos P q n u v w x a;obtain⟨n,rfl⟩:∃m,n=m+1:=⟨n-1,by omega⟩
  by_cases l:pos<t.length
  ·have b:t.drop pos≠[]:=by rw[ne_eq,<-o3,o6];omega
   have y:=ad0 ⟨t.toArray⟩ pos;have i:ac7 ⟨af5 t⟩ pos=s6 (t.drop pos):=by rw[<-y]
   unfold Bf at a;rw[if_neg b] at a;split at a
   ·cases a
   ·have D:=Lib.decodeL_width (t.drop pos);have j:=ah9 (t.drop pos) b;have B:=Lib.decodeL_rune (t.drop pos);rw[o6] at j;rw[ai0] at a;generalize s6 (t.drop pos)=p at *;obtain⟨c,o⟩:=p;simp only at *;cases k:Bf f (t.drop (pos+o)) with
    | none=>rw[k] at a;cases a
    | some A=>
     rw[k] at a;simp only[z7,o5] at a;subst a;obtain⟨m,e⟩:=z (pos+o) (P++[c]) A n (by omega) (by omega) (by omega) (by simp;omega) k;refine⟨m,λR h=>?_⟩;rw[Bm];rw[decide_eq_true l,cond_true,i,C7,E9 (by omega)];simp only[vl,cond_true];have r:A2 (c:Int)=(c:Int):=A5;have g:C0 P++[[SV.int .i64 (A2 (c:Int))]]=C0 (P++[c]):=by rw[r,Ig];rfl
     rw[g,e,u6];rfl
  ·have d:t.drop pos=[]:=by rw[<-o3,o6];omega
   unfold Bf at a;rw[d,if_pos rfl] at a;simp only[o5] at a;subst a;refine⟨pos,λR h=>?_⟩;rw[Bm];rw[decide_eq_false l,cond_false,y7]
theorem PL(s:By)(i:A3 s.length=true):(∀(R:Type) (b:By->Int->Option R) (c:By->Int->LL->By->Nat->Option R),JN LF s b c=b (Ip s).1 ((Ip s).2:Nat))\/
  (∃l t m,∀(R:Type) (b:By->Int->Option R) (c:By->Int->LL->By->Nat->Option R),JN LF s b c=c (Ip s).1 ((Ip s).2:Nat) l t m):=by
 have x:=N6 i;have u:=F9;unfold Ip;cases h:Sm s with
 | none=>
  refine .inl λR b c=>?_
  unfold JN;rw[i,h];rfl
 | some p=>
  have k:=Xn h;have top:∀(R:Type) (b:By->Int->Option R) (c:By->Int->LL->By->Nat->Option R),JN LF s b c=cond (ltI 256 (p.length:Int)) (b [] 3) (cond (ltI (p.length:Int) (s.length:Int)) (Bm LF LF [] (G8 s) 0 (λa g f=>cond (a8 a Hz)
      (cond (((Q7 (a7 elI a)).2:Int)!=(0:Int))
       (c ([]:List UInt8) 14 a g f)
       (cond (VQ 4 (j4 ((Q7 (a7 elI a))).1))
        (cond (A3 (j4 (xnB++((Q7 (a7 elI a))).1)))
         (cond (not (N5 (xnB++((Q7 (a7 elI a))).1)))
         (c ([]:List UInt8) 14 a g f)
         (c (xnB++((Q7 (a7 elI a))).1) 0 a g f))
         (none))
        (none)))
      (none)))
     (cond (A3 (j4 (G8 s)))
      (cond (not (N5 (G8 s)))
      (b ([]:List UInt8) 14)
      (b (G8 s) 0))
      (none))):=by
   intro R b c;unfold JN;rw[i,h,k];rfl
  simp only;by_cases n:256<p.length
  ·rw[if_pos n];refine .inl λR b c=>?_
   rw[top,A8];rfl
  ·rw[if_neg n];by_cases o:p.length<s.length
   ·rw[if_pos o];have d:=An1 (l:=s) (by rw[h];rfl);cases r:Sm (G8 s) with
    | none=>rw[r] at d;cases d
    | some q=>
     have w:=Jf s;obtain⟨m,e⟩:=YN (G8 s) (by omega) (G8 s).length 0 [] q LF (by omega) (by omega) (by omega) (by simp) (by rw[j7];exact r);refine .inr ⟨C0 q,G8 s,m,λR b c=>?_⟩;rw[top,A6,cond_false,A8,cond_true];refine j6 (e R _) ?_;have v:=Aj5 q;rw[y8,Ec,Vj,Vk,cond_true,Au2 (by omega),cond_true,L5 (by rw[p9];simp only[xnB,p5,ab1];omega),cond_true];simp only;by_cases j:(Bl q).2=0
     ·rw[j,if_pos rfl];cases y:N5 (xnB++(Bl q).1) with
      | true=>rfl
      | false=>rfl
     ·rw[if_neg j];have:(((Bl q).2:Int)!=(0:Int))=true:=by simpa using j
      rw[this];rfl
   ·rw[if_neg o];refine .inl λR b c=>?_
    rw[top,A6,cond_false,A6,cond_false,L5 (by rw[Jf];exact x),cond_true];cases N5 (G8 s)<;>rfl
theorem Ax4(s:By)(c:A3 s.length=true):∃r H,JN LF s (λa b=>rv (.tup [.s (.str a),.s (.int .i64 b)]) []) (λa b d f e=>rv (.tup [.s (.str a),.s (.int .i64 b)]) [.arr true 3 1 d,.iter f e])=rv r H/\
  r.stab [0,0] H = .tup [.s (.str (Ip s).1),.s (.int .i64 ((Ip s).2:Nat))]:=by
 rcases PL s c with h|⟨l,t,m,h⟩
 ·exact⟨_,_,h _ _ _,rfl⟩
 ·exact⟨_,_,h _ _ _,rfl⟩
theorem YE{R:Type}{g:Int->Option R}(b:Int)(h:inR b 256=true):Ak2 LF b g=g (Ps (u8n b)):=by
 simp only[inR,k9,decide_eq_true_eq] at h;have j:b=((u8n b).toNat:Int):=by
  unfold u8n;simp;omega
 generalize u8n b=c at *;subst j;have i:=c.toNat_lt;unfold Ak2;simp only[Mx,Mw,vl,Ps];rcases Iz c with⟨d,f,e⟩|⟨d,f,e⟩|⟨d,f,e⟩|⟨d,f,o,e⟩
 ·have a:A2 (wu8 ((c.toNat:Int)-48))=((dig c:Nat):Int):=by
   rw[R7,A5];omega
  rw[Kc];simp (disch:=omega) only[D0,E4,j2,j0,cond_false,cond_true,a]
 ·have a:A2 (A2 (wu8 ((c.toNat:Int)-97))+10)=((dig c:Nat):Int):=by
   rw[R7,G7 (n:=(c.toNat:Int)-97) (by omega) (by omega),A5];omega
  rw[Kc];simp (disch:=omega) only[D0,E4,j2,j0,cond_false,cond_true,a]
 ·have a:A2 (A2 (wu8 ((c.toNat:Int)-65))+10)=((dig c:Nat):Int):=by
   rw[R7,G7 (n:=(c.toNat:Int)-65) (by omega) (by omega),A5];omega
  rw[Kc];simp (disch:=omega) only[D0,E4,j2,j0,cond_false,cond_true,a]
 ·rw[e,if_neg (by decide)];by_cases k:c.toNat<48
  ·simp (disch:=omega) only[D0,E4,j2,j0,cond_false,cond_true]
  ·by_cases l:c.toNat<65
   ·simp (disch:=omega) only[D0,E4,j2,j0,cond_false,cond_true]
   ·by_cases m:c.toNat<97
    ·simp (disch:=omega) only[D0,E4,j2,j0,cond_false,cond_true]
    ·simp (disch:=omega) only[D0,E4,j2,j0,cond_false,cond_true]
theorem A01{b:UInt8}(r:By)(h:b≠37):El (b::r)=(El r).map (b::·):=by
 conv=>lhs;unfold El
 grind
theorem Am6(x y:UInt8)(r:By):El (37::x::y::r)=if dig x<16/\dig y<16 then (El r).map (p6 (16*dig x+dig y)::·) else none:=by
 conv=>lhs;unfold El
 grind
theorem Aj0(x:UInt8):ltI (Ps x) 0 = !(decide (dig x<16)):=by
 unfold Ps;by_cases h:dig x<16
 ·simp_all
 ·rw[if_neg h,A8,decide_eq_false h];rfl
theorem YD(s:By)(P:s.length<=1000000000):∀(m i n:Nat) (a:By),i<=s.length->s.length-i<=m->m<n->a.length<=i->
  (∀t,El (s.drop i)=some t->∀(R:Type) (c:LL->Option R) (d:LL->Option R),N8 LF n s (i:Int) (a.map D7) c d=d ((a++t).map D7))/\
  (El (s.drop i)=none->∃l,∀(R:Type) (c:LL->Option R) (d:LL->Option R),N8 LF n s (i:Int) (a.map D7) c d=c l):=by
 intro m
 induction m with
 | zero=>
  intro i n a J K L I;obtain⟨n,rfl⟩:∃m,n=m+1:=⟨n-1,by omega⟩
  rw[c9 (by omega)];refine⟨λt f R c d=>?_,λh=>(by cases h)⟩;simp only[El,o5] at f;subst f;rw[N8];rw[A6,y7];rfl
 | succ m G=>
  intro i n a J K L I;obtain⟨n,rfl⟩:∃m,n=m+1:=⟨n-1,by omega⟩
  by_cases z:i<s.length
  ·have D:A2 ((i:Int)+1)=((i+1:Nat):Int):=by rw[A5];rfl
   have F:A2 ((i:Int)+2)=((i+2:Nat):Int):=by rw[A5];rfl
   have H:A2 (((i+2:Nat):Int)+1)=((i+3:Nat):Int):=by rw[A5];omega
   have p:(a.map D7).length=a.length:=j8 _;have v:∀b:UInt8,a.map D7++[[SV.int .u8 (b.toNat:Int)]]=(a++[b]).map D7:=λb=>by rw[ab2];rfl
   have C:(((s.getD i 0).toNat:Int)!=37) = !(s.getD i 0==37):=congrArg _ (T3 _ 37 (by omega));rw[J0 s i z];by_cases g:s.getD i 0=37
   ·by_cases O:i+2<s.length
    ·rw[J0 s (i+1) (by omega),J0 s (i+1+1) (by omega),g,Am6];obtain⟨A,B⟩:=G (i+3) n (a++[p6 (16*dig (s.getD (i+1) 0)+dig (s.getD (i+2) 0))]) (by omega) (by omega) (by omega) (by simp;omega);have top:∀(R:Type) (c:LL->Option R) (d:LL->Option R),N8 LF (n+1) s (i:Int) (a.map D7) c d=cond (decide (dig (s.getD (i+1) 0)<16)&&decide (dig (s.getD (i+2) 0)<16)) (N8 LF n s ((i+3:Nat):Int) ((a++[p6 (16*dig (s.getD (i+1) 0)+dig (s.getD (i+2) 0))]).map D7) c d) (c (a.map D7)):=by
      intro R c d;rw[N8];rw[A8,K2,J1,C,g,p,F,A8,D,K2,K2,J1,J1];simp only[cond_true,vl,j2,cond_false,beq_self_eq_true,UF,Od,Aj0,E9 (show a.length+1<=68719476736 by omega),H];generalize s.getD (i+1) 0=x at *;generalize s.getD (i+2) 0=y at *;by_cases M:dig x<16
      ·by_cases N:dig y<16
       ·have w1:Ps x=(dig x:Int):=by unfold Ps;rw[if_pos M]
        have S:Ps y=(dig y:Int):=by unfold Ps;rw[if_pos N]
        have T:A2 ((16:Int)*(dig x:Int))=((16*dig x:Nat):Int):=by rw[A5];omega
        have U:A2 (((16*dig x:Nat):Int)+(dig y:Int))=((16*dig x+dig y:Nat):Int):=by rw[A5];omega
        have V:wu8 ((16*dig x+dig y:Nat):Int)=((p6 (16*dig x+dig y)).toNat:Int):=by
         rw[R7];simp;omega
        grind
       grind
      grind
     by_cases o:dig (s.getD (i+1) 0)<16/\dig (s.getD (i+2) 0)<16
     ·rw[if_pos o];have w:(decide (dig (s.getD (i+1) 0)<16)&&decide (dig (s.getD (i+2) 0)<16))=true:=by rw[decide_eq_true o.1,decide_eq_true o.2];rfl
      refine⟨λt f R c d=>?_,λh=>?_⟩
      ·cases j:El (s.drop (i+3)) with
       | none=>rw[show i+1+1+1=i+3 from rfl,j] at f;cases f
       | some q=>
        rw[show i+1+1+1=i+3 from rfl,j] at f;simp only[z7,o5] at f;subst f;rw[top,w,cond_true,A q j,u6];rfl
      ·cases j:El (s.drop (i+3)) with
       | some q=>rw[show i+1+1+1=i+3 from rfl,j] at h;cases h
       | none=>
        obtain⟨l,e⟩:=B j;exact⟨l,λR c d=>by rw[top,w,cond_true,e]⟩
     ·rw[if_neg o];have w:(decide (dig (s.getD (i+1) 0)<16)&&decide (dig (s.getD (i+2) 0)<16))=false:=by grind
      exact⟨λt h=>(by cases h),λ_=>⟨_,λR c d=>by rw[top,w,cond_false]⟩⟩
    ·have k:El (s.getD i 0::s.drop (i+1))=none:=by
      rw[g];cases o:s.drop (i+1) with
      | nil=>rfl
      | cons x r=>
       cases r with
       | nil=>rfl
       | cons y Q=>
        exfalso;have:=congrArg j4 o;rw[o6,p5,p5] at this;omega
     rw[k];refine⟨λt h=>(by cases h),λ_=>⟨a.map D7,λR c d=>?_⟩⟩;rw[N8];rw[A8,K2,J1,C,g,F,A6];rfl
   ·rw[A01 _ g];obtain⟨A,B⟩:=G (i+1) n (a++[s.getD i 0]) (by omega) (by omega) (by omega) (by simp;omega);have u:(s.getD i 0==37)=false:=by simpa using g
    have top:∀(R:Type) (c:LL->Option R) (d:LL->Option R),N8 LF (n+1) s (i:Int) (a.map D7) c d=N8 LF n s ((i+1:Nat):Int) ((a++[s.getD i 0]).map D7) c d:=by
     intro R c d;rw[N8];rw[A8,K2,J1,C,u,p,E9 (by omega),D,v];rfl
    refine⟨λt f R c d=>?_,λh=>?_⟩
    ·cases j:El (s.drop (i+1)) with
     | none=>rw[j] at f;cases f
     | some q=>
      rw[j] at f;simp only[z7,o5] at f;subst f;rw[top,A q j,u6];rfl
    ·cases j:El (s.drop (i+1)) with
     | some q=>rw[j] at h;cases h
     | none=>
      obtain⟨l,e⟩:=B j;exact⟨l,λR c d=>by rw[top,e]⟩
  ·rw[c9 (by omega)];refine⟨λt f R c d=>?_,λh=>(by cases h)⟩;simp only[El,o5] at f;subst f;rw[N8];rw[A6,y7];rfl
theorem Aw3(s:By)(f:A3 s.length=true):∃r H,Ak1 LF s (λj k i=>rv (.tup [.s (.str j),.s (.bool k)]) [.arr false 5 1 i])=rv r H/\
  r.stab [0,0] H = .tup [.s (.str (Bh0 s)),.s (.bool (El s).isSome)]:=by
 have h:=N6 f;have g:=F9;have a:((decide ((0:Int)<=(s.length:Int)))&&(G1 (b8 (s.length:Int))))=true:=by
  rw[b9,E9 (by omega),decide_eq_true (by omega)];rfl
 obtain⟨c,d⟩:=YD s h s.length 0 LF [] (by omega) (by omega) (by omega) (by simp);rw[j7] at c d;unfold Bh0;cases b:El s with
 | none=>
  obtain⟨l,e⟩:=d b;refine⟨.tup [.s (.str []),.s (.bool false)],[.arr false 5 1 l],?_,rfl⟩;unfold Ak1;rw[a,cond_true];exact e _ _ _
 | some t=>
  refine⟨.tup [.s (.str t),.s (.bool true)],[.arr false 5 1 (t.map D7)],?_,rfl⟩;unfold Ak1;rw[a,cond_true];refine j6 (c t b _ _ _) ?_;rw[y8,Et,Fd];rfl
theorem JF{R:Type}{k0 k1:Unit->Option R}:∀l:List By,(∀x∈l,x.length<=1000000000)->Vz LF l k0 k1=if l.all N5 then k0 () else k1 ()
 | [],_=>rfl
 | x::r,h=>by
  rw[JE];unfold Su;rw[L5 (h x (by simp)),cond_true,w9];have b:=JF (k0:=k0) (k1:=k1) r (λy a=>h y (by simp[a]));grind
theorem Bf6(s:By)(a:A3 s.length=true):∃r H,hvn LF s (λ_=>rv (.s (.bool false)) [.box [.s (.bool false)]]) (λd b=>rv (.s (.bool d)) [.box [.s (.bool b)],.box [.bad],.box [.bad],.box [.bad]])=rv r H/\r.stab [] H = .s (.bool (Bc s)):=by
 have h:=N6 a;unfold hvn FC Bc;by_cases e:253<s.length
 ·rw[A8,show o8 s.length 253=false by rw[o7,ne_eq,p4];omega];exact⟨_,_,rfl,rfl⟩
 ·rw[A6,cond_false,a,cond_true,show o8 s.length 253=true by rw[p4];omega];cases f:R1 s with
  | true=>exact⟨_,_,rfl,rfl⟩
  | false=>
   rw[cond_false,show((1:Nat)==1&&(0:Int)==(0:Int))=true from rfl,show([46]:By).getD 0 0=46 from rfl,ac8,cond_true,JF _ (λx c=>by have:=(Sy c).2;omega)];cases g:(pcs 46 s).all N5 with
   | true=>exact⟨_,_,rfl,rfl⟩
   | false=>exact⟨_,_,rfl,rfl⟩
theorem QC{R:Type}{a:By->By->Int->Option R}(t p:By)(n:Int):Al4 LF t p n a=a t p n:=rfl
theorem Ab9{R:Type}{a:By->By->Option R}(t p:By):Bh6 LF t p a=a t p:=rfl
theorem TW{l R:Type}(g:Yh l)(c:UInt8):∀(m:Nat) (t:By) (n:Nat) (s i:l),t.length<=m->t.length<=1000000000->m<n->Z9 g ((pcs c t).map λx=>([.s (.str x)]:List PV)) s=some i->
  ∃u , (∃w:l,∃b:Bool,g [.s (.str u)] w=some (b,i)/\∀(a d:By->By->Int->l->Option R),O0 g LF n [c] t 0 s a d=a [c] u 0 w)\/(∀(a d:By->By->Int->l->Option R),O0 g LF n [c] t 0 s a d=d [c] u 0 i):=by
 intro m
 induction m with
 | zero=>
  intro t n s i z o F h;obtain rfl:=o3.1 (Nat.le_zero.1 z);obtain⟨n,rfl⟩:∃m,n=m+1:=⟨n-1,by omega⟩
  rw[Wz (by simp)] at h;simp only[aa9,af3,Z9] at h;refine⟨[],.inl ⟨s,?_⟩⟩;have e:∀(a d:By->By->Int->l->Option R),O0 g LF (n+1) [c] [] 0 s a d=a [c] [] 0 s:=λa d=>by
   rw[O0];rw[Wa (by simp)];rfl
  cases k:g [.s (.str [])] s with
  | none=>rw[k] at h;cases h
  | some q=>
   obtain⟨b,j⟩:=q;rw[k] at h;have:j=i:=by cases b<;>simpa using h
   subst this;exact⟨b,rfl,e⟩
 | succ m G=>
  intro t n s i z o F h;obtain⟨n,rfl⟩:∃m,n=m+1:=⟨n-1,by omega⟩
  rcases Im c t with v|⟨p,r,rfl,v⟩
  ·rw[Wz v] at h;simp only[aa9,af3,Z9] at h;refine⟨t,.inl ⟨s,?_⟩⟩;have e:∀(a d:By->By->Int->l->Option R),O0 g LF (n+1) [c] t 0 s a d=a [c] t 0 s:=λa d=>by
    rw[O0];rw[Wa v,L5 o];rfl
   cases k:g [.s (.str t)] s with
   | none=>rw[k] at h;cases h
   | some q=>
    obtain⟨b,j⟩:=q;rw[k] at h;have:j=i:=by cases b<;>simpa using h
    subst this;exact⟨b,rfl,e⟩
  ·rw[WN v] at h;simp only[aa9,Z9] at h;have y:(p++c::r).length=p.length+r.length+1:=by rw[p9,p5];omega
   have A:A2 ((p.length:Int)+0)=((p.length:Nat):Int):=by rw[A5];omega
   have B:A2 ((p.length:Int)+(([c]:By).length:Int))=((p.length+1:Nat):Int):=by
    rw[G7 (by simp;omega) (by simp;omega)];simp
   have C:cut (p++c::r) 0 (p.length:Int)=p:=by rw[Al,b9,List.take_left]
   have D:cut (p++c::r) ((p.length+1:Nat):Int) ((p++c::r).length:Int)=r:=by
    rw[N7,b9,show p++c::r=(p++[c])++r by simp,List.drop_left' (by simp)]
   have top:∀(a d:By->By->Int->l->Option R),O0 g LF (n+1) [c] (p++c::r) 0 s a d=ydK (g [.s (.str p)] s) λb j=>cond (not b) (d [c] (p++c::r) 0 j) (O0 g LF n [c] r 0 j a d):=λa d=>by
    rw[O0];rw[Zw v,L5 o,cond_true,A6,cond_false];simp only[vl,A,B,C,D];rw[R3,cond_true,R3];rfl
   cases k:g [.s (.str p)] s with
   | none=>rw[k] at h;cases h
   | some q=>
    obtain⟨b,j⟩:=q;rw[k] at h top;cases b with
    | false=>
     have:j=i:=by simpa using h
     subst this;exact⟨p++c::r,.inr λa d=>by rw[top];rfl⟩
    | true=>
     simp only at h;obtain⟨u,⟨w,b,e,f⟩|f⟩:=G r n j i (by omega) (by omega) (by omega) h
     ·exact⟨u,.inl ⟨w,b,e,λa d=>by rw[top];exact f a d⟩⟩
     ·exact⟨u,.inr λa d=>by rw[top];exact f a d⟩
theorem TX{j R:Type}(i:Yh j)(p t:By)(n:Int)(s g:j)(h:(A3 t.length&&(p.length==1&&n==0))=true)(o:Z9 i ((pcs (p.getD 0 0) t).map λx=>([.s (.str x)]:List PV)) s=some g) :
  ∃d,∀(a:By->By->Int->j->Option R),LJ i LF p t n s a=a p d n g:=by
 have m:=F9;simp only[k9,beq_iff_eq] at h;obtain⟨k,l,rfl⟩:=h;obtain⟨c,rfl⟩:=List.length_eq_one_iff.1 l;have q:=N6 k;obtain⟨d,⟨r,b,e,f⟩|f⟩:=TW (R:=R) i c t.length t LF s g (x4 _) q (by omega) o
 ·refine⟨d,λa=>?_⟩;unfold LJ;rw[show(((([c]:By).length:Nat):Int)==0)=false from rfl,cond_false];refine j6 (f _ _) ?_;rw[e];rfl
 ·refine⟨d,λa=>?_⟩;unfold LJ;rw[show(((([c]:By).length:Nat):Int)==0)=false from rfl,cond_false];exact f _ _
set_option maxRecDepth 100000
section
def CV:List PV->Tr
 | [.s (.str s)]=>.ret (.s (.bool false)) []
 | _=>.fail
def Ae7(args:List PV):Tr:=CV (D8 [[0]] args)
def CU:List PV->Tr
 | [.s (.int .i64 n)]=>.ret (.s (.bool false)) []
 | _=>.fail
def Ae6(args:List PV):Tr:=CU (D8 [[0]] args)
def MK:List PV->Tr
 | [.s (.str s),.s (.str p)]=>.ret (.s (.int .i64 (Az s p))) []
 | _=>.fail
def A85(args:List PV):Tr:=MK (D8 [[0],[0]] args)
def MJ:List PV->Tr
 | [.s (.int .i64 n),.s (.int .i64 m)]=>.ret (.s (.int .i64 (Ai4 n m))) []
 | _=>.fail
def A84(args:List PV):Tr:=MJ (D8 [[0],[0]] args)
def CX:List PV->Tr
 | [.s (.str s),.s (.str p)]=>.need (A3 (j4 s)) (.need (A3 (j4 p)) (.ret (.s (.int .i64 (Si s p))) []))
 | _=>.fail
def Ae9(args:List PV):Tr:=CX (D8 [[0],[0]] args)
def DB:List PV->Tr
 | [.agg [.s (.str h),.s (.bool b),.s (.int .i64 e)]]=>.need (A3 (j4 h)) (.ret (.s (.bool (Xc h e))) [])
 | _=>.fail
def MW(args:List PV):Tr:=DB (D8 [[0,0,0]] args)
def DQ:List PV->Tr
 | [.s (.int .i64 n),.s (.int .i64 m)]=>.ret (.s (.bool (not (ltI m n)))) []
 | _=>.fail
def Af8(args:List PV):Tr:=DQ (D8 [[0],[0]] args)
def Bq9:List PV->Tr
 | [.s (.sl b a 2 l),.s (.fn (u0 999999) [] [])]=>.need (a8 l Bn2) (.need (a8 l smE) (.need (A3 (j4 l)) (.ret (.s (.int .i64 (ixE (a7 Bm3 l)))) [])))
 | _=>.fail
def DV:List PV->Tr
 | [.s (.sl a b 3 l)]=>.need (A3 (j4 l)) (.need (P5 a l) (.ret (.fl 0) [.arr a 32 3 l]))
 | _=>.fail
def Uj(args:List PV):Tr:=DV (D8 [[3]] args)
def Bl3:List PV->Tr
 | [.s (.sl a c 3 t),.s (.int .i64 b)]=>.need (a8 t C1) (.need (a8 t smE) (.need (A3 (j4 t)) (.need (P5 a t) (.need ((ltI (0:Int) b)&&(ltI b (1001:Int))) (.split ((Kd b (a7 A7 t))==0) (.ret (.tup [.s (.sp [[.sl a a 3 t,.int .i64 b]] 0 0),.s (.int .i64 (0:Int))]) []) (.ret (.tup [.s (.nilp),.s (.int .i64 (↑(Kd b (a7 A7 t)):Int))]) []))))))
 | _=>.fail
def CJ:List PV->Tr
 | [.s (.sl b a 3 t),.s (.int .i64 n)]=>.need (a8 t C1) (.need (ltI n (1001:Int)) (.ret (.s (.bool (Lu n t))) []))
 | _=>.fail
def MO(args:List PV):Tr:=CJ (D8 [[3],[0]] args)
def Uc:List PV->Tr
 | [.s (.str s),.s (.str p)]=>.need (A3 (j4 s)) (.need (A3 (j4 p)) (.ret (.s (.int .i64 (Si s p))) []))
 | _=>.fail
def VC(args:List PV):Tr:=Uc (D8 [[0],[0]] args)
end
end
section
open Go Go.Op
def stB(a:Int)(T:List Q1):Bool:=!ltI a 0&&(!ltI 1099511627776 a&&Kd 1000 T==0)
def PT(n m:Int):Int:=max 0 (min n m)
def Hf(b a:Int):Int:=max b (min a 1099511627776)
def E3(a:Int)(T:List Q1):List Q1:=T.filter λp=>ltI a p.2.2
def ixP(a:Int)(T:List Q1):Int:=match T.findIdx? (λp=>!ltI a p.2.2) with|some j=>(j:Int)|none=>-1
def OM(a:Int)(l:LL):LL:=G9 (E3 a (l.map A7))++ab6 (l.length-(E3 a (l.map A7)).length) [.str [],.bool false,.int .i64 0]
theorem Az6{l:List Q1}{i:Nat}(h:i<l.length):okE Jy (G9 l) i 0=true:=by unfold okE;rw[X2 h];simp[h,okS,Jw,SV.has,Jy]
theorem Br6{l:List Q1}{i:Nat}(h:i<l.length):okE Dd (G9 l) i 2=true:=by unfold okE;rw[X2 h];simp[h,okS,Jw,SV.has,Dd]
theorem Re{l:List Q1}{i:Nat}(h:i<l.length):l.drop i=l.getD i noP::l.drop (i+1):=by rw[ac0 h,j3,j9 h];rfl
theorem Bg6{L:LL}{j:Nat}{p:Q1}(a:j<L.length)(h:L.getD j []=Jw p):okE ⟨true,true,[.str,.bool,.int .i64]⟩ L j 0=true:=by unfold okE;rw[h];simp[a,okS,Jw,SV.has]
theorem Bm8{L:LL}{j:Nat}{p:Q1}(h:L.getD j []=Jw p):gX L j 0=p.1:=by unfold gX gC;rw[h];rfl
theorem Bm9{L:LL}{j:Nat}{p:Q1}(h:L.getD j []=Jw p):gY L j 1=p.2.1:=by unfold gY gC;rw[h];rfl
theorem Bm7{L:LL}{j:Nat}{p:Q1}(h:L.getD j []=Jw p):gE L j 2=p.2.2:=by unfold gE gC;rw[h];rfl
theorem KC(A B:List Q1):G9 (A++B)=G9 A++G9 B:=ab2
theorem Ak9{a:Int}{T:List Q1}(h:ixP a T=-1):E3 a T=T:=by
 unfold ixP at h;unfold E3;cases e:T.findIdx? (λp=>!ltI a p.2.2) with
 | some j=>rw[e] at h;exact absurd h (by show((j:Nat):Int)≠-1;omega)
 | none=>
  rw[List.findIdx?_eq_none_iff] at e;exact ae3.2 λp b=>by simpa using e p b
theorem Ax5{a:Int}{T:List Q1}{j:Nat}(h:T.findIdx? (λp=>!ltI a p.2.2)=some j):j<T.length/\E3 a T=T.take j++E3 a (T.drop (j+1)):=by
 rw[List.findIdx?_eq_some_iff_getElem] at h;obtain⟨c,d,f⟩:=h;refine⟨c,?_⟩;have e:T=T.take j++T[j]::T.drop (j+1):=by rw[<-ac0 c,List.take_append_drop]
 conv=>lhs;rw[e]
 unfold E3;rw[List.filter_append,ad2];have g:ltI a T[j].2.2=false:=by simpa using d
 rw[g];simp only[aa1,if_false]
 congr 1
 refine ae3.2 λp l=>?_
 obtain⟨i,k,rfl⟩:=List.getElem_of_mem l;have b:i<j:=by rw[s7] at k;omega
 have:=f i b;rw[List.getElem_take];simpa using this
end
section
open Go Go.Proofs
set_option maxRecDepth 100000
section
def NG:List PV->Tr
 | [.agg [.s (.int .i64 a),.s (.sl c b 3 t)]]=>.need (a8 t C1) (.need (a8 t smE) (.need (A3 (j4 t)) (.ret (.s (.bool (stB a (a7 A7 t)))) [])))
 | _=>.fail
def Yy(args:List PV):Tr:=NG (D8 [[0,3]] args)
def Ue:List PV->Tr
 | [.agg [.s (.str h),.s (.bool b),.s (.int .i64 e)]]=>.need (A3 (j4 h)) (.ret (.s (.bool (Xc h e))) [])
 | _=>.fail
def VE(args:List PV):Tr:=Ue (D8 [[0,0,0]] args)
def DK:List PV->Tr
 | [.s (.sl c b 3 t),.s (.int .i64 a)]=>.need (a8 t C1) (.need (a8 t smE) (.need (A3 (j4 t)) (.need ((ltI (0:Int) a)&&(ltI a (1001:Int))) (.ret (.s (.int .i64 (↑(Kd a (a7 A7 t)):Int))) []))))
 | _=>.fail
def Af6(args:List PV):Tr:=DK (D8 [[3],[0]] args)
def DN:List PV->Tr
 | [.agg [.s (.int .i64 a),.s (.sl c b 3 t)]]=>.need (a8 t C1) (.need (a8 t smE) (.need (A3 (j4 t)) (.ret (.s (.bool (stB a (a7 A7 t)))) [])))
 | _=>.fail
def NA(args:List PV):Tr:=DN (D8 [[0,3]] args)
def CT:List PV->Tr
 | [.agg [.s (.int .i64 b),.s (.sl a c 3 t)]]=>.need (A3 (j4 t)) (.need (P5 a t) (.ret (.agg [.s (.int .i64 b),.fl 0]) [.arr a 32 3 t]))
 | _=>.fail
def Tq(args:List PV):Tr:=CT (D8 [[0,3]] args)
def DI:List PV->Tr
 | [.s (.int .i64 n),.s (.int .i64 m)]=>.ret (.s (.int .i64 (PT n m))) []
 | _=>.fail
def Af4(args:List PV):Tr:=DI (D8 [[0],[0]] args)
def Ts:List PV->Tr
 | [.agg [.s (.int .i64 c),.s (.sl a d 3 t)],.s (.int .i64 b)]=>.need (a8 t C1) (.need (a8 t smE) (.need (A3 (j4 t)) (.need (P5 a t) (.split (stB c (a7 A7 t)) (.ret (.agg [.s (.int .i64 (Hf c b)),.s (.sl a a 3 t)]) []) (.ret (.agg [.s (.int .i64 (0:Int)),.s (.sl true true 0 [])]) [])))))
 | _=>.fail
def Ma(args:List PV):Tr:=Ts (D8 [[0,3],[0]] args)
def Ov:List PV->Tr
 | [.agg [.s (.int .i64 d),.s (.sl c b 3 t)],.s (.int .i64 a)]=>.need (a8 t C1) (.need (a8 t smE) (.need (A3 (j4 t)) (.split (stB d (a7 A7 t)) (.ret (.agg [.s (.int .i64 (Hf d a)),.s (.sl c b 3 t)]) []) (.ret (.agg [.s (.int .i64 (0:Int)),.s (.sl true true 0 [])]) []))))
 | _=>.fail
def Ua(args:List PV):Tr:=Ov (D8 [[0,3],[0]] args)
def MV:List PV->Tr
 | [.agg [.s (.str h),.s (.bool b),.s (.int .i64 e)],.s (.sp [[.int .i64 a,.sl d c 3 q]] 0 0)]=>.ret (.s (.bool (not (ltI a e)))) []
 | _=>.fail
def UY(args:List PV):Tr:=MV (D8 [[0,0,0],[0]] args)
def DY:List PV->Tr
 | [.s (.sl c b 3 l),.s (.fn (u0 18) [] [.sp [[.int .i64 a,.sl e d 3 q]] 0 0])]=>.need (a8 l C1) (.need (A3 (j4 l)) (.ret (.s (.int .i64 (ixP a (a7 A7 l)))) []))
 | _=>.fail
def NF(args:List PV):Tr:=DY (D8 [[3],[0]] args)
def DW:List PV->List Blk->Tr
 | [.fl 0,.fnr (u0 18) [] [.ptr 1 0 0]],[.arr z 32 3 l,.box [.s (.int .i64 a),.s (.sl c b 3 q)]]=>.need (a8 l C1) (.need (A3 (j4 l)) (.split ((ixP a (a7 A7 l))==((-1):Int)) (.ret (.fl 0) [.arr z 32 3 l,.box [.s (.int .i64 a),.s (.sl c b 3 q)]]) (.ret (.vw 0 0 (j4 (E3 a (a7 A7 l)))) [.arr z 32 3 (OM a l),.box [.s (.int .i64 a),.s (.sl c b 3 q)]])))
 | _,_=>.fail
def On:List PV->Tr
 | [.agg [.s (.int .i64 b),.s (.sl a c 3 t)]]=>.need (a8 t C1) (.need (a8 t smE) (.need (A3 (j4 t)) (.need (P5 a t) (.split (stB b (a7 A7 t)) (.ret (.agg [.s (.int .i64 b),.s (.sl a a 3 (G9 (E3 b (a7 A7 t))))]) []) (.ret (.agg [.s (.int .i64 (0:Int)),.s (.sl true true 0 [])]) [])))))
 | _=>.fail
def Hj(args:List PV):Tr:=On (D8 [[0,3]] args)
def Tx:List PV->Tr
 | [.s (.sl c b 3 t),.s (.int .i64 a)]=>.need (a8 t C1) (.need (A3 (j4 t)) (.ret (.s (.sl (o9 (E3 a (a7 A7 t))) (o9 (E3 a (a7 A7 t))) 3 (G9 (E3 a (a7 A7 t))))) []))
 | _=>.fail
def VA(args:List PV):Tr:=Tx (D8 [[3],[0]] args)
def Kp:List PV->Tr
 | [.agg [.s (.int .i64 a),.s (.sl c b 3 t)]]=>.need (a8 t C1) (.need (a8 t smE) (.need (A3 (j4 t)) (.split (stB a (a7 A7 t)) (.ret (.agg [.s (.int .i64 a),.s (.sl (o9 (E3 a (a7 A7 t))) (o9 (E3 a (a7 A7 t))) 3 (G9 (E3 a (a7 A7 t))))]) []) (.ret (.agg [.s (.int .i64 (0:Int)),.s (.sl true true 0 [])]) []))))
 | _=>.fail
def Ou(args:List PV):Tr:=Kp (D8 [[0,3]] args)
def Tk:List PV->Tr
 | [.s (.sl b a 3 l),.s (.sl d c 3 m)]=>.need (a8 l C1) (.need (A3 (j4 l)) (.need (a8 m C1) (.need (A3 (j4 m)) (.ret (.s (.bool ((a7 A7 l)==(a7 A7 m)))) []))))
 | _=>.fail
def UT(args:List PV):Tr:=Tk (D8 [[3],[3]] args)
def MP:List PV->Tr
 | [.agg [.s (.int .i64 a),.s (.sl d c 3 l)],.agg [.s (.int .i64 b),.s (.sl f e 3 m)]]=>.need (a8 l C1) (.need (A3 (j4 l)) (.need (a8 m C1) (.need (A3 (j4 m)) (.ret (.s (.bool ((a==b)&&((a7 A7 l)==(a7 A7 m))))) []))))
 | _=>.fail
def Ae3(args:List PV):Tr:=MP (D8 [[0,3],[0,3]] args)
def Kl:List PV->Tr
 | []=>.ret (.s (.bool true)) []
 | _=>.fail
def Oi(args:List PV):Tr:=Kl (D8 [] args)
end
section
variable {σ R : Type} (L : Nat) (Y : E2) (Q : Yh σ) (s : σ) (k : Out -> St σ -> Option R)
noncomputable def IF(L:Nat):Cfg:=C3 L [3] (A4 []) [(4,MO),(5,Oi),(7,Ma),(8,Ua),(6,Ae3),(9,Hj),(10,Ou)]
 (A4 [(3,[4]),(2,[4]),(1,[1,0,5]),(0,[1,0])]) [4,5,6] (A4 []) (some [4]) [] [] [] (nt:=[(24,1,32,3)])
noncomputable def lmk{R:Type}(L:Nat)(d:Int)(b c:Bool)(a:LL)(f:Int)(e:Bool->(List Blk)->Option R):Option R:=
 cond (a8 a C1)
 (cond (ltI 60 1001)
  (cond (not (Lu (60:Int) a))
  (e true [(Blk.box [(PV.s (SV.int .i64 d)),(PV.s (SV.sl b c 3 a))])])
  (cond (a8 a C1)
   (cond (a8 a smE)
   (cond (A3 a.length)
    (cond (P5 b a)
    (cond (stB d (a7 A7 a))
     (cond (a8 a C1)
     (cond (a8 a smE)
      (cond (A3 a.length)
      (cond (stB d (a7 A7 a))
       (cond (a8 a C1)
       (cond (A3 a.length)
        (cond (a8 a C1)
        (cond (A3 a.length)
         (cond (((Hf d f)==(Hf d f))&&((a7 A7 a)==(a7 A7 a)))
         (cond (a8 a C1)
          (cond (a8 a smE)
          (cond (A3 a.length)
           (cond (P5 b a)
           (cond (stB d (a7 A7 a))
            (vl (G9 (E3 d (a7 A7 a))) λg=>
            cond (a8 a C1)
             (cond (a8 a smE)
             (cond (A3 a.length)
              (cond (stB d (a7 A7 a))
              (vl (G9 (E3 d (a7 A7 a))) λn=>
               cond (a8 g C1)
               (cond (A3 g.length)
                (cond (a8 n C1)
                (cond (A3 n.length)
                 (cond ((d==d)&&((a7 A7 g)==(a7 A7 n)))
                 (e true [(Blk.box [(PV.s (SV.int .i64 d)),(PV.s (SV.sl b c 3 a))])])
                 (e false [(Blk.box [(PV.s (SV.int .i64 d)),(PV.s (SV.sl b c 3 a))])]))
                 none)
                none)
                none)
               none)
              (cond (a8 g C1)
               (cond (A3 g.length)
               (cond (a8 [] C1)
                (cond ((d==0)&&((a7 A7 g)==(a7 A7 [])))
                (e true [(Blk.box [(PV.s (SV.int .i64 d)),(PV.s (SV.sl b c 3 a))])])
                (e false [(Blk.box [(PV.s (SV.int .i64 d)),(PV.s (SV.sl b c 3 a))])]))
                none)
               none)
               none))
              none)
             none)
             none)
            (cond (a8 a C1)
            (cond (a8 a smE)
             (cond (A3 a.length)
             (cond (stB d (a7 A7 a))
              (vl (G9 (E3 d (a7 A7 a))) λo=>
              cond (a8 [] C1)
               (cond (a8 o C1)
               (cond (A3 o.length)
                (cond (((0:Int)==d)&&((a7 A7 [])==(a7 A7 o)))
                (e true [(Blk.box [(PV.s (SV.int .i64 d)),(PV.s (SV.sl b c 3 a))])])
                (e false [(Blk.box [(PV.s (SV.int .i64 d)),(PV.s (SV.sl b c 3 a))])]))
                none)
               none)
               none)
              (cond (a8 [] C1)
              (cond (a8 [] C1)
               (cond (((0:Int)==0)&&((a7 A7 [])==(a7 A7 [])))
               (e true [(Blk.box [(PV.s (SV.int .i64 d)),(PV.s (SV.sl b c 3 a))])])
               (e false [(Blk.box [(PV.s (SV.int .i64 d)),(PV.s (SV.sl b c 3 a))])]))
               none)
              none))
             none)
             none)
            none))
           none)
           none)
          none)
          none)
         (e false [(Blk.box [(PV.s (SV.int .i64 d)),(PV.s (SV.sl b c 3 a))])]))
         none)
        none)
        none)
       none)
       (cond (a8 a C1)
       (cond (A3 a.length)
        (cond (a8 [] C1)
        (cond (((Hf d f)==0)&&((a7 A7 a)==(a7 A7 [])))
         (cond (a8 a C1)
         (cond (a8 a smE)
          (cond (A3 a.length)
          (cond (P5 b a)
           (cond (stB d (a7 A7 a))
           (vl (G9 (E3 d (a7 A7 a))) λh=>
            cond (a8 a C1)
            (cond (a8 a smE)
             (cond (A3 a.length)
             (cond (stB d (a7 A7 a))
              (vl (G9 (E3 d (a7 A7 a))) λp=>
              cond (a8 h C1)
               (cond (A3 h.length)
               (cond (a8 p C1)
                (cond (A3 p.length)
                (cond ((d==d)&&((a7 A7 h)==(a7 A7 p)))
                 (e true [(Blk.box [(PV.s (SV.int .i64 d)),(PV.s (SV.sl b c 3 a))])])
                 (e false [(Blk.box [(PV.s (SV.int .i64 d)),(PV.s (SV.sl b c 3 a))])]))
                none)
                none)
               none)
               none)
              (cond (a8 h C1)
              (cond (A3 h.length)
               (cond (a8 [] C1)
               (cond ((d==0)&&((a7 A7 h)==(a7 A7 [])))
                (e true [(Blk.box [(PV.s (SV.int .i64 d)),(PV.s (SV.sl b c 3 a))])])
                (e false [(Blk.box [(PV.s (SV.int .i64 d)),(PV.s (SV.sl b c 3 a))])]))
               none)
               none)
              none))
             none)
             none)
            none)
           (cond (a8 a C1)
            (cond (a8 a smE)
            (cond (A3 a.length)
             (cond (stB d (a7 A7 a))
             (vl (G9 (E3 d (a7 A7 a))) λq=>
              cond (a8 [] C1)
              (cond (a8 q C1)
               (cond (A3 q.length)
               (cond (((0:Int)==d)&&((a7 A7 [])==(a7 A7 q)))
                (e true [(Blk.box [(PV.s (SV.int .i64 d)),(PV.s (SV.sl b c 3 a))])])
                (e false [(Blk.box [(PV.s (SV.int .i64 d)),(PV.s (SV.sl b c 3 a))])]))
               none)
               none)
              none)
             (cond (a8 [] C1)
              (cond (a8 [] C1)
              (cond (((0:Int)==0)&&((a7 A7 [])==(a7 A7 [])))
               (e true [(Blk.box [(PV.s (SV.int .i64 d)),(PV.s (SV.sl b c 3 a))])])
               (e false [(Blk.box [(PV.s (SV.int .i64 d)),(PV.s (SV.sl b c 3 a))])]))
              none)
              none))
             none)
            none)
            none))
           none)
          none)
          none)
         none)
         (e false [(Blk.box [(PV.s (SV.int .i64 d)),(PV.s (SV.sl b c 3 a))])]))
        none)
        none)
       none))
      none)
      none)
     none)
     (cond (a8 a C1)
     (cond (a8 a smE)
      (cond (A3 a.length)
      (cond (stB d (a7 A7 a))
       (cond (a8 [] C1)
       (cond (a8 a C1)
        (cond (A3 a.length)
        (cond (((0:Int)==(Hf d f))&&((a7 A7 [])==(a7 A7 a)))
         (cond (a8 a C1)
         (cond (a8 a smE)
          (cond (A3 a.length)
          (cond (P5 b a)
           (cond (stB d (a7 A7 a))
           (vl (G9 (E3 d (a7 A7 a))) λi=>
            cond (a8 a C1)
            (cond (a8 a smE)
             (cond (A3 a.length)
             (cond (stB d (a7 A7 a))
              (vl (G9 (E3 d (a7 A7 a))) λr=>
              cond (a8 i C1)
               (cond (A3 i.length)
               (cond (a8 r C1)
                (cond (A3 r.length)
                (cond ((d==d)&&((a7 A7 i)==(a7 A7 r)))
                 (e true [(Blk.box [(PV.s (SV.int .i64 d)),(PV.s (SV.sl b c 3 a))])])
                 (e false [(Blk.box [(PV.s (SV.int .i64 d)),(PV.s (SV.sl b c 3 a))])]))
                none)
                none)
               none)
               none)
              (cond (a8 i C1)
              (cond (A3 i.length)
               (cond (a8 [] C1)
               (cond ((d==0)&&((a7 A7 i)==(a7 A7 [])))
                (e true [(Blk.box [(PV.s (SV.int .i64 d)),(PV.s (SV.sl b c 3 a))])])
                (e false [(Blk.box [(PV.s (SV.int .i64 d)),(PV.s (SV.sl b c 3 a))])]))
               none)
               none)
              none))
             none)
             none)
            none)
           (cond (a8 a C1)
            (cond (a8 a smE)
            (cond (A3 a.length)
             (cond (stB d (a7 A7 a))
             (vl (G9 (E3 d (a7 A7 a))) λt=>
              cond (a8 [] C1)
              (cond (a8 t C1)
               (cond (A3 t.length)
               (cond (((0:Int)==d)&&((a7 A7 [])==(a7 A7 t)))
                (e true [(Blk.box [(PV.s (SV.int .i64 d)),(PV.s (SV.sl b c 3 a))])])
                (e false [(Blk.box [(PV.s (SV.int .i64 d)),(PV.s (SV.sl b c 3 a))])]))
               none)
               none)
              none)
             (cond (a8 [] C1)
              (cond (a8 [] C1)
              (cond (((0:Int)==0)&&((a7 A7 [])==(a7 A7 [])))
               (e true [(Blk.box [(PV.s (SV.int .i64 d)),(PV.s (SV.sl b c 3 a))])])
               (e false [(Blk.box [(PV.s (SV.int .i64 d)),(PV.s (SV.sl b c 3 a))])]))
              none)
              none))
             none)
            none)
            none))
           none)
          none)
          none)
         none)
         (e false [(Blk.box [(PV.s (SV.int .i64 d)),(PV.s (SV.sl b c 3 a))])]))
        none)
        none)
       none)
       (cond (a8 [] C1)
       (cond (a8 [] C1)
        (cond (((0:Int)==0)&&((a7 A7 [])==(a7 A7 [])))
        (cond (a8 a C1)
         (cond (a8 a smE)
         (cond (A3 a.length)
          (cond (P5 b a)
          (cond (stB d (a7 A7 a))
           (vl (G9 (E3 d (a7 A7 a))) λj=>
           cond (a8 a C1)
            (cond (a8 a smE)
            (cond (A3 a.length)
             (cond (stB d (a7 A7 a))
             (vl (G9 (E3 d (a7 A7 a))) λl=>
              cond (a8 j C1)
              (cond (A3 j.length)
               (cond (a8 l C1)
               (cond (A3 l.length)
                (cond ((d==d)&&((a7 A7 j)==(a7 A7 l)))
                (e true [(Blk.box [(PV.s (SV.int .i64 d)),(PV.s (SV.sl b c 3 a))])])
                (e false [(Blk.box [(PV.s (SV.int .i64 d)),(PV.s (SV.sl b c 3 a))])]))
                none)
               none)
               none)
              none)
             (cond (a8 j C1)
              (cond (A3 j.length)
              (cond (a8 [] C1)
               (cond ((d==0)&&((a7 A7 j)==(a7 A7 [])))
               (e true [(Blk.box [(PV.s (SV.int .i64 d)),(PV.s (SV.sl b c 3 a))])])
               (e false [(Blk.box [(PV.s (SV.int .i64 d)),(PV.s (SV.sl b c 3 a))])]))
               none)
              none)
              none))
             none)
            none)
            none)
           (cond (a8 a C1)
           (cond (a8 a smE)
            (cond (A3 a.length)
            (cond (stB d (a7 A7 a))
             (vl (G9 (E3 d (a7 A7 a))) λm=>
             cond (a8 [] C1)
              (cond (a8 m C1)
              (cond (A3 m.length)
               (cond (((0:Int)==d)&&((a7 A7 [])==(a7 A7 m)))
               (e true [(Blk.box [(PV.s (SV.int .i64 d)),(PV.s (SV.sl b c 3 a))])])
               (e false [(Blk.box [(PV.s (SV.int .i64 d)),(PV.s (SV.sl b c 3 a))])]))
               none)
              none)
              none)
             (cond (a8 [] C1)
             (cond (a8 [] C1)
              (cond (((0:Int)==0)&&((a7 A7 [])==(a7 A7 [])))
              (e true [(Blk.box [(PV.s (SV.int .i64 d)),(PV.s (SV.sl b c 3 a))])])
              (e false [(Blk.box [(PV.s (SV.int .i64 d)),(PV.s (SV.sl b c 3 a))])]))
              none)
             none))
            none)
            none)
           none))
          none)
          none)
         none)
         none)
        (e false [(Blk.box [(PV.s (SV.int .i64 d)),(PV.s (SV.sl b c 3 a))])]))
        none)
       none))
      none)
      none)
     none))
    none)
    none)
   none)
   none))
  none)
 none
theorem Bg3(d:Nat)(s0 s_z1 s_t2 s3 now4):evC (IF L) (d+1) σ Q 3 [.agg [pI s0,.s (.sl s_z1 s_t2 3 s3)],pI now4] [] s=lmk L s0 s_z1 s_t2 s3 now4 (λb a=>some (pB b,a,s)):=by refine(evE (fn:=Tryz.f3) (by kernel_rfl)).trans ?_;generalize evC (IF L) d=Y;unfold lmk;kernel_rfl
end
section
variable {W R : Type} (L : Nat) (Y : E2) (Q : Yh W) (s : W) (k : Out -> St W -> Option R)
noncomputable abbrev Ag5:Code:=F0 al5
noncomputable def La(L:Nat):Cfg:=C3 L [4] (A4 [(4,[0,3,0])]) []
 (A4 [(8,[4]),(5,[0,4]),(7,[4]),(6,[0,4,16]),(4,[0,4,7]),(3,[0,4]),(2,[4]),(1,[0,8]),(0,[0,0])]) [] (A4 [(0,[]),(1,[0,4])]) (some [4]) [] [] []
noncomputable def Gc{R:Type}(L n:Nat)(d c:Bool)(b:LL)(a:Int)(e:Unit->Option R)(f:Unit->Option R):Option R:=match n with
 | 0=>none
 | n+1=>
  cond (ltI a (b.length:Int))
   (cond (inR a b.length)
   (cond (okE Jy b (b8 a) 0)
    (cond (ltI 300 (↑(j4 (gX b (b8 a) 0)):Int))
    (e ())
    (Gc L n d c b (A2 (a+1)) e f))
    none)
   none)
   (f ())
theorem PK(n l_z0 l_t1 l2 i3):E7 0 ((La L).keep 4) (bd (La L) Y Q (cd [1,1,0,1,0,0] Ag5)) n ⟨gp [(0,.s (.sl l_z0 l_t1 3 l2)),(4,pI i3)] 17,[],s⟩ k =
 Gc L n l_z0 l_t1 l2 i3 (λ_=>k .ret ⟨gp [(4,pB false)] 18,[],s⟩) (λ_=>k (.exit 0) ⟨gp [] 23,[],s⟩):=by
 induction n generalizing l_z0 l_t1 l2 i3 with
 | zero=>rfl
 | succ n a=>rw[Gc];simp only[<-a];kernel_rfl
noncomputable def Ax0{R:Type}(L:Nat)(b a:Bool)(d:LL)(e:Int)(c:Bool->Option R):Option R:=
 cond (ltI e (d.length:Int))
 (c false)
 (Gc L L b a d 0 (λ_=>c false) (λ_=>c true))
theorem Ax1(d:Nat)(l_z0 l_t1 l2 n3):evC (La L) (d+1) W Q 4 [.s (.sl l_z0 l_t1 3 l2),pI n3] [] s=Ax0 L l_z0 l_t1 l2 n3 (λa=>some (pB a,[],s)):=by refine(evE (fn:=al5) (by kernel_rfl)).trans ?_;generalize evC (La L) d=Y;unfold Ax0;exact(j6 (by kernel_rfl) (A1 rfl ((PK L Y Q s (I2 0 (I8 (La L) Y Q (cd [1,1,1] Ag5) (J6 (La L) al5))) L l_z0 l_t1 l2 0).trans (by kernel_rfl))))
noncomputable abbrev Ba6:Code:=F0 aj7
noncomputable def Va(L:Nat):Cfg:=C3 L [13] (A4 [(4,[1,0,17,0,0])]) [(23,MW),(24,Ae9)]
 (A4 [(9,[2]),(8,[1,18,0,0]),(7,[2]),(6,[1,18,0,0,23]),(5,[1,1,0,15,0,0]),(4,[1,18,0,0,0]),(3,[1,18,0,0]),(2,[2]),(1,[1,16]),(0,[1])]) [23,24] (A4 [(0,[]),(1,[1,18,0,0])]) (some [2]) [] [] [] (nt:=[(24,1,32,3)])
noncomputable def Gs{R:Type}(L n:Nat)(f e:Bool)(a:LL)(j b c:Int)(g:(List Blk)->Option R)(h:Int->Bool->Bool->LL->Option R):Option R:=match n with
 | 0=>none
 | n+1=>
  cond (ltI b j)
   (cond (inR b a.length)
   (cond (okE ⟨true,true,[.str,.bool,.int .i64]⟩ a (b8 b) 0)
    (cond (A3 (j4 (gX a (b8 b) 0)))
    (cond (not (Xc (gX a (b8 b) 0) (gE a (b8 b) 2)))
     (g [(Blk.box [(PV.s (SV.int .i64 c)),(PV.s (SV.sl f e 3 a))]),(Blk.box [(PV.s (SV.str (gX a (b8 b) 0))),(PV.s (SV.bool (gY a (b8 b) 1))),(PV.s (SV.int .i64 (gE a (b8 b) 2)))])])
     (cond (ltI 0 b)
     (cond (inR (A2 (b-1)) a.length)
      (cond (okE Jy a (b8 (A2 (b-1))) 0)
      (vl (gX a (b8 (A2 (b-1))) 0) λd=>
       cond (A3 d.length)
       (cond (A3 (j4 (gX a (b8 b) 0)))
        (vl (Si d (gX a (b8 b) 0)) λi=>
        cond (not (ltI i 0))
         (g [(Blk.box [(PV.s (SV.int .i64 c)),(PV.s (SV.sl f e 3 a))]),(Blk.box [(PV.s (SV.str (gX a (b8 b) 0))),(PV.s (SV.bool (gY a (b8 b) 1))),(PV.s (SV.int .i64 (gE a (b8 b) 2)))])])
         (Gs L n f e a j (A2 (b+1)) c g h))
        none)
       none)
      none)
      none)
     (Gs L n f e a j (A2 (b+1)) c g h)))
    none)
    none)
   none)
   (h c f e a)
theorem Ac8(n z0 t1 l2 n3 n4 n5):E7 1 ((Va L).keep 4) (bd (Va L) Y Q (cd [1,1,0,1,0,0] Ba6)) n ⟨gp [(1,.ptr 0 0 0),(18,.s (.sl z0 t1 3 l2)),(0,pI n3),(0,pI n4)] 25,[.box [pI n5,.s (.sl z0 t1 3 l2)]],s⟩ k =
 Gs L n z0 t1 l2 n3 n4 n5 (λa=>k .ret ⟨gp [(2,pB false)] 45,a,s⟩) (λn0 e d c=>k (.exit 0) ⟨gp [] 48,[.box [pI n0,.s (.sl e d 3 c)]],s⟩):=by
 induction n generalizing z0 t1 l2 n3 n4 n5 with
 | zero=>rfl
 | succ n b=>rw[Gs];simp only[<-b];kernel_rfl
noncomputable def vst{R:Type}(L:Nat)(c:Int)(b a:Bool)(d:LL)(e:Bool->(List Blk)->Option R):Option R:=
 cond (ltI c 0)
 (e false [(Blk.box [(PV.s (SV.int .i64 c)),(PV.s (SV.sl b a 3 d))])])
 (cond (ltI 1099511627776 c)
  (e false [(Blk.box [(PV.s (SV.int .i64 c)),(PV.s (SV.sl b a 3 d))])])
  (cond (ltI 1000 (d.length:Int))
  (e false [(Blk.box [(PV.s (SV.int .i64 c)),(PV.s (SV.sl b a 3 d))])])
  (Gs L L b a d (d.length:Int) 0 c (λf=>e false f) (λh j i g=>e true [(Blk.box [(PV.s (SV.int .i64 h)),(PV.s (SV.sl j i 3 g))])]))))
theorem Bi2(d:Nat)(s0 s_z1 s_t2 s3):evC (Va L) (d+1) W Q 13 [.agg [pI s0,.s (.sl s_z1 s_t2 3 s3)]] [] s=vst L s0 s_z1 s_t2 s3 (λb a=>some (pB b,a,s)):=by refine(evE (fn:=aj7) (by kernel_rfl)).trans ?_;generalize evC (Va L) d=Y;unfold vst;exact(j6 (by kernel_rfl) (A1 rfl (A1 rfl (A1 rfl ((Ac8 L Y Q s (I2 0 (I8 (Va L) Y Q (cd [1,1,1] Ba6) (J6 (Va L) aj7))) L s_z1 s_t2 s3 (s3.length:Int) 0 s0).trans (by kernel_rfl))))))
noncomputable abbrev Bd0(e:Int)(b a:Bool)(f:LL):Option (PV × List Blk × Unit):=vst LF e b a f (λd c=>some (pB d,c,()))
noncomputable def EQ(L:Nat):Cfg:=C3 L [46] (A4 []) [(67,Af3)]
 (A4 [(1,[2]),(0,[1])]) [67] (A4 []) (some [2]) [] [] []
noncomputable def XA{R:Type}(L:Nat)(a:By)(d:Bool)(b:Int)(c:Bool->(List Blk)->Option R):Option R:=
 cond (A3 a.length)
 (cond (Bc a)
  (cond (not (ltI b 0))
  (c (not (ltI 1099511627776 b)) [(Blk.box [(PV.s (SV.str a)),(PV.s (SV.bool d)),(PV.s (SV.int .i64 b))])])
  (c false [(Blk.box [(PV.s (SV.str a)),(PV.s (SV.bool d)),(PV.s (SV.int .i64 b))])]))
  (c false [(Blk.box [(PV.s (SV.str a)),(PV.s (SV.bool d)),(PV.s (SV.int .i64 b))])]))
 none
theorem Ao8(d:Nat)(p0 p1 p2):evC (EQ L) (d+1) W Q 46 [.agg [pS p0,pB p1,pI p2]] [] s=XA L p0 p1 p2 (λb a=>some (pB b,a,s)):=by refine(evE (fn:=Tryz.f46) (by kernel_rfl)).trans ?_;generalize evC (EQ L) d=Y;unfold XA;kernel_rfl
noncomputable abbrev XB(b:By)(c:Bool)(d:Int):Option (PV × List Blk × Unit):=XA LF b c d (λe a=>some (pB e,a,()))
noncomputable abbrev Ah0:Code:=F0 ak0
noncomputable def Lg(L:Nat):Cfg:=C3 L [26] (A4 [(6,[0,3,0])]) [(46,VE),(47,VC)]
 (A4 [(12,[4]),(7,[0,4]),(11,[4]),(10,[0,4,38]),(9,[4]),(8,[0,4,21]),(6,[0,4,13]),(5,[0,4]),(4,[4]),(3,[0,14]),(2,[4]),(1,[0,0,9]),(0,[0,0])]) [46,47] (A4 [(0,[]),(1,[0,4])]) (some [4]) [] [] []
noncomputable def Du{R:Type}(L n:Nat)(c b:Bool)(a:LL)(d:Int)(h:Int->Option R)(i:Unit->Option R):Option R:=match n with
 | 0=>none
 | n+1=>
  cond (ltI d (a.length:Int))
   (cond (inR d a.length)
   (cond (okE ⟨true,true,[.str,.bool,.int .i64]⟩ a (b8 d) 0)
    (vl (gX a (b8 d) 0) λe=>
    vl (gE a (b8 d) 2) λj=>
     cond (A3 e.length)
     (cond (not (Xc e j))
      (h 1)
      (cond (ltI 0 d)
      (cond (inR (A2 (d-1)) a.length)
       (cond (okE Jy a (b8 (A2 (d-1))) 0)
       (vl (gX a (b8 (A2 (d-1))) 0) λf=>
        cond (inR d a.length)
        (cond (okE Jy a (b8 d) 0)
         (vl (gX a (b8 d) 0) λg=>
         cond (A3 f.length)
          (cond (A3 g.length)
          (cond (not (ltI (Si f g) (0:Int)))
           (h 8)
           (Du L n c b a (A2 (d+1)) h i))
          none)
          none)
         none)
        none)
       none)
       none)
      (Du L n c b a (A2 (d+1)) h i)))
     none)
    none)
   none)
   (i ())
theorem TM(n pins_z0 pins_t1 pins2 i3):E7 0 ((Lg L).keep 6) (bd (Lg L) Y Q (cd [1,1,1,0,1,0,0] Ah0)) n ⟨gp [(0,.s (.sl pins_z0 pins_t1 3 pins2)),(4,pI i3)] 39,[],s⟩ k =
 Du L n pins_z0 pins_t1 pins2 i3 (λn0=>k .ret ⟨gp [(4,pI n0)] 40,[],s⟩) (λ_=>k (.exit 0) ⟨gp [] 45,[],s⟩):=by
 induction n generalizing pins_z0 pins_t1 pins2 i3 with
 | zero=>rfl
 | succ n a=>rw[Du];simp only[<-a];kernel_rfl
noncomputable def A30{R:Type}(L:Nat)(d c:Bool)(b:LL)(a:Int)(e:Int->Option R):Option R:=
 cond (ltI a 1)
 (e 2)
 (cond (ltI 1000 a)
  (e 2)
  (cond (ltI a (b.length:Int))
  (e 11)
  (Du L L d c b 0 (λf=>e f) (λ_=>e 0))))
theorem A31(d:Nat)(pins_z0 pins_t1 pins2 capacity3):evC (Lg L) (d+1) W Q 26 [.s (.sl pins_z0 pins_t1 3 pins2),pI capacity3] [] s=A30 L pins_z0 pins_t1 pins2 capacity3 (λa=>some (pI a,[],s)):=by refine(evE (fn:=ak0) (by kernel_rfl)).trans ?_;generalize evC (Lg L) d=Y;unfold A30;exact(j6 (by kernel_rfl) (A1 rfl (A1 rfl (A1 rfl ((TM L Y Q s (I2 0 (I8 (Lg L) Y Q (cd [1,1,1,1] Ah0) (J6 (Lg L) ak0))) L pins_z0 pins_t1 pins2 0).trans (by kernel_rfl))))))
noncomputable def OC(L:Nat):Cfg:=C3 L [15] (A4 []) [(26,Af6)]
 (A4 [(1,[2]),(0,[1])]) [26] (A4 []) (some [2]) [] [] [] (nt:=[(24,1,32,3)])
noncomputable def A36{R:Type}(L:Nat)(d:Int)(b a:Bool)(c:LL)(e:Bool->(List Blk)->Option R):Option R:=
 cond (not (ltI d 0))
 (cond (not (ltI 1099511627776 d))
  (cond ((c.length:Int)==0)
  (e true [(Blk.box [(PV.s (SV.int .i64 d)),(PV.s (SV.sl b a 3 c))])])
  (cond (a8 c C1)
   (cond (a8 c smE)
   (cond (A3 c.length)
    (cond ((ltI 0 1000)&&(ltI 1000 1001))
    (vl (↑(Kd (1000:Int) (a7 A7 c)):Int) λf=>
     e (f==0) [(Blk.box [(PV.s (SV.int .i64 d)),(PV.s (SV.sl b a 3 c))])])
    none)
    none)
   none)
   none))
  (e false [(Blk.box [(PV.s (SV.int .i64 d)),(PV.s (SV.sl b a 3 c))])]))
 (e false [(Blk.box [(PV.s (SV.int .i64 d)),(PV.s (SV.sl b a 3 c))])])
theorem A37(d:Nat)(s0 s_z1 s_t2 s3):evC (OC L) (d+1) W Q 15 [.agg [pI s0,.s (.sl s_z1 s_t2 3 s3)]] [] s=A36 L s0 s_z1 s_t2 s3 (λb a=>some (pB b,a,s)):=by refine(evE (fn:=Tryz.f15) (by kernel_rfl)).trans ?_;generalize evC (OC L) d=Y;unfold A36;kernel_rfl
noncomputable abbrev Ap2(e:Int)(b a:Bool)(f:LL):Option (PV × List Blk × Unit):=A36 LF e b a f (λd c=>some (pB d,c,()))
noncomputable def NU(L:Nat):Cfg:=C3 L [14] (A4 []) [(25,Uj)]
 (A4 [(1,[2]),(0,[1,0])]) [] (A4 []) (some [2]) [] [] [] (nt:=[(24,1,32,3)])
noncomputable def Ay6{R:Type}(L:Nat)(d:Int)(a b:Bool)(c:LL)(e:Int->Blk->Blk->Blk->Bool->LL->(List Blk)->Option R):Option R:=
 cond (A3 c.length)
 (cond (P5 a c)
  (e d (Blk.box [(PV.s (SV.int .i64 d)),(PV.s (SV.sl a b 3 c))]) (Blk.arr true 32 3 []) (Blk.box [(PV.s (SV.int .i64 d)),(PV.fl 3)]) a c [])
  none)
 none
theorem Ay7(d:Nat)(s0 s_z1 s_t2 s3):evC (NU L) (d+1) W Q 14 [.agg [pI s0,.s (.sl s_z1 s_t2 3 s3)]] [] s=Ay6 L s0 s_z1 s_t2 s3 (λg a b c h f e=>some (.agg [pI g,.fl 3],(a::b::c::.arr h 32 3 f::e),s)):=by refine(evE (fn:=Tryz.f14) (by kernel_rfl)).trans ?_;generalize evC (NU L) d=Y;unfold Ay6;kernel_rfl
noncomputable def OA(L:Nat):Cfg:=C3 L [16] (A4 []) []
 (A4 [(1,[4]),(0,[0,0])]) [] (A4 []) (some [4]) [] [] []
noncomputable def A25{R:Type}(L:Nat)(n0 a:Int)(c:Int->Option R):Option R:=
 vl (if ((if (a<n0) then a else n0) > (0:Int)) then (if (a<n0) then a else n0) else (0:Int)) λb=>
 c b
theorem A26(d:Nat)(n0 most1):evC (OA L) (d+1) W Q 16 [pI n0,pI most1] [] s=A25 L n0 most1 (λa=>some (pI a,[],s)):=by refine(evE (fn:=Tryz.f16) (by kernel_rfl)).trans ?_;generalize evC (OA L) d=Y;unfold A25;kernel_rfl
noncomputable def EM(L:Nat):Cfg:=C3 L [7] (A4 []) [(13,Yy),(14,Tq)]
 (A4 [(5,[4]),(4,[4,0]),(3,[1,2,0]),(2,[4]),(1,[1,0,1,3]),(0,[1,0,1])]) [13] (A4 []) (some [4]) [] [] [] (nt:=[(24,1,32,3)])
noncomputable def WK{R:Type}(L:Nat)(e:Int)(b d:Bool)(c:LL)(a:Int)(g:Blk->Blk->Blk->(List Blk)->Option R)(h:Int->Blk->Blk->Blk->Bool->LL->(List Blk)->Option R):Option R:=
 cond (a8 c C1)
 (cond (a8 c smE)
  (cond (A3 c.length)
  (cond (not (stB e (a7 A7 c)))
   (g (Blk.box [(PV.s (SV.int .i64 e)),(PV.s (SV.sl b d 3 c))]) (Blk.arr true 32 3 []) (Blk.box [(PV.s (SV.int .i64 (0:Int))),(PV.fl 3)]) [])
   (cond (A3 c.length)
   (cond (P5 b c)
    (vl (if ((if ((1099511627776:Int)<a) then (1099511627776:Int) else a) > e) then (if ((1099511627776:Int)<a) then (1099511627776:Int) else a) else e) λf=>
    h f (Blk.box [(PV.s (SV.int .i64 e)),(PV.s (SV.sl b d 3 c))]) (Blk.arr true 32 3 []) (Blk.box [(PV.s (SV.int .i64 f)),(PV.fl 3)]) b c [(Blk.arr true 32 3 []),(Blk.box [(PV.s (SV.int .i64 (if ((if ((1099511627776:Int)<a) then (1099511627776:Int) else a) > e) then (if ((1099511627776:Int)<a) then (1099511627776:Int) else a) else e))),(PV.fl 3)])])
    none)
   none))
  none)
  none)
 none
theorem JT(d:Nat)(s0 s_z1 s_t2 s3 now4):evC (EM L) (d+1) W Q 7 [.agg [pI s0,.s (.sl s_z1 s_t2 3 s3)],pI now4] [] s=WK L s0 s_z1 s_t2 s3 now4 (λc a b f=>some (.agg [pI (0:Int),.fl 3],(c::a::b::.arr true 0 0 []::f),s)) (λi a b e j h g=>some (.agg [pI i,.fl 3],(a::b::e::.arr j 32 3 h::g),s)):=by refine(evE (fn:=Tryz.f7) (by kernel_rfl)).trans ?_;generalize evC (EM L) d=Y;unfold WK;kernel_rfl
noncomputable abbrev WL(m:Int)(c b:Bool)(n:LL)(a:Int):Option (PV × List Blk × Unit):=WK LF m c b n a (λf d e h=>some (.agg [pI (0:Int),.fl 3],(f::d::e::.arr true 0 0 []::h),())) (λl d e g o j i=>some (.agg [pI l,.fl 3],(d::e::g::.arr o 32 3 j::i),()))
noncomputable def Uw(L:Nat):Cfg:=C3 L [8] (A4 []) [(15,NA),(16,Af4)]
 (A4 [(3,[4]),(2,[4]),(1,[1,0,1,2]),(0,[1,0,1])]) [15,16] (A4 []) (some [4]) [] [] [] (nt:=[(24,1,32,3)])
noncomputable def GO{R:Type}(L:Nat)(g:Int)(b a:Bool)(c:LL)(f:Int)(h:Blk->Blk->Blk->(List Blk)->Option R)(i:Int->Bool->Bool->LL->(List Blk)->Option R):Option R:=
 cond (a8 c C1)
 (cond (a8 c smE)
  (cond (A3 c.length)
  (cond (not (stB g (a7 A7 c)))
   (h (Blk.box [(PV.s (SV.int .i64 g)),(PV.s (SV.sl b a 3 c))]) (Blk.arr true 32 3 []) (Blk.box [(PV.s (SV.int .i64 (0:Int))),(PV.fl 3)]) [])
   (vl (PT f (1099511627776:Int)) λd=>
   vl (if (d > g) then d else g) λe=>
    i e b a c [(Blk.box [(PV.s (SV.int .i64 g)),(PV.s (SV.sl b a 3 c))]),(Blk.arr true 32 3 []),(Blk.box [(PV.s (SV.int .i64 e)),(PV.s (SV.sl b a 3 c))])]))
  none)
  none)
 none
theorem AY(d:Nat)(s0 s_z1 s_t2 s3 now4):evC (Uw L) (d+1) W Q 8 [.agg [pI s0,.s (.sl s_z1 s_t2 3 s3)],pI now4] [] s=GO L s0 s_z1 s_t2 s3 now4 (λc e f g=>some (.agg [pI (0:Int),.fl 3],(c::e::f::.arr true 0 0 []::g),s)) (λi b a j h=>some (.agg [pI i,.s (.sl b a 3 j)],h,s)):=by refine(evE (fn:=Tryz.f8) (by kernel_rfl)).trans ?_;generalize evC (Uw L) d=Y;unfold GO;kernel_rfl
noncomputable abbrev KN(n:Int)(e d:Bool)(o:LL)(a:Int):Option (PV × List Blk × Unit):=GO LF n e d o a (λf g h i=>some (.agg [pI (0:Int),.fl 3],(f::g::h::.arr true 0 0 []::i),())) (λl c b m j=>some (.agg [pI l,.s (.sl c b 3 m)],j,()))
noncomputable def Ai0(L:Nat):Cfg:=C3 L [18] (A4 []) [(19,Af8)]
 (A4 [(1,[3]),(0,[1,0])]) [19] (A4 []) (some [3]) [] [] []
noncomputable def pgf{R:Type}(L:Nat)(h:By)(b:Bool)(e a:Int)(f d:Bool)(q:LL)(c:Bool->By->Bool->Int->Option R):Option R:=
 c (not (ltI a e)) h b e
theorem Bh1(d:Nat)(h b e ck qz qt q):evC (Ai0 L) (d+1) W Q 18 [.agg [pS h,pB b,pI e],.s (.sp [[.int .i64 ck,.sl qz qt 3 q]] 0 0)] [] s=pgf L h b e ck qz qt q (λf g a c=>some (pB f,[.box [pS g,pB a,pI c]],s)):=by refine(evE (fn:=Tryz.f18) (by kernel_rfl)).trans ?_;generalize evC (Ai0 L) d=Y;unfold pgf;kernel_rfl
noncomputable abbrev Ah2:Code:=F0 ak1
noncomputable def Li(L:Nat):Cfg:=C3 L [27] (A4 [(2,[0,0,2,2,0])]) [(18,UY)]
 (A4 [(7,[4]),(6,[0,0,5,0]),(5,[4]),(4,[0,0,3,1,0,7]),(3,[0,0,3,1,0]),(2,[0,0,5,0,0]),(1,[0,0,5,0]),(0,[0,0])]) [18] (A4 [(0,[]),(1,[0,0,5,0])]) (some [4]) [] [] []
noncomputable def Gr{R:Type}(L n:Nat)(e d:Bool)(f:LL)(g:Int)(c b:Bool)(l:LL)(j a:Int)(h:Int->Option R)(i:Unit->Option R):Option R:=match n with
 | 0=>none
 | n+1=>
  cond (ltI a j)
   (cond (inR a f.length)
   (cond (okE ⟨true,true,[.str,.bool,.int .i64]⟩ f (b8 a) 0)
    (cond (not (ltI g (gE f (b8 a) 2)))
    (h a)
    (Gr L n e d f g c b l j (A2 (a+1)) h i))
    none)
   none)
   (i ())
theorem UA(n s_z0 s_t1 s2 f3 f_z4 f_t5 f6 n7 n8v):E7 0 ((Li L).keep 2) (bd (Li L) Y Q (cd [1,0,1,0,0] Ah2)) n ⟨gp [(0,.s (.sl s_z0 s_t1 3 s2)),(0,.s (.fn (u0 18) [] [.sp [[.int .i64 f3,.sl f_z4 f_t5 3 f6]] 0 0])),(5,pI n7),(0,pI n8v)] 10,[],s⟩ k =
 Gr L n s_z0 s_t1 s2 f3 f_z4 f_t5 f6 n7 n8v (λn0=>k .ret ⟨gp [(4,pI n0)] 14,[],s⟩) (λ_=>k (.exit 0) ⟨gp [] 19,[],s⟩):=by
 induction n generalizing s_z0 s_t1 s2 f3 f_z4 f_t5 f6 n7 n8v with
 | zero=>rfl
 | succ n a=>rw[Gr];simp only[<-a];kernel_rfl
noncomputable def A51{R:Type}(L:Nat)(b a:Bool)(l:LL)(e:Int)(g f:Bool)(q:LL)(d:Int->Option R):Option R:=
 Gr L L b a l e g f q (l.length:Int) 0 (λc=>d c) (λ_=>d (-1))
theorem A52(d:Nat)(l_z l_t l ck qz qt q):evC (Li L) (d+1) W Q 27 [.s (.sl l_z l_t 3 l),.s (.fn (u0 18) [] [.sp [[.int .i64 ck,.sl qz qt 3 q]] 0 0])] [] s=A51 L l_z l_t l ck qz qt q (λa=>some (pI a,[],s)):=by refine(evE (fn:=ak1) (by kernel_rfl)).trans ?_;generalize evC (Li L) d=Y;unfold A51;exact(j6 (by kernel_rfl) ((UA L Y Q s (I2 0 (I8 (Li L) Y Q (cd [1,1] Ah2) (J6 (Li L) ak1))) L l_z l_t l ck qz qt q (l.length:Int) 0).trans (by kernel_rfl)))
noncomputable abbrev Ah1:Code:=F0 aj8
noncomputable def Lh(L:Nat):Cfg:=C3 L [17] (A4 [(5,[0,0,2,0,0])]) [(27,NF),(18,UY)]
 (A4 [(12,[4]),(11,[0,4]),(6,[0,0,3,0]),(10,[0,0,3,0]),(9,[0,0,3,0]),(8,[0,0,3,0,0,21]),(7,[0,0,3,0,0]),(5,[0,0,3,0,12]),(4,[0,0,3,0]),(3,[4]),(2,[0,0,3,6]),(1,[0,0,3]),(0,[0,0])]) [27,18] (A4 [(0,[0,4]),(1,[0,0,3,0])]) (some [4]) [] [] []
noncomputable def Dy{R:Type}(L n:Nat)(c b:Int)(i:Bool)(a:LL)(d:Int)(j h:Bool)(g:LL)(e:Int->Bool->LL->Int->Bool->Bool->LL->Option R):Option R:=match n with
 | 0=>none
 | n+1=>
  cond (ltI b (a.length:Int))
   (cond (inR b a.length)
   (cond (okE ⟨true,true,[.str,.bool,.int .i64]⟩ a (b8 b) 0)
    (cond (not (not (ltI d (gE a (b8 b) 2))))
    (cond (inR c a.length)
     (cond (decide ((b8 c)<a.length))
     (vl (List.set a (b8 c) (F4 (ag4 a (b8 c) []) 0 [(SV.str (gX a (b8 b) 0)),(SV.bool (gY a (b8 b) 1)),(SV.int .i64 (gE a (b8 b) 2))])) λf=>
      Dy L n (A2 (c+1)) (A2 (b+1)) i f d j h g e)
     none)
     none)
    (Dy L n c (A2 (b+1)) i a d j h g e))
    none)
   none)
   (e c i a d j h g)
theorem TZ(n a j1 z2 l3 n4 z5 t6 l7):E7 2 ((Lh L).keep 5) (bd (Lh L) Y Q (cd [1,1,1,0,1,0,0] Ah1)) n ⟨gp [(0,.fl 0),(0,.fnr (u0 18) [] [.ptr 1 0 0]),(3,pI a),(0,pI j1)] 35,[.arr z2 32 3 l3,.box [pI n4,.s (.sl z5 t6 3 l7)]],s⟩ k =
 Dy L n a j1 z2 l3 n4 z5 t6 l7 (λa g c e h f d=>k (.exit 0) ⟨gp [(0,.fl 0),(4,pI a)] 36,[.arr g 32 3 c,.box [pI e,.s (.sl h f 3 d)]],s⟩):=by
 induction n generalizing a j1 z2 l3 n4 z5 t6 l7 with
 | zero=>rfl
 | succ n b=>rw[Dy];simp only[<-b];kernel_rfl
noncomputable def A49{R:Type}(L:Nat)(z:Bool)(l:LL)(g:Int)(f e:Bool)(q:LL)(o:Bool->LL->Int->Bool->Bool->LL->Option R)(p:Nat->Bool->LL->Int->Bool->Bool->LL->Option R):Option R:=
 cond (a8 l C1)
 (cond (A3 l.length)
  (vl (ixP g (a7 A7 l)) λd=>
  cond (d==((-1):Int))
   (o z l g f e q)
   (Dy L L d (A2 (d+1)) z l g f e q (λa m b i n j h=>cond (N3 a (b.length:Int) b.length)
   (cond (decide (((b8 a)+((b8 (b.length:Int))-(b8 a)))<=b.length))
    (vl ((List.take (b8 a) b)++((ab6 ((b8 (b.length:Int))-(b8 a)) [(SV.str ([]:List UInt8)),(SV.bool false),(SV.int .i64 (0:Int))])++(ag3 ((b8 a)+((b8 (b.length:Int))-(b8 a))) b))) λc=>
    cond (N3 0 a c.length)
     (p ((b8 a)-0) m c i n j h)
     none)
    none)
   none)))
  none)
 none
theorem XE(d:Nat)(z l ck q_z q_t q):evC (Lh L) (d+1) W Q 17 [.fl 0,.fnr (u0 18) [] [.ptr 1 0 0]] [.arr z 32 3 l,.box [pI ck,.s (.sl q_z q_t 3 q)]] s=A49 L z l ck q_z q_t q (λn c h p j f=>some (.fl 0,[.arr n 32 3 c,.box [pI h,.s (.sl p j 3 f)]],s)) (λb o e i r m g=>some (.vw 0 0 b,[.arr o 32 3 e,.box [pI i,.s (.sl r m 3 g)]],s)):=by refine(evE (fn:=aj8) (by kernel_rfl)).trans ?_;generalize evC (Lh L) d=Y;unfold A49;exact(j6 (by kernel_rfl) (A1 (A1 (B5 λa=>(A1 rfl ((TZ L Y Q s (I2 0 (I8 (Lh L) Y Q (cd [1,1,1,1] Ah1) (J6 (Lh L) aj8))) L a (A2 (a+1)) z l ck q_z q_t q).trans (by kernel_rfl)))) rfl) rfl))
noncomputable def Uu(L:Nat):Cfg:=C3 L [9] (A4 []) [(13,Yy),(14,Tq)]
 (A4 [(5,[2]),(4,[2,0]),(3,[1,0,0]),(2,[2]),(1,[1,0,3]),(0,[1,0])]) [13] (A4 []) (some [2]) [(17,DW)] [] [17] (nt:=[(24,1,32,3)])
noncomputable def FR{R:Type}(L:Nat)(c:Int)(a d:Bool)(b:LL)(e:Blk->Blk->Blk->(List Blk)->Option R)(f:Int->Blk->Blk->Blk->Bool->LL->(List Blk)->Option R)(g:Int->Nat->Blk->Blk->Blk->Bool->LL->(List Blk)->Option R):Option R:=
 cond (a8 b C1)
 (cond (a8 b smE)
  (cond (A3 b.length)
  (cond (not (stB c (a7 A7 b)))
   (e (Blk.box [(PV.s (SV.int .i64 c)),(PV.s (SV.sl a d 3 b))]) (Blk.arr true 32 3 []) (Blk.box [(PV.s (SV.int .i64 (0:Int))),(PV.fl 3)]) [])
   (cond (A3 b.length)
   (cond (P5 a b)
    (cond (a8 b C1)
    (cond (A3 b.length)
     (cond ((ixP c (a7 A7 b))==((-1):Int))
     (f c (Blk.box [(PV.s (SV.int .i64 c)),(PV.s (SV.sl a d 3 b))]) (Blk.arr true 32 3 []) (Blk.box [(PV.s (SV.int .i64 c)),(PV.fl 3)]) a b [(Blk.arr true 32 3 []),(Blk.box [(PV.s (SV.int .i64 c)),(PV.fl 3)])])
     (g c (j4 (E3 c (a7 A7 b))) (Blk.box [(PV.s (SV.int .i64 c)),(PV.s (SV.sl a d 3 b))]) (Blk.arr true 32 3 []) (Blk.box [(PV.s (SV.int .i64 c)),(PV.vw 3 0 (j4 (E3 c (a7 A7 b))))]) a (OM c b) [(Blk.arr true 32 3 []),(Blk.box [(PV.s (SV.int .i64 c)),(PV.vw 3 0 (j4 (E3 c (a7 A7 b))))])]))
     none)
    none)
    none)
   none))
  none)
  none)
 none
theorem AM(d:Nat)(s0 s_z1 s_t2 s3):evC (Uu L) (d+1) W Q 9 [.agg [pI s0,.s (.sl s_z1 s_t2 3 s3)]] [] s=FR L s0 s_z1 s_t2 s3 (λg c a i=>some (.agg [pI (0:Int),.fl 3],(g::c::a::.arr true 0 0 []::i),s)) (λf c a e o m j=>some (.agg [pI f,.fl 3],(c::a::e::.arr o 32 3 m::j),s)) (λf b a e h p n l=>some (.agg [pI f,.vw 3 0 b],(a::e::h::.arr p 32 3 n::l),s)):=by refine(evE (fn:=Tryz.f9) (by kernel_rfl)).trans ?_;generalize evC (Uu L) d=Y;unfold FR;kernel_rfl
noncomputable abbrev JS(p:Int)(d c:Bool)(q:LL):Option (PV × List Blk × Unit):=FR LF p d c q (λh e a j=>some (.agg [pI (0:Int),.fl 3],(h::e::a::.arr true 0 0 []::j),())) (λg e a f r n l=>some (.agg [pI g,.fl 3],(e::a::f::.arr r 32 3 n::l),())) (λg b a f i t o m=>some (.agg [pI g,.vw 3 0 b],(a::f::i::.arr t 32 3 o::m),()))
noncomputable abbrev VL:Code:=F0 aj9
noncomputable def Fs(L:Nat):Cfg:=C3 L [20] (A4 [(3,[0,0,2,0,0])]) []
 (A4 [(7,[4]),(4,[0,0,3,0]),(6,[0,0,3,0]),(5,[0,0,3,0,12]),(3,[0,0,3,0,3]),(2,[0,0,3,0]),(1,[0,0,3]),(0,[0,0])]) [] (A4 [(0,[5]),(1,[0,0,3,0])]) (some [4]) [] [] []
noncomputable def Ar{R:Type}(L n:Nat)(e d:Bool)(b:LL)(c a:Int)(f:LL)(g:LL->Option R):Option R:=match n with
 | 0=>none
 | n+1=>
  cond (ltI a (b.length:Int))
   (cond (inR a b.length)
   (cond (okE Dd b (b8 a) 2)
    (cond (ltI c (gE b (b8 a) 2))
    (cond (inR a b.length)
     (cond (okE ⟨true,true,[.str,.bool,.int .i64]⟩ b (b8 a) 0)
     (cond (G1 (f.length+1))
      (vl (f++[[(SV.str (gX b (b8 a) 0)),(SV.bool (gY b (b8 a) 1)),(SV.int .i64 (gE b (b8 a) 2))]]) λh=>
      Ar L n e d b c (A2 (a+1)) h g)
      none)
     none)
     none)
    (Ar L n e d b c (A2 (a+1)) f g))
    none)
   none)
   (g f)
theorem KL(n l_z0 l_t1 l2 now3 i4 l5):E7 1 ((Fs L).keep 3) (bd (Fs L) Y Q (cd [1,1,0,1,0,0] VL)) n ⟨gp [(0,.s (.sl l_z0 l_t1 3 l2)),(0,pI now3),(3,.fl 0),(0,pI i4)] 21,[.arr true 32 3 l5],s⟩ k =
 Ar L n l_z0 l_t1 l2 now3 i4 l5 (λb=>k (.exit 0) ⟨gp [(5,.fl 0)] 22,[.arr true 32 3 b],s⟩):=by
 induction n generalizing l_z0 l_t1 l2 now3 i4 l5 with
 | zero=>rfl
 | succ n a=>rw[Ar];simp only[<-a];kernel_rfl
noncomputable def WT{R:Type}(L:Nat)(b a:Bool)(f:LL)(c:Int)(e:LL->(List Blk)->Option R):Option R:=
 Ar L L b a f c 0 [] (λd=>e d [])
theorem Ao0(d:Nat)(l_z0 l_t1 l2 now3):evC (Fs L) (d+1) W Q 20 [.s (.sl l_z0 l_t1 3 l2),pI now3] [] s=WT L l_z0 l_t1 l2 now3 (λb a=>some (.fl 0,(.arr true 32 3 b::a),s)):=by refine(evE (fn:=aj9) (by kernel_rfl)).trans ?_;generalize evC (Fs L) d=Y;unfold WT;exact(j6 (by kernel_rfl) ((KL L Y Q s (I2 0 (I8 (Fs L) Y Q (cd [1,1,1] VL) (J6 (Fs L) aj9))) L l_z0 l_t1 l2 now3 0 []).trans (by kernel_rfl)))
noncomputable abbrev WU(b a:Bool)(f:LL)(c:Int):Option (PV × List Blk × Unit):=WT LF b a f c (λe d=>some (.fl 0,(.arr true 32 3 e::d),()))
noncomputable def Po(L:Nat):Cfg:=C3 L [10] (A4 []) [(15,NA),(20,VA)]
 (A4 [(3,[2]),(2,[2]),(1,[1,0,2]),(0,[1,0])]) [15] (A4 []) (some [2]) [] [] [] (nt:=[(24,1,32,3)])
noncomputable def Tc{R:Type}(L:Nat)(b:Int)(d c:Bool)(a:LL)(f:Blk->Blk->Blk->(List Blk)->Option R)(g:Int->Bool->LL->(List Blk)->Option R):Option R:=
 cond (a8 a C1)
 (cond (a8 a smE)
  (cond (A3 a.length)
  (cond (not (stB b (a7 A7 a)))
   (f (Blk.box [(PV.s (SV.int .i64 b)),(PV.s (SV.sl d c 3 a))]) (Blk.arr true 32 3 []) (Blk.box [(PV.s (SV.int .i64 (0:Int))),(PV.fl 3)]) [])
   (cond (a8 a C1)
   (cond (A3 a.length)
    (vl (G9 (E3 b (a7 A7 a))) λe=>
    g b (o9 (E3 b (a7 A7 a))) e [(Blk.box [(PV.s (SV.int .i64 b)),(PV.s (SV.sl d c 3 a))]),(Blk.arr true 32 3 []),(Blk.box [(PV.s (SV.int .i64 b)),(PV.s (SV.sl (o9 (E3 b (a7 A7 a))) (o9 (E3 b (a7 A7 a))) 3 e))])])
    none)
   none))
  none)
  none)
 none
theorem Xi(d:Nat)(s0 s_z1 s_t2 s3):evC (Po L) (d+1) W Q 10 [.agg [pI s0,.s (.sl s_z1 s_t2 3 s3)]] [] s=Tc L s0 s_z1 s_t2 s3 (λc e f b=>some (.agg [pI (0:Int),.fl 3],(c::e::f::.arr true 0 0 []::b),s)) (λg a h b=>some (.agg [pI g,.s (.sl a a 3 h)],b,s)):=by refine(evE (fn:=Tryz.f10) (by kernel_rfl)).trans ?_;generalize evC (Po L) d=Y;unfold Tc;kernel_rfl
noncomputable abbrev AX(j:Int)(c b:Bool)(l:LL):Option (PV × List Blk × Unit):=Tc LF j c b l (λe f g d=>some (.agg [pI (0:Int),.fl 3],(e::f::g::.arr true 0 0 []::d),())) (λh a i d=>some (.agg [pI h,.s (.sl a a 3 i)],d,()))
noncomputable abbrev VJ:Code:=F0 aj6
noncomputable def Fq(L:Nat):Cfg:=C3 L [12] (A4 [(4,[0,0,2,0])]) []
 (A4 [(8,[4]),(5,[0,0,3]),(7,[4]),(6,[0,0,3,19]),(4,[0,0,3,8]),(3,[0,0,3]),(2,[4]),(1,[0,0,8]),(0,[0,0])]) [] (A4 [(0,[]),(1,[0,0,3])]) (some [4]) [] [] []
noncomputable def Cr{R:Type}(L n:Nat)(e d:Bool)(b:LL)(g f:Bool)(c:LL)(a:Int)(h:Unit->Option R)(i:Unit->Option R):Option R:=match n with
 | 0=>none
 | n+1=>
  cond (ltI a (b.length:Int))
   (cond (inR a b.length)
   (cond (okE ⟨true,true,[.str,.bool,.int .i64]⟩ b (b8 a) 0)
    (cond (inR a c.length)
    (cond (okE ⟨true,true,[.str,.bool,.int .i64]⟩ c (b8 a) 0)
     (cond (not (((gX b (b8 a) 0)==(gX c (b8 a) 0))&&(((gY b (b8 a) 1)==(gY c (b8 a) 1))&&(((gE b (b8 a) 2)==(gE c (b8 a) 2))&&true))))
     (h ())
     (Cr L n e d b g f c (A2 (a+1)) h i))
     none)
    none)
    none)
   none)
   (i ())
theorem JL(n:Nat)(b a:Bool)(e:LL)(d c:Bool)(f:LL)(g:Int):E7 0 ((Fq L).keep 4) (bd (Fq L) Y Q (cd [1,1,0,1,0,0] VJ)) n ⟨gp [(0,.s (.sl b a 3 e)),(0,.s (.sl d c 3 f)),(3,pI g)] 20,[],s⟩ k =
 Cr L n b a e d c f g (λ_=>k .ret ⟨gp [(4,pB false)] 21,[],s⟩) (λ_=>k (.exit 0) ⟨gp [] 26,[],s⟩):=by
 induction n generalizing b a e d c f g with
 | zero=>rfl
 | succ n h=>rw[Cr];simp only[<-h];kernel_rfl
noncomputable def WA{R:Type}(L:Nat)(b a:Bool)(f:LL)(d c:Bool)(g:LL)(e:Bool->Option R):Option R:=
 cond ((f.length:Int)!=(g.length:Int))
 (e false)
 (Cr L L b a f d c g 0 (λ_=>e false) (λ_=>e true))
theorem Ak6(d:Nat)(a_z0 a_t1 a2 b_z3 b_t4 b5):evC (Fq L) (d+1) W Q 12 [.s (.sl a_z0 a_t1 3 a2),.s (.sl b_z3 b_t4 3 b5)] [] s=WA L a_z0 a_t1 a2 b_z3 b_t4 b5 (λa=>some (pB a,[],s)):=by refine(evE (fn:=aj6) (by kernel_rfl)).trans ?_;generalize evC (Fq L) d=Y;unfold WA;exact(j6 (by kernel_rfl) (A1 rfl ((JL L Y Q s (I2 0 (I8 (Fq L) Y Q (cd [1,1,1] VJ) (J6 (Fq L) aj6))) L a_z0 a_t1 a2 b_z3 b_t4 b5 0).trans (by kernel_rfl))))
noncomputable def Ah8(L:Nat):Cfg:=C3 L [6] (A4 []) [(12,UT)]
 (A4 [(1,[4]),(0,[2,0])]) [12] (A4 []) (some [4]) [] [] [] (nt:=[(24,1,32,3)])
noncomputable def kst{R:Type}(L:Nat)(g:Int)(b a:Bool)(e:LL)(h:Int)(d c:Bool)(f:LL)(i:Bool->(List Blk)->Option R):Option R:=
 cond (g==h)
 (cond (a8 e C1)
  (cond (A3 e.length)
  (cond (a8 f C1)
   (cond (A3 f.length)
   (i ((a7 A7 e)==(a7 A7 f)) [(Blk.box [(PV.s (SV.int .i64 g)),(PV.s (SV.sl b a 3 e))]),(Blk.box [(PV.s (SV.int .i64 h)),(PV.s (SV.sl d c 3 f))])])
   none)
   none)
  none)
  none)
 (i false [(Blk.box [(PV.s (SV.int .i64 g)),(PV.s (SV.sl b a 3 e))]),(Blk.box [(PV.s (SV.int .i64 h)),(PV.s (SV.sl d c 3 f))])])
theorem Bg0(d:Nat)(a0 a_z1 a_t2 a3 b4 b_z5 b_t6 b7):evC (Ah8 L) (d+1) W Q 6 [.agg [pI a0,.s (.sl a_z1 a_t2 3 a3)],.agg [pI b4,.s (.sl b_z5 b_t6 3 b7)]] [] s=kst L a0 a_z1 a_t2 a3 b4 b_z5 b_t6 b7 (λb a=>some (pB b,a,s)):=by refine(evE (fn:=Tryz.f6) (by kernel_rfl)).trans ?_;generalize evC (Ah8 L) d=Y;unfold kst;kernel_rfl
noncomputable abbrev Bc5(f:Int)(b a:Bool)(g:LL)(h:Int)(d c:Bool)(i:LL):Option (PV × List Blk × Unit):=kst LF f b a g h d c i (λj e=>some (pB j,e,()))
end
end
section
open Go Go.Op Go.Proofs
set_option maxRecDepth 100000
theorem MA{R:Type}(z t:Bool)(T:List Q1)(b:Int)(c:List Blk->Option R)(d:Int->Bool->Bool->LL->Option R)(e:(G9 T).all smE=true)(o:T.length<=1000000000):∀(r i m:Nat),i+r=T.length->r<m->
  (Wi (if i=0 then none else some (T.getD (i-1) noP).1) (T.drop i)=0->Gs LF m z t (G9 T) (T.length:Int) (i:Int) b c d=d b z t (G9 T))/\
  (Wi (if i=0 then none else some (T.getD (i-1) noP).1) (T.drop i)≠0->∃H,Gs LF m z t (G9 T) (T.length:Int) (i:Int) b c d=c H)
 | 0,i,m,n,p=>by
  obtain⟨m,rfl⟩:∃q,m=q+1:=⟨m-1,by omega⟩
  rw[Gs,E4 (by omega),c9 (by omega)];exact⟨λ_=>rfl,λh=>absurd rfl h⟩
 | r+1,i,m,n,p=>by
  obtain⟨m,rfl⟩:∃q,m=q+1:=⟨m-1,by omega⟩
  have a:i<T.length:=by omega
  have f:=MA z t T b c d e o r (i+1) m (by omega) (by omega);rw[if_neg (ag7 i),ae7] at f;have k:A2 ((i:Int)+1)=((i+1:Nat):Int):=by rw[A5];rfl
  rw[Gs,D0 (by omega),M4 (by omega) (by rw[D3];omega),b9,Jl a,Hy a,Qa a,k,Re a];simp only[cond_true,vl];rw[Tf e a,cond_true];unfold Wi;cases v:Xc (T.getD i noP).1 (T.getD i noP).2.2 with
  | false=>exact⟨λh=>(by cases h),λ_=>⟨_,rfl⟩⟩
  | true=>
   simp only[j2,cond_false,if_true];by_cases g:i=0
   ·subst g;rw[E4 (by omega),cond_false];exact f
   ·have j:A2 ((i:Int)-1)=((i-1:Nat):Int):=by rw[A5];omega
    rw[D0 (by omega),j,M4 (by omega) (by rw[D3];omega),b9,Az6 (by omega),Hy (by omega),Tf e (by omega:i-1<T.length),if_neg g];simp only[cond_true];have l:ltI (Si (T.getD (i-1) noP).1 (T.getD i noP).1) 0=Wp (T.getD (i-1) noP).1 (T.getD i noP).1:=by rw[Z2];exact IL _ _
    rw[l];cases u:Wp (T.getD (i-1) noP).1 (T.getD i noP).1 with
    | false=>exact⟨λh=>(by cases h),λ_=>⟨_,rfl⟩⟩
    | true=>exact f
theorem Bi3(a:Int)(z t:Bool)(l:LL)(f:l.all C1=true)(g:l.all smE=true)(h:A3 l.length=true) :
  ∃r H,Bd0 a z t l=rv r H/\r.stab [] H=pB (stB a (l.map A7)):=by
 have i:=F9;have c:=N6 h;have d:=Ad f;generalize p:l.map A7=T at d;subst d;rw[D3] at c;unfold Bd0 vst stB Kd;cases m:ltI a 0 with
 | true=>exact⟨_,_,rfl,rfl⟩
 | false=>
 cases n:ltI 1099511627776 a with
 | true=>exact⟨_,_,rfl,rfl⟩
 | false=>
 rw[D3];cases o:ltI 1000 (T.length:Int) with
 | true=>exact⟨_,_,rfl,rfl⟩
 | false=>
 have key:=λj k=>MA (R:=PV × List Blk × Unit) z t T a j k g c T.length 0 LF (by omega) (by omega)
 simp only[if_true,j7] at key;by_cases b:Wi none T=0
 ·refine⟨_,_,(key _ _).1 b,?_⟩;rw[b];rfl
 ·obtain⟨H,e⟩:=(key _ _).2 b;refine⟨_,_,e,?_⟩;have:(Wi none T==0)=false:=by simpa using b
  simp only[cond_false,this];rfl
theorem Ao9(h:By)(b:Bool)(e:Int)(a:A3 h.length=true):∃r H,XB h b e=rv r H/\r.stab [] H=pB (Xc h e):=by
 unfold XB XA Xc;rw[a];cases Bc h with
 | false=>exact⟨_,_,rfl,rfl⟩
 | true=>
  cases ltI e 0 with
  | false=>exact⟨_,_,rfl,rfl⟩
  | true=>exact⟨_,_,rfl,rfl⟩
theorem BG{R:Type}(z t:Bool)(T:List Q1)(d:Int->Option R)(e:Unit->Option R)(b:(G9 T).all smE=true)(l:T.length<=1000000000):∀(r i m:Nat),i+r=T.length->r<m->
  Du LF m z t (G9 T) (i:Int) d e=if Wi (if i=0 then none else some (T.getD (i-1) noP).1) (T.drop i)=0 then e () else d (Wi (if i=0 then none else some (T.getD (i-1) noP).1) (T.drop i):Nat)
 | 0,i,m,k,n=>by
  obtain⟨m,rfl⟩:∃q,m=q+1:=⟨m-1,by omega⟩
  rw[Du,E4 (by rw[D3];omega),c9 (by omega)];rfl
 | r+1,i,m,k,n=>by
  obtain⟨m,rfl⟩:∃q,m=q+1:=⟨m-1,by omega⟩
  have a:i<T.length:=by omega
  have c:=BG z t T d e b l r (i+1) m (by omega) (by omega);rw[if_neg (ag7 i),ae7] at c;have h:A2 ((i:Int)+1)=((i+1:Nat):Int):=by rw[A5];rfl
  rw[Du,D0 (by rw[D3];omega),M4 (by omega) (by rw[D3];omega),b9,Jl a,Hy a,Qa a,h,Re a];simp only[cond_true,vl];rw[Tf b a,cond_true];unfold Wi;cases p:Xc (T.getD i noP).1 (T.getD i noP).2.2 with
  | false=>rfl
  | true=>
   simp only[j2,cond_false,if_true];by_cases f:i=0
   ·subst f;rw[E4 (by omega),cond_false];exact c
   ·have g:A2 ((i:Int)-1)=((i-1:Nat):Int):=by rw[A5];omega
    rw[D0 (by omega),g,M4 (by omega) (by rw[D3];omega),b9,Az6 (by omega),Az6 a,Hy (by omega),Tf b (by omega:i-1<T.length),if_neg f];simp only[cond_true];have j:ltI (Si (T.getD (i-1) noP).1 (T.getD i noP).1) 0=Wp (T.getD (i-1) noP).1 (T.getD i noP).1:=by rw[Z2];exact IL _ _
    rw[j];cases o:Wp (T.getD (i-1) noP).1 (T.getD i noP).1 with
    | false=>rfl
    | true=>exact c
theorem Aa9{R:Type}{b:Int->Option R}(z t:Bool)(l:LL)(a:Int)(e:l.all C1=true)(f:l.all smE=true)(g:A3 l.length=true)(j:(ltI 0 a&&ltI a 1001)=true) :
  A30 LF z t l a b=b (Kd a (l.map A7):Nat):=by
 have i:=F9;have c:=N6 g;have d:=Ad e;generalize m:l.map A7=T at d;subst d;rw[D3] at c;rw[k9,Z2,Z2,decide_eq_true_eq,decide_eq_true_eq] at j;unfold A30 Kd;rw[E4 (by omega),E4 (by omega),D3];simp only[cond_false];cases k:ltI a (T.length:Int) with
 | true=>rfl
 | false=>
  have key:=BG (R:=R) z t T (λn=>b n) (λ_=>b 0) f c T.length 0 LF (by omega) (by omega);simp only[if_true,j7] at key;simp only[cond_false];refine key.trans ?_;split
  ·rename_i h;rw[h];rfl
  ·rfl
theorem A38(b:Int)(z t:Bool)(l:LL)(c:l.all C1=true)(d:l.all smE=true)(f:A3 l.length=true) :
  ∃r H,Ap2 b z t l=rv r H/\r.stab [] H=pB (stB b (l.map A7)):=by
 unfold Ap2 A36 stB;cases g:ltI b 0 with
 | true=>exact⟨_,_,rfl,rfl⟩
 | false=>
 cases h:ltI 1099511627776 b with
 | true=>exact⟨_,_,rfl,rfl⟩
 | false=>
 rw[c,d,f];cases l with
 | nil=>exact⟨_,_,rfl,rfl⟩
 | cons a r=>
  have:(((a::r).length:Int)==0)=false:=by rw[beq_eq_false_iff_ne];simp only[p5];omega
  rw[this];refine⟨_,_,rfl,?_⟩;have e:(((Kd 1000 (a7 A7 (a::r)):Nat):Int)==0)=(Kd 1000 (a7 A7 (a::r))==0):=by
   rw[ah5,beq_iff_eq,beq_iff_eq];omega
  show pB _=_;rw[e];rfl
theorem Aa3{R:Type}{a:Int->Option R}(n m:Int):A25 LF n m a=a (PT n m):=by
 unfold A25 PT vl
 congr 1
 simp only[ah1,ah2]
 repeat' split
 all_goals omega
theorem Zz{R:Type}(z t:Bool)(T:List Q1)(b c:Unit->Option R)(g:T.length<=1000000000):∀(r i m:Nat),i+r=T.length->r<m->
  Gc LF m z t (G9 T) (i:Int) b c=cond ((G9 (T.drop i)).all λd=>!ltI 300 (elS d).length) (c ()) (b ())
 | 0,i,m,f,h=>by
  obtain⟨m,rfl⟩:∃q,m=q+1:=⟨m-1,by omega⟩
  rw[Gc,E4 (by rw[D3];omega),c9 (by omega)];rfl
 | r+1,i,m,f,h=>by
  obtain⟨m,rfl⟩:∃q,m=q+1:=⟨m-1,by omega⟩
  have a:i<T.length:=by omega
  have e:A2 ((i:Int)+1)=((i+1:Nat):Int):=by rw[A5];rfl
  rw[Gc,D0 (by rw[D3];omega),M4 (by omega) (by rw[D3];omega),b9,Az6 a,Hy a,e,Zz z t T b c g r (i+1) m (by omega) (by omega),Re a];simp only[cond_true];show _=cond ((!ltI 300 ((T.getD i noP).1.length:Nat))&&(G9 (T.drop (i+1))).all λd=>!ltI 300 (elS d).length) (c ()) (b ());cases ltI 300 ((T.getD i noP).1.length:Nat)<;>rfl
theorem YM{R:Type}{a:Bool->Option R}(z t:Bool)(l:LL)(n:Int)(e:l.all C1=true)(g:ltI n 1001=true):Ax0 LF z t l n a=a (Lu n l):=by
 have f:=F9;rw[Z2,decide_eq_true_eq] at g;have b:=Ad e;generalize h:l.map A7=T at b;subst b;unfold Ax0 Lu;cases c:ltI n ((G9 T).length:Nat) with
 | true=>rfl
 | false=>
  rw[Z2,decide_eq_false_iff_not,D3] at c;have:=Zz z t T (λ_=>a false) (λ_=>a true) (by omega) T.length 0 LF (by omega) (by omega);rw[j7] at this;refine this.trans ?_;rw[j0,u7];cases (G9 T).all λd=>!ltI 300 (elS d).length<;>rfl
theorem Am8{R:Type}{c:Bool->By->Bool->Int->Option R}(h:By)(b:Bool)(e a:Int)(f d:Bool)(q:LL):pgf LF h b e a f d q c=c (not (ltI a e)) h b e:=rfl
theorem BQ{R:Type}(z t:Bool)(T:List Q1)(b:Int)(f e:Bool)(q:LL)(c:Int->Option R)(d:Unit->Option R)(k:T.length<=1000000000):∀(r i m:Nat),i+r=T.length->r<m->
  Gr LF m z t (G9 T) b f e q (T.length:Int) (i:Int) c d=match (T.drop i).findIdx? (λp=>!ltI b p.2.2) with
   | some j=>c ((i+j:Nat):Int)
   | none=>d ()
 | 0,i,m,h,l=>by
  obtain⟨m,rfl⟩:∃q,m=q+1:=⟨m-1,by omega⟩
  rw[Gr,E4 (by omega),c9 (by omega)];rfl
 | r+1,i,m,h,l=>by
  obtain⟨m,rfl⟩:∃q,m=q+1:=⟨m-1,by omega⟩
  have a:i<T.length:=by omega
  have g:A2 ((i:Int)+1)=((i+1:Nat):Int):=by rw[A5];rfl
  rw[Gr,D0 (by omega),M4 (by omega) (by rw[D3];omega),b9,Jl a,Qa a,g,BQ z t T b f e q c d k r (i+1) m (by omega) (by omega),Re a,List.findIdx?_cons];simp only[cond_true];cases ltI b (T.getD i noP).2.2 with
  | false=>rfl
  | true=>
   simp only[j2,cond_false,aa1,if_false];cases (T.drop (i+1)).findIdx? (λp=>!ltI b p.2.2) with
   | none=>rfl
   | some j=>
    show c ((i+1+j:Nat):Int)=c ((i+(j+1):Nat):Int)
    congr 1;omega
theorem Ac4{R:Type}{a:Int->Option R}(z t:Bool)(l:LL)(b:Int)(f e:Bool)(q:LL)(g:l.all C1=true)(h:A3 l.length=true):A51 LF z t l b f e q a=a (ixP b (l.map A7)):=by
 have i:=F9;have c:=N6 h;have d:=Ad g;generalize k:l.map A7=T at d;subst d;rw[D3] at c;unfold A51 ixP;rw[D3];have key:=BQ (R:=R) z t T b f e q (λn=>a n) (λ_=>a (-1)) c T.length 0 LF (by omega) (by omega);simp only[ad8,j7] at key;refine key.trans ?_;cases T.findIdx? (λp=>!ltI b p.2.2) with
 | none=>rfl
 | some j=>
  show a ((0+j:Nat):Int)=a (j:Int);rw[Nat.zero_add]
theorem KF(d:List SV)(a b c:SV)(h:d.length=3):F4 d 0 [a,b,c]=[a,b,c]:=by
 match d,h with
 | [x,y,z],_=>rfl
theorem LC(L:LL)(i j:Nat)(v:List SV)(a:i<L.length):(L.set i v).getD j []=if i=j then v else L.getD j []:=by
 rw[j3,j3,List.getElem?_set];split
 ·rename_i e;subst e;simp[a]
 ·rfl
theorem Qv{R:Type}(z:Bool)(T:List Q1)(d:Int)(p o:Bool)(q:LL)(n:Int->Bool->LL->Int->Bool->Bool->LL->Option R)(D:T.length<=1000000000):∀(r j m i:Nat) (L:LL),j+r=T.length->r<m->i<j->L.length=T.length->(∀k,k<T.length->(L.getD k []).length=3)->(∀k,j<=k->k<T.length->L.getD k []=Jw (T.getD k noP))->
  ∃(b:LL) (c:Nat),Dy LF m (i:Int) (j:Int) z L d p o q n=n (c:Int) z b d p o q/\b.length=T.length/\c<=T.length/\b.take c=L.take i++G9 (E3 d (T.drop j))
 | 0,j,m,i,L,I,J,A,a,f,g=>by
  obtain⟨m,rfl⟩:∃q,m=q+1:=⟨m-1,by omega⟩
  rw[Dy,E4 (by rw[a];omega),c9 (by omega)];exact⟨L,i,rfl,a,by omega,by simp[E3,G9]⟩
 | r+1,j,m,i,L,I,J,A,a,f,g=>by
  obtain⟨m,rfl⟩:∃q,m=q+1:=⟨m-1,by omega⟩
  have e:j<T.length:=by omega
  have l:=g j (x4 _) e;have G:A2 ((j:Int)+1)=((j+1:Nat):Int):=by rw[A5];rfl
  have F:A2 ((i:Int)+1)=((i+1:Nat):Int):=by rw[A5];rfl
  rw[Dy,D0 (by rw[a];omega),M4 (by omega) (by rw[a];omega),b9,b9,Bg6 (by omega) l,Bm7 l,Bm8 l,Bm9 l,G,F,Re e];simp only[cond_true,Bool.not_not];unfold E3;rw[ad2];cases K:ltI d (T.getD j noP).2.2 with
  | false=>
   obtain⟨b,c,t,u,v,w⟩:=Qv z T d p o q n D r (j+1) m i L (by omega) (by omega) (by omega) a f (λk B=>g k (by omega));exact⟨b,c,t,u,v,w⟩
  | true=>
   have h:i<L.length:=by omega
   have x:=f i (by omega);rw[M4 (by omega) (by rw[a];omega),decide_eq_true h,KF _ _ _ _ x];simp only[cond_true,vl,if_true];have y:(L.set i (Jw (T.getD j noP))).length=T.length:=by rw[List.length_set,a]
   obtain⟨b,c,t,u,v,w⟩:=Qv z T d p o q n D r (j+1) m (i+1) (L.set i (Jw (T.getD j noP))) (by omega) (by omega) (by omega) y (λk B=>by
     rw[LC _ _ _ _ h];split
     ·rfl
     ·exact f k B) (λk B C=>by
     rw[LC _ _ _ _ h,if_neg (by omega)];exact g k (by omega) C)
   refine⟨b,c,t,u,v,w.trans ?_⟩;have H:(L.set i (Jw (T.getD j noP))).take (i+1)=L.take i++[Jw (T.getD j noP)]:=by
    rw[af4,List.take_set_of_le (x4 _)];simp[h]
   rw[H,u6];rfl
theorem BP{R:Type}{D:Bool->LL->Int->Bool->Bool->LL->Option R}{o:Nat->Bool->LL->Int->Bool->Bool->LL->Option R}(z:Bool)(l:LL)(d:Int)(i h:Bool)(q:LL)(y:l.all C1=true)(A:A3 l.length=true){b:Bool}(g:(ixP d (l.map A7)==-1)=b) :
  A49 LF z l d i h q D o=cond b (D z l d i h q) (o (E3 d (l.map A7)).length z (OM d l) d i h q):=by
 have H:=F9;have B:=N6 A;unfold A49;rw[y,A];simp only[cond_true,vl];rw[g];cases b with
 | true=>rfl
 | false=>
  have C:=Ad y;unfold OM;generalize O:l.map A7=T at C g ⊢;subst C;rw[D3] at B;simp only[cond_false];unfold ixP at g ⊢;cases e:T.findIdx? (λp=>!ltI d p.2.2) with
  | none=>rw[e] at g;cases g
  | some j=>
   obtain⟨P,K⟩:=Ax5 e;simp only;have F:A2 ((j:Int)+1)=((j+1:Nat):Int):=by rw[A5];rfl
   rw[F];obtain⟨M,L,G,x,N,m⟩:=Qv z T d i h q (λa v c t w u r=>cond (N3 a (c.length:Int) c.length)
    (cond (decide (((b8 a)+((b8 (c.length:Int))-(b8 a)))<=c.length))
     (vl ((List.take (b8 a) c)++((ab6 ((b8 (c.length:Int))-(b8 a)) [(SV.str ([]:List UInt8)),(SV.bool false),(SV.int .i64 (0:Int))])++(ag3 ((b8 a)+((b8 (c.length:Int))-(b8 a))) c))) λf=>
     cond (N3 0 a f.length)
      (o ((b8 a)-0) v f t w u r)
      none)
     none)
    none) B (T.length-(j+1)) (j+1) LF j (G9 T) (by omega) (by omega) (by omega) (D3 T) (λk n=>by rw[X2 n];rfl) (λk _ n=>X2 n)
   refine G.trans ?_;have J:(G9 T).take j++G9 (E3 d (T.drop (j+1)))=G9 (E3 d T):=by
    rw[K,KC];unfold G9;rw[List.map_take]
   rw[J] at m;have I:L=(E3 d T).length:=by
    have:=congrArg j4 m;rw[s7,D3] at this;omega
   rw[R4 (by omega) (by rw[x];omega) (by omega)];simp only[b9,cond_true,vl];rw[decide_eq_true (by omega),x,m,c9 (by omega),y7,D3,I];simp only[cond_true];rw[R4 (by omega) (by omega) (by rw[p9,D3];omega)];rfl
theorem Al9{z:Bool}{l:LL}(a:P5 z l=true):(z&&l.isEmpty)=z:=by
 unfold P5 at a;cases z with
 | false=>rfl
 | true=>simpa using a
theorem ZD{R:Type}{b:Int->Blk->Blk->Blk->Bool->LL->List Blk->Option R}(a:Int)(z t:Bool)(l:LL)(c:A3 l.length=true)(d:P5 z l=true) :
  Ay6 LF a z t l b=b a (.box [pI a,.s (.sl z t 3 l)]) (.arr true 32 3 []) (.box [pI a,.fl 3]) z l []:=by
 unfold Ay6;rw[c,d];rfl
theorem JU(c:Int)(z t:Bool)(l:LL)(a:Int)(f:l.all C1=true)(g:l.all smE=true)(h:A3 l.length=true)(d:P5 z l=true){b:Bool}(i:stB c (l.map A7)=b) :
  ∃r H,WL c z t l a=rv r H/\r.stab [] H=cond b (.agg [pI (Hf c a),.s (.sl z z 3 l)]) (.agg [pI 0,.s (.sl true true 0 [])]):=by
 unfold WL WK;rw[f,g,h,d,i];cases b with
 | false=>exact⟨_,_,rfl,rfl⟩
 | true=>
  refine⟨_,_,rfl,?_⟩;have e:(if (if (1099511627776:Int)<a then 1099511627776 else a) > c then (if (1099511627776:Int)<a then 1099511627776 else a) else c)=Hf c a:=by
   unfold Hf;simp only[ah1,ah2]
   repeat' split
   all_goals omega
  show PV.agg [pI _,.s (.sl (z&&l.isEmpty) (z&&l.isEmpty) 3 l)]=_;rw[Al9 d,e];rfl
theorem AZ(c:Int)(z t:Bool)(l:LL)(a:Int)(f:l.all C1=true)(g:l.all smE=true)(h:A3 l.length=true){b:Bool}(d:stB c (l.map A7)=b) :
  ∃r H,KN c z t l a=rv r H/\r.stab [] H=cond b (.agg [pI (Hf c a),.s (.sl z t 3 l)]) (.agg [pI 0,.s (.sl true true 0 [])]):=by
 unfold KN GO;rw[f,g,h,d];cases b with
 | false=>exact⟨_,_,rfl,rfl⟩
 | true=>
  have i:0<=c:=by
   unfold stB at d;rw[k9,Bool.not_eq_true',Z2,decide_eq_false_iff_not] at d;omega
  refine⟨_,_,rfl,?_⟩;have e:(if PT a 1099511627776 > c then PT a 1099511627776 else c)=Hf c a:=by
   unfold Hf PT;simp only[ah1,ah2]
   repeat' split
   all_goals omega
  show PV.agg [pI _,.s (.sl z t 3 l)]=_;rw[e];rfl
theorem AN(a:Int)(z t:Bool)(l:LL)(f:l.all C1=true)(g:l.all smE=true)(h:A3 l.length=true)(c:P5 z l=true){b:Bool}(i:stB a (l.map A7)=b) :
  ∃r H,JS a z t l=rv r H/\r.stab [] H=cond b (.agg [pI a,.s (.sl z z 3 (G9 (E3 a (l.map A7))))]) (.agg [pI 0,.s (.sl true true 0 [])]):=by
 unfold JS FR;rw[f,g,h,c,i];cases b with
 | false=>exact⟨_,_,rfl,rfl⟩
 | true=>
  simp only[cond_true,j2,cond_false];cases e:(ixP a (l.map A7)==-1) with
  | true=>
   refine⟨_,_,rfl,?_⟩;show PV.agg [pI a,.s (.sl (z&&l.isEmpty) (z&&l.isEmpty) 3 l)]=_;rw[Al9 c,Ak9 (eq_of_beq e),<-Ad f]
  | false=>
   refine⟨_,_,rfl,?_⟩;have d:z=false:=by
    cases z with
    | false=>rfl
    | true=>
     obtain rfl:l=[]:=by unfold P5 at c;simpa using c
     cases e
   subst d;show PV.agg [pI a,.s (.sl false false 3 (((OM a l).drop 0).take (E3 a (l.map A7)).length))]=_;have:((OM a l).drop 0).take (E3 a (l.map A7)).length=G9 (E3 a (l.map A7)):=by
    unfold OM;rw[j7,List.take_append_of_le_length (by rw[D3];exact x4 _),List.take_of_length_le (by rw[D3];exact x4 _)]
   rw[this]
theorem Ls{R:Type}(z t:Bool)(T:List Q1)(b:Int)(c:LL->Option R)(d:T.length<=1000000000):∀(r i m:Nat) (A:List Q1),i+r=T.length->r<m->A.length<=i->
  Ar LF m z t (G9 T) b (i:Int) (G9 A) c=c (G9 (A++E3 b (T.drop i)))
 | 0,i,m,A,h,j,g=>by
  obtain⟨m,rfl⟩:∃q,m=q+1:=⟨m-1,by omega⟩
  rw[Ar,E4 (by rw[D3];omega),c9 (by omega)];simp[E3]
 | r+1,i,m,A,h,j,g=>by
  obtain⟨m,rfl⟩:∃q,m=q+1:=⟨m-1,by omega⟩
  have a:i<T.length:=by omega
  have e:A2 ((i:Int)+1)=((i+1:Nat):Int):=by rw[A5];rfl
  rw[Ar,D0 (by rw[D3];omega),M4 (by omega) (by rw[D3];omega),b9,Br6 a,Jl a,Qa a,Hy a,PB a,e,Re a];unfold E3;rw[ad2];simp only[cond_true];cases k:ltI b (T.getD i noP).2.2 with
  | false=>exact Ls z t T b c d r (i+1) m A (by omega) (by omega) (by omega)
  | true=>
   rw[E9 (by rw[D3];omega)];simp only[cond_true,vl,if_true];have f:G9 A++[[SV.str (T.getD i noP).1,SV.bool (T.getD i noP).2.1,SV.int .i64 (T.getD i noP).2.2]]=G9 (A++[T.getD i noP]):=by rw[KC];rfl
   rw[f,Ls z t T b c d r (i+1) m (A++[T.getD i noP]) (by omega) (by omega) (by rw[p9];simp;omega),u6];rfl
theorem Ao1(z t:Bool)(l:LL)(a:Int)(d:l.all C1=true)(e:A3 l.length=true) :
  ∃r H,WU z t l a=rv r H/\r.stab [3] H = .s (.sl (o9 (E3 a (l.map A7))) (o9 (E3 a (l.map A7))) 3 (G9 (E3 a (l.map A7)))):=by
 have f:=F9;have b:=N6 e;have c:=Ad d;generalize h:l.map A7=T at c ⊢;subst c;rw[D3] at b;unfold WU WT;have key:=λg=>Ls (R:=PV × List Blk × Unit) z t T a g b T.length 0 LF [] (by omega) (by omega) (by simp)
 simp only[ad8,j7,y8] at key;refine⟨_,_,key _,?_⟩;show PV.s (.sl (true&&(G9 (E3 a T)).isEmpty) (true&&(G9 (E3 a T)).isEmpty) 3 (G9 (E3 a T)))=_;have:(G9 (E3 a T)).isEmpty=(E3 a T).isEmpty:=by cases E3 a T<;>rfl
 rw[this];rfl
theorem Xj(a:Int)(z t:Bool)(l:LL)(c:l.all C1=true)(d:l.all smE=true)(e:A3 l.length=true){b:Bool}(f:stB a (l.map A7)=b) :
  ∃r H,AX a z t l=rv r H/\r.stab [] H=cond b (.agg [pI a,.s (.sl (o9 (E3 a (l.map A7))) (o9 (E3 a (l.map A7))) 3 (G9 (E3 a (l.map A7))))]) (.agg [pI 0,.s (.sl true true 0 [])]):=by
 unfold AX Tc;rw[c,d,e,f];cases b with
 | false=>exact⟨_,_,rfl,rfl⟩
 | true=>exact⟨_,_,rfl,rfl⟩
theorem Wg{R:Type}(z t:Bool)(T:List Q1)(n l:Bool)(U:List Q1)(c d:Unit->Option R)(v:T.length<=1000000000)(w:U.length=T.length):∀(r i m:Nat),i+r=T.length->r<m->
  Cr LF m z t (G9 T) n l (G9 U) (i:Int) c d=cond (T.drop i==U.drop i) (d ()) (c ())
 | 0,i,m,x,y=>by
  obtain⟨m,rfl⟩:∃q,m=q+1:=⟨m-1,by omega⟩
  rw[Cr,E4 (by rw[D3];omega),c9 (by omega),c9 (by omega)];rfl
 | r+1,i,m,x,y=>by
  obtain⟨m,rfl⟩:∃q,m=q+1:=⟨m-1,by omega⟩
  have a:i<T.length:=by omega
  have b:i<U.length:=by omega
  have o:A2 ((i:Int)+1)=((i+1:Nat):Int):=by rw[A5];rfl
  rw[Cr,D0 (by rw[D3];omega),M4 (by omega) (by rw[D3];omega),M4 (by omega) (by rw[D3];omega),b9,Jl a,Jl b,Qa a,Hy a,PB a,Qa b,Hy b,PB b,o,Wg z t T n l U c d v w r (i+1) m (by omega) (by omega),Re a,Re b];generalize T.getD i noP=p;generalize U.getD i noP=u;obtain⟨e,f,g⟩:=p;obtain⟨h,j,k⟩:=u;simp only[cond_true];have:((e,f,g)::T.drop (i+1)==(h,j,k)::U.drop (i+1))=(((e==h)&&((f==j)&&((g==k)&&true)))&&(T.drop (i+1)==U.drop (i+1))):=by
   rw[ah5];simp only[beq_iff_eq,k9,List.cons.injEq,Prod.mk.injEq,and_true,and_assoc]
  rw[this];cases ((e==h)&&((f==j)&&((g==k)&&true)))<;>rfl
theorem PJ{R:Type}{a:Bool->Option R}(z t:Bool)(l:LL)(i g:Bool)(m:LL)(k:l.all C1=true)(n:A3 l.length=true)(o:m.all C1=true)(q:A3 m.length=true) :
  WA LF z t l i g m a=a (l.map A7==m.map A7):=by
 have p:=F9;have c:=N6 n;have d:=Ad k;have f:=Ad o;generalize r:l.map A7=T at d ⊢;generalize u:m.map A7=U at f ⊢;subst d f;rw[D3] at c;unfold WA;rw[D3,D3];by_cases b:T.length=U.length
 ·have e:((T.length:Int)!=(U.length:Int))=false:=by rw[b];simp
  rw[e];have key:=Wg (R:=R) z t T i g U (λ_=>a false) (λ_=>a true) c b.symm T.length 0 LF (by omega) (by omega);simp only[ad8,j7] at key;refine key.trans ?_;cases (T==U)<;>rfl
 ·have e:((T.length:Int)!=(U.length:Int))=true:=by rw[bne_iff_ne];omega
  have j:(T==U)=false:=by rw[beq_eq_false_iff_ne];intro h;exact b (by rw[h])
  rw[e,j];rfl
theorem Bg1(a:Int)(z t:Bool)(l:LL)(b:Int)(h g:Bool)(m:LL)(c:l.all C1=true)(d:A3 l.length=true)(e:m.all C1=true)(f:A3 m.length=true) :
  ∃r H,Bc5 a z t l b h g m=rv r H/\r.stab [] H=pB ((a==b)&&(l.map A7==m.map A7)):=by
 unfold Bc5 kst;rw[c,d,e,f];cases (a==b)<;>exact⟨_,_,rfl,rfl⟩
end
section
open Go Go.Proofs
set_option maxRecDepth 100000
section
theorem BW:A9 j5 GX 156 Es:=λargs ret a h=>by
 have:G5 (Es args)=none:=by unfold Es Tj;split<;>rfl
 rw[this] at h;cases h
theorem Ar4:A9 j5 GX 101 MQ:=xf [] (NS LF) CN rfl trivial rfl (by kernel_rfl) follows λargs=>by
 unfold CN;split
 ·rename_i s p;exact λa=>⟨rfl,rfl,rfl,_,_,(Ay1 LF noY () 0 s p).trans (YY s p a),rfl⟩
 ·trivial
theorem UK:A9 j5 GX 73 CG:=xf [] (NR LF) CH rfl ⟨Ar4,trivial⟩ rfl (by kernel_rfl) follows λargs=>by
 unfold CH;split
 ·rename_i s p;exact λa=>⟨rfl,rfl,rfl,_,_,(Aw8 LF noY () 0 s p).trans (YH s p a),rfl⟩
 ·trivial
theorem Bj0:A9 j5 GX 132 Ae5:=xf [] (NT LF) CP rfl trivial rfl (by kernel_rfl) follows λargs=>by
 unfold CP;split
 ·rename_i s p;exact λa=>⟨rfl,rfl,rfl,_,_,(Ay3 LF noY () 0 s p).trans (YZ s p a),rfl⟩
 ·trivial
theorem A70:A9 j5 GX 105 UW:=xf [] (EL LF) Tp rfl ⟨Bj0,trivial⟩ rfl (by kernel_rfl) follows λargs=>by
 unfold Tp;split
 ·rename_i s p;exact λa=>⟨rfl,rfl,rfl,_,_,(Al6 LF noY () 0 s p).trans (QD s p a),rfl⟩
 ·trivial
theorem XI:A9 j5 GX 76 DZ:=xf [] (ER LF) Uk rfl ⟨A70,trivial⟩ rfl (by kernel_rfl) follows λargs=>by
 unfold Uk;split
 ·rename_i s p;exact λa=>⟨rfl,rfl,rfl,_,_,(Aq3 LF noY () 0 s p).trans (UC s p a),rfl⟩
 ·trivial
theorem A67:A9 j5 GX 96 UU:=xf [0,0] (EJ LF) Tm rfl ⟨Ar4,trivial⟩ rfl (by kernel_rfl) follows λargs=>by
 unfold Tm;split
 ·rename_i s p;exact λa=>⟨rfl,rfl,rfl,_,_,(Ak8 LF noY () 0 s p).trans (PP s p a),rfl⟩
 ·trivial
theorem Bi5:A9 j5 GX 71 Ae0:=xf [0,0] (NP LF) CA rfl ⟨A67,trivial⟩ rfl (by kernel_rfl) follows λargs=>by
 unfold CA;split
 ·rename_i s p;exact λa=>⟨rfl,rfl,rfl,_,_,(Au4 LF noY () 0 s p).trans (XR s p a),rfl⟩
 ·trivial
theorem Ar1:A9 j5 GX 136 HN:=xf [1] (Aj LF) Oj rfl ⟨BW,As3,UN,trivial⟩ rfl (by kernel_rfl) follows λargs=>by
 unfold Oj;split
 ·rename_i s p v n;exact λb=>λc=>λd=>λe=>(let⟨h,f,a,g⟩:=JB s p v n b c d e;⟨rfl,rfl,rfl,h,f,(Zr LF noY () 0 s p v n).trans a,g⟩)
 ·trivial
theorem As5:A9 j5 GX 112 HQ:=xf [1] (Uz LF) Oz rfl ⟨Ar1,trivial⟩ rfl (by kernel_rfl) follows λargs=>by
 unfold Oz;split
 ·rename_i s p;exact λa=>λb=>⟨rfl,rfl,rfl,_,_,(Ac0 LF noY () 0 s p).trans (LN s p a b),rfl⟩
 ·trivial
theorem Ya:A9 j5 GX 53 Om:=xf [] (Lb LF) CM rfl trivial rfl (by kernel_rfl) follows λargs=>by
 unfold CM;split
 ·rename_i s;exact λa=>⟨rfl,rfl,rfl,_,_,(Ax9 LF noY () 0 s).trans (YW s a),rfl⟩
 ·trivial
theorem Ar2:A9 j5 GX 87 MM:=xf [] (NQ LF) CF rfl ⟨UK,trivial⟩ rfl (by kernel_rfl) follows λargs=>by
 unfold CF;split
 ·rename_i s;exact λa=>⟨rfl,rfl,rfl,_,_,(Aw7 LF noY () 0 s).trans (YF s a),rfl⟩
 ·trivial
theorem Ar0:A9 j5 GX 89 ML:=xf [0,0] (Q3 LF) CB rfl trivial rfl (by kernel_rfl) follows λargs=>by
 unfold CB;split
 ·rename_i s base;exact λa=>λb=>⟨rfl,rfl,rfl,_,_,(Av0 LF noY () 0 s base).trans (XV s base a b),rfl⟩
 ·trivial
theorem Bp8:A9 j5 GX 88 A97:=xf [0,0] (Ah9 LF) MS rfl ⟨Ar2,Ar0,trivial⟩ rfl (by kernel_rfl) follows λargs=>by
 unfold MS;split
 ·rename_i s;exact λa=>⟨rfl,rfl,rfl,_,_,(Bg5 LF noY () 0 s).trans (Am2 s a),rfl⟩
 ·trivial
theorem A71:A9 j5 GX 86 UX:=xf [1] (EN LF) Tt rfl ⟨As5,trivial⟩ rfl (by kernel_rfl) follows λargs=>by
 unfold Tt;split
 ·rename_i s;exact λa=>⟨rfl,rfl,rfl,_,_,(Am5 LF noY () 0 s).trans (QT s a),rfl⟩
 ·trivial
theorem BX:A9 j5 GX 61 It:=xf [] (Pm LF) Kn rfl ⟨A71,Ar2,Bp8,Ar0,trivial⟩ rfl (by kernel_rfl) follows λargs=>by
 unfold Kn;split
 ·rename_i s;exact λa=>⟨rfl,rfl,rfl,_,_,(QO LF noY () 0 s).trans (FU s a),rfl⟩
 ·trivial
theorem Ad3:A9 j5 GX 119 Yw:=xf [] (Y4 LF) Ko rfl trivial rfl (by kernel_rfl) follows λargs=>by
 unfold Ko;split
 ·rename_i s;exact λa=>⟨rfl,rfl,rfl,_,_,(RW LF noY () 0 s).trans (GI s a),rfl⟩
 ·trivial
theorem Yb:A9 j5 GX 68 Mb:=xf [1] (Cl LF) Oy rfl trivial rfl (by kernel_rfl) follows λargs=>by
 unfold Oy;split
 ·rename_i s c;exact λb=>λd=>(let⟨g,e,a,f⟩:=LB s c b d;⟨rfl,rfl,rfl,g,e,(Ab0 LF noY () 0 s c).trans a,f⟩)
 ·trivial
theorem Bj7:A9 j5 GX 142 Af1:=xf [] (Ef LF) DF rfl trivial rfl (by kernel_rfl) follows λargs=>by
 unfold DF;split
 ·rename_i b;exact λa=>⟨rfl,rfl,rfl,_,_,(A17 LF noY () 0 b).trans (ZX b a),rfl⟩
 ·trivial
theorem Bk1:A9 j5 GX 120 Af5:=xf [0,0] (L2 LF) DJ rfl ⟨Bj7,trivial⟩ rfl (by kernel_rfl) follows λargs=>by
 unfold DJ;split
 ·rename_i s;exact λa=>⟨rfl,rfl,rfl,_,_,(A28 LF noY () 0 s).trans (Aa4 s a),rfl⟩
 ·trivial
theorem As0:A9 j5 GX 118 HP:=xf [1] (Ux LF) Ow rfl ⟨Yb,trivial⟩ rfl (by kernel_rfl) follows λargs=>by
 unfold Ow;split
 ·rename_i s;exact λa=>⟨rfl,rfl,rfl,_,_,(Aa7 LF noY () 0 s).trans (KQ s a),rfl⟩
 ·trivial
theorem UM:A9 j5 GX 92 Ub:=xf [] (Lf LF) Hm rfl ⟨As0,Ad3,Bk1,trivial⟩ rfl (by kernel_rfl) follows λargs=>by
 unfold Hm;split
 ·rename_i s;exact λa=>⟨rfl,rfl,rfl,_,_,(KP LF noY () 0 s).trans (Yq s a),rfl⟩
 ·trivial
theorem Ad2:A9 j5 GX 136 Ok:=by
 refine A9.fix (pf:=Km) _ (S8 (C₀:=Aj LF) (G3.ok (l:=[(156,Es),(157,NB),(115,Uh)]) rfl ⟨BW,As3,UN,trivial⟩) (D4 rfl (by kernel_rfl)) follows ?_);intro args ret f h;unfold Km at h;split at h
 ·rename_i s p v n;obtain⟨a,h⟩:=D5 h;obtain⟨b,h⟩:=D5 h;obtain⟨c,h⟩:=D5 h;obtain⟨d,h⟩:=D5 h;obtain⟨rfl,rfl⟩:=I7 h;have e:=(Zr LF noY () 0 s p v n).trans (Vy s p v n a b c d);exact⟨rfl,1,_,[],e,rfl,rfl⟩
 ·cases h
theorem Ad5:A9 j5 GX 112 Yx:=by
 refine A9.fix (pf:=Kq) _ (S8 (C₀:=Pp LF) (G3.ok (l:=[(136,Ok)]) rfl ⟨Ad2,trivial⟩) (D4 rfl (by kernel_rfl)) follows ?_);intro args ret c h;unfold Kq at h;split at h
 ·rename_i s p;obtain⟨a,h⟩:=D5 h;obtain⟨b,h⟩:=D5 h;obtain⟨rfl,rfl⟩:=I7 h;have e:=(TY LF noY () 0 s p).trans (GY s p a b);exact⟨rfl,1,_,[],e,rfl,rfl⟩
 ·cases h
end
section
theorem MG:A9 j5 GX 139 Hl:=xf [] (Uv LF) Oq rfl trivial rfl (by kernel_rfl) follows λargs=>by
 unfold Oq;split
 ·rename_i n;exact⟨rfl,rfl,rfl,_,_,(ZR LF noY () 0 n).trans (KD n ),rfl⟩
 ·trivial
theorem MF:A9 j5 GX 141 Hk:=xf [] (Q5 LF) Oo rfl trivial rfl (by kernel_rfl) follows λargs=>by
 unfold Oo;split
 ·rename_i d c f;exact λa=>λb=>λe=>⟨rfl,rfl,rfl,_,_,(ZJ LF noY () 0 d c f).trans (KA d c f a b e),rfl⟩
 ·trivial
theorem Bj5:A9 j5 GX 161 MT:=xf [] (NX LF) CZ rfl trivial rfl (by kernel_rfl) follows λargs=>by
 unfold CZ;split
 ·rename_i d;exact λa=>⟨rfl,rfl,rfl,_,_,(A05 LF noY () 0 d).trans (ZQ d a),rfl⟩
 ·trivial
theorem Bj6:A9 j5 GX 172 MY:=xf [] (Ee LF) DE rfl trivial rfl (by kernel_rfl) follows λargs=>by
 unfold DE;split
 ·rename_i b;exact λa=>⟨rfl,rfl,rfl,_,_,(A15 LF noY () 0 b).trans (ZT b a),rfl⟩
 ·trivial
end
section
theorem Ar8:A9 j5 GX 160 Tu:=by
 refine A9.fix (pf:=DD) _ (S8 (C₀:=NZ LF) (G3.ok (l:=[]) rfl trivial) (D4 rfl (by kernel_rfl)) follows ?_);intro args ret a h;unfold DD at h;split at h
 ·rename_i b;obtain⟨rfl,rfl⟩:=I7 h;have e:=(A12 LF noY () 0 b).trans (ZS b );exact⟨rfl,1,_,[],e,rfl,rfl⟩
 ·cases h
theorem XJ:Jz j5 GX 175 Iu:=by
 refine S9 (C₀:=EO LF) (G3.ok (l:=[]) rfl trivial) (D4 rfl (by kernel_rfl)) follows ?_;intro args H ret f h;unfold Iu at h;split at h
 ·rename_i k b;obtain⟨a,h⟩:=D5 h;obtain⟨c,h⟩:=D5 h;obtain⟨rfl,rfl⟩:=I7 h;refine⟨rfl,rfl,λg d s=>?_⟩;have e:=(An0 LF d s 0 k b).trans (RK k b a c);exact⟨1,_,e,rfl⟩
 ·cases h
theorem Bl0:Jz j5 GX 140 CW:=by
 refine S9 (C₀:=Pn LF) (Gu (lx:=[(160,Tu),(161,MT)]) (ly:=[(175,Iu)]) (ls:=[]) rfl rfl rfl ⟨Ar8,Bj5,trivial⟩ ⟨XJ,trivial⟩ trivial) (D4 rfl (by kernel_rfl)) follows ?_;intro args H ret g h;unfold CW at h;split at h
 ·rename_i q b z l;obtain⟨c,h⟩:=D5 h;obtain⟨d,h⟩:=D5 h;obtain⟨e,h⟩:=D5 h;obtain⟨rfl,rfl⟩:=I7 h;obtain⟨i,j,a⟩:=ZL q b z l c d e;exact⟨rfl,rfl,λk f s=>⟨1,_,(Az8 LF f s 0 q b z l).trans (a _ _),rfl⟩⟩
 ·cases h
theorem Ar6:A9 j5 GX 117 MU:=by
 refine A9.fix (pf:=DA) _ (Q0 [0,0] (C₀:=M3 LF) (Gu (lx:=[(139,Hl),(141,Hk)]) (ly:=[(140,CW)]) (ls:=[]) rfl rfl rfl ⟨MG,MF,trivial⟩ ⟨Bl0,trivial⟩ trivial) (D4 rfl (by kernel_rfl)) follows ?_);intro args ret i h;unfold DA at h;split at h
 ·rename_i b a p;obtain⟨d,h⟩:=D5 h;obtain⟨rfl,rfl⟩:=I7 h;obtain⟨g,e,c,f⟩:=A07 b a p d;exact⟨rfl,rfl,rfl,1,g,e,(A06 LF noY () 0 b a p).trans c,f⟩
 ·cases h
end
section
theorem Bk8:Jz j5 GX 158 CC:=by
 refine S9 (C₀:=Pl LF) (Gu (lx:=[(160,Tu),(172,MY)]) (ly:=[(175,Iu)]) (ls:=[]) rfl rfl rfl ⟨Ar8,Bj6,trivial⟩ ⟨XJ,trivial⟩ trivial) (D4 rfl (by kernel_rfl)) follows ?_;intro args H ret k h;unfold CC at h;split at h
 ·rename_i a n i b c z l;obtain⟨e,h⟩:=D5 h;obtain⟨f,h⟩:=D5 h;obtain⟨g,h⟩:=D5 h;obtain⟨rfl,rfl⟩:=I7 h;obtain⟨m,d⟩:=XX a n i b c z l e f g;exact⟨rfl,rfl,λo j s=>⟨1,_,(Av1 LF j s 0 a n i b c z l).trans (d _ _),rfl⟩⟩
 ·cases h
theorem Ar3:A9 j5 GX 64 HO:=xf [] (Ck LF) Ol rfl trivial rfl (by kernel_rfl) follows λargs=>by
 unfold Ol;split
 ·rename_i s c;exact λa=>λb=>⟨rfl,rfl,rfl,_,_,(YK LF noY () 0 s c).trans (JH s c a b),rfl⟩
 ·trivial
theorem HD:A9 j5 GX 43 Lz:=xf [] (EI LF) Tl rfl ⟨Ar3,trivial⟩ rfl (by kernel_rfl) follows λargs=>by
 unfold Tl;split
 ·rename_i s c;exact λa=>λb=>⟨rfl,rfl,rfl,_,_,(Ak7 LF noY () 0 s c).trans (PN s c a b),rfl⟩
 ·trivial
end
end
end Go.Proofs.YtghjngpjgomdnaaGreatDoor.E
