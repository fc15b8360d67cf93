/-
  Parts of the proof, merged by a program of the prover's own; no condition.
-/
import Derived.Test.YtfkhfkjcidamaaaGreatDoorKMU4
import Derived.BigQuiet
import Derived.Deep.QuietTactic
import Derived.Laws.Runes
import Derived.Shelf.Abstract
import Derived.Test.YtfkhfkjcidamaaaGreatDoorProg
import Derived.WalkKit
import Derived.WideMake
open Eq renaming trans->a8
open Int renaming toNat_natCast->b8,toNat->j4,eq_ofNat_of_zero_le->p6,tmod->v8,tdiv->w6,mul->ac4,mul_comm->ai5
open Bool renaming not_true->b9,not_false->j1,and_eq_true->k9,eq_iff_iff->o7,eq_false_iff->o8,not_eq_true'->x4,false_eq_true->x9,true_and->y7,false_or->ab1,or_eq_true->ab7,and_true->ac6,not_eq_true->af8,not_and->ai4
open List renaming length->j0,drop_of_length_le->j2,length_append->j5,length_cons->j6,length_drop->j7,length_take->o0,drop_zero->o5,getD_eq_getElem?_getD->o6,length_nil->o9,length_map->p9,getD_cons_zero->w8,replicate->x3,getElem?_eq_getElem->x6,takeWhile_cons->x7,length_singleton->y8,append_assoc->y9,contains_cons->aa1,length_eq_zero_iff->aa4,countP_le_length->aa7,take->aa9,all_cons->ab2,any_cons->ab3,mem_cons->ab4,nil_append->ab8,drop->ac1,drop_drop->ac2,isPrefixOf_iff_prefix->ac3,countP_cons_of_neg->ac9,isEmpty_iff->ad0,map->ad1,toArray->ad4,drop_left'->ad6,head?_cons->ad7,isPrefixOf->ad8,map_append->ad9,take_left->ae2,getD_cons_succ->ae7,length_pos_iff->ae8,all->af2,getElem_mem->ag0,not_mem_nil->ag1,take_length->ag2,append_nil->ah2,takeWhile->ah5,isEmpty->ai7
open Go.Proofs.Tryz renaming prog->j8,underlying125->aa2,func124->aa6,underlying9->ab0,ntmps124->ac8,f154->ae6,underlying55->af6,f155->ag3,f174->ag4,f175->ag5,f191->ag6,f193->ag7,f57->ah7,f90->ah8,f93->ah9,f113->ai2,f129->ai3,f45->ai9,f77->aj0,f92->aj1,func84->aj2
open Exists renaming intro->j9
open Nat renaming ble_eq->p4,ble->v7,le_refl->w9,div_le_self->aa0,ble_eq_true_of_le->aa8,add_lt_add_iff_right->ac7,strongRecOn->ae0,le_of_ble_eq_true->ae1,blt_eq->af0,zero_add->af3,zero_le->ag9,mod_lt->ah6,sub_zero->ai8
open Go.Lib renaming decodeL->p5,indexByte->p7,decodeN->aa3,cut->ac5,indexByte_ge->af9,size_eq->ag8,decDigits->ai0
open UInt8 renaming ofNat->x5,toNat_inj->y5,toNat->ah0
open Option renaming bind_some->x8,isSome->ab5,getD_some->ad2
open Option.some renaming injEq->z7,inj->ah3
open Go.MapKept renaming run_getObj_map->aa5,run_findKey->ab9,run_checkKey->ae3,IsKey->ai1
open Go.Utf8 renaming encode->ab6,decode->ae5
open Go.Instr renaming lookup->ac0,mapUpdate->ad5,findNow->ae9,checkKey->ah4
open Array renaming getElem?_eq_none->ad3,toList_push->af1,toList_inj->af7,size_push->ah1
open Go.Result renaming andThen->ae4
open Ne renaming symm->af4
open Go.RowKit.Below renaming refl->af5
open List.Sublist renaming length_le->ai6
namespace Go.Proofs.YtfkhfkjcidamaaaGreatDoor.E
set_option linter.all false
section
open Go Go.Proofs
set_option maxRecDepth 100000
def Ba3{R:Type}{b:By->Option R}(s p:By)(a:A3 s.length=true):Bx7 LF s p b=b (Hu s p):=by
 have:=L7 a;unfold Bx7 Hu;rw[a];cases h:p.isPrefixOf s with
 | false=>simp
 | true=>
  have:p.length<=s.length:=by rw[Fr] at h;simp at h;exact h.1
  simp (disch:=omega)
def Cg9{R:Type}{a:By->Option R}(s p:By)(b:A3 s.length=true):Dn8 LF s p a=a (Hu s p):=by unfold Dn8;rw[b];rfl
def Bp3{R:Type}{e:Int->Option R}(s:By):B11 LF s e=e (P4 s):=by unfold B11 P4 W5 bWs U6 Kz;generalize (s==([104,116,116,112]:List UInt8))=a;generalize (s==([119,115]:List UInt8))=b;generalize (s==([104,116,116,112,115]:List UInt8))=c;generalize (s==([119,115,115]:List UInt8))=d;cases a<;>cases b<;>cases c<;>cases d<;>rfl
def B41(s:By):((P4 s)==(80:Int))=N0 s:=by
 unfold P4 N0;cases (s==W5||s==bWs) with
 | true=>rfl
 | false=>cases (s==U6||s==Kz)<;>rfl
def Bp8{R:Type}{a:Bool->Option R}(s:By):B12 LF s a=a (F3 s):=by unfold B12;rw[Nf,OP]
def Do5(a p:By)(k:Int)(l:By)(v4 c d e f g h i j m:Int)(o:By) :
  ∃r H,D09 LF a p k l v4 c d e f g h i j m o (λn b=>rv (.s (.bool n)) b)=rv r H/\r.stab [] H = .s (.bool (N0 a)):=
 ⟨_,_,rfl,by rw[<-B41];rfl⟩
def ZC:By:=[48,49,50,51,52,53,54,55,56,57,43,45,46]
def Mz(c:UInt8):∀l:By,ltI (p7 l c) 0 = !l.contains c
 | []=>rfl
 | b::r=>by
  have f:=Mz c r;have g:=af9 r c;unfold p7;by_cases h:b=c
  ·subst h;simp[E7]
  ·have e:(b==c)=false:=by simpa using h
   have d:(c==b)=false:=by simpa using af4 h
   rw[aa1,d,ab1,<-f,e];simp only[x9,if_false];by_cases a:p7 r c=-1
   ·rw[a];rfl
   ·have:(p7 r c==-1)=false:=by simpa using a
    rw[this,if_neg (by simp),A6,A6]
def Au2:∀b:UInt8,L6 b=(Q8 b||ZC.contains b):=by
 have:∀n:Fin 256,L6 (x5 n.val)=(Q8 (x5 n.val)||ZC.contains (x5 n.val)):=by decide +kernel
 intro b;have h:=this ⟨b.toNat,b.toNat_lt⟩;simpa using h
def Aw9{R:Type}{c:Unit->Option R}{d:By->Int->Int->Bool->Option R}(s:By)(i:Nat)(b:UInt8)(l:Bool)(n:Int):Gq s (i:Int) (b.toNat:Int) l n c d=if l then d s n i false else if i=0 then c () else if ZC.contains b then d s n i false else c ():=by
 unfold Gq;cases l with
 | true=>rfl
 | false=>
  rw[j1,cond_true,if_neg (by simp)];by_cases a:i=0
  ·subst a;rfl
  ·have f:=b.toNat_lt;rw[show((i:Int)==0)=false by simpa using a,cond_false,F1,cond_true,if_neg a];simp only[vl];rw[Ka];have e:=Mz b ZC;rw[show([48,49,50,51,52,53,54,55,56,57,43,45,46]:List UInt8)=ZC from rfl,e];cases ZC.contains b<;>rfl
def OD{R:Type}{a:Unit->Option R}{c:By->Option R}(s:By)(r:s.length<=1000000000)(n i:Nat)(p:i<s.length) :
  O6 LF (n+1) s (s.length:Int) (i:Int) a c=if Q8 (s.getD i 0) then O6 LF n s s.length ((i+1:Nat):Int) a c else if i=0 then a () else if ZC.contains (s.getD i 0) then O6 LF n s s.length ((i+1:Nat):Int) a c else a ():=by
 have k:A1 ((i:Int)+1)=((i+1:Nat):Int):=by rw[A7];rfl
 rw[O6,A8,F1,D3];simp only[cond_true];generalize s.getD i 0=b;have go:∀l,Gq s (i:Int) (b.toNat:Int) l (s.length:Int) (λ_=>a ()) (λj g h m=>O6 LF n j g (A1 (h+(1:Int))) a c)=if l then O6 LF n s s.length ((i+1:Nat):Int) a c else if i=0 then a () else if ZC.contains b then O6 LF n s s.length ((i+1:Nat):Int) a c else a ():=λl=>by
  rw[Aw9,k]
 have q:Q8 b=((v7 97 b.toNat&&v7 b.toNat 122)||(v7 65 b.toNat&&v7 b.toNat 90)):=rfl;by_cases f:97<=b.toNat
 ·rw[A6,j1,cond_true];by_cases d:b.toNat<=122
  ·rw[A6,j1,cond_true,if_pos (V8.2 (.inl ⟨f,d⟩))];unfold HJ;simp only[k]
  ·rw[A8,b9,cond_false,A6,j1,cond_true,A8,b9];have e:Q8 b=false:=by
    rw[<-af8,V8];omega
   rw[e];exact go false
 ·rw[A8,b9,cond_false];by_cases o:65<=b.toNat
  ·rw[A6,j1,cond_true];have e:Q8 b = !ltI 90 (b.toNat:Int):=by
    rw[o7,V8,x4,Qm];omega
   rw[e];exact go _
  ·rw[A8,b9,cond_false];have e:Q8 b=false:=by
    rw[<-af8,V8];omega
   rw[e];exact go false
def Ch8{R:Type}{k0:Unit->Option R}{k1:By->Option R}(s:By)(d:s.length<=1000000000):∀(r i n:Nat),i+r=s.length->r<n->0<i->
  O6 LF n s (s.length:Int) (i:Int) k0 k1=if (s.drop i).all L6 then k1 s else k0 ():=by
 intro r
 induction r with
 | zero=>
  intro i n b c a;obtain⟨n,rfl⟩:∃m,n=m+1:=⟨n-1,by omega⟩
  rw[O6];rw[A6,j2 (by omega)];rfl
 | succ r e=>
  intro i n b c a;obtain⟨n,rfl⟩:∃m,n=m+1:=⟨n-1,by omega⟩
  rw[OD s d n i (by omega),e (i+1) n (by omega) (by omega) (by omega),D6 s i (by omega),ab2,Au2,if_neg (by omega:¬i=0)];cases Q8 (s.getD i 0) with
  | true=>simp
  | false=>
   cases ZC.contains (s.getD i 0)<;>simp
def Ch9{R:Type}{k0:Bool->Option R}(s:By)(f:A3 s.length=true):C47 LF s k0=k0 (T8 s):=by
 have c:=L7 f;have g:=C5;unfold C47;obtain⟨n,d⟩:∃m,LF=m+1:=⟨LF-1,by omega⟩
 cases s with
 | nil=>
  rw[show @O6 R LF LF = @O6 R LF (n+1) by rw[<-d]];rfl
 | cons b t=>
  rw[show @O6 R LF LF = @O6 R LF (n+1) by rw[<-d]];refine a8 (OD (b::t) c n 0 (by simp)) ?_;have e:=Ch8 (k0:=λ_=>k0 false) (k1:=λa=>k0 (not (a==([]:List UInt8)))) (b::t) c t.length 1 n (by simp;omega) (by simp at c;omega) (by omega);rw[w8];simp only[af3,if_true];rw[show(((0+1:Nat):Int))=((1:Nat):Int) from rfl,e];rw[show(b::t).drop 1=t from rfl,show T8 (b::t)=(Q8 b&&t.all L6) from rfl];cases Q8 b with
  | false=>rfl
  | true=>cases t.all L6<;>rfl
def ZD:∀(s:By) (n:Int),FY.go n s=(Cd n s).getD 0
 | [],n=>rfl
 | b::r,n=>by
  unfold FY.go Cd;split
  ·exact ZD r _
  ·rfl
def Ch1{R:Type}{a:Unit->Option R}{c:Int->Option R}(s:By)(y:s.length<=1000000000):∀(r i n:Nat) (v:Int),i+r=s.length->r<n->-1<=v->v<=65536->
  Og LF n s v (s.length:Int) (i:Int) a c=match Cd v (s.drop i) with|some m=>c m|none=>a ():=by
 intro r
 induction r with
 | zero=>
  intro i n v p q j k;obtain⟨n,rfl⟩:∃m,n=m+1:=⟨n-1,by omega⟩
  rw[Og];rw[A6,j2 (by omega)];rfl
 | succ r t=>
  intro i n v p q j k;obtain⟨n,rfl⟩:∃m,n=m+1:=⟨n-1,by omega⟩
  have d:A1 ((i:Int)+1)=((i+1:Nat):Int):=by rw[A7];rfl
  rw[Og];rw[A8,F1,D3,D6 s i (by omega),d];have x:=(s.getD i 0).toNat_lt;generalize s.getD i 0=b at *;unfold Cd;simp only[cond_true,vl];by_cases l:b.toNat<48
  ·rw[A8,cond_true,G0]
  ·rw[A6,cond_false];by_cases o:57<b.toNat
   ·rw[A8,cond_true,G0]
   ·rw[A6,cond_false,if_pos (show 48<=b.toNat/\b.toNat<=57 by omega)];have u:(if (0:Int) > v then (0:Int) else v)=max v 0:=by omega
    have e:A1 (10*max v 0)=10*max v 0:=A7;have f:wu8 ((b.toNat:Int)-48)=((b.toNat-48:Nat):Int):=by rw[N2];omega
    have g:A1 ((b.toNat-48:Nat):Int)=((b.toNat-48:Nat):Int):=A7;have h:A1 (10*max v 0+((b.toNat-48:Nat):Int))=10*max v 0+((b.toNat-48:Nat):Int):=A7;rw[u,e,f,g,h];have w:(if (65536:Int)<10*max v 0+((b.toNat-48:Nat):Int) then (65536:Int) else 10*max v 0+((b.toNat-48:Nat):Int))=min (10*max v 0+((b.toNat-48:Nat):Int)) 65536:=by omega
    rw[w];exact t (i+1) n _ (by omega) (by omega) (by omega) (by omega)
def Ch2{R:Type}{a:Int->Bool->Option R}(s:By)(b:A3 s.length=true):Do6 LF s a=a (FY s) (Ic (-1) s).isSome:=by
 have d:=L7 b;have c:=C5;unfold Do6;refine a8 (Ch1 s d s.length 0 LF (-1) (by omega) (by omega) (by omega) (by omega)) ?_;rw[o5,GP,show FY s=FY.go (-1) s from rfl,ZD];cases Cd (-1) s with
 | none=>rfl
 | some m=>
  simp only[ad2,x8];rw[Nf];by_cases h:m<65536
  ·rw[decide_eq_true h,if_pos h];rfl
  ·rw[decide_eq_false h,if_neg h];rfl
def Cv3{s:By}{p:Int}(h:Ic (-1) s=some p):FY s=p:=by
 rw[GP] at h;rw[show FY s=FY.go (-1) s from rfl,ZD];cases a:Cd (-1) s with
 | none=>rw[a] at h;cases h
 | some m=>
  rw[a] at h;simp only[x8] at h;split at h
  ·exact ah3 h
  ·cases h
def hpT(name tail b user a:By):P7 × Nat:=
 if (C3 name).2≠0 then (Y6,(C3 name).2)
 else match Ic (-1) (tail.drop 1) with
  | none=>(Y6,16)
  | some p=>(⟨b,user,(C3 name).1,if p=P4 b then -1 else p,a⟩,0)
def hpC(name tail b user a:By):P7 × Nat:=if tail≠[]/\tail.head?≠some 58 then (Y6,4) else hpT name tail b user a
def Xm(c user b a:By):N6 c user b a=match Fc a with|none=>(Y6,4)|some (name,tail)=>hpC name tail c user b:=by
 unfold N6;cases Fc a with
 | none=>rfl
 | some q=>
  obtain⟨name,tail⟩:=q;rfl
def Uv{t:By}(h:t=[]\/t.head? = some 58):Hu t [58]=t.drop 1:=by
 rcases h with rfl|h
 ·rfl
 ·cases t with
  | nil=>cases h
  | cons b r=>
   simp only[ad7,z7] at h;subst h;simp[Hu]
def Zr(name tail:By)(f:name.length<=1000000000)(j:tail.length<=1000000000)(h:tail=[]\/tail.head? = some 58)(d u:By)(v:Int)(y:By)(w n8 x k l m n o r:Int)(c:By) :
  ∃B H,∀(R:Type) (a:Int->Blk->By->By->Int->By->Int->Int->Int->Int->Int->Int->Int->Int->Int->Int->By->List Blk->Option R),X9 name tail d u v y w n8 x k l m n o r (-1) c a=(λq=>a (uE q) B (uS q) (uU q) (uK q) (uN q) (uV q) (uA q 0) (uA q 1) (uA q 2) (uA q 3) (uA q 4) (uA q 5) (uA q 6) (uA q 7) (uP q) (uR q) H) (hpT name tail d u c):=by
 have i:(tail.drop 1).length<=1000000000:=by rw[j7];omega
 by_cases b:(C3 name).2=0
 ·cases g:Ic (-1) (tail.drop 1) with
  | none=>
   apply j9;apply j9;intro R a;unfold X9 hpT;rw[D9 f,cond_true,Uv h,D9 j];simp only[vl,cond_true];rw[b,D9 i,g];rfl
  | some p=>
   have t:=Cv3 g;by_cases e:p=P4 d
   ·apply j9;apply j9;intro R a;unfold X9 hpT;rw[D9 f,cond_true,Uv h,D9 j];simp only[vl,cond_true];rw[b,D9 i,g,t,show(p !=P4 d)=false by simpa using e];simp only[e,if_true];rfl
   ·apply j9;apply j9;intro R a;unfold X9 hpT;rw[D9 f,cond_true,Uv h,D9 j];simp only[vl,cond_true];rw[b,D9 i,g,t,show(p !=P4 d)=true by simpa using e];simp only[e,if_false];rfl
 ·apply j9;apply j9;intro R a;unfold X9 hpT;rw[D9 f,cond_true];simp only[vl];rw[show(((C3 name).2:Int)!=0)=true by simpa using b,cond_true,if_pos b];rfl
def Oh(name tail:By)(w:name.length<=1000000000)(x:tail.length<=1000000000)(l m:By)(p:Int)(v:By)(t n8 u d f g i j k:Int)(a:By) :
  ∃B H,∀(R:Type) (c:Int->Blk->By->By->Int->By->Int->Int->Int->Int->Int->Int->Int->Int->Int->Int->By->List Blk->Option R),R4 name tail l m p v t n8 u d f g i j k (-1) a c=(λq=>c (uE q) B (uS q) (uU q) (uK q) (uN q) (uV q) (uA q 0) (uA q 1) (uA q 2) (uA q 3) (uA q 4) (uA q 5) (uA q 6) (uA q 7) (uP q) (uR q) H) (hpC name tail l m a):=by
 cases tail with
 | nil=>
  obtain⟨B,H,e⟩:=Zr name [] w x (.inl rfl) l m p v t n8 u d f g i j k a;refine⟨B,H,λR c=>?_⟩;unfold R4 hpC;exact e R c
 | cons b r=>
  by_cases n:b=58
  ·subst n;obtain⟨B,H,e⟩:=Zr name (58::r) w x (.inr rfl) l m p v t n8 u d f g i j k a;refine⟨B,H,λR c=>?_⟩;unfold R4 hpC;rw[K8 (by omega) (by simp),if_neg (by simp)];exact e R c
  ·apply j9;apply j9;intro R c;unfold R4 hpC;have o:(((b.toNat:Int))!=(58:Int))=true:=by
    rw[bne_iff_ne];intro h;have y:b.toNat=58:=by omega
    exact n (y5.1 y)
   rw[K8 (by omega) (by simp),if_pos (by simpa using n),Ba,w8,o];rfl
def Bw7{c:UInt8}{s:By}(h:Hz c s=none):p7 s c=-1:=by rw[Kj,h]
def YN{c:UInt8}{s:By}{k:Nat}(h:Hz c s=some k):p7 s c=(k:Int)/\k<s.length:=by obtain⟨p,r,rfl,_,rfl⟩:=Rw h;exact⟨by rw[Kj,h],by simp⟩
def Dz8(c:UInt8)(s:By):([c]:By).isPrefixOf s=(s.head? == some c):=by
 cases s with
 | nil=>rfl
 | cons b r=>
  grind
abbrev KU(R:Type):=By->By->Int->By->Int->Int->Int->Int->Int->Int->Int->Int->Int->Int->By->Int->List Blk->Option R
abbrev KQ{R:Type}(a:KU R)(q:P7 × Nat)(H:List Blk):Option R:=a (uS q) (uU q) (uK q) (uN q) (uV q) (uA q 0) (uA q 1) (uA q 2) (uA q 3) (uA q 4) (uA q 5) (uA q 6) (uA q 7) (uP q) (uR q) (uE q) H
def Bp1(u:By)(J:Int)(O:By)(v4 y z A C D F G I:Int)(t a:By)(h2:A3 a.length=true) :
  ∃H,∀(R:Type) (o:KU R),Vz LF u [] J O v4 y z A C D F G I (-1) t a o=KQ o (G6 u t a) H:=by
 have ha:=L7 h2;have ge:=LW 64 a;have key:∀(x b:By),b.length<=1000000000->∃H,∀(R:Type) (o:KU R),(cond (A3 (j0 b)) (cond (ad8 (([91]:List UInt8)) b)
   (cond (A3 (j0 b))
    (vl (p7 b (u8n (93:Int))) λc=>
    cond (ltI c (0:Int))
     (o ([]:List UInt8) ([]:List UInt8) 0 ([]:List UInt8) 0 0 0 0 0 0 0 0 0 0 ([]:List UInt8) 4 [(bU u x J O v4 y z A C D F G I (-1) t),bU0])
     (cond (J0 (0:Int) (A1 (c+(1:Int))) (j0 b))
      (cond (J0 (A1 (c+(1:Int))) (↑(j0 b):Int) (j0 b))
       (R4 (cut b (0:Int) (A1 (c+(1:Int)))) (cut b (A1 (c+(1:Int))) (↑(j0 b):Int)) u x J O v4 y z A C D F G I (-1) t (λn0 T P Q K S L M n8 N f g i j l m n q=>o P Q K S L M n8 N f g i j l m n n0 (T::((bU P Q K S L M n8 N f g i j l m n)::q))))
       (none))
      (none)))
    (none))
   (cond (A3 (j0 b))
    (vl (p7 b (u8n (58:Int))) λd=>
    cond (not (ltI d (0:Int)))
     (cond (J0 (0:Int) d (j0 b))
      (cond (J0 d (↑(j0 b):Int) (j0 b))
       (R4 (cut b (0:Int) d) (cut b d (↑(j0 b):Int)) u x J O v4 y z A C D F G I (-1) t (λn0 T P Q K S L M n8 N f g i j l m n q=>o P Q K S L M n8 N f g i j l m n n0 (T::((bU P Q K S L M n8 N f g i j l m n)::q))))
      (none))
     (none))
     (R4 b ([]:List UInt8) u x J O v4 y z A C D F G I (-1) t (λn0 T P Q K S L M n8 N f g i j l m n q=>o P Q K S L M n8 N f g i j l m n n0 (T::((bU P Q K S L M n8 N f g i j l m n)::q)))))
    (none))) none)=KQ o (N6 u x t b) H:=by
  intro x b hb;rw[Xm];unfold Fc;have w:A3 b.length=true:=D9 hb;have W:u8n (93:Int)=93:=rfl;have U:u8n (58:Int)=58:=rfl;by_cases v:b.head? = some 91
  ·rw[if_pos v];have Z:([91]:By).isPrefixOf b=true:=by rw[Dz8,v];rfl
   cases Y:Hz 93 b with
   | none=>
    apply j9;intro R o;rw[w,Z,W,Bw7 Y];rfl
   | some k=>
    obtain⟨e,hk⟩:=YN Y;have e1:A1 ((k:Int)+1)=((k+1:Nat):Int):=by rw[A7];rfl
    obtain⟨B,H,X⟩:=Oh (b.take (k+1)) (b.drop (k+1)) (by rw[o0];omega) (by rw[j7];omega) u x J O v4 y z A C D F G I t;apply j9;intro R o;rw[w,Z,W,e];simp only[vl,cond_true];rw[A6,cond_false,e1,I3,I3,cond_true,cond_true,L1,Q5,b8,X]
  ·rw[if_neg v];have Z:([91]:By).isPrefixOf b=false:=by rw[Dz8];simpa using v
   cases Y:Hz 58 b with
   | none=>
    obtain⟨B,H,X⟩:=Oh b [] hb (by simp) u x J O v4 y z A C D F G I t;apply j9;intro R o;rw[w,Z,U,Bw7 Y];simp only[vl,cond_true,cond_false];rw[A8,b9,cond_false,X]
   | some k=>
    obtain⟨e,hk⟩:=YN Y;obtain⟨B,H,X⟩:=Oh (b.take k) (b.drop k) (by rw[o0];omega) (by rw[j7];omega) u x J O v4 y z A C D F G I t;apply j9;intro R o;rw[w,Z,U,e];simp only[vl,cond_true,cond_false];rw[A6,j1,cond_true,I3,I3,cond_true,cond_true,L1,Q5,b8,X]
 have V:u8n (64:Int)=64:=rfl;unfold G6;by_cases h:0<=L2 64 a
 ·obtain⟨p,r,rfl,_,hl⟩:=LY h;rw[if_pos h,hl,b8];rw[j5,j6] at ha;obtain⟨H,e⟩:=key ((p++64::r).take p.length) ((p++64::r).drop (p.length+1)) (by rw[j7,j5,j6];omega);refine⟨H,λR o=>?_⟩;refine a8 ?_ (e R o);have e1:A1 ((p.length:Int)+1)=((p.length+1:Nat):Int):=by rw[A7];rfl
  have ln:(p++64::r).length=p.length+r.length+1:=by rw[j5,j6];omega
  unfold Vz;rw[h2,V,hl];simp only[vl,cond_true];rw[A6,j1,cond_true,e1,I3,I3,cond_true,cond_true,L1,Q5,b8,b8];rfl
 ·rw[if_neg h];obtain⟨H,e⟩:=key [] a ha;refine⟨H,λR o=>?_⟩;refine a8 ?_ (e R o);unfold Vz;rw[h2,V];simp only[vl,cond_true];rw[A8,b9,cond_false];rfl
def Tru(x:Option (PV × List Blk × Unit)):Prop:=∃H,x=some (.s (.bool true),H,())
def eq8{v6:List Nat}(h:v6.length=8):∃a b c d e f g i,v6=[a,b,c,d,e,f,g,i]:=by
 match v6,h with
 | [a,b,c,d,e,f,g,i],_=>exact⟨a,b,c,d,e,f,g,i,rfl⟩
def Di0{a b c d e f g i:Nat}(h:∀x∈[a,b,c,d,e,f,g,i],x<65536):ok8 a b c d e f g i=true:=by
 have q:∀x∈[a,b,c,d,e,f,g,i],ltN (x:Int) 65536=true:=λx j=>E3.2 ⟨by omega,by have:=h x j;omega⟩
 simp[ok8,q a,q b,q c,q d,q e,q f,q g,q i]
def FT{h:B5}(a:K4 h=true):h.name.length<=253:=by
 unfold K4 at a;split at a
 ·simp only[k9] at a;exact(Jc.1 a.1.1).le
 ·split at a
  ·simp only[k9,ad0] at a;rw[a.1];simp
  ·split at a
   ·simp only[k9,ad0] at a;rw[a.1];simp
   ·cases a
def Qd{h:B5}(ok:Dj h):(S8 h).length<=300:=by
 cases a:K4 h with
 | false=>rw[LI a];simp
 | true=>
  have d:=FT a;have c:=Bq3 _ ok.v6.1 ok.v6.2;have b:=C51 _ ok.v4;unfold S8;rw[if_pos a];split
  ·omega
  ·split
   ·omega
   ·simp only[j6,j5,o9];omega
def GM{h0 b c d e f g i j a:Int}{h1:By}(k:ltN b 4294967296=true)(l:ok8 c d e f g i j a=true):Dj (mkH h0 h1 b (n8 c d e f g i j a)):=by
 have⟨m,n⟩:=E3.1 k;refine⟨by show b.toNat<_;omega,Dv6 l,?_⟩;show(if ltN h0 4 then h0.toNat else 0)<4;split
 ·rename_i h;have:=E3.1 h;omega
 ·omega
def Ch6(c z:By)(x:Int)(y:By)(v4 m n o p t u v w k:Int)(b a:By)(O:A3 c.length=true)(P:A3 b.length=true)(A:A3 a.length=true)(B:z.isEmpty=true)(C:(k==-1)=true) :
  ∃r H,Vz LF c z x y v4 m n o p t u v w k b a (λL M D N F G I J n8 K f g h i l j d=>rv (.tup [gU L M D N F G I J n8 K f g h i l,.s (.int .i64 j)]) d)=rv r H/\
   r.stab [0,0] H=(λq=>.tup [gU (uS q) (uU q) (uK q) (uN q) (uV q) (uA q 0) (uA q 1) (uA q 2) (uA q 3) (uA q 4) (uA q 5) (uA q 6) (uA q 7) (uP q) (uR q),.s (.int .i64 (uE q))]) (G6 c b a):=by
 obtain rfl:=ad0.1 B;obtain rfl:k=-1:=by simpa using C
 obtain⟨H,e⟩:=Bp1 c x y v4 m n o p t u v w b a A;exact⟨_,_,e _ _,rfl⟩
def Bv5(b:UInt8):ctl b=(!ltI 32 (b.toNat:Int)||((b.toNat:Int)==127)):=by rw[o7,Wq,ab7,x4,Qm,beq_iff_eq];omega
def Ch7{R:Type}{a:List Blk->Option R}{b:By->Option R}(s:By)(g:s.length<=1000000000):∀(r i n:Nat),i+r=s.length->r<n->
  Kb LF n s (s.length:Int) (i:Int) a b=if (s.drop i).any ctl then a [] else b s:=by
 intro r
 induction r with
 | zero=>
  intro i n d e;obtain⟨n,rfl⟩:∃m,n=m+1:=⟨n-1,by omega⟩
  rw[Kb];rw[A6,j2 (by omega)];rfl
 | succ r f=>
  intro i n d e;obtain⟨n,rfl⟩:∃m,n=m+1:=⟨n-1,by omega⟩
  have c:A1 ((i:Int)+1)=((i+1:Nat):Int):=by rw[A7];rfl
  rw[Kb];rw[A8,F1,D3,D6 s i (by omega),c,ab3,Bv5];simp only[cond_true];rw[f (i+1) n (by omega) (by omega)];cases ltI 32 ((s.getD i 0).toNat:Int) with
  | false=>rfl
  | true=>cases (((s.getD i 0).toNat:Int)==127)<;>rfl
def C46(s:By)(i:A3 s.length=true):∃H,∀(R:Type) (a:KU R),PQ LF s a=KQ a (C0 s) H:=by
 have y:=L7 i;have v:=C5;have L:∀{R:Type} (a:List Blk->Option R) (l:By->Option R),Kb LF LF s (s.length:Int) 0 a l=if s.any ctl then a [] else l s:=λa l=>Ch7 s y s.length 0 LF (by omega) (by omega)
 unfold C0;by_cases h:s.any ctl=true
 ·rw[if_pos h];apply j9;intro R a;unfold PQ;rw[L,if_pos h];rfl
 rw[if_neg h];rcases P0 58 s with b|⟨p,r,rfl,b⟩
 ·apply j9;intro R a;unfold PQ;rw[L,if_neg h,i,Gv b];rfl
 have B:(p++58::r).length=p.length+r.length+1:=by rw[j5,j6];omega
 have sp:A3 p.length=true:=K3;have o:A3 r.length=true:=K3;rw[T4 b];simp only[b9,ab1];cases c:T8 p with
 | false=>
  apply j9;intro R a;unfold PQ;rw[L,if_neg h,i,T4 b];simp only[vl,cond_true,b9,cond_false];rw[sp,c];rfl
 | true=>
 rw[if_neg (by simp)];cases f:F3 (B6 p) with
 | false=>
  apply j9;intro R a;unfold PQ;rw[L,if_neg h,i,T4 b];simp only[vl,cond_true,b9,cond_false];rw[sp,c,f];rfl
 | true=>
 rw[if_neg (by simp)];cases Qg:([47,47]:By).isPrefixOf r with
 | false=>
  apply j9;intro R a;unfold PQ;rw[L,if_neg h,i,T4 b];simp only[vl,cond_true,b9,cond_false];rw[sp,c,f,o,Qg];rfl
 | true=>
 rw[if_neg (by simp)];have j:Hu r [47,47]=r.drop 2:=by unfold Hu;rw[Qg,if_pos rfl];rfl
 generalize m:r.drop 2=t;rw[m] at j;have lt:t.length<=r.length:=by rw[<-m,j7];omega
 have u:A3 t.length=true:=K3;have z:=Zi t;have sl:A3 (B6 p).length=true:=by rw[Ag];exact sp
 have tail:∀(R:Type) (a:KU R) (X d:By),X.length<=t.length->d.length<=t.length->
   (cond (A3 (j0 X))
    (cond (not (ad8 (([47]:List UInt8)) X))
     (cond (E6 1 (j0 X))
     (cond (A3 (j0 (B6 p)))
      (cond (A3 (j0 (([47]:List UInt8)++X)))
       (cond (A3 (j0 d))
       (cond (((-1):Int)==((-1):Int))
        (KQ a (G6 (B6 p) (([47]:List UInt8)++X) d) ((λq=>[bU (uS q) (uU q) (uK q) (uN q) (uV q) (uA q 0) (uA q 1) (uA q 2) (uA q 3) (uA q 4) (uA q 5) (uA q 6) (uA q 7) (uP q) (uR q),bU (B6 p) [] 0 [] 0 0 0 0 0 0 0 0 0 (-1) (([47]:List UInt8)++X)]) (G6 (B6 p) (([47]:List UInt8)++X) d)))
        (none))
       (none))
       (none))
      (none))
     (none))
     (cond (A3 (j0 (B6 p)))
     (cond (A3 (j0 X))
      (cond (A3 (j0 d))
      (cond (((-1):Int)==((-1):Int))
       (KQ a (G6 (B6 p) X d) ((λq=>[bU (uS q) (uU q) (uK q) (uN q) (uV q) (uA q 0) (uA q 1) (uA q 2) (uA q 3) (uA q 4) (uA q 5) (uA q 6) (uA q 7) (uP q) (uR q),bU (B6 p) [] 0 [] 0 0 0 0 0 0 0 0 0 (-1) X]) (G6 (B6 p) X d)))
       (none))
      (none))
      (none))
     (none)))
    none)=KQ a (G6 (B6 p) (R0 X) d) ((λq=>[bU (uS q) (uU q) (uK q) (uN q) (uV q) (uA q 0) (uA q 1) (uA q 2) (uA q 3) (uA q 4) (uA q 5) (uA q 6) (uA q 7) (uP q) (uR q),bU (B6 p) [] 0 [] 0 0 0 0 0 0 0 0 0 (-1) (R0 X)]) (G6 (B6 p) (R0 X) d)):=by
  intro R a X d A w;rw[K3,sl,Dz8,D9 (n:=d.length) (by omega)];unfold R0;by_cases g:X.head? = some 47
  ·rw[if_pos g,g];rfl
  ·have e:(X.head? == some 47)=false:=by simpa using g
   rw[if_neg g,e,G3 (by omega),D9 (by simp;omega)];rfl
 refine⟨(λX=>(λq=>[bU (uS q) (uU q) (uK q) (uN q) (uV q) (uA q 0) (uA q 1) (uA q 2) (uA q 3) (uA q 4) (uA q 5) (uA q 6) (uA q 7) (uP q) (uR q),bU (B6 p) [] 0 [] 0 0 0 0 0 0 0 0 0 (-1) (R0 X)]) (G6 (B6 p) (R0 X) (t.take (I6 t)))) (t.drop (I6 t)),λR a=>?_⟩;refine a8 ?_ (tail R a (t.drop (I6 t)) (t.take (I6 t)) (by rw[j7];omega) (by rw[o0];omega));unfold PQ;rw[L,if_neg h,i,T4 b];simp only[vl,cond_true,b9,cond_false];rw[sp,c,f,o,Qg,j,u];rw[show CJ ([47,63,35]:List UInt8)=true from rfl,show([47,63,35]:List UInt8)=isl from rfl,Ki];simp only[cond_true,b9,cond_false];by_cases k:I6 t<t.length
 ·rw[if_pos k,A6,j1,cond_true,L1,b8,o0,Nat.min_eq_left (by omega),I3,I3,Q5,b8];rfl
 ·have x:I6 t=t.length:=by omega
  rw[if_neg k,A8,b9,cond_false,I3,Q5,b8,x,ag2,u];rfl
abbrev rvU(n o:By)(h:Int)(p:By)(i j k l n8 m b c d e:Int)(g:By)(f:Int)(a:List Blk):=rv (.tup [gU n o h p i j k l n8 m b c d e g,.s (.int .i64 f)]) a
abbrev pvU(q:P7 × Nat):PV:=.tup [gU (uS q) (uU q) (uK q) (uN q) (uV q) (uA q 0) (uA q 1) (uA q 2) (uA q 3) (uA q 4) (uA q 5) (uA q 6) (uA q 7) (uP q) (uR q),.s (.int .i64 (uE q))]
def Do9(s:By)(a:A3 s.length=true):∃r H,PQ LF s rvU=rv r H/\r.stab [0,0] H=pvU (C0 s):=by obtain⟨H,e⟩:=C46 s a;exact⟨_,_,e _ _,rfl⟩
def CL{p:Int}(h:Q1 p=true):(V3 p).length<=20:=by
 obtain⟨a,b⟩:=Xo.1 h;unfold V3;split
 ·have:=Gw 19 (-p).toNat (by omega) (by omega);rw[j6];omega
 ·have:=Gw 19 p.toNat (by omega) (by omega);omega
def EI(b:Int)(c:By)(v4:Int)(a:List Nat):S8 (mkH b c v4 a)=S8 (Cu4 b c v4 a):=by
 unfold mkH Cu4;cases h:ltN b 4 with
 | true=>rfl
 | false=>
  rw[if_neg (by simp),if_neg (by simp),LI (by rfl),LI (by rfl)]
def Jx{c d a b:By}(h:smU c d a b=true):c.length<=100000000/\d.length<=100000000/\a.length<=100000000/\b.length<=100000000:=by simp only[smU,k9,p4,and_assoc] at h;exact h
def DN{l m:By}{kd:Int}{a:By}{v4 b c d e f g h i j:Int}{k:By}(h0:smU l m a k=true)(h1:ltN v4 4294967296=true)(n:ok8 b c d e f g h i=true)(o:Q1 j=true) :
  (U0 (mkU l m kd a v4 (n8 b c d e f g h i) j k)).length<=400000000:=by
 obtain⟨r,t,u,v⟩:=Jx h0;have p:=Qd (GM (h0:=kd) (h1:=a) h1 n);rw[EI] at p;have q:=CL o;unfold U0 mkU Ky;simp only;split
 ·split<;>split<;>simp only[j5,j6,o9]<;>omega
 ·simp only[j5,j6];omega
def C50(c n:By)(m:Int)(a:By)(v4 e f g h i j k l b:Int)(d:By)(h0:smU c n a d=true)(h1:ltN v4 4294967296=true)(t:ok8 e f g h i j k l=true)(x:Q1 b=true) :
  ∃r H,Tg LF c n m a v4 e f g h i j k l b d (λu q=>rv (.s (.str u)) q)=rv r H/\r.stab [] H = .s (.str (U0 (mkU c n m a v4 (n8 e f g h i j k l) b d))):=by
 obtain⟨D,F,G,I⟩:=Jx h0;have A:=Qd (GM (h0:=m) (h1:=a) h1 t);have C:=CL x;have key:∀T:By,Tg LF c n m a v4 e f g h i j k l b d (λu q=>rv (.s (.str u)) q)=rv (.s (.str T)) [bU c n m a v4 e f g h i j k l b d]->T=U0 (mkU c n m a v4 (n8 e f g h i j k l) b d)->∃r H,Tg LF c n m a v4 e f g h i j k l b d (λu q=>rv (.s (.str u)) q)=rv r H/\r.stab [] H = .s (.str (U0 (mkU c n m a v4 (n8 e f g h i j k l) b d))):=λT y z=>⟨_,_,y,by rw[<-z];rfl⟩
 have w:A3 a.length=true:=K3;cases o:F3 c with
 | false=>
  refine key (c++[58]++d) ?_ ?_
  ·unfold Tg;rw[o,G3 (by omega)];simp only[vl,cond_true,j1];rw[G3 (by simp;omega)];rfl
  ·unfold U0 mkU;simp only[o];simp
 | true=>
  have B:=A;by_cases v:n=[]
  ·subst v;have e0:(([]:By)==([]:List UInt8))=true:=rfl;by_cases p:b=-1
   ·subst p;refine key (((c++[58,47,47])++S8 (mkH m a v4 (n8 e f g h i j k l)))++d) ?_ ?_
    ·unfold Tg;rw[o,w,h1,t,e0];simp only[vl,cond_true,cond_false,b9,show((-1:Int)!=-1)=false from rfl]
     repeat rw[G3 (by first|omega|(simp only[j5,j6,o9];omega))]
     rfl
    ·unfold U0 mkU Ky;simp[o,EI]
   ·refine key (((c++[58,47,47])++S8 (mkH m a v4 (n8 e f g h i j k l)))++([58]++V3 b)++d) ?_ ?_
    ·unfold Tg;rw[o,w,h1,t,x,e0];simp only[vl,cond_true,cond_false,b9,show(b !=-1)=true by simpa using p]
     repeat rw[G3 (by first|omega|(simp only[j5,j6,o9];omega))]
     rfl
    ·unfold U0 mkU Ky;simp[o,EI,p]
  ·have e0:(n==([]:List UInt8))=false:=by simpa using v
   by_cases p:b=-1
   ·subst p;refine key (((c++[58,47,47])++(n++[64])++S8 (mkH m a v4 (n8 e f g h i j k l)))++d) ?_ ?_
    ·unfold Tg;rw[o,w,h1,t,e0];simp only[vl,cond_true,cond_false,b9,j1,show((-1:Int)!=-1)=false from rfl]
     repeat rw[G3 (by first|omega|(simp only[j5,j6,o9];omega))]
     rfl
    ·unfold U0 mkU Ky;simp[o,EI,v]
   ·refine key (((c++[58,47,47])++(n++[64])++S8 (mkH m a v4 (n8 e f g h i j k l)))++([58]++V3 b)++d) ?_ ?_
    ·unfold Tg;rw[o,w,h1,t,x,e0];simp only[vl,cond_true,cond_false,b9,j1,show(b !=-1)=true by simpa using p]
     repeat rw[G3 (by first|omega|(simp only[j5,j6,o9];omega))]
     rfl
    ·unfold U0 mkU Ky;simp[o,EI,p,v]
def Df7{a:Int}{k:Nat}(d:k<4):(a==(k:Int))=(k==(if ltN a 4 then a.toNat else 4)):=by
 rw[o7,beq_iff_eq,beq_iff_eq];cases h:ltN a 4 with
 | true=>
  obtain⟨b,c⟩:=E3.1 h;rw[if_pos rfl];omega
 | false=>
  rw[if_neg (by simp)];have:¬(0<=a/\a<4):=λq=>by
   have:=E3.2 q;rw[h] at this;cases this
  omega
def Pv(a b:By):(a==b)=(b==a):=by rw[o7,beq_iff_eq,beq_iff_eq];exact eq_comm
def Bi(a b:Int):(a==b)=(b==a):=by rw[o7,beq_iff_eq,beq_iff_eq];exact eq_comm
def Gf(a b:Nat):((a:Int)==(b:Int))=(b==a):=by rw[o7,beq_iff_eq,beq_iff_eq];omega
def QO{sc us:By}{kd:Int}{nm:By}{v4 a b c d f g h i po:Int}{re:By}{p:P7 × Nat}(L:ltN v4 4294967296=true)(M:ok8 a b c d f g h i=true)(P:Ae9 p.1) :
  ((sc==(uS p))&&((us==(uU p))&&((kd==(uK p))&&((nm==(uN p))&&((v4==(uV p))&&((a==(uA p 0))&&((b==(uA p 1))&&((c==(uA p 2))&&((d==(uA p 3))&&((f==(uA p 4))&&((g==(uA p 5))&&((h==(uA p 6))&&((i==(uA p 7))&&((po==(uP p))&&((re==(uR p))&&true)))))))))))))))=eqU p.1 (mkU sc us kd nm v4 (n8 a b c d f g h i) po re):=by
 obtain⟨⟨s,u,⟨k,n,v,l⟩,q,t⟩,e⟩:=p;obtain⟨K,_⟩:=P;obtain⟨B,C,D,F,G,H,I,J,rfl⟩:=eq8 K.v6.1;obtain⟨j,m,o,r,x,y,z,A,rfl,rfl,rfl,rfl,rfl,rfl,rfl,rfl,_⟩:=Rz M;obtain⟨w,rfl⟩:=p6 (E3.1 L).1;have N:k<4:=K.kd;have O:(([B,C,D,F,G,H,I,J]:List Nat)==[j,m,o,r,x,y,z,A])=((B==j)&&((C==m)&&((D==o)&&((F==r)&&((G==x)&&((H==y)&&((I==z)&&((J==A)&&true)))))))):=rfl;simp only[eqU,eqH,mkU,Cu4,n8,b8,O,w8,ae7];rw[Df7 N,Pv sc,Pv us,Pv nm,Pv re,Bi po,Gf w,Gf j,Gf m,Gf o,Gf r,Gf x,Gf y,Gf z,Gf A];simp only[Bool.and_assoc,ac6];rfl
def Bq0(m n:By)(kd:Int)(j:By)(v4 a b c d f g h i k:Int)(l:By)(u:smU m n j l=true)(o:ltN v4 4294967296=true)(q:ok8 a b c d f g h i=true)(v:Q1 k=true) :
  ∃r H,HK LF m n kd j v4 a b c d f g h i k l (λz w=>rv (.s (.bool z)) w)=rv r H/\r.stab [] H = .s (.bool (P2 (mkU m n kd j v4 (n8 a b c d f g h i) k l))):=by
 have A:=DN (kd:=kd) u o q v;unfold HK P2;rw[u,o,q,v];simp only[vl,cond_true];rw[K3,cond_true];have x:=Qr (U0 (mkU m n kd j v4 (n8 a b c d f g h i) k l));rw[QO o q x];generalize C0 (U0 (mkU m n kd j v4 (n8 a b c d f g h i) k l))=p;obtain⟨y,e⟩:=p;by_cases t:e=0
 ·subst t;exact⟨_,_,rfl,rfl⟩
 ·rw[show(uE (y,e)==(0:Int))=false by simpa using t,show(e==0)=false by simpa using t];exact⟨_,_,rfl,rfl⟩
def Do3(l m:By)(n:Int)(i:By)(v4 a b c d e f g h j:Int)(k:By)(p:smU l m i k=true)(q:ltN v4 4294967296=true)(t:ok8 a b c d e f g h=true)(u:Q1 j=true) :
  ∃r H,Do1 LF l m n i v4 a b c d e f g h j k (λv o=>rv (.s (.str v)) o)=rv r H/\r.stab [] H = .s (.str (Fq (mkU l m n i v4 (n8 a b c d e f g h) j k))):=by
 unfold Do1 Fq;rw[p,q,t,u];cases P2 (mkU l m n i v4 (n8 a b c d e f g h) j k) with
 | false=>exact⟨_,_,rfl,rfl⟩
 | true=>exact⟨_,_,rfl,rfl⟩
end
section
open Go Go.Proofs Go.Sort
set_option maxRecDepth 100000
def Ae1:B4 j8 GX 157 Wh:=by
 refine B4.fix (pf:=JI) _ (J3 (fn:=Tryz.f157) (by kernel_rfl) (by kernel_rfl) (by kernel_rfl) ?_);intro args ret j h;unfold JI at h;split at h
 ·rename_i s c;obtain⟨l,h⟩:=C4 h;obtain⟨m,h⟩:=C4 h;obtain⟨rfl,rfl⟩:=J6 h;refine⟨rfl,rfl,λC o a p w k n d b=>?_⟩;obtain⟨U,V,rfl,f,g⟩:=b.arr2;obtain⟨i,rfl,rfl⟩:=f.inv_str;obtain rfl:=g.inv_int;refine(Any.strings_IndexByte Tryz.lays137 i c w).mono ?_;rintro e w' ⟨rfl,rfl⟩;exact⟨_,rfl,af5 _ _,VP.mk_int _ _⟩
 ·cases h
def Bq9:B4 j8 GX 95 HS:=OH 9223372036854775808 (w9 _)
def Dq7:B4 j8 GX 123 Bs0:=by
 refine B4.fix (pf:=HY) _ (J3 (fn:=Tryz.f123) (by kernel_rfl) (by kernel_rfl) (by kernel_rfl) ?_);intro args ret l h;unfold HY at h;split at h
 ·rename_i n;obtain⟨b,h⟩:=C4 h;obtain⟨rfl,rfl⟩:=J6 h;refine⟨rfl,rfl,λC o a p w m c i g=>?_⟩;obtain⟨U,rfl,j⟩:=g.arr1;obtain rfl:=j.inv_int;obtain⟨d,f⟩:=Xo.1 b;refine(Any.strconv_Itoa Tryz.laysM171 n (by omega) (by omega) w (Cr0 c a)).mono ?_;rintro e w' ⟨rfl,k,os,rfl⟩;refine⟨_,rfl,(Pu w k).trans (show RowKit.Below w.heap.size _ _ from KA (w.drewN k) os),?_⟩;have:Lib.itoa n=V3 n:=by
   unfold Lib.itoa V3;split
   ·rw[show n.natAbs=(-n).toNat by omega]
   ·rfl
  rw[this];exact VP.mk_str _
 ·cases h
def C85:B4 j8 GX 119 Af9:=by
 refine B4.fix (pf:=Rk) _ (J3 (fn:=Tryz.f119) (by kernel_rfl) (by kernel_rfl) (by kernel_rfl) ?_);intro args ret A h;unfold Rk at h;split at h
 ·rename_i s p;obtain⟨i,h⟩:=C4 h;obtain⟨k,h⟩:=C4 h;obtain⟨l,h⟩:=C4 h;obtain⟨rfl,rfl⟩:=J6 h;refine⟨rfl,rfl,λC G m I w B F r q=>?_⟩;obtain⟨U,V,rfl,y,z⟩:=q.arr2;obtain⟨g,rfl,rfl⟩:=y.inv_str;obtain⟨d,rfl,a⟩:=z.inv_str;have H:=L7 i;have c:p=isl:=by simpa[CJ] using k
  have D:=ae1 l;have f:=zero_of_info (P:=j8) (t:=Tryz.lays153_ren.t 116) (v:=.agg (Array.replicate 256 (.bool false))) (n:=256) (by kernel_rfl);subst c;have u:d.size=3:=by have:=ag8 d;rw[a] at this;exact this
  have x:=ag8 g;refine(Any.strings_IndexAny_long Tryz.lays153 f.1 f.2 g d w (by omega) (by omega) (by omega) (by omega) ?_).mono ?_
  ·rw[a];intro j b o;have:b∈isl:=List.mem_of_getElem? o
   revert b
   simp only[isl,ab4,ag1,or_false];rintro b _ (rfl|rfl|rfl)<;>decide
  ·rintro e w' ⟨rfl,rfl⟩;rw[a];exact⟨_,rfl,((af5 _ _).alloc (w9 _) _).alloc (by simp) _,VP.mk_int _ _⟩
 ·cases h
end
section
open Go Go.Proofs
set_option maxRecDepth 100000
def Ac0{R:Type}{a:Bool->Option R}(n:Int):Ab9 LF n a=a (ltI 8 n):=rfl
def Ax0{R:Type}{a:Bool->Option R}(r:Int):OE LF r a=a (OF r):=by
 have b:ltN r 55296=(!ltI r 0&&ltI r 55296):=by
  rw[o7,E3,k9,x4,Qm,Ng];omega
 have c:(ltI 57343 r&&ltN r 1114112)=(ltI 57343 r&&!ltI 1114111 r):=by
  rw[o7,k9,k9,E3,x4,Qm,Ng];omega
 unfold OE Mc OF;rw[b,c];cases ltI r 0<;>cases ltI r 55296<;>cases ltI 57343 r<;>cases ltI 1114111 r<;>rfl
def Dy5(b:UInt8):p7 isl b=irn (b.toNat:Int):=by
 by_cases a:b=47
 ·subst a;rfl
 ·by_cases d:b=63
  ·subst d;rfl
  ·by_cases f:b=35
   ·subst f;rfl
   ·have n:∀c:UInt8,b≠c->(c==b)=false:=λc h=>by rw[beq_eq_false_iff_ne];exact af4 h
    have e:∀c:UInt8,b≠c->¬(b.toNat:Int)=(c.toNat:Int):=λc h q=>h (y5.1 (by omega))
    have g:¬(b.toNat:Int)=47:=e 47 a;have i:¬(b.toNat:Int)=63:=e 63 d;have j:¬(b.toNat:Int)=35:=e 35 f;unfold irn;rw[if_neg g,if_neg i,if_neg j];simp[isl,p7,n _ a,n _ d,n _ f]
def D75{l:By}{x:UInt8}(h:∀b∈l,b.toNat<128)(d:128<=x.toNat):p7 l x=-1:=by
 have e:=Mz x l;have c:l.contains x=false:=by
  rw[o8];intro a;have:=h x (by simpa using a);omega
 rw[c,j1,Ng] at e;have:=af9 l x;omega
def Cq2{r:Int}(g:OF r=true)(h:128<=r):2<=(ab6 r).data.toList.length/\(ab6 r).data.toList.length<=4/\128<=((ab6 r).data.toList.getD ((ab6 r).data.toList.length-1) 0).toNat:=by
 have a:Utf8.valid r=true:=by
  rw[validRune_eq];unfold validRune;simp only[OF,ab7,k9,E3,Ng] at g;exact decide_eq_true (by omega)
 obtain⟨b,c,d⟩:=encode_facts r a h;have f:=ag8 (ab6 r);rw[<-f];refine⟨b,c,?_⟩;have e:=d (by omega);rw[o6,x6 (by omega),ad2];exact e
def Cf7(r:Int)(h:ltN r 1114112=true):∃v H,NW LF r (λk=>rv (.s (.int .i64 k)) []) (λk I=>rv (.s (.int .i64 k)) [.iter [47,63,35] I])=rv v H/\v.stab [] H = .s (.int .i64 (irn r)):=by
 obtain⟨A,M⟩:=E3.1 h;have B:=C5;unfold NW;rw[A6,j1,cond_true];unfold Ly;by_cases p:r<128
 ·obtain⟨n,rfl⟩:=p6 A;have e:wu8 (n:Int)=(n:Int):=N2;have f:u8n (n:Int)=x5 n:=by unfold u8n;simp
  have g:(((x5 n).toNat:Nat):Int)=(n:Int):=by simp;omega
  rw[A8,cond_true,e,F1,f];have o:=Dy5 (x5 n);rw[g] at o;rw[<-o];exact⟨_,_,rfl,rfl⟩
 ·rw[A6,cond_false,Cs5 (by omega)];by_cases t:r=65533
  ·subst t;obtain⟨m,i⟩:∃m,LF=m+1+1+1+1:=⟨LF-4,by omega⟩
   have w:ae5 ⟨ad4 ([47,63,35]:List UInt8)⟩ 0=(47,1):=rfl;have x:ae5 ⟨ad4 ([47,63,35]:List UInt8)⟩ 1=(63,1):=rfl;have y:ae5 ⟨ad4 ([47,63,35]:List UInt8)⟩ 2=(35,1):=rfl;have go:∀(R:Type) (c:Int->Nat->Option R) (a:Nat->Option R),Am LF LF 0 c a=a 3:=λR c a=>by
    have L:Am LF (m+1) 3 c a=a 3:=by rw[Fi];rfl
    have K:Am LF (m+1+1) 2 c a=a 3:=by rw[Fi];unfold Ek;rw[y];exact L
    have J:Am LF (m+1+1+1) 1 c a=a 3:=by rw[Fi];unfold Ek;rw[x];exact K
    have d:Am LF (m+1+1+1+1) 0 c a=a 3:=by rw[Fi];unfold Ek;rw[w];exact J
    rw[<-i] at d;exact d
   rw[go];exact⟨_,_,rfl,rfl⟩
  ·rw[show(r==(65533:Int))=false by simpa using t,cond_false];cases F:OF r with
   | false=>exact⟨_,_,rfl,rfl⟩
   | true=>
    obtain⟨O,P,G⟩:=Cq2 F (by omega);simp only[vl,b9,cond_false];generalize (ab6 r).data.toList=l at *;obtain⟨m,i⟩:∃m,LF=m+1:=⟨LF-1,by omega⟩
    have z:A1 ((l.length:Int)-1)=((l.length-1:Nat):Int):=by rw[A7];omega
    have go:∀(R:Type) (c:Int->Option R) (a:Unit->Option R),a ()=c (-1)->Hi LF LF l ((l.length-1:Nat):Int) c a=c (-1):=λR c a C=>by
     have d:Hi LF (m+1) l ((l.length-1:Nat):Int) c a=c (-1):=by
      rw[FM];unfold Od;by_cases N:l.length=4
      ·rw[A6];exact C
      ·rw[A8,F1,F1,D3,D3];simp only[vl,cond_true];have D:(([47,63,35]:List UInt8).getD (l.length-1) 0).toNat<128:=by
        have:l.length=2\/l.length=3:=by omega
        rcases this with q|q<;>rw[q]<;>decide
       have j:((((([47,63,35]:List UInt8).getD (l.length-1) 0).toNat:Nat):Int)!=(((l.getD (l.length-1) 0).toNat:Nat):Int))=true:=by
        rw[bne_iff_ne];omega
       have f:A1 (((l.length-1:Nat):Int)+1)=((l.length:Nat):Int):=by rw[A7];omega
       have g:cut ([47,63,35]:List UInt8) ((l.length:Nat):Int) 3=([47,63,35]:List UInt8).drop l.length:=by
        rw[show(3:Int)=((3:Nat):Int) from rfl,Fy];rfl
       have u:=(l.getD (l.length-1) 0).toNat_lt;rw[j,cond_true,f,I3,cond_true,g,D9 (by simp;omega),cond_true,F1,cond_true,Ka,D75 (λb u=>?_) G]
       ·rfl
       ·have:=List.mem_of_mem_drop u;simp only[ab4,ag1,or_false] at this;rcases this with rfl|rfl|rfl<;>decide
     rw[<-i] at d;exact d
    rw[z,go _ _ _ rfl];exact⟨_,_,rfl,rfl⟩
def Cj6:B4 j8 GX 160 AR:=by
 refine B4.fix (pf:=Tu) _ (J4 [] (C₀:=BK LF) (N3.ok (l:=[]) rfl trivial) (J2 rfl (by kernel_rfl)) follows ?_);intro args ret a h;unfold Tu at h;split at h
 ·rename_i n;obtain⟨rfl,rfl⟩:=J6 h;have e:=(Bo0 LF noY () 0 n).trans (Ac0 n);exact⟨rfl,rfl,rfl,1,_,_,e,rfl⟩
 ·cases h
def C93:B4 j8 GX 196 JR:=by
 refine B4.fix (pf:=AW) _ (J4 [] (C₀:=Cp LF) (N3.ok (l:=[]) rfl trivial) (J2 rfl (by kernel_rfl)) follows ?_);intro args ret a h;unfold AW at h;split at h
 ·rename_i n;obtain⟨rfl,rfl⟩:=J6 h;have e:=(Ci1 LF noY () 0 n).trans (Ax0 n);exact⟨rfl,rfl,rfl,1,_,_,e,rfl⟩
 ·cases h
def C88:B4 j8 GX 161 Pm:=λargs ret a h=>by
 have:M9 (Pm args)=none:=by unfold Pm PX;split<;>rfl
 rw[this] at h;cases h
def C87:B4 j8 GX 159 JJ:=by
 refine B4.fix (pf:=AQ) _ (J4 [] (C₀:=M4 LF) (N3.ok (l:=[(157,Wh),(196,JR)]) rfl ⟨Ae1,C93,trivial⟩) (J2 rfl (by kernel_rfl)) follows ?_);intro args ret f h;unfold AQ at h;split at h
 ·rename_i p r;obtain⟨a,h⟩:=C4 h;obtain⟨b,h⟩:=C4 h;obtain⟨rfl,rfl⟩:=J6 h;obtain rfl:p=isl:=by simpa[CJ] using a
  obtain⟨d,H,e,c⟩:=Cf7 r b;exact⟨rfl,rfl,rfl,1,d,H,(Cf6 LF noY () 0 r).trans e,c⟩
 ·cases h
def NY:∀(w:Nat) (l:By),w<=l.length->(∀i,i<w->M6 (l.getD i 0)=false)->I6 l=w+I6 (l.drop w)
 | 0,l,_,_=>by simp
 | w+1,[],h,_=>by simp at h
 | w+1,b::l,h,hb=>by
  have a:=hb 0 (by omega);rw[w8] at a;have d:=NY w l (by simpa using h) (λi c=>by have:=hb (i+1) (by omega);rwa [ae7] at this);rw[Ix,a,List.drop_succ_cons];simp only[x9,if_false];omega
def Au9(s:By)(O:s.length<=8):∀(f m n:Nat),s.length-m<=f->m<=s.length->f<n->∃H t,∀(R:Type) (j:Int->List Blk->Option R) (k:By->Nat->Option R),
  Lx LF n s m j k=if I6 (s.drop m)<(s.drop m).length then j ((m+I6 (s.drop m):Nat):Int) H else k s t:=by
 intro f
 induction f with
 | zero=>
  intro m n G K L;obtain⟨n,rfl⟩:∃q,n=q+1:=⟨n-1,by omega⟩
  refine⟨[],m,λR j k=>?_⟩;rw[Cg];unfold Aa;rw[decide_eq_false (by omega),cond_false,j2 (by omega),if_neg (by simp)]
 | succ f z=>
  intro m n G K L;obtain⟨n,rfl⟩:∃q,n=q+1:=⟨n-1,by omega⟩
  by_cases a:m<s.length
  ·have F:=Lib.decodeL_drop ⟨s.toArray⟩ m;have h:ae5 ⟨ad4 s⟩ m=p5 (s.drop m):=by rw[<-F]
   have p:=D6 s m a;have N:(s.drop m).length=s.length-m:=j7;generalize M:s.getD m 0=b at p;by_cases o:b.toNat<128
   ·have y:p5 (s.drop m)=(b.toNat,1):=by rw[p];exact Lib.decodeL_ascii b _ o
    have l:=Dy6 b;cases g:M6 b with
    | true=>
     rw[g,b9] at l;have u:I6 (s.drop m)=0:=by rw[p,Ix,g];rfl
     refine⟨[Blk.iter s (m+1)],m,λR j k=>?_⟩;rw[Cg];unfold Aa;rw[decide_eq_true a,h,y,u,R2];simp only[vl,cond_true];rw[show CJ ([47,63,35]:List UInt8)=true from rfl,cond_true,E3.2 ⟨by omega,by omega⟩,cond_true,l];rfl
    | false=>
     rw[g,j1] at l;have u:I6 (s.drop m)=I6 (s.drop (m+1))+1:=by rw[p,Ix,g];rfl
     have v:(s.drop (m+1)).length=s.length-(m+1):=j7;obtain⟨H,t,e⟩:=z (m+1) n (by omega) (by omega) (by omega);refine⟨H,t,λR j k=>?_⟩;rw[Cg];unfold Aa;rw[decide_eq_true a,h,y];simp only[vl,cond_true];rw[show CJ ([47,63,35]:List UInt8)=true from rfl,cond_true,E3.2 ⟨by omega,by omega⟩,cond_true,l,b9,cond_false,e,u];by_cases q:I6 (s.drop (m+1))<(s.drop (m+1)).length
     ·rw[if_pos q,R2,show m+1+I6 (s.drop (m+1))=m+(I6 (s.drop (m+1))+1) by omega]
     ·rw[if_neg q,G0]
   ·obtain⟨A,B,C,D,x⟩:=Dx2 b (s.drop (m+1)) (by omega);rw[<-p] at A B C D x;have v:(s.drop (m+1)).length=s.length-(m+1):=j7;generalize p5 (s.drop m)=d at *;obtain⟨c,w⟩:=d;simp only at A B C D x;have r:=NY w (s.drop m) (by omega) (λi I=>C20 (x i I));rw[ac2] at r;have J:(s.drop (m+w)).length=s.length-(m+w):=j7;have l:ltI (irn (c:Int)) 0=true:=by rw[Cs5 (by omega)];rfl
    obtain⟨H,t,e⟩:=z (m+w) n (by omega) (by omega) (by omega);refine⟨H,t,λR j k=>?_⟩;rw[Cg];unfold Aa;rw[decide_eq_true a,h];simp only[vl,cond_true];rw[show CJ ([47,63,35]:List UInt8)=true from rfl,cond_true,E3.2 ⟨by omega,by omega⟩,cond_true,l,b9,cond_false,e,r];by_cases q:I6 (s.drop (m+w))<(s.drop (m+w)).length
    ·rw[if_pos q,R2,show m+w+I6 (s.drop (m+w))=m+(w+I6 (s.drop (m+w))) by omega]
    ·rw[if_neg q,G0]
  ·refine⟨[],m,λR j k=>?_⟩;rw[Cg];unfold Aa;rw[decide_eq_false a,cond_false,j2 (by omega),if_neg (by simp)]
def Cf4(s:By)(h:s.length<=8):∃r H,Ab3 LF s (λc a=>rv (.s (.int .i64 c)) a)=rv r H/\r.stab [] H = .s (.int .i64 (Lib.indexAny s isl)):=by
 have b:=C5;obtain⟨H,d,e⟩:=Au9 s h s.length 0 LF (by omega) (by omega) (by omega);unfold Ab3;rw[A6,cond_false,e,Ki,o5,af3];by_cases q:I6 s<s.length
 ·rw[if_pos q,if_pos q];exact⟨_,_,rfl,rfl⟩
 ·rw[if_neg q,if_neg q];exact⟨_,_,rfl,rfl⟩
def C86:B4 j8 GX 119 Ag0:=by
 refine B4.fix (pf:=Rl) _ (J4 [] (C₀:=Hp LF) (N3.ok (l:=[(159,JJ),(160,AR),(161,Pm)]) rfl ⟨C87,Cj6,C88,trivial⟩) (J2 rfl (by kernel_rfl)) follows ?_);intro args ret f h;unfold Rl at h;split at h
 ·rename_i s p;obtain⟨a,h⟩:=C4 h;obtain⟨b,h⟩:=C4 h;obtain⟨rfl,rfl⟩:=J6 h;obtain rfl:p=isl:=by simpa[CJ] using a
  obtain⟨d,H,e,c⟩:=Cf4 s (ae1 b);exact⟨rfl,rfl,rfl,1,d,H,(Cf3 LF noY () 0 s).trans e,c⟩
 ·cases h
def El{c:Bool}{t:Tr}(h:c=true):M9 (.need c t)=M9 t:=by subst h;rfl
def Dt1:B4 j8 GX 119 WC:=λargs ret c h=>by
 have a:=C85 args ret c;have b:=C86 args ret c;unfold WC at h;unfold Af9 at a;unfold Ag0 at b;generalize C2 [[0],[0]] args=l at h a b;unfold Af8 at h;split at h
 ·rename_i s p;obtain⟨e,h⟩:=C4 h;obtain⟨d,h⟩:=C4 h;by_cases f:s.length<=8
  ·refine b ?_;unfold Rl;rw[El d,El (aa8 f)];exact h
  ·refine a ?_;unfold Rk;rw[El e,El d,El (aa8 (by omega))];exact h
 ·cases h
section
def Dr2:B4 j8 GX 203 Bs3:=xf [] (XI LF) IE rfl ⟨Br1,trivial⟩ rfl (by kernel_rfl) follows λargs=>by
 unfold IE;split
 ·rename_i s p;exact λa=>⟨rfl,rfl,rfl,_,_,(Ct9 LF noY () 0 s p).trans (Ba3 s p a),rfl⟩
 ·trivial
def D49:B4 j8 GX 166 Cm3:=xf [] (A44 LF) WG rfl ⟨Dr2,trivial⟩ rfl (by kernel_rfl) follows λargs=>by
 unfold WG;split
 ·rename_i s p;exact λa=>⟨rfl,rfl,rfl,_,_,(Dn9 LF noY () 0 s p).trans (Cg9 s p a),rfl⟩
 ·trivial
def HM:B4 j8 GX 124 Wj:=xf [] (XX LF) JO rfl trivial rfl (by kernel_rfl) follows λargs=>by
 unfold JO;split
 ·rename_i s;exact⟨rfl,rfl,rfl,_,_,(C45 LF noY () 0 s).trans (Bp3 s ),rfl⟩
 ·trivial
def Ae2:B4 j8 GX 117 GE:=xf [] (XY LF) JP rfl ⟨HM,trivial⟩ rfl (by kernel_rfl) follows λargs=>by
 unfold JP;split
 ·rename_i s;exact⟨rfl,rfl,rfl,_,_,(C48 LF noY () 0 s).trans (Bp8 s ),rfl⟩
 ·trivial
def C90:B4 j8 GX 84 A09:=xf [] (A46 LF) WI rfl ⟨HM,trivial⟩ rfl (by kernel_rfl) follows λargs=>by
 unfold WI;split
 ·rename_i n o j k v4 a b c d f g h i l m;exact(let⟨r,H,e,q⟩:=Do5 n o j k v4 a b c d f g h i l m ; ⟨rfl,rfl,rfl,r,H,(Do4 LF noY () 0 n o j k v4 a b c d f g h i l m).trans e,q⟩)
 ·trivial
def D53:B4 j8 GX 115 Cm8:=xf [] (Aw LF) WL rfl ⟨Ae1,trivial⟩ rfl (by kernel_rfl) follows λargs=>by
 unfold WL;split
 ·rename_i s;exact λa=>⟨rfl,rfl,rfl,_,_,(Dp1 LF noY () 0 s).trans (Ch9 s a),rfl⟩
 ·trivial
def D51:B4 j8 GX 165 Cm6:=xf [0,0] (Ut LF) WJ rfl trivial rfl (by kernel_rfl) follows λargs=>by
 unfold WJ;split
 ·rename_i s;exact λa=>⟨rfl,rfl,rfl,_,_,(Do7 LF noY () 0 s).trans (Ch2 s a),rfl⟩
 ·trivial
def C91:B4 j8 GX 121 Ag2:=xf [0,0] (Z2 LF) AU rfl ⟨B17,Ae0,Ae1,C66,D49,D51,HM,trivial⟩ rfl (by kernel_rfl) follows λargs=>by
 unfold AU;split
 ·rename_i o p k l v4 b c d f g h i j m n a;exact λt=>λu=>λv=>λw=>λx=>(let⟨r,H,e,q⟩:=Ch6 o p k l v4 b c d f g h i j m n a t u v w x;⟨rfl,rfl,rfl,r,H,(Ch5 LF noY () 0 o p k l v4 b c d f g h i j m n a).trans e,q⟩)
 ·trivial
def D52:B4 j8 GX 82 Cm7:=xf [0,0] (Uu LF) WK rfl ⟨C84,D53,C70,Ae2,C62,Dt1,Ae0,C91,trivial⟩ rfl (by kernel_rfl) follows λargs=>by
 unfold WK;split
 ·rename_i s;exact λa=>(let⟨r,H,e,q⟩:=Do9 s a;⟨rfl,rfl,rfl,r,H,(Do8 LF noY () 0 s).trans e,q⟩)
 ·trivial
def B23:B4 j8 GX 83 WM:=xf [] (XZ LF) JQ rfl ⟨Ae2,C65,Dq7,trivial⟩ rfl (by kernel_rfl) follows λargs=>by
 unfold JQ;split
 ·rename_i n o j k v4 a b c d f g h i l m;exact λp=>λt=>λu=>λv=>(let⟨r,H,e,q⟩:=C50 n o j k v4 a b c d f g h i l m p t u v;⟨rfl,rfl,rfl,r,H,(C49 LF noY () 0 n o j k v4 a b c d f g h i l m).trans e,q⟩)
 ·trivial
def DT:B4 j8 GX 51 Rm:=xf [] (BM LF) Tw rfl ⟨B23,D52,trivial⟩ rfl (by kernel_rfl) follows λargs=>by
 unfold Tw;split
 ·rename_i n o j k v4 a b c d f g h i l m;exact λp=>λt=>λu=>λv=>(let⟨r,H,e,q⟩:=Bq0 n o j k v4 a b c d f g h i l m p t u v;⟨rfl,rfl,rfl,r,H,(Bp9 LF noY () 0 n o j k v4 a b c d f g h i l m).trans e,q⟩)
 ·trivial
def D50:B4 j8 GX 85 Cm5:=xf [] (A45 LF) WH rfl ⟨DT,B23,trivial⟩ rfl (by kernel_rfl) follows λargs=>by
 unfold WH;split
 ·rename_i n o j k v4 a b c d f g h i l m;exact λp=>λt=>λu=>λv=>(let⟨r,H,e,q⟩:=Do3 n o j k v4 a b c d f g h i l m p t u v;⟨rfl,rfl,rfl,r,H,(Do2 LF noY () 0 n o j k v4 a b c d f g h i l m).trans e,q⟩)
 ·trivial
end
end
section
open Go Go.Proofs Go.RowKit
set_option maxRecDepth 100000
abbrev Qz(m n:ByteArray)(i:Int)(j:ByteArray)(v4 a b c d e f g h k:Int)(l:ByteArray):Array Value:=#[.string m,.string n,.int .i64 i,.string j,.int .u32 v4,.int .u16 a,.int .u16 b,.int .u16 c,.int .u16 d,.int .u16 e,.int .u16 f,.int .u16 g,.int .u16 h,.int .i64 k,.string l]
abbrev Zc:ByteArray:=⟨#[104,116,116,112]⟩
abbrev Qx:ByteArray:=⟨#[104,116,116,112,115]⟩
abbrev sWs:ByteArray:=⟨#[119,115]⟩
abbrev Bn2:ByteArray:=⟨#[119,115,115]⟩
abbrev Ld:MapEntry:={ key:=.string Zc,val:=.string Qx,born:=0 }
abbrev BU:MapEntry:={ key:=.string sWs,val:=.string Bn2,born:=1 }
def Wk(w:World)(o:Obj):(w.alloc o).heap[w.heap.size]? = some o:=(MapKept.heap_alloc w o).1
def QC(w:World)(o p:Obj):({ (w.alloc o) with heap:=(w.alloc o).heap.setIfInBounds w.heap.size p }:World)=w.alloc p:=by
 have e:(w.heap.push o).setIfInBounds w.heap.size p=w.heap.push p:=by
  apply af7.1;rw[Array.toList_setIfInBounds,af1,af1,<-Array.length_toList,List.set_append_right _ _ (w9 _),Nat.sub_self];rfl
 show({ w with heap:=(w.heap.push o).setIfInBounds w.heap.size p }:World) = { w with heap:=w.heap.push p }
 rw[e]
def Dz1{P:Program}{t k e:TypeId}(b:P.underlying t=some (.map k e))(a:P.underlying k=some .string)(w:World):(ad5 t (.map (some w.heap.size)) (.string Zc) (.string Qx)).run P (w.alloc (.map #[] 0)) = .ok () (w.alloc (.map #[Ld] 1)):=by rw[run_mapUpdate_first (w:=w.alloc (.map #[] 0)) t k e w.heap.size 0 Zc (.string Qx) b a (Wk w _),QC]
def Dz2{P:Program}{t k e:TypeId}(f:P.underlying t=some (.map k e))(b:P.underlying k=some .string)(w:World):(ad5 t (.map (some w.heap.size)) (.string sWs) (.string Bn2)).run P (w.alloc (.map #[Ld] 1)) = .ok () (w.alloc (.map #[Ld,BU] 2)):=by have a:=Wk w (.map #[Ld] 1);have d:ae9 .string (.string sWs) (#[Ld]:Array MapEntry).toList 0=some none:=rfl;have c:(ah4 false 10000 k (.string sWs)).run P (w.alloc (.map #[Ld] 1)) = .ok () (w.alloc (.map #[Ld] 1)):=ae3 (k:=.string sWs) b (by simp[ai1]) false 9999;simp only[ad5,Sem.run_bind,run_underlying f,aa5 a,c,ab9 b d,MapKept.run_setObj_map _ a,ae4];exact congrArg (Result.ok ()) (QC w (.map #[Ld] 1) (.map #[Ld,BU] 2))
def Cu1{P:Program}{t k e:TypeId}(g:P.underlying t=some (.map k e))(c:P.underlying k=some .string)(w:World):(ac0 t (.map (some w.heap.size)) (.string Zc) false).run P (w.alloc (.map #[Ld,BU] 2)) = .ok (.string Qx) (w.alloc (.map #[Ld,BU] 2))/\(ac0 t (.map (some w.heap.size)) (.string sWs) false).run P (w.alloc (.map #[Ld,BU] 2)) = .ok (.string Bn2) (w.alloc (.map #[Ld,BU] 2)):=by
 have d:=Wk w (.map #[Ld,BU] 2);have h:ae9 .string (.string Zc) (#[Ld,BU]:Array MapEntry).toList 0=some (some (0,.string Qx)):=rfl;have a:ae9 .string (.string sWs) (#[Ld,BU]:Array MapEntry).toList 0=some (some (1,.string Bn2)):=rfl;have f:∀s b,(ah4 b 10000 k (.string s)).run P (w.alloc (.map #[Ld,BU] 2)) = .ok () (w.alloc (.map #[Ld,BU] 2)):=λs b=>ae3 (k:=.string s) c (by simp[ai1]) b 9999
 constructor
 ·simp[ac0,run_underlying g,aa5 d,f,ab9 c h,ae4]
 ·simp[ac0,run_underlying g,aa5 d,f,ab9 c a,ae4]
def size_alloc(w:World)(o:Obj):(w.alloc o).heap.size=w.heap.size+1:=ah1 ..
def Ak9(w:World)(A B C D:Obj):((((w.alloc A).alloc B).alloc C).alloc D).heap[w.heap.size+1]? = some B:=by
 have e:∀(w:World) (o:Obj) (i:Nat),i<w.heap.size->(w.alloc o).heap[i]? = w.heap[i]?:=λw o i h=>by
  show(w.heap.push o)[i]? = w.heap[i]?;rw[Array.getElem?_push,if_neg (Nat.ne_of_lt h)]
 rw[e _ _ _ (by simp only[size_alloc];omega),e _ _ _ (by simp only[size_alloc];omega),<-size_alloc w A];exact Wk (w.alloc A) B
def Aj0(w:World)(o:Obj)(n:Nat):(w.alloc o).drewN n=(w.drewN n).alloc o:=rfl
def Ca5(w:World):Calls j8 124 #[.string Zc] w λe w'=>e = .returned (.int .i64 80)/\w'=w:=by
 go_enter aa6,ac8
 go_wp2
 go_ret
 exact⟨rfl,rfl⟩
def Bd3(w:World):Calls j8 124 #[.string Qx] w λe w'=>e = .returned (.int .i64 443)/\w'=w:=by
 go_enter aa6,ac8
 go_wp2
 go_ret
 exact⟨rfl,rfl⟩
def Dj2(w:World):Calls j8 124 #[.string sWs] w λe w'=>e = .returned (.int .i64 80)/\w'=w:=by
 go_enter aa6,ac8
 go_wp2
 go_ret
 exact⟨rfl,rfl⟩
def Cw9(w:World):Calls j8 124 #[.string Bn2] w λe w'=>e = .returned (.int .i64 443)/\w'=w:=by
 go_enter aa6,ac8
 go_wp2
 go_ret
 exact⟨rfl,rfl⟩
def Cs4(a o l n:ByteArray)(k v4 b c d f g h i j m:Int)(q:∀w,Calls j8 124 #[.string a] w λe w'=>e = .returned (.int .i64 80)/\w'=w)(w:World):Calls j8 84 #[.agg (Qz a o k l v4 b c d f g h i j m n)] w λe w'=>e = .returned (.bool true)/\w'=w.alloc (.cells (Qz a o k l v4 b c d f g h i j m n) 55):=by
 have p:∀args w,(callFunc 124 args).run j8 w = .ok (.enter 124 args) w:=enters_of aa6 (by kernel_rfl) rfl
 go_enter aj2,Tryz.ntmps84
 go_wp2_with (go_at_fn 124;refine(q _).mono ?_;rintro e w' ⟨rfl,r⟩;rw[r])
 go_ret
 exact⟨rfl,rfl⟩
theorem B10(x g y u v:ByteArray)(t v4 i j k l m n o p c f:Int)(L:c=443->f=-1)(M:¬c=443->f=c)
  (b:∀w,Calls j8 84 #[.agg (Qz x y t u v4 i j k l m n o p c v)] w λe w'=>e = .returned (.bool true)/\w'=w.alloc (.cells (Qz x y t u v4 i j k l m n o p c v) 55))
  (J:∀w:World,(ac0 125 (.map (some w.heap.size)) (.string x) false).run j8 (w.alloc (.map #[Ld,BU] 2)) = .ok (.string g) (w.alloc (.map #[Ld,BU] 2)))
  (d:∀w,Calls j8 124 #[.string g] w λe w'=>e = .returned (.int .i64 443)/\w'=w) (w:World) :
  Calls j8 86 #[.agg (Qz x y t u v4 i j k l m n o p c v)] w λe w'=>e = .returned (.agg (Qz g y t u v4 i j k l m n o p f v))/\Below w.heap.size w w':=by
 have z:∀args w,(callFunc 84 args).run j8 w = .ok (.enter 84 args) w:=enters_of aj2 (by kernel_rfl) rfl;have K:∀args w,(callFunc 124 args).run j8 w = .ok (.enter 124 args) w:=enters_of aa6 (by kernel_rfl) rfl;have H:=@run_makeMap j8;have q:∀(w:World) A B C,(((w.alloc A).alloc B).alloc C).heap.size=w.heap.size+1+1+1:=λw A B C=>by simp only[World.alloc,ah1]
 have D:∀(w:World) A B C,_:=λw A B C=>q w A B C▸Dz1 (P:=j8) aa2 ab0 (((w.alloc A).alloc B).alloc C)
 have F:∀(w:World) A B C,_:=λw A B C=>q w A B C▸Dz2 (P:=j8) aa2 ab0 (((w.alloc A).alloc B).alloc C)
 have G:∀(w:World) A B C,_:=λw A B C=>q w A B C▸J (((w.alloc A).alloc B).alloc C)
 clear J
 go_enter Tryz.func86,Tryz.ntmps86
 go_wp2_with (go_at_fn 84;refine(b _).mono ?_;rintro e w' ⟨rfl,N⟩;rw[N])
 clear b H z
 go_quiet (first|(go_at_call 124;exact Calls.quiet_of_same (d _)))
 obtain⟨h,a⟩:∃h,h=w.drewN nq:=⟨_,rfl⟩
 have r:w.heap.size=h.heap.size:=by rw[a];rfl
 have I:Below h.heap.size w h:=by rw[<-r,a];exact⟨rfl,rfl,rfl,w9 _,λ_ _=>rfl⟩
 simp only[Aj0,<-a,r];clear D F G q a
 go_wp2
 all_goals (try simp only[Exit.inBlock,Exit.then])
 ·have e:=L (by first|rfl|simpa using ‹(c==443)=true›);subst e;refine bodyPost_ret (results_cell_row rfl _ _ (h.heap.size+1) 55 _ _ _ rfl (Ak9 _ _ _ _ _) af6 rfl (by kernel_rfl)) rfl ⟨rfl,?_⟩;rw[r];exact(((I.alloc (w9 _) _).alloc (by simp only[size_alloc];omega) _).alloc (by simp only[size_alloc];omega) _).alloc (by simp only[size_alloc];omega) _
 ·have e:=M (by first|assumption|simpa using ‹(c==443)=false›);subst e;refine bodyPost_ret (results_cell_row rfl _ _ (h.heap.size+1) 55 _ _ _ rfl (Ak9 _ _ _ _ _) af6 rfl (by kernel_rfl)) rfl ⟨rfl,?_⟩;rw[r];exact(((I.alloc (w9 _) _).alloc (by simp only[size_alloc];omega) _).alloc (by simp only[size_alloc];omega) _).alloc (by simp only[size_alloc];omega) _
end
section
open Go Go.Proofs
set_option maxRecDepth 100000
section
variable {Z R : Type} (L : Nat) (Q : G4) (Y : Yh Z) (s : Z) (k : Out -> St Z -> Option R)
noncomputable def A47(L:Nat):Cfg:=B8 L [86] (A2 []) [(84,A09),(124,Wj)] (A2 [(6,[2]),(5,[1,0]),(4,[1,0,15]),(3,[1,0]),(2,[2]),(1,[1,0,2]),(0,[1,0])]) [84,124] (A2 []) (some [2]) [] [] []
def Dp2{R:Type}(L:Nat)(f g:By)(h:Int)(i:By)(j l m n u8 o a b c d:Int)(e:By)(p:By->By->Int->By->Int->Int->Int->Int->Int->Int->Int->Int->Int->Int->By->(List Blk)->Option R):Option R:=cond (not (N0 f)) (p f g h i j l m n u8 o a b c d e [(bU f g h i j l m n u8 o a b c d e),(bU f g h i j l m n u8 o a b c d e)]) none
def Dp3(d:Nat)(u0 u1 u2 u3 u4 u5 u6 u7 u8 u9 u10 u11 u12 u13 u14):evC (A47 L) (d+1) Z Y 86 [(gU u0 u1 u2 u3 u4 u5 u6 u7 u8 u9 u10 u11 u12 u13 u14)] [] s=Dp2 L u0 u1 u2 u3 u4 u5 u6 u7 u8 u9 u10 u11 u12 u13 u14 (λh i j l m n o p r8 q b c e f g a=>some ((gU h i j l m n o p r8 q b c e f g),a,s)):=by refine(evE (fn:=Tryz.f86) (by kernel_rfl)).trans ?_;generalize evC (A47 L) d=Q;unfold Dp2;kernel_rfl
end
end
section
open Go Go.Proofs Go.RowKit
set_option maxRecDepth 100000
def Dy4{Γ:Ctx}{sh:Nat->Option Shp}{w:World}{V:Value}{I J:By}{D:Int}{F:By}{v4 t u v x y z B C G:Int}{H:By}(h:VP Γ sh w (gU I J D F v4 t u v x y z B C G H) V) :
  ∃d e b c:ByteArray,I=d.data.toList/\J=e.data.toList/\F=b.data.toList/\H=c.data.toList/\V = .agg (Qz d e D b v4 t u v x y z B C G c):=by
 obtain⟨A,rfl,hA,a⟩:=h.inv_agg;have hs:A.size=15:=hA;obtain⟨_,e0,T⟩:=a 0 (show 0<15 by omega);obtain⟨_,K,U⟩:=a 1 (show 1<15 by omega);obtain⟨_,L,W⟩:=a 2 (show 2<15 by omega);obtain⟨_,M,X⟩:=a 3 (show 3<15 by omega);obtain⟨_,N,Y⟩:=a 4 (show 4<15 by omega);obtain⟨_,O,Z⟩:=a 5 (show 5<15 by omega);obtain⟨_,P,q6⟩:=a 6 (show 6<15 by omega);obtain⟨_,Q,q7⟩:=a 7 (show 7<15 by omega);obtain⟨_,R,q8⟩:=a 8 (show 8<15 by omega);obtain⟨_,S,q9⟩:=a 9 (show 9<15 by omega);obtain⟨_,f,m⟩:=a 10 (show 10<15 by omega);obtain⟨_,g,o⟩:=a 11 (show 11<15 by omega);obtain⟨_,j,p⟩:=a 12 (show 12<15 by omega);obtain⟨_,k,q⟩:=a 13 (show 13<15 by omega);obtain⟨_,l,r⟩:=a 14 (show 14<15 by omega);obtain⟨d,rfl,rfl⟩:=VP.inv_str T;obtain⟨e,rfl,rfl⟩:=VP.inv_str U;obtain rfl:=VP.inv_int W;obtain⟨b,rfl,rfl⟩:=VP.inv_str X;obtain rfl:=VP.inv_int Y;obtain rfl:=VP.inv_int Z;obtain rfl:=VP.inv_int q6;obtain rfl:=VP.inv_int q7;obtain rfl:=VP.inv_int q8;obtain rfl:=VP.inv_int q9;obtain rfl:=VP.inv_int m;obtain rfl:=VP.inv_int o;obtain rfl:=VP.inv_int p;obtain rfl:=VP.inv_int q;obtain⟨c,rfl,rfl⟩:=VP.inv_str r;refine⟨d,e,b,c,rfl,rfl,rfl,rfl,?_⟩
 congr 1
 apply Array.ext_getElem?;intro i
 match i with
 | 0=>exact e0
 | 1=>exact K
 | 2=>exact L
 | 3=>exact M
 | 4=>exact N
 | 5=>exact O
 | 6=>exact P
 | 7=>exact Q
 | 8=>exact R
 | 9=>exact S
 | 10=>exact f
 | 11=>exact g
 | 12=>exact j
 | 13=>exact k
 | 14=>exact l
 | n+15=>rw[ad3 (by omega),ad3 (by simp)]
def Dv5{t:Ctx}{sh:Nat->Option Shp}{w:World}(c d:ByteArray)(p:Int)(a:ByteArray)(v4 e f g i k l m o q:Int)(b:ByteArray) :
  VP t sh w (gU c.data.toList d.data.toList p a.data.toList v4 e f g i k l m o q b.data.toList) (.agg (Qz c d p a v4 e f g i k l m o q b)):=by
 refine VP.mk_agg rfl λj r=>?_
 match j,r with
 | 0,_=>exact⟨_,rfl,VP.mk_str c.data.toList⟩
 | 1,_=>exact⟨_,rfl,VP.mk_str d.data.toList⟩
 | 2,_=>exact⟨_,rfl,VP.mk_int _ _⟩
 | 3,_=>exact⟨_,rfl,VP.mk_str a.data.toList⟩
 | 4,_=>exact⟨_,rfl,VP.mk_int _ _⟩
 | 5,_=>exact⟨_,rfl,VP.mk_int _ _⟩
 | 6,_=>exact⟨_,rfl,VP.mk_int _ _⟩
 | 7,_=>exact⟨_,rfl,VP.mk_int _ _⟩
 | 8,_=>exact⟨_,rfl,VP.mk_int _ _⟩
 | 9,_=>exact⟨_,rfl,VP.mk_int _ _⟩
 | 10,_=>exact⟨_,rfl,VP.mk_int _ _⟩
 | 11,_=>exact⟨_,rfl,VP.mk_int _ _⟩
 | 12,_=>exact⟨_,rfl,VP.mk_int _ _⟩
 | 13,_=>exact⟨_,rfl,VP.mk_int _ _⟩
 | 14,_=>exact⟨_,rfl,VP.mk_str b.data.toList⟩
 | n+15,h=>exact absurd h (by simp)
def Ah6{s t:ByteArray}(h:s.data.toList=t.data.toList):s=t:=by
 cases s with
 | mk a=>cases t with
  | mk b=>congr 1;exact af7.1 h
def D10{s:By}{a:Int}(h:N0 s=true):upP s a=if a=443 then -1 else a:=by
 unfold upP;rw[h,y7];by_cases q:a=443
 ·rw[if_pos q,q];rfl
 ·rw[if_neg q,show(a==443)=false by simpa using q];rfl
def D54:B4 j8 GX 86 Cn1:=by
 refine B4.fix (pf:=GF) _ (J3 (fn:=Tryz.f86) (by kernel_rfl) (by kernel_rfl) (by kernel_rfl) ?_);intro args ret B h;unfold GF at h;split at h
 ·rename_i J K p H v4 g i j k l m n o d I;obtain⟨v,h⟩:=C4 h;obtain⟨rfl,rfl⟩:=J6 h;refine⟨rfl,rfl,λC G x L w D F z y=>?_⟩;obtain⟨U,rfl,A⟩:=y.arr1;obtain⟨f,c,a,b,rfl,rfl,rfl,rfl,rfl⟩:=Dy4 A;rw[D10 v];rcases Fa v with u|u
  ·obtain rfl:f=Zc:=Ah6 (t:=Zc) u;have W:=B10 Zc Qx c a b p v4 g i j k l m n o d (if d=443 then -1 else d) (λq=>if_pos q) (λq=>if_neg q) (λw=>Cs4 _ _ _ _ _ _ _ _ _ _ _ _ _ _ _ Ca5 w) (λw=>(Cu1 aa2 ab0 w).1) Bd3 w;refine W.mono ?_;rintro e w' ⟨rfl,r⟩;exact⟨_,rfl,r,Dv5 Qx c p a v4 g i j k l m n o _ b⟩
  ·obtain rfl:f=sWs:=Ah6 (t:=sWs) u;have W:=B10 sWs Bn2 c a b p v4 g i j k l m n o d (if d=443 then -1 else d) (λq=>if_pos q) (λq=>if_neg q) (λw=>Cs4 _ _ _ _ _ _ _ _ _ _ _ _ _ _ _ Dj2 w) (λw=>(Cu1 aa2 ab0 w).2) Cw9 w;refine W.mono ?_;rintro e w' ⟨rfl,r⟩;exact⟨_,rfl,r,Dv5 Bn2 c p a v4 g i j k l m n o _ b⟩
 ·cases h
def Dp4(g v:By)(p:Int)(q:By)(v4 h i j k l m n o t:Int)(u:By)(w:(not (N0 g))=true) :
  ∃r H,Dp2 LF g v p q v4 h i j k l m n o t u (λD F x G y z A B n8 C b c d e f a=>rv (gU D F x G y z A B n8 C b c d e f) a)=rv r H/\r.stab [] H=gU g v p q v4 h i j k l m n o t u:=by
 unfold Dp2;rw[w];exact⟨_,_,rfl,rfl⟩
end
section
open Go Go.Proofs
set_option maxRecDepth 100000
section
def D55:B4 j8 GX 86 Cn2:=xf [] (A47 LF) GG rfl ⟨C90,HM,trivial⟩ rfl (by kernel_rfl) follows λargs=>by
 unfold GG;split
 ·rename_i n o j k v4 a b c d f g h i l m;exact λp=>(let⟨r,H,e,q⟩:=Dp4 n o j k v4 a b c d f g h i l m p;⟨rfl,rfl,rfl,r,H,(Dp3 LF noY () 0 n o j k v4 a b c d f g h i l m).trans e,q⟩)
 ·trivial
end
end
section
open Go Go.Proofs Go.RowKit
set_option maxRecDepth 100000
def D90:B4 j8 GX 86 Cm9:=λargs ret d h=>by
 have a:=D54 args ret d;have b:=D55 args ret d;unfold Cm9 at h;unfold Cn1 at a;unfold Cn2 at b;generalize C2 _ args=l at h a b;unfold Cn0 at h;split at h
 ·rename_i i w t u v4 j k m n o p q r g v;cases c:N0 i with
  | true=>
   refine a ?_;unfold GF;rw[El c];exact h
  | false=>
   refine b ?_;unfold GG;rw[El (by rw[c];rfl)];obtain⟨e,f⟩:=Ad1 c g;rw[e,f] at h;exact h
 ·cases h
end
section
open Go Go.Proofs
set_option maxRecDepth 100000
def MO{p:P7 × Nat}(h:Ae9 p.1):ltN (uV p) 4294967296=true/\okQ p=true/\Q1 (uP p)=true/\∀c b,mkQ c p b=⟨c,p.1.user,p.1.host,b,p.1.rest⟩:=by obtain⟨⟨s,u,⟨k,n,v,l⟩,q,t⟩,e⟩:=p;obtain⟨a,d⟩:=h;obtain⟨g,i,j,m,o,r,w,x,rfl⟩:=eq8 a.v6.1;have f:=a.v4;simp only at f d;refine⟨E3.2 ⟨by show(0:Int)<=(v:Int);omega,by show(v:Int)<_;omega⟩,Di0 a.v6.2,Xo.2 ⟨by show _<=q;omega,by show q<_;omega⟩,λc b=>Cu5 a.kd⟩
def Ao0(s:By):(B3 s).1.host.name.length<=253:=by
 by_cases h:(B3 s).2=0
 ·have b:=RZ h;cases c:F3 (B3 s).1.sch with
  | false=>
   obtain⟨_,_,_,a,_,_⟩:=b.ns c;rw[a]
   decide
  | true=>
   obtain⟨_,_,_,a,_,_⟩:=b.sp c;exact FT a
 ·rw[Bb6 h]
  decide
def Cw1{s:By}(h:s.length<=10000000)(a:By)(b:a.length<=10000000):smU a (uU (B3 s)) (uN (B3 s)) (uR (B3 s))=true:=by obtain⟨c,d,e⟩:=MT s;have f:=Ao0 s;simp only[smU,uU,uN,uR,k9,p4];refine⟨⟨⟨by omega,by omega⟩,by omega⟩,by omega⟩
def Cq7(u:P7):(Fq u).length<=(U0 u).length:=by
 unfold Fq;split
 ·omega
 ·simp
def C44{s:By}{a:Int}(h:Q1 a=true):Q1 (upP s a)=true:=by
 unfold upP;split
 ·rfl
 ·exact h
end
section
open Go
abbrev hK(p:B5 × Nat):Int:=(p.1.kind:Int)
abbrev hN(p:B5 × Nat):By:=p.1.name
abbrev hV(p:B5 × Nat):Int:=(p.1.v4:Int)
abbrev hA(p:B5 × Nat)(i:Nat):Int:=(p.1.v6.getD i 0:Int)
abbrev e0:By:=[]
end
section
open Go Go.Proofs
set_option maxRecDepth 100000
section
variable {Z R : Type} (L : Nat) (Q : G4) (Y : Yh Z) (s : Z) (k : Out -> St Z -> Option R)
noncomputable def KJ(L:Nat):Cfg:=B8 L [91] (A2 []) [] (A2 [(1,[2]),(0,[0])]) [] (A2 []) (some [2]) [] [] []
def Ab0{R:Type}(L:Nat)(b:By)(a:Bool->Option R):Option R:=cond (b==[104,116,116,112]) (a true) (cond (b==[104,116,116,112,115]) (a true) (cond (b==[119,115]) (a true) (a (b==[119,115,115]))))
def Ce2(d:Nat)(s0):evC (KJ L) (d+1) Z Y 91 [pS s0] [] s=Ab0 L s0 (λa=>some (pB a,[],s)):=by refine(evE (fn:=Tryz.f91) (by kernel_rfl)).trans ?_;generalize evC (KJ L) d=Q;unfold Ab0;kernel_rfl
noncomputable def XU(L:Nat):Cfg:=B8 L [94] (A2 []) [] (A2 [(8,[2]),(4,[2]),(7,[2]),(6,[7]),(5,[3,3]),(3,[3,0]),(2,[3,0]),(1,[3]),(0,[0])]) [] (A2 [(0,[])]) (some [2]) [] [] []
def B03{R:Type}(L:Nat)(b:By)(a:Int->Option R):Option R:=cond (b==[104,116,116,112]) (cond (b==[104,116,116,112]) (a 80) (cond (b==[104,116,116,112,115]) (cond (b==[104,116,116,112,115]) (a 443) (a (-1))) (cond (b==[119,115,115]) (a 443) (a (-1))))) (cond (b==[119,115]) (a 80) (cond (b==[104,116,116,112,115]) (cond (b==[104,116,116,112,115]) (a 443) (a (-1))) (cond (b==[119,115,115]) (a 443) (a (-1)))))
def C13(d:Nat)(s0):evC (XU L) (d+1) Z Y 94 [pS s0] [] s=B03 L s0 (λa=>some (pI a,[],s)):=by refine(evE (fn:=Tryz.f94) (by kernel_rfl)).trans ?_;generalize evC (XU L) d=Q;unfold B03;kernel_rfl
noncomputable abbrev Wl:Code:=C7 aj1
noncomputable def Bf(L:Nat):Cfg:=B8 L [92] (A2 [(5,[0,0,2,0,0]),(2,[0,0,2,0])]) [] (A2 [(9,[4]),(3,[0,0,3]),(6,[0,0,3,0]),(8,[4]),(7,[0,0,3,0,18]),(5,[0,0,3,0,9]),(4,[0,0,3,0]),(2,[0,0,3,4]),(1,[0,0,3]),(0,[0,0])]) [] (A2 [(0,[0]),(1,[0,0,3]),(2,[0,0,3]),(3,[0,0,3,0])]) (some [4]) [] [] []
def Il{R:Type}(L n:Nat)(d a:By)(c b:Int)(e:Int->Option R)(f:By->By->Int->Option R):Option R:=match n with|0=>none|n+1=>cond (ltI b (a.length:Int)) (cond (inR c d.length) (cond (inR b a.length) (cond ((bAt d c)==(bAt a b)) (e c) (Il L n d a c (A1 (b+1)) e f)) none) none) (f d a c)
def Ar6(n c a b kk3):D0 0 ((Bf L).keep 5) (bd (Bf L) Q Y (cd [1,0,1,0,0,1,0,0,1,0,0] Wl)) n ⟨gp [(0,pS c),(0,pS a),(3,pI b),(0,pI kk3)] 22,[],s⟩ k =
 Il L n c a b kk3 (λn0=>k .ret ⟨gp [(4,pI n0)] 24,[],s⟩) (λc a b=>k (.exit 2) ⟨gp [(0,pS c),(0,pS a),(3,pI b)] 23,[],s⟩):=by
 induction n generalizing c a b kk3 with
 | zero=>rfl
 | succ n d=>rw[Il];simp only[<-d];kernel_rfl
def Im{R:Type}(L n:Nat)(e b:By)(f:Int)(g:Int->Option R)(h:By->Option R):Option R:=match n with|0=>none|n+1=>cond (ltI f (e.length:Int)) (Il L L e b f 0 g (λd a c=>Im L n d a (A1 (c+1)) g h)) (h e)
def Ar7(n b set1 i2):D0 0 ((Bf L).keep 2) (bd (Bf L) Q Y (cd [1,0,1,0,0] Wl)) n ⟨gp [(0,pS b),(0,pS set1),(3,pI i2)] 23,[],s⟩ k =
 Im L n b set1 i2 (λn0=>k .ret ⟨gp [(4,pI n0)] 24,[],s⟩) (λb=>k (.exit 0) ⟨gp [(0,pS b)] 28,[],s⟩):=by
 induction n generalizing b set1 i2 with
 | zero=>rfl
 | succ n e=>rw[Im];exact(a8 (by kernel_rfl) (A0 ((Ar6 L Q Y s (E2 2 (E2 1 (E1 (Bf L) Q Y (cd [1,0,1,0,0,1,1] Wl) (lpK 0 ((Bf L).keep 2) (bd (Bf L) Q Y (cd [1,0,1,0,0] Wl)) n k)))) L b set1 i2 0).trans (congr (congr rfl (by kernel_rfl)) (fx3 λd a c=>(a8 (by kernel_rfl) (e d a (A1 (c+1))))))) rfl))
def C03{R:Type}(L:Nat)(e a:By)(d:Int->Option R):Option R:=Im L L e a 0 d (λc=>vl (c.length:Int) λb=>d b)
def C04(d:Nat)(s0 set1):evC (Bf L) (d+1) Z Y 92 [pS s0,pS set1] [] s=C03 L s0 set1 (λa=>some (pI a,[],s)):=by refine(evE (fn:=aj1) (by kernel_rfl)).trans ?_;generalize evC (Bf L) d=Q;unfold C03;exact(a8 (by kernel_rfl) ((Ar7 L Q Y s (E2 0 (E1 (Bf L) Q Y (cd [1,1] Wl) (F4 (Bf L) aj1))) L s0 set1 0).trans (by kernel_rfl)))
noncomputable abbrev O2:Code:=C7 ah8
noncomputable def M3(L:Nat):Cfg:=B8 L [90] (A2 [(2,[0,1,0,0,0])]) [(127,A03)] (A2 [(11,[2,0,0]),(3,[0,4]),(10,[2,0,0]),(9,[0,4,67]),(8,[0,4,1,0]),(7,[0,4,0,0]),(6,[2,0,0]),(5,[0,4,0,16]),(4,[0,4,0]),(2,[0,4,6]),(1,[0,4]),(0,[0])]) [127] (A2 [(0,[]),(1,[0,4])]) (some [2,0,0]) [] [] []
def Lt{R:Type}(a:By)(b f:Int)(e:Bool)(g:By->By->Option R)(h:By->Int->Int->Bool->Option R):Option R:=cond e (cond (J0 0 b a.length) (cond (A3 (j0 (cut a 0 b))) (vl (B6 (cut a 0 b)) λc=>cond (J0 (A1 (b+1)) (a.length:Int) a.length) (vl (cut a (A1 (b+1)) (a.length:Int)) λd=>g c d) none) none) none) (h a b f e)
abbrev Vr(b:Code):Prop:=∀(k:Out->St Z->Option R) a e c d,A9 (M3 L) Q Y b ⟨gp [(0,pS a),(4,pI e),(0,p8 c),(16,pB d)] 50,[],s⟩ k=Lt a e c d (λa f=>k .ret ⟨gp [(2,pS a),(0,pS f),(0,pB true)] 69,[],s⟩) (λa e c d=>k .normal ⟨gp [(0,pS a),(4,pI e),(0,p8 c),(16,pB d)] 50,[],s⟩)
def As8:Vr (R:=R) L Q Y s (cd [1,0,1,0,0,1,0,0,1,0,1] O2):=by intro k d c a b;unfold Lt;kernel_rfl
def Lu{R:Type}(c:By)(a:Int)(b:By->Int->Option R):Option R:=b c a
abbrev Vt(b:Code):Prop:=∀(k:Out->St Z->Option R) c a,A9 (M3 L) Q Y b ⟨gp [(0,pS c),(4,pI a),(1,pB true),(0,pB true)] 65,[],s⟩ k=Lu c a (λc a=>k .normal ⟨gp [(0,pS c),(4,pI a),(67,pB false)] 0,[],s⟩)
def FI:Vt (R:=R) L Q Y s (cd [1,0,1,0,0,1,0,0,1,1,1,1] O2):=by intro k b a;unfold Lu;kernel_rfl
def Ir{R:Type}(c:By)(a:Int)(b:By->Int->Option R):Option R:=b c a
abbrev Vu(b:Code):Prop:=∀(k:Out->St Z->Option R) c a other2,A9 (M3 L) Q Y b ⟨gp [(0,pS c),(4,pI a),(1,pB true),(0,pB other2)] 65,[],s⟩ k=Ir c a (λc a=>k .normal ⟨gp [(0,pS c),(4,pI a),(67,pB false)] 0,[],s⟩)
def FJ:Vu (R:=R) L Q Y s (cd [1,0,1,0,0,1,0,0,1,1,1,1] O2):=by intro k c b a;unfold Ir;kernel_rfl
def Yy{R:Type}(c:By)(a d:Int)(b:By->Int->Option R):Option R:=cond (not (ltI d 48)) (cond (not (ltI 57 d)) (Lu c a b) (cond (d==43) (Lu c a b) (cond (d==45) (Lu c a b) (Ir c a b)))) (cond (d==43) (Ir c a b) (cond (d==45) (Ir c a b) (Ir c a b)))
abbrev Vv(b:Code):Prop:=∀(k:Out->St Z->Option R) c a b2,A9 (M3 L) Q Y b ⟨gp [(0,pS c),(4,pI a),(0,p8 b2),(0,pB true)] 66,[],s⟩ k=Yy c a b2 (λc a=>k .normal ⟨gp [(0,pS c),(4,pI a),(67,pB false)] 0,[],s⟩)
def As9(a:Code)(c:Vt (R:=R) L Q Y s a)(b:Vu (R:=R) L Q Y s a):Vv (R:=R) L Q Y s (cd [1,0,1,0,0,1,0,0,1,1,1] (G7 [1,0,1,0,0,1,0,0,1,1,1,1] a O2)):=by intro k e d f;unfold Yy;exact(a8 (by kernel_rfl) (A0 (A0 ((c k e d).trans (by kernel_rfl)) (A0 ((c k e d).trans (by kernel_rfl)) (A0 ((c k e d).trans (by kernel_rfl)) ((b k e d (f==46)).trans (by kernel_rfl))))) (A0 ((b k e d true).trans (by kernel_rfl)) (A0 ((b k e d true).trans (by kernel_rfl)) ((b k e d (f==46)).trans (by kernel_rfl))))))
def At0:Vv (R:=R) L Q Y s (cd [1,0,1,0,0,1,0,0,1,1,1] O2):=by intro k c b a;exact a8 (by kernel_rfl) (As9 L Q Y s (cd [1,0,1,0,0,1,0,0,1,1,1,1] O2) (FI L Q Y s) (FJ L Q Y s) k c b a)
def Lv{R:Type}(d:By)(b:Int)(a:Bool)(e:Unit->Option R)(c:By->Int->Bool->Option R):Option R:=cond (not a) (cond (b==0) (e ()) (c d b (b==0))) (c d b false)
abbrev NO(b:Code):Prop:=∀(k:Out->St Z->Option R) c a letter2,A9 (M3 L) Q Y b ⟨gp [(0,pS c),(4,pI a),(1,pB letter2),(0,pB true)] 65,[],s⟩ k=Lv c a letter2 (λ_=>k .ret ⟨gp [(2,pS e0),(0,pS e0),(0,pB false)] 69,[],s⟩) (λc a d=>k .normal ⟨gp [(0,pS c),(4,pI a),(67,pB d)] 0,[],s⟩)
def At1:NO (R:=R) L Q Y s (cd [1,0,1,0,0,1,0,0,1,1,1,1] O2):=by intro k c b a;unfold Lv;kernel_rfl
def It{R:Type}(f:By)(c:Int)(a b:Bool)(d:Unit->Option R)(e:By->Int->Bool->Option R):Option R:=cond (not a) (cond (not b) (d ()) (cond (c==0) (d ()) (e f c (c==0)))) (e f c false)
abbrev NP(b:Code):Prop:=∀(k:Out->St Z->Option R) c a letter2 other3,A9 (M3 L) Q Y b ⟨gp [(0,pS c),(4,pI a),(1,pB letter2),(0,pB other3)] 65,[],s⟩ k=It c a letter2 other3 (λ_=>k .ret ⟨gp [(2,pS e0),(0,pS e0),(0,pB false)] 69,[],s⟩) (λc a d=>k .normal ⟨gp [(0,pS c),(4,pI a),(67,pB d)] 0,[],s⟩)
def At2:NP (R:=R) L Q Y s (cd [1,0,1,0,0,1,0,0,1,1,1,1] O2):=by intro k d c a b;unfold It;kernel_rfl
def Iu{R:Type}(f:By)(c b:Int)(a:Bool)(d:Unit->Option R)(e:By->Int->Bool->Option R):Option R:=cond (not (ltI b 48)) (cond (not (ltI 57 b)) (Lv f c a (λ_=>d ()) e) (cond (b==43) (Lv f c a (λ_=>d ()) e) (cond (b==45) (Lv f c a (λ_=>d ()) e) (It f c a (b==46) (λ_=>d ()) e)))) (cond (b==43) (It f c a true (λ_=>d ()) e) (cond (b==45) (It f c a true (λ_=>d ()) e) (It f c a (b==46) (λ_=>d ()) e)))
abbrev Vw(b:Code):Prop:=∀(k:Out->St Z->Option R) d c a letter3,A9 (M3 L) Q Y b ⟨gp [(0,pS d),(4,pI c),(0,p8 a),(0,pB letter3)] 66,[],s⟩ k=Iu d c a letter3 (λ_=>k .ret ⟨gp [(2,pS e0),(0,pS e0),(0,pB false)] 69,[],s⟩) (λd c a=>k .normal ⟨gp [(0,pS d),(4,pI c),(67,pB a)] 0,[],s⟩)
def At3(a:Code)(d:Vt (R:=R) L Q Y s a)(e:Vu (R:=R) L Q Y s a)(b:NO (R:=R) L Q Y s a)(c:NP (R:=R) L Q Y s a):Vw (R:=R) L Q Y s (cd [1,0,1,0,0,1,0,0,1,1,1] (G7 [1,0,1,0,0,1,0,0,1,1,1,1] a O2)):=by intro k i h g f;unfold Iu;simp only[<-b k,<-c k];kernel_rfl
def At4:Vw (R:=R) L Q Y s (cd [1,0,1,0,0,1,0,0,1,1,1] O2):=by intro k d c b a;exact a8 (by kernel_rfl) (At3 L Q Y s (cd [1,0,1,0,0,1,0,0,1,1,1,1] O2) (FI L Q Y s) (FJ L Q Y s) (At1 L Q Y s) (At2 L Q Y s) k d c b a)
def Be{R:Type}(f:By)(c a:Int)(d:By->Int->Bool->Option R)(g:Unit->Option R):Option R:=cond (not (ltI a 97)) (cond (not (ltI 122 a)) (Yy f c a (λe b=>d e b false)) (cond (not (ltI a 65)) (Iu f c a (not (ltI 90 a)) (λ_=>g ()) d) (Iu f c a false (λ_=>g ()) d))) (cond (not (ltI a 65)) (Iu f c a (not (ltI 90 a)) (λ_=>g ()) d) (Iu f c a false (λ_=>g ()) d))
abbrev Nx(b:Code):Prop:=∀(k:Out->St Z->Option R) d c a b3,A9 (M3 L) Q Y b ⟨gp [(0,pS d),(4,pI c),(0,p8 a),(16,pB b3)] 50,[],s⟩ k=Be d c a (λd c a=>k .normal ⟨gp [(0,pS d),(4,pI c),(67,pB a)] 0,[],s⟩) (λ_=>k .ret ⟨gp [(2,pS e0),(0,pS e0),(0,pB false)] 69,[],s⟩)
def At5(a:Code)(b:Vv (R:=R) L Q Y s a)(c:Vw (R:=R) L Q Y s a):Nx (R:=R) L Q Y s (cd [1,0,1,0,0,1,0,0,1,1] (G7 [1,0,1,0,0,1,0,0,1,1,1] a O2)):=by intro k g f d e;unfold Be;simp only[<-b k,<-c k];kernel_rfl
def At6:Nx (R:=R) L Q Y s (cd [1,0,1,0,0,1,0,0,1,1] O2):=by intro k d c a b;exact a8 (by kernel_rfl) (At5 L Q Y s (cd [1,0,1,0,0,1,0,0,1,1,1] O2) (At0 L Q Y s) (At4 L Q Y s) k d c a b)
def O9{R:Type}(L n:Nat)(b:By)(a:Int)(c:By->By->Bool->Option R)(t:Unit->Option R):Option R:=match n with|0=>none|n+1=>cond (ltI a (b.length:Int)) (cond (inR a b.length) (cond ((bAt b a)==58) (Lt b a (bAt b a) (ltI 0 a) (λu v=>c u v true) (λw r q A=>Be w r q (λj e x=>vl (A1 (e+1)) λh=>O9 L n j h c t) (λ_=>c e0 e0 false))) (Lt b a (bAt b a) false (λl m=>c l m true) (λo f d y=>Be o f d (λp g z=>vl (A1 (g+1)) λi=>O9 L n p i c t) (λ_=>c e0 e0 false)))) none) (t ())
def At7(b:Code)(c:Vr (R:=R) L Q Y s b)(a:Code)(d:Nx (R:=R) L Q Y s a)(n:Nat)(e:By)(f:Int):D0 0 ((M3 L).keep 2) (bd (M3 L) Q Y (cd [1,0,1,0,0] (G7 [1,0,1,0,0,1,0,0,1,1] a (G7 [1,0,1,0,0,1,0,0,1,0,1] b O2)))) n ⟨gp [(0,pS e),(4,pI f)] 68,[],s⟩ k =
 O9 L n e f (λe D C=>k .ret ⟨gp [(2,pS e),(0,pS D),(0,pB C)] 69,[],s⟩) (λ_=>k (.exit 0) ⟨gp [] 74,[],s⟩):=by
 induction n generalizing e f with
 | zero=>rfl
 | succ n B=>rw[O9];exact let q:=(E2 1 (E1 (M3 L) Q Y (cd [1,0,1,0,0,1,1] O2) (lpK 0 ((M3 L).keep 2) (bd (M3 L) Q Y (cd [1,0,1,0,0] (G7 [1,0,1,0,0,1,0,0,1,1] a (G7 [1,0,1,0,0,1,0,0,1,0,1] b O2)))) n k)));let w:=(E1 (M3 L) Q Y a q);(a8 (by kernel_rfl) (A0 (A0 (A0 ((c w e f (bAt e f) (ltI 0 f)).trans (congr (congr rfl (by kernel_rfl)) (fx4 λv u r t=>(a8 (by kernel_rfl) ((d q v u r t).trans (congr (congr rfl (fx3 λm z x=>(a8 (by kernel_rfl) (A4 λj=>(B m j))))) (by kernel_rfl))))))) ((c w e f (bAt e f) false).trans (congr (congr rfl (by kernel_rfl)) (fx4 λo i g h=>(a8 (by kernel_rfl) ((d q o i g h).trans (congr (congr rfl (fx3 λp A y=>(a8 (by kernel_rfl) (A4 λl=>(B p l))))) (by kernel_rfl)))))))) rfl) rfl))
def As7{R:Type}(L:Nat)(b:By)(a:By->By->Bool->Option R):Option R:=O9 L L b 0 a (λ_=>a e0 e0 false)
def C11(a:Code)(c:Vr (R:=PV × List Blk × Z) L Q Y s a)(b:Code)(d:Nx (R:=PV × List Blk × Z) L Q Y s b)(e:By):A9 (M3 L) Q Y (cd [] (G7 [1,0,1,0,0,1,0,0,1,1] b (G7 [1,0,1,0,0,1,0,0,1,0,1] a O2))) ⟨[pS e]++tps 73,[],s⟩ (F4 (M3 L) ah8)=As7 L e (λf g h=>some (.tup [pS f,pS g,pB h],[],s)):=by unfold As7;exact(a8 (by kernel_rfl) ((At7 L Q Y s (E2 0 (E1 (M3 L) Q Y (cd [1,1] O2) (F4 (M3 L) ah8))) a c b d L e 0).trans (by kernel_rfl)))
def C12(d:Nat)(s0):evC (M3 L) (d+1) Z Y 90 [pS s0] [] s=As7 L s0 (λa b c=>some (.tup [pS a,pS b,pB c],[],s)):=
 (evE (fn:=ah8) (by kernel_rfl)).trans (a8 (by kernel_rfl) (C11 L (evC (M3 L) d) Y s (cd [1,0,1,0,0,1,0,0,1,0,1] O2) (As8 L (evC (M3 L) d) Y s) (cd [1,0,1,0,0,1,0,0,1,1] O2) (At6 L (evC (M3 L) d) Y s) s0))
noncomputable abbrev M0:Code:=C7 ah7
noncomputable def J7(L:Nat):Cfg:=B8 L [57] (A2 [(36,[2,0,1,3,0,4,0]),(20,[2,0,1,3,0,0]),(2,[0,1,0,0])]) [(90,Bt8),(91,JE),(92,Bt7),(93,PW),(94,Bt9)] (A2 [(46,[2,0]),(45,[2,7]),(44,[2,7,173]),(43,[2,2,4]),(42,[2,0]),(41,[2,2,4,4,160]),(37,[2,2,3,0,4,0]),(40,[2,2,3,0,4,0]),(39,[2,0]),(38,[2,2,3,0,4,0,147]),(36,[2,2,3,0,4,0,135]),(35,[2,2,3,0,4,0]),(34,[2,2,3,0,1,2]),(33,[2,2,3,0,1,133]),(32,[2,2,3,0,1]),(31,[2,0]),(30,[2,2,3,0,1,0,0,122]),(29,[2,2,3,0,1,0,0]),(28,[2,0]),(27,[2,2,3,0,1,114]),(26,[2,2,3,0,1]),(25,[2,2,3,0,1,95]),(24,[2,2,3,0,1]),(21,[2,2,3,0,0]),(23,[2,2,3,0]),(22,[2,2,3,0,0,79]),(20,[2,2,3,0,0,73]),(19,[2,2,3,0,0]),(18,[2,2,3,0]),(17,[2,2,0,2,0,66]),(16,[2,2,0,2,0]),(15,[2,2,0,2]),(14,[2,2,0,1]),(13,[2,2,0]),(12,[2,0]),(11,[2,2,0,49]),(10,[2,0]),(9,[2,2,0,38]),(8,[2,0]),(7,[2,2,0,34]),(6,[2,2,0,0]),(3,[0,1,1]),(5,[2,0]),(4,[0,1,1,27]),(2,[0,1,1,15]),(1,[0,1,1]),(0,[0,1])]) [90,91,92,94] (A2 [(4,[2,2,4,4]),(5,[2,2,3,0,4,0]),(2,[2,2,3,0]),(3,[2,2,3,0,0]),(0,[0,1]),(1,[0,1,1])]) (some [2,0]) [] [] []
def Ff{R:Type}(L n:Nat)(a:By)(b:Int)(c:(List Blk)->Option R)(d:By->Option R):Option R:=match n with|0=>none|n+1=>cond (ltI b (a.length:Int)) (cond (inR b a.length) (cond (not (ltI 32 (bAt a b))) (c []) (cond (inR b a.length) (cond ((bAt a b)==127) (c []) (Ff L n a (A1 (b+1)) c d)) none)) none) (d a)
def As3(n a i1):D0 1 ((J7 L).keep 2) (bd (J7 L) Q Y (cd [1,0,1,0,0] M0)) n ⟨gp [(0,pS a),(1,.ptr 0 0 0),(1,pI i1)] 182,[bU0],s⟩ k =
 Ff L n a i1 (λb=>k .ret ⟨gp [(2,.ptr 0 0 0),(0,pI (4:Int))] 183,(bU0::b),s⟩) (λa=>k (.exit 0) ⟨gp [(0,pS a),(1,.ptr 0 0 0)] 184,[bU0],s⟩):=by
 induction n generalizing a i1 with
 | zero=>rfl
 | succ n c=>rw[Ff];simp only[<-c];kernel_rfl
def Z9{R:Type}(L n:Nat)(b a:By)(c:Int)(g:By)(f:By->By->By->By->Option R):Option R:=match n with|0=>none|n+1=>cond (not (ltI c 0)) (cond (inR c a.length) (cond ((bAt a c)==64) (cond (J0 0 c a.length) (vl (cut a 0 c) λd=>cond (J0 (A1 (c+1)) (a.length:Int) a.length) (vl (cut a (A1 (c+1)) (a.length:Int)) λe=>f b e d g) none) none) (Z9 L n b a (A1 (c-1)) g f)) none) (f b a e0 g)
def FG(n b a i2 c):D0 2 ((J7 L).keep 20) (bd (J7 L) Q Y (cd [1,1,1,1,1,1,1,1,1,1,1,0,1,0,0] M0)) n ⟨gp [(2,.ptr 0 0 0),(2,pS b),(3,pS a),(0,.ptr 1 0 0),(0,pI i2)] 175,[bU0,(bU b [] 0 [] 0 0 0 0 0 0 0 0 0 (-1) c)],s⟩ k =
 Z9 L n b a i2 c (λb a e c=>k (.exit 2) ⟨gp [(2,.ptr 0 0 0),(2,pS b),(3,pS a),(0,.ptr 1 0 0)] 176,[bU0,(bU b e 0 [] 0 0 0 0 0 0 0 0 0 (-1) c)],s⟩):=by
 induction n generalizing b a i2 c with
 | zero=>rfl
 | succ n d=>rw[Z9];simp only[<-d];kernel_rfl
def Cz{R:Type}(c a:By)(d:Int)(h:Bool)(f g:By)(i:(List Blk)->Option R)(j:By->By->Int->Bool->By->By->Option R)(l:By->By->Int->Bool->By->By->Option R):Option R:=cond h (cond (A3 a.length) (vl (↑(S7 a ([93]:List UInt8)):Int) λe=>vl (A1 (e+1)) λb=>cond (ltI (a.length:Int) b) (i [(bU c f 0 [] 0 0 0 0 0 0 0 0 0 (-1) g)]) (cond (ltI b (a.length:Int)) (cond (inR b a.length) (cond ((bAt a b)!=58) (i [(bU c f 0 [] 0 0 0 0 0 0 0 0 0 (-1) g)]) (j c a b ((bAt a b)!=58) f g)) none) (j c a b false f g))) none) (l c a d h f g)
abbrev Vm(b:Code):Prop:=∀(k:Out->St Z->Option R) c a d e f g,A9 (J7 L) Q Y b ⟨gp [(2,.ptr 0 0 0),(2,pS c),(3,pS a),(0,.ptr 1 0 0),(1,pI d),(95,pB e)] 78,[bU0,(bU c f 0 [] 0 0 0 0 0 0 0 0 0 (-1) g)],s⟩ k=Cz c a d e f g (λh=>k .ret ⟨gp [(2,.ptr 0 0 0),(0,pI (4:Int))] 183,(bU0::h),s⟩) (λc a d e f g=>k .normal ⟨gp [(2,.ptr 0 0 0),(2,pS c),(3,pS a),(0,.ptr 1 0 0),(1,pI d),(114,pB e)] 59,[bU0,(bU c f 0 [] 0 0 0 0 0 0 0 0 0 (-1) g)],s⟩) (λc a d e f g=>k .normal ⟨gp [(2,.ptr 0 0 0),(2,pS c),(3,pS a),(0,.ptr 1 0 0),(1,pI d),(95,pB e)] 78,[bU0,(bU c f 0 [] 0 0 0 0 0 0 0 0 0 (-1) g)],s⟩)
def FD:Vm (R:=R) L Q Y s (cd [1,1,1,1,1,1,1,1,1,1,1,1,1,0,1] M0):=by intro k b a c d e f;unfold Cz;kernel_rfl
def Fg{R:Type}(L n:Nat)(b a:By)(y l:Int)(v:By)(o:Int)(r:By)(p i q c d e f g h:Int)(j:By)(w:(List Blk)->Option R)(x:By->Int->By->Int->By->Int->Int->Int->Int->Int->Int->Int->Int->Int->By->Option R):Option R:=match n with|0=>none|n+1=>cond (ltI l (a.length:Int)) (cond (inR l a.length) (cond (ltI (bAt a l) (48:Int)) (w [(bU b v o r p i q c d e f g h (-1) j),(bH o r p i q c d e f g h)]) (cond (inR l a.length) (cond (ltI 57 (bAt a l)) (w [(bU b v o r p i q c d e f g h (-1) j),(bH o r p i q c d e f g h)]) (cond (inR l a.length) (vl (wu8 ((bAt a l)-48)) λt=>vl (A1 ((A1 (y*10))+(A1 t))) λm=>vl (if ((1048576:Int)<m) then (1048576:Int) else m) λu=>Fg L n b a u (A1 (l+1)) v o r p i q c d e f g h j w x) none)) none)) none) (x b y v o r p i q c d e f g h j)
def FH(n a authority1 n2 i3 j g s6 h f i b c d e n14 n15 s16):D0 3 ((J7 L).keep 36) (bd (J7 L) Q Y (cd [1,1,1,1,1,1,1,1,1,1,1,1,1,1,1,1,1,0,1,0,1,0,1,0,0] M0)) n ⟨gp [(2,.ptr 0 0 0),(2,pS a),(3,pS authority1),(0,.ptr 1 0 0),(4,pI n2),(0,pI i3)] 170,[bU0,(bU a j g s6 h f i b c d e n14 n15 (-1) s16),(bH g s6 h f i b c d e n14 n15)],s⟩ k =
 Fg L n a authority1 n2 i3 j g s6 h f i b c d e n14 n15 s16 (λp=>k .ret ⟨gp [(2,.ptr 0 0 0),(0,pI (16:Int))] 183,(bU0::p),s⟩) (λa r t m j g o h f i b c d e l=>k (.exit 4) ⟨gp [(2,.ptr 0 0 0),(2,pS a),(4,.ptr 1 0 0),(4,pI r)] 171,[bU0,(bU a t m j g o h f i b c d e (-1) l),(bH m j g o h f i b c d e)],s⟩):=by
 induction n generalizing a authority1 n2 i3 j g s6 h f i b c d e n14 n15 s16 with
 | zero=>rfl
 | succ n q=>rw[Fg];simp only[<-q];kernel_rfl
def T7{R:Type}(L:Nat)(d b:By)(t:Int)(x y:By)(w:Int->By->By->Int->By->Int->Int->Int->Int->Int->Int->Int->Int->Int->Int->By->(List Blk)->Option R):Option R:=cond (J0 0 t b.length) (vl (cut b 0 t) λv=>cond (A3 v.length) (vl (C3 v) λa=>cond ((↑(a).2:Int)!=0) (w (↑(a).2:Int) e0 e0 0 e0 0 0 0 0 0 0 0 0 0 0 e0 [(bU d x 0 [] 0 0 0 0 0 0 0 0 0 (-1) y),(bH (hK a) (hN a) (hV a) (hA a 0) (hA a 1) (hA a 2) (hA a 3) (hA a 4) (hA a 5) (hA a 6) (hA a 7))]) (vl (A1 (t+1)) λA=>cond (ltI A (b.length:Int)) (vl (A1 (t+1)) λB=>Fg L L d b 0 B x (hK a) (hN a) (hV a) (hA a 0) (hA a 1) (hA a 2) (hA a 3) (hA a 4) (hA a 5) (hA a 6) (hA a 7) y (λz=>w 16 e0 e0 0 e0 0 0 0 0 0 0 0 0 0 0 e0 z) (λc u q e p f g h i j l m n o r=>cond (ltI 65535 u) (w 16 e0 e0 0 e0 0 0 0 0 0 0 0 0 0 0 e0 [(bU c q e p f g h i j l m n o (-1) r),(bH e p f g h i j l m n o)]) (cond (u==(P4 c)) (w 0 c q e p f g h i j l m n o (-1) r [(bU c q e p f g h i j l m n o (-1) r),(bH e p f g h i j l m n o)]) (w 0 c q e p f g h i j l m n o u r [(bU c q e p f g h i j l m n o u r),(bH e p f g h i j l m n o)])))) (cond (((-1):Int)==(P4 d)) (w 0 d x (hK a) (hN a) (hV a) (hA a 0) (hA a 1) (hA a 2) (hA a 3) (hA a 4) (hA a 5) (hA a 6) (hA a 7) (-1) y [(bU d x (hK a) (hN a) (hV a) (hA a 0) (hA a 1) (hA a 2) (hA a 3) (hA a 4) (hA a 5) (hA a 6) (hA a 7) (-1) y),(bH (hK a) (hN a) (hV a) (hA a 0) (hA a 1) (hA a 2) (hA a 3) (hA a 4) (hA a 5) (hA a 6) (hA a 7))]) (w 0 d x (hK a) (hN a) (hV a) (hA a 0) (hA a 1) (hA a 2) (hA a 3) (hA a 4) (hA a 5) (hA a 6) (hA a 7) (-1) y [(bU d x (hK a) (hN a) (hV a) (hA a 0) (hA a 1) (hA a 2) (hA a 3) (hA a 4) (hA a 5) (hA a 6) (hA a 7) (-1) y),(bH (hK a) (hN a) (hV a) (hA a 0) (hA a 1) (hA a 2) (hA a 3) (hA a 4) (hA a 5) (hA a 6) (hA a 7))])))) none) none
abbrev Vn(b:Code):Prop:=∀(k:Out->St Z->Option R) name0 authority1 end2 b3 a s5,A9 (J7 L) Q Y b ⟨gp [(2,.ptr 0 0 0),(2,pS name0),(3,pS authority1),(0,.ptr 1 0 0),(1,pI end2),(114,pB b3)] 59,[bU0,(bU name0 a 0 [] 0 0 0 0 0 0 0 0 0 (-1) s5)],s⟩ k=T7 L name0 authority1 end2 a s5 (λn0 q r l a m n o i p d e f g h j c=>k .ret ⟨gp [(2,.ptr 0 0 0),(0,pI n0)] 183,((bU q r l a m n o i p d e f g h j)::c),s⟩)
def FE:Vn (R:=R) L Q Y s (cd [1,1,1,1,1,1,1,1,1,1,1,1,1,1] M0):=by intro k c b e j h i;unfold T7;exact(a8 (by kernel_rfl) (A0 (A4 λg=>(A0 (A4 λa=>(A0 rfl (A4 λf=>(A0 (A4 λd=>((FH L Q Y s (E2 4 (E1 (J7 L) Q Y (cd [1,1,1,1,1,1,1,1,1,1,1,1,1,1,1,1,1,0,1,0,1,1] M0) (E1 (J7 L) Q Y (cd [1,1,1,1,1,1,1,1,1,1,1,1,1,1,1,1,1,1] M0) k))) L c b 0 d h (hK a) (hN a) (hV a) (hA a 0) (hA a 1) (hA a 2) (hA a 3) (hA a 4) (hA a 5) (hA a 6) (hA a 7) i).trans (by kernel_rfl))) (A0 rfl rfl))))) rfl)) rfl))
def Ls{R:Type}(L:Nat)(p c:By)(u:Int)(A B:By)(x:Int->By->By->Int->By->Int->Int->Int->Int->Int->Int->Int->Int->Int->Int->By->(List Blk)->Option R):Option R:=cond (J0 0 u c.length) (vl (cut c 0 u) λv=>cond (A3 v.length) (vl (C3 v) λa=>cond ((↑(a).2:Int)!=0) (x (↑(a).2:Int) e0 e0 0 e0 0 0 0 0 0 0 0 0 0 0 e0 [(bU p A 0 [] 0 0 0 0 0 0 0 0 0 (-1) B),(bH (hK a) (hN a) (hV a) (hA a 0) (hA a 1) (hA a 2) (hA a 3) (hA a 4) (hA a 5) (hA a 6) (hA a 7))]) (vl (A1 (u+1)) λy=>cond (ltI y (c.length:Int)) (vl (A1 (u+1)) λz=>Fg L L p c 0 z A (hK a) (hN a) (hV a) (hA a 0) (hA a 1) (hA a 2) (hA a 3) (hA a 4) (hA a 5) (hA a 6) (hA a 7) B (λw=>x 16 e0 e0 0 e0 0 0 0 0 0 0 0 0 0 0 e0 w) (λb t q d o e f g h i j l m n r=>cond (ltI 65535 t) (x 16 e0 e0 0 e0 0 0 0 0 0 0 0 0 0 0 e0 [(bU b q d o e f g h i j l m n (-1) r),(bH d o e f g h i j l m n)]) (cond (t==(P4 b)) (x 0 b q d o e f g h i j l m n (-1) r [(bU b q d o e f g h i j l m n (-1) r),(bH d o e f g h i j l m n)]) (x 0 b q d o e f g h i j l m n t r [(bU b q d o e f g h i j l m n t r),(bH d o e f g h i j l m n)])))) (cond (((-1):Int)==(P4 p)) (x 0 p A (hK a) (hN a) (hV a) (hA a 0) (hA a 1) (hA a 2) (hA a 3) (hA a 4) (hA a 5) (hA a 6) (hA a 7) (-1) B [(bU p A (hK a) (hN a) (hV a) (hA a 0) (hA a 1) (hA a 2) (hA a 3) (hA a 4) (hA a 5) (hA a 6) (hA a 7) (-1) B),(bH (hK a) (hN a) (hV a) (hA a 0) (hA a 1) (hA a 2) (hA a 3) (hA a 4) (hA a 5) (hA a 6) (hA a 7))]) (x 0 p A (hK a) (hN a) (hV a) (hA a 0) (hA a 1) (hA a 2) (hA a 3) (hA a 4) (hA a 5) (hA a 6) (hA a 7) (-1) B [(bU p A (hK a) (hN a) (hV a) (hA a 0) (hA a 1) (hA a 2) (hA a 3) (hA a 4) (hA a 5) (hA a 6) (hA a 7) (-1) B),(bH (hK a) (hN a) (hV a) (hA a 0) (hA a 1) (hA a 2) (hA a 3) (hA a 4) (hA a 5) (hA a 6) (hA a 7))])))) none) none
abbrev Vo(b:Code):Prop:=∀(k:Out->St Z->Option R) name0 authority1 end2 b3 a s5,A9 (J7 L) Q Y b ⟨gp [(2,.ptr 0 0 0),(2,pS name0),(3,pS authority1),(0,.ptr 1 0 0),(1,pI end2),(95,pB b3)] 78,[bU0,(bU name0 a 0 [] 0 0 0 0 0 0 0 0 0 (-1) s5)],s⟩ k=Ls L name0 authority1 end2 a s5 (λn0 q r l a m n o i p d e f g h j c=>k .ret ⟨gp [(2,.ptr 0 0 0),(0,pI n0)] 183,((bU q r l a m n o i p d e f g h j)::c),s⟩)
def FF:Vo (R:=R) L Q Y s (cd [1,1,1,1,1,1,1,1,1,1,1,1,1,1] M0):=by intro k d b f j h i;unfold Ls;exact(a8 (by kernel_rfl) (A0 (A4 λg=>(A0 (A4 λa=>(A0 rfl (A4 λe=>(A0 (A4 λc=>((FH L Q Y s (E2 4 (E1 (J7 L) Q Y (cd [1,1,1,1,1,1,1,1,1,1,1,1,1,1,1,1,1,0,1,0,1,1] M0) (E1 (J7 L) Q Y (cd [1,1,1,1,1,1,1,1,1,1,1,1,1,1,1,1,1,1] M0) k))) L d b 0 c h (hK a) (hN a) (hV a) (hA a 0) (hA a 1) (hA a 2) (hA a 3) (hA a 4) (hA a 5) (hA a 6) (hA a 7) i).trans (by kernel_rfl))) (A0 rfl rfl))))) rfl)) rfl))
def Iq{R:Type}(L:Nat)(v b O:By)(A:Int->By->By->Int->By->Int->Int->Int->Int->Int->Int->Int->Int->Int->Int->By->(List Blk)->Option R):Option R:=vl (A1 ((b.length:Int)-1)) λC=>Z9 L L v b C O (λg a r t=>cond (A3 a.length) (vl (↑(S7 a ([58]:List UInt8)):Int) λq=>cond (not (a==e0)) (cond (inR 0 a.length) (vl (bAt a (0:Int)) λD=>Cz g a q (D==91) r t (λB=>A 4 e0 e0 0 e0 0 0 0 0 0 0 0 0 0 0 e0 B) (λm e o M F G=>T7 L m e o F G A) (λn f p N H I=>Ls L n f p H I A)) none) (Cz g a q false r t (λu=>A 4 e0 e0 0 e0 0 0 0 0 0 0 0 0 0 0 e0 u) (λh c j J w x=>T7 L h c j w x A) (λi d l K y z=>Ls L i d l y z A))) none)
abbrev Vp(b:Code):Prop:=∀(k:Out->St Z->Option R) name0 authority1 a,A9 (J7 L) Q Y b ⟨gp [(2,.ptr 0 0 0),(2,pS name0),(3,pS authority1),(0,.ptr 1 0 0)] 176,[bU0,(bU name0 [] 0 [] 0 0 0 0 0 0 0 0 0 (-1) a)],s⟩ k=Iq L name0 authority1 a (λn0 q a l r m n o i p d e f g h j c=>k .ret ⟨gp [(2,.ptr 0 0 0),(0,pI n0)] 183,((bU q a l r m n o i p d e f g h j)::c),s⟩)
def Ar8(b:Code)(d:Vm (R:=R) L Q Y s b)(a:Code)(e:Vn (R:=R) L Q Y s a)(f:Vo (R:=R) L Q Y s a):Vp (R:=R) L Q Y s (cd [1,1,1,1,1,1,1,1,1,1,1] (G7 [1,1,1,1,1,1,1,1,1,1,1,1,1,1] a (G7 [1,1,1,1,1,1,1,1,1,1,1,1,1,0,1] b M0))):=by intro k B l T;unfold Iq;exact let S:=(E1 (J7 L) Q Y a k);(a8 (by kernel_rfl) (A4 λJ=>((FG L Q Y s (E2 2 (E1 (J7 L) Q Y (cd [1,1,1,1,1,1,1,1,1,1,1,1] (G7 [1,1,1,1,1,1,1,1,1,1,1,1,1,1] a (G7 [1,1,1,1,1,1,1,1,1,1,1,1,1,0,1] b M0))) k)) L B l J T).trans (congr rfl (fx4 λm c x y=>(a8 (by kernel_rfl) (A0 (A4 λw=>(A0 (A0 (A4 λK=>((d S m c w (K==91) x y).trans (congr (congr (congr rfl (by kernel_rfl)) (fx6 λr i u H M N=>(a8 (by kernel_rfl) ((e k r i u H M N).trans (by kernel_rfl))))) (fx6 λt j v I O P=>(a8 (by kernel_rfl) ((f k t j v I O P).trans (by kernel_rfl))))))) rfl) ((d S m c w false x y).trans (congr (congr (congr rfl (by kernel_rfl)) (fx6 λn g p z C D=>(a8 (by kernel_rfl) ((e k n g p z C D).trans (by kernel_rfl))))) (fx6 λo h q A F G=>(a8 (by kernel_rfl) ((f k o h q A F G).trans (by kernel_rfl)))))))) rfl)))))))
def Ar9:Vp (R:=R) L Q Y s (cd [1,1,1,1,1,1,1,1,1,1,1] M0):=by intro k b a c;exact a8 (by kernel_rfl) (Ar8 L Q Y s (cd [1,1,1,1,1,1,1,1,1,1,1,1,1,0,1] M0) (FD L Q Y s) (cd [1,1,1,1,1,1,1,1,1,1,1,1,1,1] M0) (FE L Q Y s) (FF L Q Y s) k b a c)
def NN{R:Type}(L:Nat)(y z b:By)(J:Int->By->By->Int->By->Int->Int->Int->Int->Int->Int->Int->Int->Int->Int->By->(List Blk)->Option R):Option R:=vl (A1 ((b.length:Int)-1)) λw=>Z9 L L y b w z (λg a r t=>cond (A3 a.length) (vl (↑(S7 a ([58]:List UInt8)):Int) λq=>cond (not (a==e0)) (cond (inR 0 a.length) (vl (bAt a (0:Int)) λx=>Cz g a q (x==91) r t (λu=>J 4 e0 e0 0 e0 0 0 0 0 0 0 0 0 0 0 e0 u) (λh c m K A B=>T7 L h c m A B J) (λi d n M C D=>Ls L i d n C D J)) none) (Cz g a q false r t (λv=>J 4 e0 e0 0 e0 0 0 0 0 0 0 0 0 0 0 e0 v) (λj e o N F G=>T7 L j e o F G J) (λl f p O H I=>Ls L l f p H I J))) none)
abbrev Vq(b:Code):Prop:=∀(k:Out->St Z->Option R) name0 rest1 authority2 b3,A9 (J7 L) Q Y b ⟨gp [(2,.ptr 0 0 0),(2,pS name0),(0,pS rest1),(2,pS authority2),(0,.ptr 1 0 0),(66,pB b3)] 109,[bU0,(bU name0 [] 0 [] 0 0 0 0 0 0 0 0 0 (-1) rest1)],s⟩ k=NN L name0 rest1 authority2 (λn0 p q j r l m n h o c d e f g i a=>k .ret ⟨gp [(2,.ptr 0 0 0),(0,pI n0)] 183,((bU p q j r l m n h o c d e f g i)::a),s⟩)
def As1(b:Code)(d:Vm (R:=R) L Q Y s b)(a:Code)(e:Vn (R:=R) L Q Y s a)(f:Vo (R:=R) L Q Y s a):Vq (R:=R) L Q Y s (cd [1,1,1,1,1,1,1,1,1,1,1] (G7 [1,1,1,1,1,1,1,1,1,1,1,1,1,1] a (G7 [1,1,1,1,1,1,1,1,1,1,1,1,1,0,1] b M0))):=by intro k G H m U;unfold NN;exact let T:=(E1 (J7 L) Q Y a k);(a8 (by kernel_rfl) (A4 λD=>((FG L Q Y s (E2 2 (E1 (J7 L) Q Y (cd [1,1,1,1,1,1,1,1,1,1,1,1] (G7 [1,1,1,1,1,1,1,1,1,1,1,1,1,1] a (G7 [1,1,1,1,1,1,1,1,1,1,1,1,1,0,1] b M0))) k)) L G m D H).trans (congr rfl (fx4 λl c x y=>(a8 (by kernel_rfl) (A0 (A4 λw=>(A0 (A0 (A4 λF=>((d T l c w (F==91) x y).trans (congr (congr (congr rfl (by kernel_rfl)) (fx6 λn g r z I J=>(a8 (by kernel_rfl) ((e k n g r z I J).trans (by kernel_rfl))))) (fx6 λo h t A K M=>(a8 (by kernel_rfl) ((f k o h t A K M).trans (by kernel_rfl))))))) rfl) ((d T l c w false x y).trans (congr (congr (congr rfl (by kernel_rfl)) (fx6 λp i u B N O=>(a8 (by kernel_rfl) ((e k p i u B N O).trans (by kernel_rfl))))) (fx6 λq j v C P S=>(a8 (by kernel_rfl) ((f k q j v C P S).trans (by kernel_rfl)))))))) rfl)))))))
def As2:Vq (R:=R) L Q Y s (cd [1,1,1,1,1,1,1,1,1,1,1] M0):=by intro k b c a d;exact a8 (by kernel_rfl) (As1 L Q Y s (cd [1,1,1,1,1,1,1,1,1,1,1,1,1,0,1] M0) (FD L Q Y s) (cd [1,1,1,1,1,1,1,1,1,1,1,1,1,1] M0) (FE L Q Y s) (FF L Q Y s) k b c a d)
def Qw{R:Type}(L:Nat)(s0:By)(k0:By->By->Int->By->Int->Int->Int->Int->Int->Int->Int->Int->Int->Int->By->Int->(List Blk)->Option R):Option R:=Ff L L s0 0 (λb4=>k0 e0 e0 0 e0 0 0 0 0 0 0 0 0 0 0 e0 4 (bU0::b4)) (λa=>cond (A3 a.length) (cond (not (((Ei a)).2).2) (k0 e0 e0 0 e0 0 0 0 0 0 0 0 0 0 0 e0 15 [bU0]) (cond (not (F3 ((Ei a)).1)) (k0 ((Ei a)).1 e0 0 e0 0 0 0 0 0 0 0 0 0 (-1) (((Ei a)).2).1 0 [(bU (((Ei a)).1) e0 (0:Int) e0 (0:Int) (0:Int) (0:Int) (0:Int) (0:Int) (0:Int) (0:Int) (0:Int) (0:Int) ((-1):Int) ((((Ei a)).2).1))]) (cond (ltI (↑(j0 (((Ei a)).2).1):Int) (2:Int)) (k0 e0 e0 0 e0 0 0 0 0 0 0 0 0 0 0 e0 4 [bU0]) (cond (J0 0 (2:Int) (j0 (((Ei a)).2).1)) (vl (cut (((Ei a)).2).1 (0:Int) (2:Int)) λb5=>cond (not (b5==[47,47])) (k0 e0 e0 0 e0 0 0 0 0 0 0 0 0 0 0 e0 4 [bU0]) (cond (J0 2 (↑(j0 (((Ei a)).2).1):Int) (j0 (((Ei a)).2).1)) (vl (cut (((Ei a)).2).1 (2:Int) (↑(j0 (((Ei a)).2).1):Int)) λb=>cond (A3 b.length) (vl (↑(S7 b ([47,63,35]:List UInt8)):Int) λd=>cond (J0 0 d b.length) (cond (J0 d (b.length:Int) b.length) (vl (cut b d (b.length:Int)) λc=>cond (c==e0) (cond (E6 1 c.length) (vl (([47]:List UInt8)++c) λb2=>Iq L ((Ei a)).1 (cut b 0 d) b2 (λa9 P S e T f g h i j l m n o p U a5=>k0 P S e T f g h i j l m n o p U a9 ((bU P S e T f g h i j l m n o p U)::a5))) none) (cond (inR 0 c.length) (cond ((bAt c (0:Int))!=47) (cond (E6 1 c.length) (vl (([47]:List UInt8)++c) λb3=>Iq L ((Ei a)).1 (cut b 0 d) b3 (λb0 V W q X r t u v w x y z A B a0 a6=>k0 V W q X r t u v w x y z A B a0 b0 ((bU V W q X r t u v w x y z A B a0)::a6))) none) (NN L ((Ei a)).1 c (cut b 0 d) (λb1 a1 a2 C a3 D F G H I J K M N O a4 a7=>k0 a1 a2 C a3 D F G H I J K M N O a4 b1 ((bU a1 a2 C a3 D F G H I J K M N O a4)::a7)))) none)) none) none) none) none)) none)))) none)
def C08(a:Code)(b:Vp (R:=PV × List Blk × Z) L Q Y s a)(c:Vq (R:=PV × List Blk × Z) L Q Y s a)(t:By):A9 (J7 L) Q Y (cd [] (G7 [1,1,1,1,1,1,1,1,1,1,1] a M0)) ⟨[pS t]++tps 186,[],s⟩ (F4 (J7 L) ah7)=Qw L t (λu v w x y z A B r8 C m n o p q r l=>some (.tup [(gU u v w x y z A B r8 C m n o p q),pI r],l,s)):=by unfold Qw;exact let j:=(F4 (J7 L) ah7);(a8 (by kernel_rfl) ((As3 L Q Y s (E2 0 (E1 (J7 L) Q Y (cd [1,1] (G7 [1,1,1,1,1,1,1,1,1,1,1] a M0)) j)) L t 0).trans (congr (congr rfl (by kernel_rfl)) (fx1 λe=>(a8 (by kernel_rfl) (A0 (A0 rfl (A0 rfl (A0 rfl (A0 (A4 λD=>(A0 rfl (A0 (A4 λf=>(A0 (A4 λd=>(A0 (A0 (A4 λi=>(A0 (A0 (A4 λg=>((b j ((Ei e)).1 (cut f 0 d) g).trans (by kernel_rfl))) rfl) (A0 (A0 (A0 (A4 λh=>((b j ((Ei e)).1 (cut f 0 d) h).trans (by kernel_rfl))) rfl) ((c j ((Ei e)).1 i (cut f 0 d) ((bAt i (0:Int))!=47)).trans (by kernel_rfl))) rfl))) rfl) rfl)) rfl)) rfl))) rfl)))) rfl))))))
def C09(d:Nat)(s0):evC (J7 L) (d+1) Z Y 57 [pS s0] [] s=Qw L s0 (λi j l m n o p q r8 r b c e f g h a=>some (.tup [(gU i j l m n o p q r8 r b c e f g),pI h],a,s)):=
 (evE (fn:=ah7) (by kernel_rfl)).trans (a8 (by kernel_rfl) (C08 L (evC (J7 L) d) Y s (cd [1,1,1,1,1,1,1,1,1,1,1] M0) (Ar9 L (evC (J7 L) d) Y s) (As2 L (evC (J7 L) d) Y s) s0))
noncomputable def BJ(L:Nat):Cfg:=B8 L [28] (A2 []) [(57,VT)] (A2 [(3,[2,0]),(2,[2,0]),(1,[0,1,3]),(0,[0,1])]) [] (A2 []) (some [2,0]) [] [] []
def HF{R:Type}(L:Nat)(b:By)(c:By->By->Int->By->Int->Int->Int->Int->Int->Int->Int->Int->Int->Int->By->Int->(List Blk)->Option R):Option R:=cond (ltI 2048 (b.length:Int)) (c e0 e0 0 e0 0 0 0 0 0 0 0 0 0 0 e0 3 [bU0]) (cond (A3 b.length) (vl (C0 b) λa=>c (uS a) (uU a) (uK a) (uN a) (uV a) (uA a 0) (uA a 1) (uA a 2) (uA a 3) (uA a 4) (uA a 5) (uA a 6) (uA a 7) (uP a) (uR a) (uE a) [(bQ a)]) none)
def Bl6(d:Nat)(s0):evC (BJ L) (d+1) Z Y 28 [pS s0] [] s=HF L s0 (λi j l m n o p q r8 r b c e f g h a=>some (.tup [(gU i j l m n o p q r8 r b c e f g),pI h],a,s)):=by refine(evE (fn:=Tryz.f28) (by kernel_rfl)).trans ?_;generalize evC (BJ L) d=Q;unfold HF;kernel_rfl
noncomputable def KK(L:Nat):Cfg:=B8 L [58] (A2 []) [(91,JE),(59,Bt2),(95,HS)] (A2 [(11,[2]),(8,[1,1]),(10,[1,1]),(9,[1,1,37]),(7,[1,1,28]),(6,[1,1]),(5,[1,1]),(4,[1,1,15]),(3,[1,1]),(2,[2]),(1,[1,5]),(0,[1])]) [91,59,95] (A2 []) (some [2]) [] [] []
def Vx{R:Type}(L:Nat)(j t:By)(u:Int)(m:By)(n o p q u8 r e f g c:Int)(a:By)(z:By->(List Blk)->Option R):Option R:=cond (not (F3 j)) (cond (E6 j.length 1) (vl (j++[58]) λA=>cond (E6 A.length a.length) (z (A++a) [(bU j t u m n o p q u8 r e f g c a)]) none) none) (cond (E6 j.length 3) (vl (j++[58,47,47]) λb=>cond (not (t==e0)) (cond (E6 t.length 1) (vl (t++[64]) λh=>cond (E6 b.length h.length) (cond (A3 m.length) (cond (ltN n 4294967296) (cond (ok8 o p q u8 r e f g) (vl (S8 (mkH u m n (n8 o p q u8 r e f g))) λi=>cond (E6 (j0 (b++h)) i.length) (cond (not (ltI c 0)) (cond (ltN c 9223372036854775808) (vl (ai0 (j4 c)) λD=>cond (E6 1 D.length) (vl (([58]:List UInt8)++D) λF=>cond (E6 (j0 ((b++h)++i)) F.length) (vl (((b++h)++i)++F) λv=>cond (E6 v.length a.length) (z (v++a) [(bU j t u m n o p q u8 r e f g c a)]) none) none) none) none) (cond (ltI c ((-1):Int)) (cond (E6 (j0 ((b++h)++i)) 2) (vl (((b++h)++i)++[58,120]) λw=>cond (E6 w.length a.length) (z (w++a) [(bU j t u m n o p q u8 r e f g c a)]) none) none) (cond (E6 (j0 ((b++h)++i)) a.length) (vl (((b++h)++i)++a) λB=>z B [(bU j t u m n o p q u8 r e f g c a)]) none))) none) none) none) none) none) none) (cond (A3 m.length) (cond (ltN n 4294967296) (cond (ok8 o p q u8 r e f g) (vl (S8 (mkH u m n (n8 o p q u8 r e f g))) λd=>cond (E6 b.length d.length) (cond (not (ltI c 0)) (cond (ltN c 9223372036854775808) (vl (ai0 (j4 c)) λx=>cond (E6 1 x.length) (vl (([58]:List UInt8)++x) λl=>cond (E6 (j0 (b++d)) l.length) (cond (E6 (j0 ((b++d)++l)) a.length) (vl (((b++d)++l)++a) λC=>z C [(bU j t u m n o p q u8 r e f g c a)]) none) none) none) none) (cond (ltI c ((-1):Int)) (cond (E6 (j0 (b++d)) 2) (vl ((b++d)++[58,120]) λy=>cond (E6 y.length a.length) (z (y++a) [(bU j t u m n o p q u8 r e f g c a)]) none) none) (cond (E6 (j0 (b++d)) a.length) (z ((b++d)++a) [(bU j t u m n o p q u8 r e f g c a)]) none))) none) none) none) none)) none)
def Ce3(d:Nat)(u0 u1 u2 u3 u4 u5 u6 u7 u8 u9 u10 u11 u12 u13 u14):evC (KK L) (d+1) Z Y 58 [(gU u0 u1 u2 u3 u4 u5 u6 u7 u8 u9 u10 u11 u12 u13 u14)] [] s=Vx L u0 u1 u2 u3 u4 u5 u6 u7 u8 u9 u10 u11 u12 u13 u14 (λb a=>some (pS b,a,s)):=by refine(evE (fn:=Tryz.f58) (by kernel_rfl)).trans ?_;generalize evC (KK L) d=Q;unfold Vx;kernel_rfl
noncomputable def Uq(L:Nat):Cfg:=B8 L [54] (A2 []) [(58,JG),(57,VT)] (A2 [(2,[2]),(1,[1,1,0]),(0,[1])]) [58] (A2 []) (some [2]) [] [] []
def Yz{R:Type}(L:Nat)(h i:By)(q:Int)(j:By)(l m n o u8 p b c d e:Int)(f:By)(r:Bool->(List Blk)->Option R):Option R:=cond (smU h i j f) (cond (ltN l 4294967296) (cond (ok8 m n o u8 p b c d) (cond (Q1 e) (vl (Fw (mkU h i q j l (n8 m n o u8 p b c d) e f)) λg=>cond (A3 g.length) (vl (C0 g) λa=>cond ((uE a)==0) (r (((uS a)==h)&&(((uU a)==i)&&(((uK a)==q)&&(((uN a)==j)&&(((uV a)==l)&&(((uA a 0)==m)&&(((uA a 1)==n)&&(((uA a 2)==o)&&(((uA a 3)==u8)&&(((uA a 4)==p)&&(((uA a 5)==b)&&(((uA a 6)==c)&&(((uA a 7)==d)&&(((uP a)==e)&&(((uR a)==f)&&true))))))))))))))) [(bU h i q j l m n o u8 p b c d e f),(bQ a)]) (r false [(bU h i q j l m n o u8 p b c d e f),(bQ a)])) none) none) none) none) none
def At9(d:Nat)(u0 u1 u2 u3 u4 u5 u6 u7 u8 u9 u10 u11 u12 u13 u14):evC (Uq L) (d+1) Z Y 54 [(gU u0 u1 u2 u3 u4 u5 u6 u7 u8 u9 u10 u11 u12 u13 u14)] [] s=Yz L u0 u1 u2 u3 u4 u5 u6 u7 u8 u9 u10 u11 u12 u13 u14 (λb a=>some (pB b,a,s)):=by refine(evE (fn:=Tryz.f54) (by kernel_rfl)).trans ?_;generalize evC (Uq L) d=Q;unfold Yz;kernel_rfl
noncomputable def XS(L:Nat):Cfg:=B8 L [32] (A2 []) [(54,Tt),(58,JG)] (A2 [(3,[2]),(2,[2]),(1,[1,3]),(0,[1])]) [54,58] (A2 []) (some [2]) [] [] []
def B01{R:Type}(L:Nat)(f g:By)(o:Int)(h:By)(i j l m u8 n a b c d:Int)(e:By)(q:By->(List Blk)->Option R):Option R:=cond (smU f g h e) (cond (ltN i 4294967296) (cond (ok8 j l m u8 n a b c) (cond (Q1 d) (cond (not (P2 (mkU f g o h i (n8 j l m u8 n a b c) d e))) (q e0 [(bU f g o h i j l m u8 n a b c d e)]) (cond (smU f g h e) (cond (ltN i 4294967296) (cond (ok8 j l m u8 n a b c) (cond (Q1 d) (vl (Fw (mkU f g o h i (n8 j l m u8 n a b c) d e)) λp=>q p [(bU f g o h i j l m u8 n a b c d e)]) none) none) none) none)) none) none) none) none
def C01(d:Nat)(u0 u1 u2 u3 u4 u5 u6 u7 u8 u9 u10 u11 u12 u13 u14):evC (XS L) (d+1) Z Y 32 [(gU u0 u1 u2 u3 u4 u5 u6 u7 u8 u9 u10 u11 u12 u13 u14)] [] s=B01 L u0 u1 u2 u3 u4 u5 u6 u7 u8 u9 u10 u11 u12 u13 u14 (λb a=>some (pS b,a,s)):=by refine(evE (fn:=Tryz.f32) (by kernel_rfl)).trans ?_;generalize evC (XS L) d=Q;unfold B01;kernel_rfl
noncomputable def XT(L:Nat):Cfg:=B8 L [29] (A2 []) [] (A2 [(1,[2]),(0,[1])]) [] (A2 []) (some [2]) [] [] []
def B02{R:Type}(L:Nat)(f h:By)(i:Int)(j:By)(l m n o u8 p a b c d:Int)(e:By)(g:Bool->(List Blk)->Option R):Option R:=cond (f==[104,116,116,112]) (g true [(bU f h i j l m n o u8 p a b c d e)]) (g (f==[119,115]) [(bU f h i j l m n o u8 p a b c d e)])
def C06(d:Nat)(u0 u1 u2 u3 u4 u5 u6 u7 u8 u9 u10 u11 u12 u13 u14):evC (XT L) (d+1) Z Y 29 [(gU u0 u1 u2 u3 u4 u5 u6 u7 u8 u9 u10 u11 u12 u13 u14)] [] s=B02 L u0 u1 u2 u3 u4 u5 u6 u7 u8 u9 u10 u11 u12 u13 u14 (λb a=>some (pB b,a,s)):=by refine(evE (fn:=Tryz.f29) (by kernel_rfl)).trans ?_;generalize evC (XT L) d=Q;unfold B02;kernel_rfl
end
def At8{R:Type}{e:Bool->Option R}(s:By):Ab0 LF s e=e (F3 s):=by unfold Ab0 F3 W5 bWs U6 Kz;generalize (s==([104,116,116,112]:List UInt8))=a;generalize (s==([119,115]:List UInt8))=b;generalize (s==([104,116,116,112,115]:List UInt8))=c;generalize (s==([119,115,115]:List UInt8))=d;cases a<;>cases b<;>cases c<;>cases d<;>rfl
def Bm1{R:Type}{e:Int->Option R}(s:By):B03 LF s e=e (P4 s):=by unfold B03 P4 W5 bWs U6 Kz;generalize (s==([104,116,116,112]:List UInt8))=a;generalize (s==([119,115]:List UInt8))=b;generalize (s==([104,116,116,112,115]:List UInt8))=c;generalize (s==([119,115,115]:List UInt8))=d;cases a<;>cases b<;>cases c<;>cases d<;>rfl
def Lm(a b:UInt8):((a.toNat:Int)==(b.toNat:Int))=(a==b):=by rw[o7,beq_iff_eq,beq_iff_eq];exact⟨λh=>y5.1 (by omega),λh=>by rw[h]⟩
def C05{R:Type}{a:Int->Option R}{b:By->By->Int->Option R}(s t:By)(i:Nat)(h:s.length<=1000000000)(k:t.length<=1000000000)(g:i<s.length):∀(r j n:Nat),j+r=t.length->r<n->
  Il LF n s t (i:Int) (j:Int) a b=if (t.drop j).contains (s.getD i 0)=true then a (i:Int) else b s t (i:Int):=by
 intro r
 induction r with
 | zero=>
  intro j n d e;obtain⟨n,rfl⟩:∃m,n=m+1:=⟨n-1,by omega⟩
  rw[Il];rw[A6,j2 (by omega)];rfl
 | succ r f=>
  intro j n d e;obtain⟨n,rfl⟩:∃m,n=m+1:=⟨n-1,by omega⟩
  have c:A1 ((j:Int)+1)=((j+1:Nat):Int):=by rw[A7];rfl
  rw[Il];rw[A8,F1,F1,D3,D3,Lm,D6 t j (by omega),aa1,c];simp only[cond_true];rw[f (j+1) n (by omega) (by omega)];cases (s.getD i 0==t.getD j 0)<;>rfl
def Ce0{R:Type}{a:Int->Option R}{c:By->Option R}(s t:By)(j:s.length<=1000000000)(k:t.length<=1000000000):∀(r i n:Nat),i+r=s.length->r<n->
  Im LF n s t (i:Int) a c=if S7 (s.drop i) t<r then a ((i+S7 (s.drop i) t:Nat):Int) else c s:=by
 have e:=C5;intro r
 induction r with
 | zero=>
  intro i n f g;obtain⟨n,rfl⟩:∃m,n=m+1:=⟨n-1,by omega⟩
  rw[Im];rw[A6,G0];rfl
 | succ r l=>
  intro i n f g;obtain⟨n,rfl⟩:∃m,n=m+1:=⟨n-1,by omega⟩
  have d:A1 ((i:Int)+1)=((i+1:Nat):Int):=by rw[A7];rfl
  rw[Im];rw[A8,cond_true];refine a8 (C05 s t i j k (by omega) t.length 0 LF (by omega) (by omega)) ?_;rw[o5,d,l (i+1) n (by omega) (by omega),D6 s i (by omega)];unfold S7;cases h:t.contains (s.getD i 0) with
  | true=>
   rw[if_pos rfl,x7,h];rfl
  | false=>
   rw[if_neg (by simp),x7,h];simp only[j1,if_true,j6,ac7];rw[show i+1+(ah5 (λb=>!t.contains b) (s.drop (i+1))).length=i+((ah5 (λb=>!t.contains b) (s.drop (i+1))).length+1) by omega]
def A67(s t:By):S7 s t<=s.length:=ai6 (List.takeWhile_sublist _)
def Bl3{R:Type}{a:Int->Option R}(s t:By)(b:A3 s.length=true)(c:A3 t.length=true):C03 LF s t a=a (S7 s t:Int):=by
 have e:=L7 b;have f:=L7 c;have d:=C5;have g:=A67 s t;refine(Ce0 s t e f s.length 0 LF (by omega) (by omega)).trans ?_;rw[o5,af3];split
 ·rfl
 ·rw[show S7 s t=s.length by omega]
set_option maxHeartbeats 4000000 in theorem FK{R:Type}(s:By)(i:Nat)(b:UInt8)(f:By->Int->Option R)(g:Unit->Option R) :
  Be s (i:Int) (b.toNat:Int) (λs i _=>f s i) g=if Q8 b=true\/(i≠0/\L6 b=true) then f s i else g ():=by
 have a:(b=43)=(b.toNat=43):=by rw[eq_iff_iff,<-y5];rfl
 have d:(b=45)=(b.toNat=45):=by rw[eq_iff_iff,<-y5];rfl
 have e:(b=46)=(b.toNat=46):=by rw[eq_iff_iff,<-y5];rfl
 simp only[V8,Fh,a,d,e];unfold Be Iu Yy Lv It Lu Ir;generalize b.toNat=c;simp only[cond_eq_ite,x4,Qm,beq_iff_eq,Bool.not_eq_false',Ng,beq_eq_false_iff_ne,b9,j1,x9,Bool.true_eq_false,if_true,if_false,ne_eq]
 repeat' split
 all_goals first|rfl|(exfalso;omega)
def Ac8{c:UInt8}:∀{p:By},c∉p->p.takeWhile (λb=>b !=c)=p
 | [],_=>rfl
 | b::p,h=>by
  simp only[ab4,not_or] at h;rw[x7,if_pos (by simpa using af4 h.1),Ac8 h.2]
def C39{c:UInt8}{p:By}(r:By)(h:c∉p):(p++c::r).takeWhile (λb=>b !=c)=p:=by
 rw[List.takeWhile_append_of_pos (λx a=>by
  rw[bne_iff_ne];intro e;subst e;exact h a),x7,if_neg (by simp),ah2]
def D87{c b:UInt8}(r:By)(h:b≠c):(b::r).takeWhile (λb=>b !=c)=b::r.takeWhile λb=>b !=c:=by rw[x7,if_pos (by simpa using h)]
def Co9(b:UInt8):((b.toNat:Int)==58)=(b==58):=Lm b 58
def Bl9{R:Type}{c:By->By->Bool->Option R}(s:By)(q:s.length<=1000000000):∀(r i n:Nat),1<=i->i+r=s.length->r<n->
  O9 LF n s (i:Int) c (λ_=>c [] [] false)=if ((s.drop i).takeWhile λb=>b !=58).all L6=true/\((s.drop i).takeWhile λb=>b !=58).length<r then c (B6 (s.take (i+((s.drop i).takeWhile λb=>b !=58).length))) (s.drop (i+((s.drop i).takeWhile λb=>b !=58).length+1)) true else c [] [] false:=by
 intro r
 induction r with
 | zero=>
  intro i n k l o;obtain⟨n,rfl⟩:∃m,n=m+1:=⟨n-1,by omega⟩
  rw[O9];rw[A6,G0];rfl
 | succ r p=>
  intro i n k l o;obtain⟨n,rfl⟩:∃m,n=m+1:=⟨n-1,by omega⟩
  have g:A1 ((i:Int)+1)=((i+1:Nat):Int):=by rw[A7];rfl
  rw[O9];unfold Lt;rw[A8,F1,D3,D6 s i (by omega),Co9,A8];simp only[cond_true,cond_false];by_cases a:s.getD i 0=58
  ·rw[a,show((58:UInt8)==58)=true from rfl,cond_true,show((58:UInt8)::s.drop (i+1)).takeWhile (λb=>b !=58)=[] from rfl,if_pos ⟨rfl,by simp⟩];simp only[vl];rw[I3,L1,b8,D9 (by rw[o0];omega),g,I3,Q5,b8];rfl
  ·rw[show(s.getD i 0==58)=false by simpa using a,cond_false,D87 _ a];simp only[vl];refine(FK s i (s.getD i 0) (λf e=>O9 LF n f (A1 (e+1)) c λ_=>c [] [] false) (λ_=>c [] [] false)).trans ?_;rw[g,p (i+1) n (by omega) (by omega) (by omega),ab2,j6];have j:(Q8 (s.getD i 0)=true\/i≠0/\L6 (s.getD i 0)=true)↔L6 (s.getD i 0)=true:=by
    refine⟨λh=>?_,λh=>.inr ⟨by omega,h⟩⟩;rcases h with h|⟨_,h⟩
    ·rw[Fh];rw[V8] at h;exact h.elim .inl λh=>.inr (.inl h)
    ·exact h
   by_cases d:L6 (s.getD i 0)=true
   ·rw[if_pos (j.2 d)];simp only[d,y7,ac7];rw[show i+1+((s.drop (i+1)).takeWhile λb=>b !=58).length=i+(((s.drop (i+1)).takeWhile λb=>b !=58).length+1) by omega]
   ·rw[if_neg (λh=>d (j.1 h)),if_neg (λh=>d (by have:=h.1;rw[k9] at this;exact this.1))]
def Bm0{R:Type}{a:By->By->Bool->Option R}(s:By)(n:A3 s.length=true):As7 LF s a=a (Ei s).1 (Ei s).2.1 (Ei s).2.2:=by
 have u:=L7 n;have o:=C5;obtain⟨N,hN⟩:∃m,LF=m+1:=⟨LF-1,by omega⟩
 unfold As7;rw[show O9 LF LF = @O9 R LF (N+1) by rw[<-hN],O9];unfold Lt;cases s with
 | nil=>
  rfl
 | cons b r=>
  rw[j6] at u;rw[B9 (by simp only[j6];omega),K8 (by omega) (by simp),Ba,w8,Co9,A6];simp only[cond_true,cond_false,vl];have l:A1 (((0:Nat):Int)+1)=((1:Nat):Int):=rfl;have go:Be (b::r) ((0:Nat):Int) (b.toNat:Int) (λe d _=>O9 LF N e (A1 (d+1)) a λ_=>a [] [] false) (λ_=>a [] [] false)=if Q8 b=true/\(r.takeWhile λb=>b !=58).all L6=true/\(r.takeWhile λb=>b !=58).length<r.length then a (B6 ((b::r).take (1+(r.takeWhile λb=>b !=58).length))) ((b::r).drop (1+(r.takeWhile λb=>b !=58).length+1)) true else a [] [] false:=by
   refine(FK (b::r) 0 b (λe d=>O9 LF N e (A1 (d+1)) a λ_=>a [] [] false) (λ_=>a [] [] false)).trans ?_;rw[l,Bl9 (b::r) (by simp;omega) r.length 1 N (by omega) (by simp;omega) (by omega)];by_cases j:Q8 b=true
   ·rw[if_pos (.inl j)];simp only[j,true_and];rfl
   ·rw[if_neg (by simp[j]),if_neg (λh=>j h.1)]
  have k:∀c,(bif c then Be (b::r) 0 (b.toNat:Int) (λe d _=>O9 LF N e (A1 (d+1)) a λ_=>a [] [] false) (λ_=>a [] [] false) else Be (b::r) 0 (b.toNat:Int) (λe d _=>O9 LF N e (A1 (d+1)) a λ_=>a [] [] false) (λ_=>a [] [] false))=Be (b::r) ((0:Nat):Int) (b.toNat:Int) (λe d _=>O9 LF N e (A1 (d+1)) a λ_=>a [] [] false) (λ_=>a [] [] false):=λc=>by cases c<;>rfl
  refine(k _).trans (go.trans ?_);unfold Ei;rcases P0 58 r with f|⟨p,t,rfl,f⟩
  ·rw[Ac8 f,G0];by_cases i:b=58
   ·subst i;rw[show ac5 (58::r) [58]=([],r,true) from T4 (p:=[]) (by simp)];rfl
   ·rw[Gv (by simp only[ab4,not_or];exact⟨af4 i,f⟩)];rfl
  ·rw[C39 t f];by_cases i:b=58
   ·subst i;rw[show ac5 (58::(p++58::t)) [58]=([],p++58::t,true) from T4 (p:=[]) (by simp),if_neg (λh=>by cases h.1)];rfl
   ·rw[show ac5 (b::(p++58::t)) [58]=(b::p,t,true) from T4 (p:=b::p) (by simp only[ab4,not_or];exact⟨af4 i,f⟩)];simp only[y7];have q:T8 (b::p)=(Q8 b&&p.all L6):=rfl;rw[q];by_cases g:Q8 b=true/\p.all L6=true
    ·rw[if_pos ⟨g.1,g.2,by simp⟩,g.1,g.2,show(b::(p++58::t))=(b::p)++58::t from rfl,show 1+p.length=(b::p).length by rw[j6];omega,ae2,show(b::p)++58::t=((b::p)++[58])++t by simp,ad6 (by simp)];rfl
    ·rw[if_neg (λh=>g ⟨h.1,h.2.1⟩),if_neg (by simpa using g)]
def PA:Int->By->Option Int
 | n,[]=>some n
 | n,b::r=>if 48<=b.toNat/\b.toNat<=57 then PA (min (n*10+((b.toNat-48:Nat):Int)) 1048576) r else none
def An3:∀(l:By) (n v:Int),0<=v->v<=65536->n<=1048576->(v<65536->n=v)->(v=65536->65536<=n)->Ic v l=(PA n l).bind λm=>if 65535<m then none else some m
 | [],n,v,d,e,f,c,g=>by
  unfold Ic PA;rw[x8];by_cases h:v<65536
  ·rw[if_pos h,G0,c h]
  ·rw[if_neg h,R2]
 | b::r,n,v,d,e,f,c,g=>by
  unfold Ic PA;by_cases a:48<=b.toNat/\b.toNat<=57
  ·rw[if_pos a,if_pos a];exact An3 r _ _ (by omega) (by omega) (by omega) (by omega) (by omega)
  ·rw[if_neg a,if_neg a];rfl
def Bb0(b:UInt8)(r:By):Ic (-1) (b::r)=Ic 0 (b::r):=rfl
def Ap3:∀(l:By) (n m:Int),0<=n->n<=1048576->PA n l=some m->0<=m/\m<=1048576
 | [],n,m,a,c,h=>by
  obtain rfl:n=m:=ah3 h;exact⟨a,c⟩
 | b::r,n,m,a,c,h=>by
  unfold PA at h;split at h
  ·exact Ap3 r _ m (by omega) (by omega) h
  ·cases h
def As6{R:Type}(q u t:By)(d:Int)(e:By)(f g h j k l o p c:Int)(a:By)(L:a.length<=1000000000)(w:List Blk->Option R)(x:By->Int->By->Int->By->Int->Int->Int->Int->Int->Int->Int->Int->Int->By->Option R):∀(r i n:Nat) (v:Int),i+r=a.length->r<n->0<=v->v<=1048576->
  Fg LF n q a v (i:Int) u d e f g h j k l o p c t w x=match PA v (a.drop i) with
   | none=>w [bU q u d e f g h j k l o p c (-1) t,bH d e f g h j k l o p c]
   | some m=>x q m u d e f g h j k l o p c t:=by
 intro r
 induction r with
 | zero=>
  intro i n v I J D F;obtain⟨n,rfl⟩:∃m,n=m+1:=⟨n-1,by omega⟩
  rw[Fg];rw[A6,j2 (by omega)];rfl
 | succ r K=>
  intro i n v I J D F;obtain⟨n,rfl⟩:∃m,n=m+1:=⟨n-1,by omega⟩
  have y:A1 ((i:Int)+1)=((i+1:Nat):Int):=by rw[A7];rfl
  rw[Fg];rw[A8,F1,D3,D6 a i (by omega),y];have M:=(a.getD i 0).toNat_lt;generalize a.getD i 0=b at *;unfold PA;simp only[cond_true,vl];by_cases G:b.toNat<48
  ·rw[A8,cond_true,G0]
  ·rw[A6,cond_false];by_cases H:57<b.toNat
   ·rw[A8,cond_true,G0]
   ·rw[A6,cond_false,if_pos (show 48<=b.toNat/\b.toNat<=57 by omega)];have z:A1 (v*10)=v*10:=A7;have A:wu8 ((b.toNat:Int)-48)=((b.toNat-48:Nat):Int):=by rw[N2];omega
    have B:A1 ((b.toNat-48:Nat):Int)=((b.toNat-48:Nat):Int):=A7;have C:A1 (v*10+((b.toNat-48:Nat):Int))=v*10+((b.toNat-48:Nat):Int):=A7;rw[z,A,B,C,show(if (1048576:Int)<v*10+((b.toNat-48:Nat):Int) then (1048576:Int) else v*10+((b.toNat-48:Nat):Int))=min (v*10+((b.toNat-48:Nat):Int)) 1048576 by omega];exact K (i+1) n _ (by omega) (by omega) (by omega) (by omega)
abbrev KE(R:Type):=Int->By->By->Int->By->Int->Int->Int->Int->Int->Int->Int->Int->Int->Int->By->List Blk->Option R
abbrev QN{R:Type}(a:KE R)(q:P7 × Nat)(H:List Blk):Option R:=a (uE q) (uS q) (uU q) (uK q) (uN q) (uV q) (uA q 0) (uA q 1) (uA q 2) (uA q 3) (uA q 4) (uA q 5) (uA q 6) (uA q 7) (uP q) (uR q) H
def Ju(c l j a:By)(e:Nat)(q:a.length<=1000000000)(w:e<=a.length):∃H,∀(R:Type) (f:KE R),T7 LF c a (e:Int) l j f=QN f (hpT (a.take e) (a.drop e) c l j) H:=by
 have p:=C5;have n:A1 ((e:Int)+1)=((e+1:Nat):Int):=by rw[A7];rfl
 have k:A3 (a.take e).length=true:=D9 (by rw[o0];omega);by_cases h:(C3 (a.take e)).2=0
 ·by_cases t:e+1<a.length
  ·have i:(a.drop e).drop 1=a.drop (e+1):=by rw[ac2]
   have r:=D6 a (e+1) t;have u:Ic (-1) (a.drop (e+1))=(PA 0 (a.drop (e+1))).bind λm=>if 65535<m then none else some m:=by
    rw[r,Bb0];exact An3 _ 0 0 (by omega) (by omega) (by omega) (by omega) (by omega)
   have x:=@Ap3 (a.drop (e+1)) 0;generalize v:PA 0 (a.drop (e+1))=g at *;have o:g=none\/(∃m,g=some m/\65535<m)\/(∃m,g=some m/\¬ 65535<m/\m=P4 c)\/∃m,g=some m/\¬ 65535<m/\m≠P4 c:=by
    cases g with
    | none=>exact .inl rfl
    | some m=>
     by_cases b:65535<m
     ·exact .inr (.inl ⟨m,rfl,b⟩)
     ·by_cases d:m=P4 c
      ·exact .inr (.inr (.inl ⟨m,rfl,b,d⟩))
      ·exact .inr (.inr (.inr ⟨m,rfl,b,d⟩))
   rcases o with rfl|⟨m,rfl,b⟩|⟨m,rfl,b,d⟩|⟨m,rfl,b,d⟩
   all_goals
    apply j9;intro R f;unfold T7 hpT;rw[I3,L1,b8,i,u];simp only[vl,cond_true,k,h,n];rw[A8,As6 c l j _ _ _ _ _ _ _ _ _ _ _ a q _ _ (a.length-(e+1)) (e+1) LF 0 (by omega) (by omega) (by omega) (by omega),v]
   ·rfl
   ·simp only[x8,if_pos b];rw[A8];rfl
   ·simp only[x8,if_neg b,if_pos d];rw[A6,show(m==P4 c)=true by simpa using d];rfl
   ·simp only[x8,if_neg b,if_neg d];rw[A6,show(m==P4 c)=false by simpa using d];rfl
  ·have i:(a.drop e).drop 1=[]:=by rw[ac2,j2 (by omega)]
   apply j9;intro R f;unfold T7 hpT;rw[I3,L1,b8,i];simp only[vl,cond_true,k,h,n];rw[A6];simp only[Ic,show((-1:Int)<65536)=True by simp,if_true,ite_self,show((((0:Nat):Int)!=0))=false from rfl,cond_false,ne_eq,not_true_eq_false,if_false];cases (-1:Int)==P4 c<;>rfl
 ·apply j9;intro R f;unfold T7 hpT;rw[I3,L1,b8];simp only[vl,cond_true,k];rw[show(((C3 (a.take e)).2:Int)!=0)=true by simpa using h,cond_true,if_pos h];rfl
def Df3{c:UInt8}{a:By}(h:Hz c a=none):c∉a:=λd=>by
 rcases P0 c a with b|⟨p,r,rfl,b⟩
 ·exact b d
 ·rw[Xp r b] at h;cases h
def Aj8(c:UInt8)(a:By):S7 a [c]=match Hz c a with|some k=>k|none=>a.length:=by
 have e:S7 a [c]=(a.takeWhile λb=>b !=c).length:=by
  unfold S7
  congr 2
  funext b
  simp[aa1,bne];rfl
 rw[e];cases h:Hz c a with
 | none=>rw[Ac8 (Df3 h)]
 | some k=>
  obtain⟨p,r,rfl,d,rfl⟩:=Rw h;rw[C39 r d]
def NM(c f d a:By)(w:a.length<=1000000000):∃H,∀(R:Type) (g:KE R),(cond (not (a==([]:By)))
   (cond (inR (0:Int) (j0 a))
   (Cz c a (S7 a [58]:Int) (bAt a 0==(91:Int)) f d (λH=>QN g (Y6,4) H) (λo t n y u v=>T7 LF o t n u v g) (λo t n y u v=>T7 LF o t n u v g))
   none)
   (Cz c a (S7 a [58]:Int) false f d (λH=>QN g (Y6,4) H) (λo t n y u v=>T7 LF o t n u v g) (λo t n y u v=>T7 LF o t n u v g)))=QN g (N6 c f d a) H:=by
 cases a with
 | nil=>
  obtain⟨H,e⟩:=Ju c f d [] 0 w (w9 _);exact⟨H,e⟩
 | cons b r=>
  have F:(((b.toNat:Int))==91)=(b==91):=Lm b 91;have z:(!((b::r)==([]:By)))=true:=rfl;have G:inR (0:Int) (b::r).length=true:=K8 (by omega) (by simp);have A:A3 (b::r).length=true:=D9 w;rw[Xm];unfold Fc Cz;simp only[z,G,A,cond_true,cond_false,vl,Ba,w8,F,ad7,z7,Aj8];by_cases j:b=91
  ·rw[show(b==91)=true by simpa using j,if_pos j];simp only[cond_true];cases B:Hz 93 (b::r) with
   | none=>
    apply j9;intro R g;simp only;rw[A7,A8];rfl
   | some k=>
    obtain⟨_,K⟩:=YN B;have C:A1 ((k:Int)+1)=((k+1:Nat):Int):=by rw[A7];rfl
    simp only[C];rw[A6];simp only[cond_false];obtain⟨H,e⟩:=Ju c f d (b::r) (k+1) w (by omega);by_cases I:k+1<(b::r).length
    ·rw[A8,F1];simp only[cond_true,D3];have m:=D6 (b::r) (k+1) I;by_cases i:(b::r).getD (k+1) 0=58
     ·have l:hpC ((b::r).take (k+1)) ((b::r).drop (k+1)) c f d=hpT ((b::r).take (k+1)) ((b::r).drop (k+1)) c f d:=if_neg (λh=>h.2 (by rw[m,i];rfl));rw[l];refine⟨H,λR g=>a8 ?_ (e R g)⟩;rw[i];rfl
     ·have l:hpC ((b::r).take (k+1)) ((b::r).drop (k+1)) c f d=(Y6,4):=if_pos ⟨by rw[m];simp,by rw[m];simpa using i⟩;rw[l];apply j9;intro R g;rw[show((((b::r).getD (k+1) 0).toNat:Int)!=58)=true by rw[bne,Co9];simpa using i];rfl
    ·have m:(b::r).drop (k+1)=[]:=j2 (by omega);rw[A6];have l:hpC ((b::r).take (k+1)) ((b::r).drop (k+1)) c f d=hpT ((b::r).take (k+1)) ((b::r).drop (k+1)) c f d:=if_neg (λh=>h.1 m);rw[l];exact⟨H,e⟩
  ·rw[show(b==91)=false by simpa using j,if_neg j];simp only[cond_false];cases B:Hz 58 (b::r) with
   | none=>
    obtain⟨H,e⟩:=Ju c f d (b::r) (b::r).length w (w9 _);rw[ag2,List.drop_length] at e;exact⟨H,e⟩
   | some k=>
    obtain⟨p,q,x,J,D⟩:=Rw B;obtain⟨H,e⟩:=Ju c f d (b::r) k w (by rw[x,j5];omega);have m:(b::r).drop k=58::q:=by rw[x,<-D,List.drop_left]
    have l:hpC ((b::r).take k) ((b::r).drop k) c f d=hpT ((b::r).take k) ((b::r).drop k) c f d:=if_neg (λh=>h.2 (by rw[m];rfl));refine⟨H,λR g=>(e R g).trans ?_⟩;show _=QN g (hpC _ _ c f d) H;rw[l]
def As5{R:Type}{c:By->By->By->By->Option R}(d a f:By)(l:a.length<=1000000000)(b:(64:UInt8)∉a):∀(j n:Nat),j<=a.length->j<n->Z9 LF n d a ((j:Int)-1) f c=c d a [] f:=by
 intro j
 induction j with
 | zero=>
  intro n g i;obtain⟨n,rfl⟩:∃m,n=m+1:=⟨n-1,by omega⟩
  rw[Z9];rw[A8];rfl
 | succ j k=>
  intro n g i;obtain⟨n,rfl⟩:∃m,n=m+1:=⟨n-1,by omega⟩
  rw[Z9];have h:a.getD j 0≠64:=λe=>b (by
   rw[<-e,o6,x6 (by omega)];exact ag0 _)
  rw[show((j+1:Nat):Int)-1=(j:Int) by omega,A6,F1,D3,show(((a.getD j 0).toNat:Int)==64)=(a.getD j 0==64) from Lm _ 64,show(a.getD j 0==64)=false by simpa using h];simp only[j1,cond_true,cond_false];rw[D1 (n:=(j:Int)-1) (by omega) (by omega)];exact k n (by omega) (by omega)
def As4{R:Type}{b:By->By->By->By->Option R}(c p r d:By)(l:(p++64::r).length<=1000000000)(a:(64:UInt8)∉r):∀(k n:Nat),k<=r.length->p.length+k<n->Z9 LF n c (p++64::r) ((p.length+k:Nat):Int) d b=b c r p d:=by
 have o:(p++64::r).length=p.length+r.length+1:=by rw[j5,j6];omega
 intro k
 induction k with
 | zero=>
  intro n g i;obtain⟨n,rfl⟩:∃m,n=m+1:=⟨n-1,by omega⟩
  have f:A1 ((p.length:Int)+1)=((p.length+1:Nat):Int):=by rw[A7];rfl
  rw[Z9];rw[Nat.add_zero,A6,F1,D3,show(p++64::r).getD p.length 0=64 by simp[o6]];simp only[vl,cond_true,j1];rw[I3,L1,b8,ae2,f,I3,Q5,b8,show p++64::r=(p++[64])++r by simp,ad6 (by simp)];rfl
 | succ k j=>
  intro n g i;obtain⟨n,rfl⟩:∃m,n=m+1:=⟨n-1,by omega⟩
  rw[Z9];have h:(p++64::r).getD (p.length+(k+1)) 0≠64:=λe=>a (by
   rw[<-e,o6,List.getElem?_append_right (by omega),show p.length+(k+1)-p.length=k+1 by omega,List.getElem?_cons_succ,x6 (by omega)];exact ag0 _)
  rw[A6,F1,D3,show((((p++64::r).getD (p.length+(k+1)) 0).toNat:Int)==64)=((p++64::r).getD (p.length+(k+1)) 0==64) from Lm _ 64,show((p++64::r).getD (p.length+(k+1)) 0==64)=false by simpa using h,show((p.length+(k+1):Nat):Int)-1=((p.length+k:Nat):Int) by omega];simp only[j1,cond_true,cond_false];rw[D1 (n:=((p.length+k:Nat):Int)) (by omega) (by omega)];exact j n (by omega) (by omega)
def As0(c d a:By)(f:a.length<=1000000000):∃H,∀(R:Type) (b:KE R),Iq LF c a d b=QN b (G6 c d a) H:=by
 have j:=C5;unfold G6;by_cases h:0<=L2 64 a
 ·obtain⟨p,r,rfl,g,k⟩:=LY h;rw[if_pos h,k,b8,ae2,show p++64::r=(p++[64])++r by simp,ad6 (by simp),show(p++[64])++r=p++64::r by simp];have m:(p++64::r).length=p.length+r.length+1:=by rw[j5,j6];omega
  obtain⟨H,e⟩:=NM c p d r (by omega);refine⟨H,λR b=>a8 ?_ (e R b)⟩;unfold Iq;simp only[vl];rw[A7,show((p++64::r).length:Int)-1=((p.length+r.length:Nat):Int) by omega,As4 c p r d f g r.length LF (w9 _) (by omega),K3];rfl
 ·rw[if_neg h];have i:(64:UInt8)∉a:=λl=>by
   obtain⟨p,r,rfl,g⟩:=CQ l;rw[Rx p g] at h;omega
  obtain⟨H,e⟩:=NM c [] d a f;refine⟨H,λR b=>a8 ?_ (e R b)⟩;unfold Iq;simp only[vl];rw[A7,As5 c a d f i a.length LF (w9 _) (by omega),D9 f];rfl
def Bl8{R:Type}{a:List Blk->Option R}{b:By->Option R}(s:By)(g:s.length<=1000000000):∀(r i n:Nat),i+r=s.length->r<n->
  Ff LF n s (i:Int) a b=if (s.drop i).any ctl then a [] else b s:=by
 intro r
 induction r with
 | zero=>
  intro i n d e;obtain⟨n,rfl⟩:∃m,n=m+1:=⟨n-1,by omega⟩
  rw[Ff];rw[A6,j2 (by omega)];rfl
 | succ r f=>
  intro i n d e;obtain⟨n,rfl⟩:∃m,n=m+1:=⟨n-1,by omega⟩
  have c:A1 ((i:Int)+1)=((i+1:Nat):Int):=by rw[A7];rfl
  rw[Ff];rw[A8,F1,D3,D6 s i (by omega),c,ab3,Bv5];simp only[cond_true];rw[f (i+1) n (by omega) (by omega)];cases ltI 32 ((s.getD i 0).toNat:Int) with
  | false=>rfl
  | true=>cases (((s.getD i 0).toNat:Int)==127)<;>rfl
def YH(t:By):S7 t [47,63,35]=I6 t:=by
 unfold S7 I6
 congr 2
 funext b
 simp[M6,aa1,Bool.or_assoc];rfl
def D80(r:By):([47,47]:By).isPrefixOf r=(r.take 2==[47,47]):=by rw[o7,ac3,List.prefix_iff_eq_take,beq_iff_eq];exact eq_comm
def Ce1(s:By)(i:A3 s.length=true):∃H,∀(R:Type) (d:KU R),Qw LF s d=KQ d (C0 s) H:=by
 have P:=L7 i;have M:=C5;have L:∀{R:Type} (d:List Blk->Option R) (y:By->Option R),Ff LF LF s 0 d y=if s.any ctl then d [] else y s:=λd y=>Bl8 s P s.length 0 LF (by omega) (by omega)
 unfold C0;by_cases g:s.any ctl=true
 ·rw[if_pos g];apply j9;intro R d;unfold Qw;rw[L,if_pos g];rfl
 rw[if_neg g];have x:(ac5 s [58]).2.1.length<=s.length:=by
  rcases P0 58 s with h|⟨p,r,rfl,h⟩
  ·rw[Gv h];exact ag9 _
  ·rw[T4 h,j5,j6];show r.length<=_;omega
 have a:Ei s=if (ac5 s [58]).2.2&&T8 (ac5 s [58]).1 then (B6 (ac5 s [58]).1,(ac5 s [58]).2.1,true) else ([],[],false):=rfl
 generalize ac5 s [58]=q at *;obtain⟨p,r,f⟩:=q;simp only at a x ⊢;cases v:(f&&T8 p) with
 | false=>
  rw[v] at a;rw[if_pos (by rw[<-ai4,v];rfl)];apply j9;intro R d;unfold Qw;rw[L,if_neg g,i,a];rfl
 | true=>
 rw[v] at a;rw[if_neg (by rw[<-ai4,v];simp)];simp only[if_true] at a;cases c:F3 (B6 p) with
 | false=>
  apply j9;intro R d;unfold Qw;rw[L,if_neg g,i,a];simp only[vl,cond_true,b9,cond_false];rw[c];rfl
 | true=>
 rw[if_neg (by simp)];by_cases U:r.length<2
 ·rw[if_pos (by rw[D80];simp only[x4,beq_eq_false_iff_ne];intro e;have:=congrArg j0 e;rw[o0] at this;simp at this;omega)];apply j9;intro R d;unfold Qw;rw[L,if_neg g,i,a];simp only[vl,cond_true,b9,cond_false];rw[c,A8];rfl
 have z:cut r (0:Int) (2:Int)=r.take 2:=L1 r 2;have K:cut r (2:Int) (r.length:Int)=r.drop 2:=Q5 r 2;rw[D80];cases Qg:(r.take 2==([47,47]:By)) with
 | false=>
  apply j9;intro R d;unfold Qw;rw[L,if_neg g,i,a];simp only[vl,cond_true,b9,cond_false];rw[c,A6,I3];simp only[vl,cond_true,b9,cond_false,z];rw[Qg];rfl
 | true=>
 rw[if_neg (by simp)];generalize S:r.drop 2=t at *;have lt:t.length<=r.length:=by rw[<-S,j7];omega
 have Q:=Zi t;obtain⟨H,e⟩:=As0 (B6 p) (R0 (t.drop (I6 t))) (t.take (I6 t)) (by rw[o0];omega);refine⟨(λq=>bU (uS q) (uU q) (uK q) (uN q) (uV q) (uA q 0) (uA q 1) (uA q 2) (uA q 3) (uA q 4) (uA q 5) (uA q 6) (uA q 7) (uP q) (uR q)::H) (G6 (B6 p) (R0 (t.drop (I6 t))) (t.take (I6 t))),λR d=>?_⟩;refine a8 ?_ (e R λn0 G I A J B C D n8 F j k l m n o w=>d G I A J B C D n8 F j k l m n o n0 (bU G I A J B C D n8 F j k l m n o::w));unfold Qw;rw[L,if_neg g,i,a];simp only[vl,cond_true,b9,cond_false];rw[c,A6,I3];simp only[vl,cond_true,b9,cond_false,z];rw[Qg,I3];simp only[vl,cond_true,b9,cond_false,K];rw[K3,YH,I3,I3,L1,Q5,b8];simp only[cond_true];have V:(t.drop (I6 t)).length<=t.length:=by rw[j7];omega
 generalize t.drop (I6 t)=X at *;generalize t.take (I6 t)=T at *;unfold R0;cases X with
 | nil=>rfl
 | cons b X=>
  have N:inR (0:Int) (b::X).length=true:=K8 (by omega) (by simp);have O:((((b::X).getD 0 0).toNat:Int)!=47)=(b !=47):=by rw[bne,bne];exact congrArg _ (Lm b 47)
  rw[show((b::X)==([]:By))=false from rfl,N,Ba,O];simp only[cond_true,cond_false,ad7,z7];by_cases u:b=47
  ·rw[show(b !=47)=false by simpa using u,if_pos u];rfl
  ·rw[show(b !=47)=true by simpa using u,if_neg u,G3 (by omega)];rfl
def C10(s:By)(a:A3 s.length=true):∃r H,Qw LF s rvU=rv r H/\r.stab [0,0] H=pvU (C0 s):=by obtain⟨H,e⟩:=Ce1 s a;exact⟨_,_,e _ _,rfl⟩
def Bl7(s:By)(a:A3 s.length=true):∃r H,HF LF s rvU=rv r H/\r.stab [0,0] H=pvU (B3 s):=by
 unfold HF B3;by_cases h:2048<s.length
 ·rw[A8,if_pos h];exact⟨_,_,rfl,rfl⟩
 ·rw[A6,if_neg h,a];exact⟨_,_,rfl,rfl⟩
section
variable {Z R : Type} (L : Nat) (Q : G4) (Y : Yh Z) (s : Z) (k : Out -> St Z -> Option R)
noncomputable def KI(L:Nat):Cfg:=B8 L [194] (A2 []) [] (A2 [(1,[2]),(0,[0])]) [] (A2 []) (some [2]) [] [] []
def Aa7{R:Type}(L:Nat)(n0:Int)(a:Bool->Option R):Option R:=cond (not (ltI n0 0)) (cond (not (ltI 1114111 n0)) (cond (ltI n0 55296) (a true) (a (ltI 57343 n0))) (a false)) (a false)
def Cd3(d:Nat)(n0):evC (KI L) (d+1) Z Y 194 [pI n0] [] s=Aa7 L n0 (λa=>some (pB a,[],s)):=by refine(evE (fn:=Tryz.f194) (by kernel_rfl)).trans ?_;generalize evC (KI L) d=Q;unfold Aa7;kernel_rfl
noncomputable abbrev Pr:Code:=C7 ag7
noncomputable def Z0(L:Nat):Cfg:=B8 L [193] (A2 [(6,[0,5,0])]) [] (A2 [(9,[6]),(8,[0,6]),(7,[0,6]),(6,[0,6,11]),(5,[0,6]),(4,[0]),(2,[0,0]),(3,[0,0]),(1,[0,0,6]),(0,[0,0,0])]) [] (A2 [(0,[0,6]),(1,[0,6])]) (some [6]) [] [] []
def Hh{R:Type}(L n:Nat)(a b:Int)(e:Int->Int->Option R):Option R:=match n with|0=>none|n+1=>cond (ltI 455 a) (vl (A1 (w6 a (35:Int))) λc=>vl (A1 (b+36)) λd=>Hh L n c d e) (e a b)
def ZU(n a b):D0 0 ((Z0 L).keep 6) (bd (Z0 L) Q Y (cd [1,1,1,1,0,0,0] Pr)) n ⟨gp [(0,pI a),(6,pI b)] 23,[],s⟩ k =
 Hh L n a b (λa b=>k (.exit 0) ⟨gp [(0,pI a),(6,pI b)] 23,[],s⟩):=by
 induction n generalizing a b with
 | zero=>rfl
 | succ n c=>rw[Hh];simp only[<-c];kernel_rfl
def Hg{R:Type}(L:Nat)(b h:Int)(i:Int->Option R):Option R:=cond (h !=0) (vl (A1 (w6 b h)) λg=>Hh L L (A1 (b+g)) 0 (λa d=>vl (A1 ((36:Int)*a)) λe=>vl (A1 (a+38)) λc=>cond (c !=0) (vl (A1 (w6 e c)) λf=>i (A1 (d+f))) none)) none
abbrev EW(b:Code):Prop:=∀(k:Out->St Z->Option R) delta0 n1,A9 (Z0 L) Q Y b ⟨gp [(0,pI delta0),(0,pI n1)] 29,[],s⟩ k=Hg L delta0 n1 (λn0=>k .ret ⟨gp [(6,pI n0)] 24,[],s⟩)
def ZT:EW (R:=R) L Q Y s (cd [1,1] Pr):=by intro k a c;unfold Hg;exact(a8 (by kernel_rfl) (A0 (A4 λb=>((ZU L Q Y s (E2 0 (E1 (Z0 L) Q Y (cd [1,1,1,1,1] Pr) k)) L (A1 (a+b)) 0).trans (by kernel_rfl))) rfl))
def NB{R:Type}(L:Nat)(a h:Int)(b:Bool)(g:Int->Option R):Option R:=cond b (vl (A1 (w6 a (700:Int))) λe=>Hg L e h (λc=>g c)) (vl (A1 (w6 a (2:Int))) λf=>Hg L f h (λd=>g d))
def Cb0(d:Code)(a:EW (R:=PV × List Blk × Z) L Q Y s d)(b e:Int)(c:Bool):A9 (Z0 L) Q Y (cd [] (G7 [1,1] d Pr)) ⟨[pI b,pI e,pB c]++tps 28,[],s⟩ (F4 (Z0 L) ag7)=NB L b e c (λi=>some (pI i,[],s)):=by unfold NB;exact let h:=(F4 (Z0 L) ag7);(a8 (by kernel_rfl) (A0 (A4 λf=>((a h f e).trans (by kernel_rfl))) (A4 λg=>((a h g e).trans (by kernel_rfl)))))
def Cb1(d:Nat)(delta0 n1 first2):evC (Z0 L) (d+1) Z Y 193 [pI delta0,pI n1,pB first2] [] s=NB L delta0 n1 first2 (λa=>some (pI a,[],s)):=
 (evE (fn:=ag7) (by kernel_rfl)).trans (a8 (by kernel_rfl) (Cb0 L (evC (Z0 L) d) Y s (cd [1,1] Pr) (ZT L (evC (Z0 L) d) Y s) delta0 n1 first2))
noncomputable def A41(L:Nat):Cfg:=B8 L [192] (A2 []) [] (A2 [(1,[4]),(0,[0,0])]) [] (A2 []) (some [4]) [] [] []
def Dl9{R:Type}(L:Nat)(c a:Int)(e:Int->Option R):Option R:=vl (A1 ((36:Int)*(A1 (c+1)))) λb=>vl (if ((if ((A1 (b-a))<(26:Int)) then (A1 (b-a)) else (26:Int)) > (1:Int)) then (if ((A1 (b-a))<(26:Int)) then (A1 (b-a)) else (26:Int)) else (1:Int)) λd=>e d
def Dm0(d:Nat)(kk0 bias1):evC (A41 L) (d+1) Z Y 192 [pI kk0,pI bias1] [] s=Dl9 L kk0 bias1 (λa=>some (pI a,[],s)):=by refine(evE (fn:=Tryz.f192) (by kernel_rfl)).trans ?_;generalize evC (A41 L) d=Q;unfold Dl9;kernel_rfl
noncomputable def XN(L:Nat):Cfg:=B8 L [195] (A2 []) [] (A2 [(3,[2]),(2,[2]),(1,[0,3]),(0,[0])]) [] (A2 []) (some [2]) [] [] []
def Bz1{R:Type}(L:Nat)(a:Int)(d:Int->Option R):Option R:=cond (ltI a 26) (vl (wu8 (A1 ((97:Int)+a))) λb=>d b) (vl (A1 ((A1 ((48:Int)+a))-26)) λc=>d (wu8 c))
def Cx2(d:Nat)(d0):evC (XN L) (d+1) Z Y 195 [pI d0] [] s=Bz1 L d0 (λa=>some (p8 a,[],s)):=by refine(evE (fn:=Tryz.f195) (by kernel_rfl)).trans ?_;generalize evC (XN L) d=Q;unfold Bz1;kernel_rfl
noncomputable abbrev Ug:Code:=C7 ag6
noncomputable def Kf(L:Nat):Cfg:=B8 L [191] (A2 []) [] (A2 [(7,[2]),(2,[2]),(4,[2]),(6,[2]),(5,[0,22]),(3,[0,12]),(1,[0,2]),(0,[0])]) [] (A2 [(0,[])]) (some [2]) [] [] []
def Za{R:Type}(a:Int)(g:Bool)(e:Int->Option R)(f:Int->Bool->Option R):Option R:=cond g (vl (A1 (wu8 (a-65))) λb=>e b) (cond (not (ltI a 48)) (cond (not (ltI 57 a)) (vl (A1 (wu8 (a-48))) λc=>vl (A1 (c+26)) λd=>e d) (f a (not (ltI 57 a)))) (f a false))
abbrev SZ(b:Code):Prop:=∀(k:Out->St Z->Option R) a c,A9 (Kf L) Q Y b ⟨gp [(0,p8 a),(12,pB c)] 20,[],s⟩ k=Za a c (λn0=>k .ret ⟨gp [(2,pI n0)] 31,[],s⟩) (λa c=>k .normal ⟨gp [(0,p8 a),(22,pB c)] 10,[],s⟩)
def Bm9:SZ (R:=R) L Q Y s (cd [1,0,0,1,1,1] Ug):=by intro k a b;unfold Za;kernel_rfl
def Zb{R:Type}(a:Int)(l:Bool)(f:Int->Option R)(j:Int->Bool->Option R):Option R:=cond l (vl (A1 (wu8 (a-97))) λg=>f g) (cond (not (ltI a 65)) (Za a (not (ltI 90 a)) (λh=>f h) (λb c=>j b c)) (Za a false (λi=>f i) (λd e=>j d e)))
abbrev DG(b:Code):Prop:=∀(k:Out->St Z->Option R) a c,A9 (Kf L) Q Y b ⟨gp [(0,p8 a),(2,pB c)] 30,[],s⟩ k=Zb a c (λn0=>k .ret ⟨gp [(2,pI n0)] 31,[],s⟩) (λa c=>k .normal ⟨gp [(0,p8 a),(22,pB c)] 10,[],s⟩)
def Bn0(a:Code)(b:SZ (R:=R) L Q Y s a):DG (R:=R) L Q Y s (cd [1,0,0,1] (G7 [1,0,0,1,1,1] a Ug)):=by intro k c d;unfold Zb;simp only[<-b k];kernel_rfl
def Bn1:DG (R:=R) L Q Y s (cd [1,0,0,1] Ug):=by intro k a b;exact a8 (by kernel_rfl) (Bn0 L Q Y s (cd [1,0,0,1,1,1] Ug) (Bm9 L Q Y s) k a b)
def C16{R:Type}(L:Nat)(c:Int)(d:Int->Option R):Option R:=cond (not (ltI c 97)) (Zb c (not (ltI 122 c)) (λa=>d a) (λe f=>d (-1))) (Zb c false (λb=>d b) (λg h=>d (-1)))
def Dn0(b:Code)(a:DG (R:=PV × List Blk × Z) L Q Y s b)(c:Int):A9 (Kf L) Q Y (cd [] (G7 [1,0,0,1] b Ug)) ⟨[p8 c]++tps 33,[],s⟩ (F4 (Kf L) ag6)=C16 L c (λe=>some (pI e,[],s)):=by unfold C16;exact let d:=(E2 0 (E1 (Kf L) Q Y (cd [1,1] Ug) (F4 (Kf L) ag6)));(a8 (by kernel_rfl) (A0 ((a d c (not (ltI 122 c))).trans (by kernel_rfl)) ((a d c false).trans (by kernel_rfl))))
def Dn1(d:Nat)(b0):evC (Kf L) (d+1) Z Y 191 [p8 b0] [] s=C16 L b0 (λa=>some (pI a,[],s)):=
 (evE (fn:=ag6) (by kernel_rfl)).trans (a8 (by kernel_rfl) (Dn0 L (evC (Kf L) d) Y s (cd [1,0,0,1] Ug) (Bn1 L (evC (Kf L) d) Y s) b0))
noncomputable abbrev Cm:Code:=C7 ag3
noncomputable def N7(L:Nat):Cfg:=B8 L [155] (A2 [(32,[0,1,0,0,1,0,0,0,0,2,0,0]),(25,[0,1,0,0,1,0,0,0,0,2]),(18,[0,1,0,0,1,0,0,0,0,0,0]),(15,[0,1,0,0,1,0,0,0,0]),(5,[0,1,0,0,0])]) [(194,Wg),(192,A05),(195,Bs7),(193,IL)] (A2 [(43,[2,0]),(42,[0,3,1,0,0,0,0]),(41,[0,3,1,0,0,0,0]),(26,[0,3,1,0,0,0,0,2]),(40,[0,3,1,0,0,0,0,2]),(39,[0,3,1,0,0,0,0,2]),(38,[0,3,1,0,0,1,2]),(37,[0,3,1,0,0,0,3]),(36,[0,3,1,0,0,0,0,2,0,0]),(35,[0,3,1,0,0,0,0,2,0,0]),(34,[0,3,1,0,0,0,0,2,0,0,0]),(33,[0,3,1,0,0,0,0,2,0,0,0]),(32,[0,3,1,0,0,0,0,2,0,0,94]),(31,[0,3,1,0,0,0,0,2,0,0]),(30,[0,3,1,0,0,0,0,2,0]),(29,[0,3,1,0,0,0,0,2,90]),(28,[0,3,1,0,0,0,0,2]),(27,[0,3,1,0,0,0,0,2,82]),(25,[0,3,1,0,0,0,0,2,74]),(24,[0,3,1,0,0,0,0,2]),(23,[0,3,1,0,0,0,0]),(22,[0,3,1,0,1,0,0]),(19,[0,3,1,0,0,0,0,0,0]),(21,[0,3,1,0,0,0,0,0,0]),(20,[0,3,1,0,0,0,0,0,0,56]),(18,[0,3,1,0,0,0,0,0,0,48]),(17,[0,3,1,0,0,0,0,0,0]),(16,[0,3,1,0,0,0,0,0]),(15,[0,3,1,0,0,0,0,46]),(14,[0,3,1,0,0,0,0]),(13,[0,3,1,0]),(12,[0,3,1,0,42]),(11,[0,3,1,0]),(6,[0,3,0]),(10,[0,3,0]),(9,[0,3,0,30]),(8,[2,0]),(7,[0,3,0,25]),(5,[0,3,0,17]),(4,[0,3,0]),(3,[0,3]),(2,[2,0]),(1,[0,18]),(0,[0])]) [194,192,195,193] (A2 [(2,[4]),(3,[0,3,1,0,0,0,0]),(6,[0,3,1,0,0,0,0]),(7,[0,3,1,0,0,0,0,2]),(8,[0,3,1,0,0,0,3,0]),(9,[0,3,1,0,0,0,0,2,0,0]),(4,[0,3,1,0,0,0,0,0]),(5,[0,3,1,0,0,0,0,0,0]),(0,[0,3]),(1,[0,3,0])]) (some [2,0]) [] [] []
def W4{R:Type}(L n:Nat)(c b:Bool)(a:LL)(d:Int)(e:LL)(f:LL->Option R)(g:Bool->Bool->LL->LL->Option R):Option R:=match n with|0=>none|n+1=>cond (ltI d (a.length:Int)) (cond (inR d a.length) (cond (okE Ma a (j4 d) 0) (vl (gE a (j4 d) 0) λh=>cond (not (ptI h)) (f e) (cond (inR d a.length) (cond (okE Ma a (j4 d) 0) (vl (gE a (j4 d) 0) λi=>cond (ltI i 128) (cond (inR d a.length) (cond (okE Ma a (j4 d) 0) (vl (gE a (j4 d) 0) λj=>cond (G2 (e.length+1)) (W4 L n c b a (A1 (d+1)) (e++[[(SV.int .u8 (wu8 j))]]) f g) none) none) none) (W4 L n c b a (A1 (d+1)) e f g)) none) none)) none) none) (g c b a e)
def Bf4(n b a c i3 l4):D0 1 ((N7 L).keep 5) (bd (N7 L) Q Y (cd [1,1,1,0,1,0,0] Cm)) n ⟨gp [(0,.s (.sl b a 1 c)),(3,.fl 0),(0,pI i3)] 148,[.arr true 5 1 l4],s⟩ k =
 W4 L n b a c i3 l4 (λe=>k .ret ⟨gp [(2,pS ([]:List UInt8)),(0,pI (2:Int))] 150,[.arr true 5 1 e],s⟩) (λb a c f=>k (.exit 0) ⟨gp [(0,.s (.sl b a 1 c)),(3,.fl 0)] 149,[.arr true 5 1 f],s⟩):=by
 induction n generalizing b a c i3 l4 with
 | zero=>rfl
 | succ n d=>rw[W4];simp only[<-d];kernel_rfl
def Js{R:Type}(L n:Nat)(c b:Bool)(a:LL)(h e o f g d i:Int)(l10:LL)(p:Bool->Bool->LL->Int->Int->Int->Int->Int->Int->LL->Option R):Option R:=match n with|0=>none|n+1=>cond (ltI i (a.length:Int)) (cond (inR i a.length) (cond (okE Ma a (j4 i) 0) (vl (gE a (j4 i) 0) λl=>cond (not (ltI l o)) (cond (inR i a.length) (cond (okE Ma a (j4 i) 0) (vl (gE a (j4 i) 0) λj=>vl (if (j<d) then j else d) λm=>Js L n c b a h e o f g m (A1 (i+1)) l10 p) none) none) (Js L n c b a h e o f g d (A1 (i+1)) l10 p)) none) none) (p c b a h e o f g d l10)
def Bf5(n b a c h d i e g f i9 l10):D0 1 ((N7 L).keep 18) (bd (N7 L) Q Y (cd [1,1,1,1,1,1,1,0,0,0,1,0,1,0,1,0,0] Cm)) n ⟨gp [(0,.s (.sl b a 1 c)),(3,.fl 0),(1,pI h),(0,pI d),(0,pI i),(0,pI e),(0,pI g),(0,pI f),(0,pI i9)] 141,[.arr true 5 1 l10],s⟩ k =
 Js L n b a c h d i e g f i9 l10 (λb a c h d i e g f l=>k (.exit 4) ⟨gp [(0,.s (.sl b a 1 c)),(3,.fl 0),(1,pI h),(0,pI d),(0,pI i),(0,pI e),(0,pI g),(0,pI f)] 142,[.arr true 5 1 l],s⟩):=by
 induction n generalizing b a c h d i e g f i9 l10 with
 | zero=>rfl
 | succ n j=>rw[Js];simp only[<-j];kernel_rfl
def Gi{R:Type}(L n:Nat)(c b:Bool)(f:LL)(i g w h a i8 u e:Int)(o:LL)(v:Bool->Bool->LL->Int->Int->Int->Int->Int->Int->LL->Option R):Option R:=match n with|0=>none|n+1=>cond (ltN e 10000000000) (cond (ltN a 1000000) (vl (L9 (ac4 (36:Int) e) a) λp=>cond (not (ltI u p)) (cond (ltN e 10000000000) (cond (ltN a 1000000) (vl (L9 (ac4 (36:Int) e) a) λd=>vl (A1 ((36:Int)-d)) λj=>cond (j !=0) (vl (v8 (A1 (u-d)) j) λl=>cond (ltN (A1 (d+l)) 36) (vl (↑(ah0 (Bc (j4 (A1 (d+l))))):Int) λq=>cond (G2 (o.length+1)) (vl (A1 ((36:Int)-d)) λm=>cond (m !=0) (vl (A1 (w6 (A1 (u-d)) m)) λr=>vl (A1 (e+1)) λt=>Gi L n c b f i g w h a i8 r t (o++[[(SV.int .u8 q)]]) v) none) none) none) none) none) none) (v c b f i g w h i8 u o)) none) none
def ND(n b a c f d g e bias7 i8 q9 kk10 l11):D0 1 ((N7 L).keep 32) (bd (N7 L) Q Y (cd [1,1,1,1,1,1,1,0,0,0,1,0,1,1,1,1,0,1,0,0,1,0,0,1,1,1,1,0,0,0] Cm)) n ⟨gp [(0,.s (.sl b a 1 c)),(3,.fl 0),(1,pI f),(0,pI d),(0,pI g),(0,pI e),(0,pI bias7),(2,pI i8),(0,pI q9),(0,pI kk10)] 138,[.arr true 5 1 l11],s⟩ k =
 Gi L n b a c f d g e bias7 i8 q9 kk10 l11 (λb a c f d g e h l j=>k (.exit 8) ⟨gp [(0,.s (.sl b a 1 c)),(3,.fl 0),(1,pI f),(0,pI d),(0,pI g),(0,pI e),(3,pI h),(0,pI l)] 139,[.arr true 5 1 j],s⟩):=by
 induction n generalizing b a c f d g e bias7 i8 q9 kk10 l11 with
 | zero=>rfl
 | succ n i=>rw[Gi];simp only[<-i];kernel_rfl
def Bj{R:Type}(L n:Nat)(c b:Bool)(a:LL)(i d B e f i8:Int)(I:LL)(H:Bool->Bool->LL->Int->Int->Int->Int->Int->LL->Option R):Option R:=match n with|0=>none|n+1=>cond (ltI i8 (a.length:Int)) (cond (inR i8 a.length) (cond (okE Ma a (j4 i8) 0) (vl (gE a (j4 i8) 0) λJ=>cond (ltI J B) (vl (A1 (e+1)) λw=>cond (inR i8 a.length) (cond (okE Ma a (j4 i8) 0) (vl (gE a (j4 i8) 0) λK=>cond (K !=B) (Bj L n c b a i d B w f (A1 (i8+1)) I H) (Gi L L c b a i d B w f i8 w 0 I (λr p u g j N m F C z=>cond (ltN C 36) (vl (↑(ah0 (Bc (j4 C))):Int) λO=>cond (G2 (z.length+1)) (vl (A1 (g+1)) λx=>cond (ltN m 1152921504606846976) (cond (ltN x 1000000) (cond (ltI 0 x) (vl (↑(R5 (j4 m) (j4 x) (g==j)):Int) λP=>vl (A1 (g+1)) λS=>vl (A1 (F+1)) λT=>Bj L n r p u S j N 0 P T (z++[[(SV.int .u8 O)]]) H) none) none) none) none) none))) none) none) (cond (inR i8 a.length) (cond (okE Ma a (j4 i8) 0) (vl (gE a (j4 i8) 0) λM=>cond (M !=B) (Bj L n c b a i d B e f (A1 (i8+1)) I H) (Gi L L c b a i d B e f i8 e 0 I (λt q v h l U o G D A=>cond (ltN D 36) (vl (↑(ah0 (Bc (j4 D))):Int) λV=>cond (G2 (A.length+1)) (vl (A1 (h+1)) λy=>cond (ltN o 1152921504606846976) (cond (ltN y 1000000) (cond (ltI 0 y) (vl (↑(R5 (j4 o) (j4 y) (h==l)):Int) λW=>vl (A1 (h+1)) λX=>vl (A1 (G+1)) λa0=>Bj L n t q v X l U 0 W a0 (A++[[(SV.int .u8 V)]]) H) none) none) none) none) none))) none) none)) none) none) (H c b a i d B e f I)
def Bf6(n b a c g d t e f i8 l9):D0 1 ((N7 L).keep 25) (bd (N7 L) Q Y (cd [1,1,1,1,1,1,1,0,0,0,1,0,1,1,1,1,0,1,0,0] Cm)) n ⟨gp [(0,.s (.sl b a 1 c)),(3,.fl 0),(1,pI g),(0,pI d),(0,pI t),(0,pI e),(0,pI f),(2,pI i8)] 140,[.arr true 5 1 l9],s⟩ k =
 Bj L n b a c g d t e f i8 l9 (λb a c g d t e f l8=>k (.exit 6) ⟨gp [(0,.s (.sl b a 1 c)),(3,.fl 0),(1,pI g),(0,pI d),(0,pI t),(0,pI e),(0,pI f)] 143,[.arr true 5 1 l8],s⟩):=by
 induction n generalizing b a c g d t e f i8 l9 with
 | zero=>rfl
 | succ n M=>rw[Bj];exact let N:=(E2 8 (E1 (N7 L) Q Y (cd [1,1,1,1,1,1,1,0,0,0,1,0,1,1,1,1,0,1,0,0,1,0,0,1,1,1,1,1] Cm) (E2 7 (E1 (N7 L) Q Y (cd [1,1,1,1,1,1,1,0,0,0,1,0,1,1,1,1,0,1,0,0,1,1] Cm) (lpK 1 ((N7 L).keep 25) (bd (N7 L) Q Y (cd [1,1,1,1,1,1,1,0,0,0,1,0,1,1,1,1,0,1,0,0] Cm)) n k)))));(a8 (by kernel_rfl) (A0 (A0 (A0 (A4 λS=>(A0 (A4 λr=>(A0 (A0 (A4 λT=>(A0 (M b a c g d t r f (A1 (i8+1)) l9) ((ND L Q Y s N L b a c g d t r f i8 r 0 l9).trans (congr rfl (Dd4 λj h m w p A u O X y=>(a8 (by kernel_rfl) (A0 (A4 λB=>(A0 (A4 λV=>(A0 (A0 (A0 (A4 λC=>(A4 λD=>(A4 λF=>(M j h m D p A 0 C F (y++[[(SV.int .u8 B)]]))))) rfl) rfl) rfl)) rfl)) rfl))))))) rfl) rfl)) (A0 (A0 (A4 λU=>(A0 (M b a c g d t e f (A1 (i8+1)) l9) ((ND L Q Y s N L b a c g d t e f i8 e 0 l9).trans (congr rfl (Dd4 λl i o x q G v P a0 z=>(a8 (by kernel_rfl) (A0 (A4 λH=>(A0 (A4 λW=>(A0 (A0 (A0 (A4 λI=>(A4 λJ=>(A4 λK=>(M l i o J q G 0 I K (z++[[(SV.int .u8 H)]]))))) rfl) rfl) rfl)) rfl)) rfl))))))) rfl) rfl))) rfl) rfl) rfl))
def Gj{R:Type}(L n:Nat)(l j:Bool)(g:LL)(v w K x y:Int)(J:LL)(I:LL->Option R):Option R:=match n with|0=>none|n+1=>cond (ltI v (g.length:Int)) (Js L L l j g v w K x y 1073741824 0 J (λd b h f m B p r a z=>vl (A1 (f+1)) λC=>vl (A1 ((A1 (a-B))*C)) λD=>Bj L L d b h f m a (A1 (p+D)) r 0 z (λe c i u o F q t A=>vl (A1 (q+1)) λG=>vl (A1 (F+1)) λH=>Gj L n e c i u o H G t A I))) (I J)
def NE(n points_z0 points_t1 points2 done3 basic4 n5 delta6 bias7 l8):D0 1 ((N7 L).keep 15) (bd (N7 L) Q Y (cd [1,1,1,1,1,1,1,0,0,0] Cm)) n ⟨gp [(0,.s (.sl points_z0 points_t1 1 points2)),(3,.fl 0),(1,pI done3),(0,pI basic4),(0,pI n5),(0,pI delta6),(0,pI bias7)] 143,[.arr true 5 1 l8],s⟩ k =
 Gj L n points_z0 points_t1 points2 done3 basic4 n5 delta6 bias7 l8 (λB=>k (.exit 2) ⟨gp [(4,.fl 0)] 149,[.arr true 5 1 B],s⟩):=by
 induction n generalizing points_z0 points_t1 points2 done3 basic4 n5 delta6 bias7 l8 with
 | zero=>rfl
 | succ n A=>rw[Gj];exact(a8 (by kernel_rfl) (A0 ((Bf5 L Q Y s (E2 4 (E1 (N7 L) Q Y (cd [1,1,1,1,1,1,1,0,0,0,1,0,1,1] Cm) (E2 3 (lpK 1 ((N7 L).keep 15) (bd (N7 L) Q Y (cd [1,1,1,1,1,1,1,0,0,0] Cm)) n k)))) L points_z0 points_t1 points2 done3 basic4 n5 delta6 bias7 1073741824 0 l8).trans (congr rfl (Dd4 λc a e o g x i l j r=>(a8 (by kernel_rfl) (A4 λy=>(A4 λu=>((Bf6 L Q Y s (E2 6 (E1 (N7 L) Q Y (cd [1,1,1,1,1,1,1,0,0,0,1,0,1,1,1,1,1] Cm) (E2 3 (lpK 1 ((N7 L).keep 15) (bd (N7 L) Q Y (cd [1,1,1,1,1,1,1,0,0,0] Cm)) n k)))) L c a e o g j (A1 (i+u)) l 0 r).trans (congr rfl (fx9 λd b f p h z q m t=>(a8 (by kernel_rfl) (A4 λv=>(A4 λw=>(A d b f p h w v m t))))))))))))) rfl))
def Ap4{R:Type}(L:Nat)(f e:Bool)(d:LL)(o:Unit->Option R)(m:By->Int->LL->Option R):Option R:=cond (ltI 256 (d.length:Int)) (o ()) (W4 L L f e d 0 [] (λn=>m ([]:List UInt8) 2 n) (λb a c g=>vl (g.length:Int) λl=>vl (g.length:Int) λj=>cond (ltI 0 j) (cond (G2 (g.length+1)) (Gj L L b a c l j 128 0 72 (g++[[(SV.int .u8 (45:Int))]]) (λh=>cond (af2 h Pb) (m (ad1 Mu h) 0 h) none)) none) (Gj L L b a c l j 128 0 72 g (λi=>cond (af2 i Pb) (m (ad1 Mu i) 0 i) none))))
def Dk3(d:Nat)(points_z0 points_t1 points2):evC (N7 L) (d+1) Z Y 155 [.s (.sl points_z0 points_t1 1 points2)] [] s=Ap4 L points_z0 points_t1 points2 (λ_=>some (.tup [pS ([]:List UInt8),pI (3:Int)],[],s)) (λj l i=>some (.tup [pS j,pI l],[.arr true 5 1 i],s)):=by refine(evE (fn:=ag3) (by kernel_rfl)).trans ?_;generalize evC (N7 L) d=Q;unfold Ap4;exact let h:=(E2 2 (E1 (N7 L) Q Y (cd [1,1,1,1,1,1,1,1] Cm) (F4 (N7 L) ag3)));(a8 (by kernel_rfl) (A0 rfl ((Bf4 L Q Y s (E2 0 (E1 (N7 L) Q Y (cd [1,1,1,1] Cm) (F4 (N7 L) ag3))) L points_z0 points_t1 points2 0 []).trans (congr (congr rfl (by kernel_rfl)) (fx4 λb a c g=>(a8 (by kernel_rfl) (A4 λe=>(A4 λf=>(A0 (A0 ((NE L Q Y s h L b a c e f 128 0 72 (g++[[(SV.int .u8 (45:Int))]])).trans (by kernel_rfl)) rfl) ((NE L Q Y s h L b a c e f 128 0 72 g).trans (by kernel_rfl)))))))))))
noncomputable abbrev Ac:Code:=C7 ae6
noncomputable def K2(L:Nat):Cfg:=B8 L [154] (A2 [(27,[0,1,0,2,1,0,0,0,0,0,0,0]),(23,[0,1,0,2,1,0,0,0,0]),(13,[0,1,0,0,1,0]),(5,[0,1,0,0,0])]) [(191,Cm2),(192,A05),(193,IL),(194,Wg)] (A2 [(51,[2,0]),(50,[0,5,1,0,0,0,0]),(49,[2,0]),(48,[0,5,1,0,0,0,0,118]),(47,[0,5,1,0,0,0,0]),(46,[2,0]),(45,[0,5,1,0,0,0,0,103]),(44,[0,5,1,0,0,0,0]),(43,[0,5,1,0,0,0,0]),(42,[0,5,1,0,0,0,0]),(41,[0,5,1,0,0,0]),(26,[0,5,1,0,0,0,0,0,0,0]),(40,[2,0]),(39,[0,5,1,0,0,0,0,0,0,0,77]),(38,[0,5,1,0,0,0,0,0,0,0]),(37,[0,5,1,0,0,0,0,0,0,0,1,69]),(36,[0,5,1,0,0,0,0,0,0,0,0,0]),(35,[2,0]),(34,[0,5,1,0,0,0,0,0,0,0,0,64]),(33,[0,5,1,0,0,0,0,0,0,0,0]),(32,[2,0]),(31,[0,5,1,0,0,0,0,0,0,0,0,57]),(30,[0,5,1,0,0,0,0,0,0,0,0]),(29,[0,5,1,0,0,0,0,0,0,0,0]),(28,[2,0]),(27,[0,5,1,0,0,0,0,0,0,0,50]),(25,[0,5,1,0,0,0,0,0,0,0]),(24,[0,5,1,0,0,0,0,0,0]),(23,[0,5,1,0,0,0,0,46]),(22,[0,5,1,0,0,0,0]),(21,[0,5,1,0,0,0]),(20,[0,5,1]),(19,[0,5,1,44]),(18,[0,3,1,1]),(17,[2,0]),(16,[0,3,1,43]),(14,[0,3,1,0]),(15,[0,3,1,0]),(13,[0,3,1,0,30]),(12,[0,3,1,0]),(11,[0,3,1]),(6,[0,3,0]),(10,[0,3,0]),(9,[0,3,0,28]),(8,[2,0]),(7,[0,3,0,24]),(5,[0,3,0,18]),(4,[0,3,0]),(3,[0,3]),(2,[2,0]),(1,[0,19]),(0,[0])]) [191,192,193,194] (A2 [(4,[6]),(5,[0,5,1,0,0,0,0]),(6,[0,5,1,0,0,1,0]),(7,[0,5,1,0,0,0,0,0,0,0]),(2,[0,3,1]),(3,[0,3,1,0]),(0,[0,3]),(1,[0,3,0])]) (some [2,0]) [] [] [] (rw:=[(47,6)])
def Fd{R:Type}(L n:Nat)(c:By)(a b:Int)(d:Unit->Option R)(e:By->Int->Option R):Option R:=match n with|0=>none|n+1=>cond (ltI b (c.length:Int)) (cond (inR b c.length) (cond (not (ltI (bAt c b) (128:Int))) (d ()) (cond (inR b c.length) (cond ((bAt c b)==45) (Fd L n c b (A1 (b+1)) d e) (Fd L n c a (A1 (b+1)) d e)) none)) none) (e c a)
def Aq6(n b a i2):D0 0 ((K2 L).keep 5) (bd (K2 L) Q Y (cd [1,1,1,0,1,0,0] Ac)) n ⟨gp [(0,pS b),(3,pI a),(0,pI i2)] 129,[],s⟩ k =
 Fd L n b a i2 (λ_=>k .ret ⟨gp [(2,.fl 0),(0,pI (4:Int))] 131,[.arr true 3 1 []],s⟩) (λb a=>k (.exit 0) ⟨gp [(0,pS b),(3,pI a)] 130,[],s⟩):=by
 induction n generalizing b a i2 with
 | zero=>rfl
 | succ n c=>rw[Fd];simp only[<-c];kernel_rfl
def Ik{R:Type}(L n:Nat)(c:By)(a b:Int)(d:LL)(e:By->Int->LL->Option R):Option R:=match n with|0=>none|n+1=>cond (ltI b a) (cond (inR b c.length) (cond (G2 (d.length+1)) (Ik L n c a (A1 (b+1)) (d++[[(SV.int .i64 (A1 (bAt c b)))]]) e) none) none) (e c a d)
def Aq7(n b a i2 l3):D0 1 ((K2 L).keep 13) (bd (K2 L) Q Y (cd [1,1,1,1,1,0,1,0,0] Ac)) n ⟨gp [(0,pS b),(3,pI a),(1,.fl 0),(0,pI i2)] 127,[.arr true 3 1 l3],s⟩ k =
 Ik L n b a i2 l3 (λb a d=>k (.exit 2) ⟨gp [(0,pS b),(3,pI a),(1,.fl 0)] 128,[.arr true 3 1 d],s⟩):=by
 induction n generalizing b a i2 l3 with
 | zero=>rfl
 | succ n c=>rw[Ik];simp only[<-c];kernel_rfl
def X1{R:Type}(L n:Nat)(l:By)(g:LL)(b q r a f o h:Int)(j:LL)(m:Int->LL->Option R)(p:By->LL->Int->Int->Int->Int->LL->Option R):Option R:=match n with|0=>none|n+1=>cond (not (ltI b (l.length:Int))) (m 4 j) (cond (inR b l.length) (cond (inR (bAt l b) 256) (vl (E5 (u8n (bAt l b))) λi=>cond (ltI i 0) (m 4 j) (vl (A1 (r+(A1 (i*o)))) λc=>cond (ltI 1099511627776 c) (m 19 j) (cond (ltN h 10000000000) (cond (ltN a 1000000) (vl (L9 (ac4 (36:Int) h) a) λd=>cond (ltI i d) (p l g (A1 (b+1)) q c f j) (vl (A1 ((36:Int)-d)) λe=>cond (ltI 1099511627776 (A1 (o*e))) (m 19 j) (X1 L n l g (A1 (b+1)) q c a f (A1 (o*e)) (A1 (h+1)) j m p))) none) none))) none) none)
def Aq8(n f a b d c bias5 old6 w7 kk8 l9):D0 1 ((K2 L).keep 27) (bd (K2 L) Q Y (cd [1,1,1,1,1,1,1,1,1,1,1,0,0,0,1,0,1,0,1,0,0] Ac)) n ⟨gp [(0,pS f),(5,.s (.sl false false 1 a)),(1,pI b),(0,pI d),(0,pI c),(0,pI bias5),(0,pB false),(0,pI old6),(0,pI w7),(0,pI kk8)] 119,[.arr true 3 1 l9],s⟩ k =
 X1 L n f a b d c bias5 old6 w7 kk8 l9 (λn0 h=>k .ret ⟨gp [(2,.fl 1),(0,pI n0)] 131,[.arr true 3 1 h,.arr true 3 1 []],s⟩) (λf a b d c e i=>k (.exit 6) ⟨gp [(0,pS f),(5,.s (.sl false false 1 a)),(1,pI b),(0,pI d),(0,pI c),(1,pB false),(0,pI e)] 121,[.arr true 3 1 i],s⟩):=by
 induction n generalizing f a b d c bias5 old6 w7 kk8 l9 with
 | zero=>rfl
 | succ n g=>rw[X1];simp only[<-g];kernel_rfl
def Q3{R:Type}(L n:Nat)(C:By)(m:LL)(q D y p:Int)(B:LL)(x:Int->LL->Option R)(z:LL->LL->Option R)(A:LL->LL->Option R):Option R:=match n with|0=>none|n+1=>cond (ltI q (C.length:Int)) (X1 L L C m q D y p y 1 0 B (λt r=>x t r) (λw a o d b h i=>vl (A1 ((a.length:Int)+1)) λj=>cond (ltN (A1 (b-h)) 1152921504606846976) (cond (ltN j 1000000) (cond (ltI 0 j) (vl (↑(R5 (j4 (A1 (b-h))) (j4 j) false):Int) λu=>vl (A1 ((a.length:Int)+1)) λl=>cond (l !=0) (vl (A1 (w6 b l)) λe=>vl (A1 ((a.length:Int)+1)) λf=>cond (f !=0) (cond (not (ptI (A1 (d+e)))) (x 2 i) (cond (J0 0 (v8 b f) a.length) (vl (cut a 0 (v8 b f)) λc=>cond (J0 (v8 b f) (a.length:Int) a.length) (vl (cut a (v8 b f) (a.length:Int)) λg=>cond (G2 (0+c.length)) (cond (G2 (c.length+1)) (cond (G2 ((j0 (c++[[(SV.int .i64 (A1 (d+e)))]]))+g.length)) (cond (ltI 256 (↑(j0 ((c++[[(SV.int .i64 (A1 (d+e)))]])++g)):Int)) (z i ((c++[[(SV.int .i64 (A1 (d+e)))]])++g)) (vl (A1 ((v8 b f)+1)) λv=>Q3 L n w ((c++[[(SV.int .i64 (A1 (d+e)))]])++g) o (A1 (d+e)) v u i x z A)) none) none) none) none) none)) none) none) none) none) none)) (A m B)
def Aq9(n s0 out1 at2 n3 i4 bias5 l6):D0 1 ((K2 L).keep 23) (bd (K2 L) Q Y (cd [1,1,1,1,1,1,1,1,1,1,1,0,0,0] Ac)) n ⟨gp [(0,pS s0),(5,.s (.sl false false 1 out1)),(1,pI at2),(0,pI n3),(0,pI i4),(0,pI bias5),(0,pB false)] 122,[.arr true 3 1 l6],s⟩ k =
 Q3 L n s0 out1 at2 n3 i4 bias5 l6 (λn0 g=>k .ret ⟨gp [(2,.fl 1),(0,pI n0)] 131,[.arr true 3 1 g,.arr true 3 1 []],s⟩) (λv g=>k .ret ⟨gp [(2,.fl 2),(0,pI (3:Int))] 131,[.arr true 3 1 v,.arr false 3 1 g,.arr true 3 1 []],s⟩) (λj g=>k (.exit 4) ⟨gp [(6,.s (.sl false false 1 j))] 128,[.arr true 3 1 g],s⟩):=by
 induction n generalizing s0 out1 at2 n3 i4 bias5 l6 with
 | zero=>rfl
 | succ n u=>rw[Q3];exact(a8 (by kernel_rfl) (A0 ((Aq8 L Q Y s (E2 6 (E1 (K2 L) Q Y (cd [1,1,1,1,1,1,1,1,1,1,1,0,0,0,1,0,1,1] Ac) (E2 5 (lpK 1 ((K2 L).keep 23) (bd (K2 L) Q Y (cd [1,1,1,1,1,1,1,1,1,1,1,0,0,0] Ac)) n k)))) L s0 out1 at2 n3 i4 bias5 i4 1 0 l6).trans (congr (congr rfl (by kernel_rfl)) (fx7 λl o c a p m d=>(a8 (by kernel_rfl) (A4 λq=>(A0 (A0 (A0 (A4 λh=>(A4 λr=>(A0 (A4 λb=>(A4 λt=>(A0 (A0 rfl (A0 (A4 λe=>(A0 (A4 λf=>(A0 (A0 (A0 (A0 rfl (A4 λi=>(u l ((e++[[(SV.int .i64 (A1 (a+b)))]])++f) c (A1 (a+b)) i h d))) rfl) rfl) rfl)) rfl)) rfl)) rfl))) rfl))) rfl) rfl) rfl)))))) rfl))
def X2{R:Type}(L n:Nat)(h:By)(a m j f:Int)(g:LL)(i:Int->LL->Option R)(l:By->Int->Int->LL->Option R):Option R:=match n with|0=>none|n+1=>cond (not (ltI a (h.length:Int))) (i 4 g) (cond (inR a h.length) (cond (inR (bAt h a) 256) (vl (E5 (u8n (bAt h a))) λb=>cond (ltI b 0) (i 4 g) (vl (A1 (m+(A1 (b*j)))) λc=>cond (ltI 1099511627776 c) (i 19 g) (cond (ltN f 10000000000) (cond (ltN 72 1000000) (vl (L9 (ac4 (36:Int) f) (72:Int)) λd=>cond (ltI b d) (l h (A1 (a+1)) c g) (vl (A1 ((36:Int)-d)) λe=>cond (ltI 1099511627776 (A1 (j*e))) (i 19 g) (X2 L n h (A1 (a+1)) c (A1 (j*e)) (A1 (f+1)) g i l))) none) none))) none) none)
def Ar0(n c a b w3 kk4 l5):D0 1 ((K2 L).keep 27) (bd (K2 L) Q Y (cd [1,1,1,1,1,1,1,1,1,1,1,0,0,0,1,0,1,0,1,0,0] Ac)) n ⟨gp [(0,pS c),(5,.fl 0),(1,pI a),(0,pI (128:Int)),(0,pI b),(0,pI (72:Int)),(0,pB true),(0,pI (0:Int)),(0,pI w3),(0,pI kk4)] 119,[.arr true 3 1 l5],s⟩ k =
 X2 L n c a b w3 kk4 l5 (λn0 e=>k .ret ⟨gp [(2,.fl 1),(0,pI n0)] 131,[.arr true 3 1 e,.arr true 3 1 []],s⟩) (λc a b f=>k (.exit 6) ⟨gp [(0,pS c),(5,.fl 0),(1,pI a),(0,pI (128:Int)),(0,pI b),(1,pB true),(0,pI (0:Int))] 121,[.arr true 3 1 f],s⟩):=by
 induction n generalizing c a b w3 kk4 l5 with
 | zero=>rfl
 | succ n d=>rw[X2];simp only[<-d];kernel_rfl
def L3{R:Type}(L n:Nat)(D:By)(m:Int)(C:LL)(A:Int->LL->Option R)(B:LL->LL->Option R)(F:LL->LL->Option R)(G:LL->Option R):Option R:=match n with|0=>none|n+1=>cond (ltI m (D.length:Int)) (X2 L L D m 0 1 0 C (λu o=>A u o) (λz l b a=>vl (A1 (b-0)) λi=>vl (A1 ((a.length:Int)+1)) λe=>cond (ltN i 1152921504606846976) (cond (ltN e 1000000) (cond (ltI 0 e) (vl (↑(R5 (j4 i) (j4 e) true):Int) λv=>vl (A1 ((a.length:Int)+1)) λj=>cond (j !=0) (vl (A1 (w6 b j)) λw=>vl (A1 ((128:Int)+w)) λf=>vl (A1 ((a.length:Int)+1)) λc=>cond (c !=0) (cond (not (ptI f)) (A 2 a) (cond (J0 0 (v8 b c) a.length) (cond (J0 (v8 b c) (a.length:Int) a.length) (cond (G2 (0+(j0 (aa9 ((j4 (v8 b c))-0) (ac1 0 a))))) (cond (G2 ((j0 (aa9 ((j4 (v8 b c))-0) (ac1 0 a)))+1)) (vl ((aa9 ((j4 (v8 b c))-0) (ac1 0 a))++[[(SV.int .i64 f)]]) λh=>cond (G2 (h.length+(j0 (aa9 ((j4 (a.length:Int))-(j4 (v8 b c))) (ac1 (j4 (v8 b c)) a))))) (vl (h++(aa9 ((j4 (a.length:Int))-(j4 (v8 b c))) (ac1 (j4 (v8 b c)) a))) λd=>cond (ltI 256 (d.length:Int)) (B a d) (vl (A1 ((v8 b c)+1)) λx=>Q3 L n z d l f x v a (λy p=>A y p) (λq r=>B q r) (λg t=>F g t))) none) none) none) none) none)) none) none) none) none) none)) (G C)
def EZ(n s0 at1 l2):D0 1 ((K2 L).keep 23) (bd (K2 L) Q Y (cd [1,1,1,1,1,1,1,1,1,1,1,0,0,0] Ac)) n ⟨gp [(0,pS s0),(5,.fl 0),(1,pI at1),(0,pI (128:Int)),(0,pI (0:Int)),(0,pI (72:Int)),(0,pB true)] 122,[.arr true 3 1 l2],s⟩ k =
 L3 L n s0 at1 l2 (λn0 d=>k .ret ⟨gp [(2,.fl 1),(0,pI n0)] 131,[.arr true 3 1 d,.arr true 3 1 []],s⟩) (λl d=>k .ret ⟨gp [(2,.fl 2),(0,pI (3:Int))] 131,[.arr true 3 1 l,.arr false 3 1 d,.arr true 3 1 []],s⟩) (λh d=>k (.exit 4) ⟨gp [(6,.s (.sl false false 1 h))] 128,[.arr true 3 1 d],s⟩) (λl=>k (.exit 4) ⟨gp [(6,.fl 0)] 128,[.arr true 3 1 l],s⟩):=by
 induction n generalizing s0 at1 l2 with
 | zero=>rfl
 | succ n A=>rw[L3];exact(a8 (by kernel_rfl) (A0 ((Ar0 L Q Y s (E2 6 (E1 (K2 L) Q Y (cd [1,1,1,1,1,1,1,1,1,1,1,0,0,0,1,0,1,1] Ac) (E2 5 (lpK 1 ((K2 L).keep 23) (bd (K2 L) Q Y (cd [1,1,1,1,1,1,1,1,1,1,1,0,0,0] Ac)) n k)))) L s0 at1 0 1 0 l2).trans (congr (congr rfl (by kernel_rfl)) (fx4 λi a m b=>(a8 (by kernel_rfl) (A4 λu=>(A4 λv=>(A0 (A0 (A0 (A4 λe=>(A4 λw=>(A0 (A4 λx=>(A4 λf=>(A4 λy=>(A0 (A0 rfl (A0 (A0 (A0 (A0 (A4 λo=>(A0 (A4 λc=>(A0 rfl (A4 λg=>((Aq9 L Q Y s k n i c a f g e b).trans (congr (congr (congr rfl (fx2 λz p=>rfl)) (fx2 λq r=>rfl)) (fx2 λj t=>rfl)))))) rfl)) rfl) rfl) rfl) rfl)) rfl)))) rfl))) rfl) rfl) rfl))))))) rfl))
def Bz8{R:Type}(L:Nat)(A:By)(u:Int->LL->Option R)(v:Int->LL->Option R)(y:LL->LL->Option R)(z:LL->LL->Option R):Option R:=cond (ltI 1024 (A.length:Int)) (u 3 []) (Fd L L A 0 0 (λ_=>u 4 []) (λx e=>Ik L L x e 0 [] (λt a b=>cond (ltI 256 (b.length:Int)) (v 3 b) (cond (ltI 0 a) (vl (A1 (a+1)) λw=>L3 L L t w b (λq f=>v q f) (λg h=>y g h) (λc i=>z c i) (λj=>u 0 j)) (L3 L L t a b (λr l=>v r l) (λm n=>y m n) (λd o=>z d o) (λp=>u 0 p))))))
def Cz7(d:Nat)(s0):evC (K2 L) (d+1) Z Y 154 [pS s0] [] s=Bz8 L s0 (λf c=>some (.tup [.fl 0,pI f],[.arr true 3 1 c],s)) (λf c=>some (.tup [.fl 1,pI f],[.arr true 3 1 c,.arr true 3 1 []],s)) (λl c=>some (.tup [.fl 2,pI (3:Int)],[.arr true 3 1 l,.arr false 3 1 c,.arr true 3 1 []],s)) (λf c=>some (.tup [.s (.sl false false 1 f),pI (0:Int)],[.arr true 3 1 c],s)):=by refine(evE (fn:=ae6) (by kernel_rfl)).trans ?_;generalize evC (K2 L) d=Q;unfold Bz8;exact let j:=(E2 4 (E1 (K2 L) Q Y (cd [1,1,1,1,1,1,1,1,1,1,1,1] Ac) (F4 (K2 L) ae6)));(a8 (by kernel_rfl) (A0 rfl ((Aq6 L Q Y s (E2 0 (E1 (K2 L) Q Y (cd [1,1,1,1] Ac) (F4 (K2 L) ae6))) L s0 0 0).trans (congr (congr rfl (by kernel_rfl)) (fx2 λi a=>(a8 (by kernel_rfl) ((Aq7 L Q Y s (E2 2 (E1 (K2 L) Q Y (cd [1,1,1,1,1,1] Ac) (F4 (K2 L) ae6))) L i a 0 []).trans (congr rfl (fx3 λg b e=>(a8 (by kernel_rfl) (A0 rfl (A0 (A4 λh=>((EZ L Q Y s j L g h e).trans (by kernel_rfl))) ((EZ L Q Y s j L g b e).trans (by kernel_rfl))))))))))))))
noncomputable abbrev Ap:Code:=C7 ag5
noncomputable def P8(L:Nat):Cfg:=B8 L [175] (A2 [(17,[0,1,0,0,0,1,0,0,0]),(3,[0,1,0,0,0])]) [(194,Wg)] (A2 [(27,[2,0]),(26,[0,3,0]),(25,[0,3,0,1]),(24,[2,0]),(23,[0,3,0,1,0,77]),(18,[0,3,0,1,0,0,0]),(22,[0,3,0,1,0,0,0]),(21,[2,0]),(20,[0,3,0,1,0,0,0,0,61]),(19,[0,3,0,1,0,0,0,0]),(17,[0,3,0,1,0,0,0,48]),(16,[0,3,0,1,0,0,0]),(15,[2,0]),(14,[0,3,0,1,0,0,46]),(9,[0,3,0,1,0,0]),(11,[0,3,0,1,0,0]),(13,[0,3,0,1,0,0]),(6,[2,0]),(12,[0,3,0,0,35]),(10,[0,3,0,0,26]),(8,[0,3,0,0,17]),(7,[0,3,0,0,0,0,0,11]),(5,[0,3,0,0,0,0,0]),(4,[0,3,0,0]),(3,[0,3,0,9]),(2,[0,3,0]),(1,[0,3]),(0,[0])]) [194] (A2 [(0,[4]),(1,[0,3,0]),(3,[0,3,0,1,0,0]),(4,[0,3,0,1,0,0,0]),(2,[0,3,0,1,0,0])]) (some [2,0]) [] [] []
def Yw{R:Type}(L n:Nat)(d:By)(a e:Int)(c:LL)(b:By->Int->Int->LL->Option R):Option R:=match n with|0=>none|n+1=>b d a e c
def Bk7(n c a d b):D0 1 ((P8 L).keep 17) (bd (P8 L) Q Y (cd [1,1,0,1,0,0,1,0,1,1,1,1,0,1,0,0] Ap)) n ⟨gp [(0,pS c),(3,.fl 0),(0,pI a),(1,pI (1:Int)),(0,pI d),(0,pI (0:Int)),(0,pI (1:Int))] 84,[.arr true 3 1 b],s⟩ k =
 Yw L n c a d b (λc a d b=>k (.exit 3) ⟨gp [(0,pS c),(3,.fl 0),(0,pI a),(1,pI (1:Int)),(0,pI d),(0,pI (0:Int))] 85,[.arr true 3 1 b],s⟩):=by
 induction n generalizing c a d b with
 | zero=>rfl
 | succ n e=>rw[Yw];kernel_rfl
def Yv{R:Type}(L:Nat)(i:By)(g j:Int)(h:LL)(d:LL->Option R)(l:By->Int->LL->Option R):Option R:=vl (A1 ((i.length:Int)-g)) λe=>cond (ltI e 1) (d h) (Yw L L i g j h (λf c b a=>cond (ltI b 0) (d a) (cond (not (ptI b)) (d a) (cond (G2 (a.length+1)) (l f (A1 (c+1)) (a++[[(SV.int .i64 b)]])) none))))
abbrev DE(b:Code):Prop:=∀(k:Out->St Z->Option R) c a b2 b3 l4,A9 (P8 L) Q Y b ⟨gp [(0,pS c),(3,.fl 0),(0,pI a),(0,pI b2),(0,pI (1:Int)),(0,pI b2),(0,pI (0:Int)),(11,pB b3)] 73,[.arr true 3 1 l4],s⟩ k=Yv L c a b2 l4 (λd=>k .ret ⟨gp [(2,.fl 1),(0,pB false)] 91,[.arr true 3 1 d,.arr true 3 1 []],s⟩) (λc a e=>k .normal ⟨gp [(0,pS c),(3,.fl 0),(0,pI a)] 89,[.arr true 3 1 e],s⟩)
def Bk1:DE (R:=R) L Q Y s (cd [1,1,0,1,0,0,1,0,1,1,1] Ap):=by intro k e b a f c;unfold Yv;exact(a8 (by kernel_rfl) (A4 λd=>(A0 rfl ((Bk7 L Q Y s (E2 3 (E1 (P8 L) Q Y (cd [1,1,0,1,0,0,1,0,1,1,1,1,1] Ap) k)) L e b a c).trans (by kernel_rfl)))))
def Nt{R:Type}(h:By)(e c:Int)(i:Bool)(d:LL)(f:By->Int->Int->Int->Int->LL->Option R)(g:LL->Option R):Option R:=cond i (vl (A1 (c-224)) λa=>f h e 3 a 2048 d) (cond (not (ltI c 240)) (cond (ltI c 245) (vl (A1 (c-240)) λb=>f h e 4 b 65536 d) (g d)) (g d))
abbrev SW(b:Code):Prop:=∀(k:Out->St Z->Option R) d c b2 b3 l4,A9 (P8 L) Q Y b ⟨gp [(0,pS d),(3,.fl 0),(0,pI c),(0,pI b2),(26,pB b3)] 61,[.arr true 3 1 l4],s⟩ k=Nt d c b2 b3 l4 (λd c g h a f=>k .normal ⟨gp [(0,pS d),(3,.fl 0),(0,pI c),(1,pI g),(0,pI h),(0,pI a)] 85,[.arr true 3 1 f],s⟩) (λe=>k .ret ⟨gp [(2,.fl 1),(0,pB false)] 91,[.arr true 3 1 e,.arr true 3 1 []],s⟩)
def Bk3:SW (R:=R) L Q Y s (cd [1,1,0,1,0,0,1,0,1,1,0,0,1,1,1,1,1] Ap):=by intro k e c a b d;unfold Nt;kernel_rfl
def Nu{R:Type}(v:By)(r c:Int)(x:Bool)(u:LL)(t:By->Int->Int->Int->Int->LL->Option R)(w:LL->Option R):Option R:=cond x (vl (A1 (c-192)) λj=>t v r 2 j 128 u) (cond (not (ltI c 224)) (Nt v r c (ltI c 240) u (λn d l p a f=>t n d l p a f) (λg=>w g)) (Nt v r c false u (λo e m q b h=>t o e m q b h) (λi=>w i)))
abbrev Sj(b:Code):Prop:=∀(k:Out->St Z->Option R) d c b2 b3 l4,A9 (P8 L) Q Y b ⟨gp [(0,pS d),(3,.fl 0),(0,pI c),(0,pI b2),(17,pB b3)] 70,[.arr true 3 1 l4],s⟩ k=Nu d c b2 b3 l4 (λd c g h a f=>k .normal ⟨gp [(0,pS d),(3,.fl 0),(0,pI c),(1,pI g),(0,pI h),(0,pI a)] 85,[.arr true 3 1 f],s⟩) (λe=>k .ret ⟨gp [(2,.fl 1),(0,pB false)] 91,[.arr true 3 1 e,.arr true 3 1 []],s⟩)
def Bk4(a:Code)(b:SW (R:=R) L Q Y s a):Sj (R:=R) L Q Y s (cd [1,1,0,1,0,0,1,0,1,1,0,0,1,1,1] (G7 [1,1,0,1,0,0,1,0,1,1,0,0,1,1,1,1,1] a Ap)):=by intro k g e c d f;unfold Nu;simp only[<-b k];kernel_rfl
def Bk5:Sj (R:=R) L Q Y s (cd [1,1,0,1,0,0,1,0,1,1,0,0,1,1,1] Ap):=by intro k e c a b d;exact a8 (by kernel_rfl) (Bk4 L Q Y s (cd [1,1,0,1,0,0,1,0,1,1,0,0,1,1,1,1,1] Ap) (Bk3 L Q Y s) k e c a b d)
def Gn{R:Type}(L n:Nat)(h:By)(f j m a c:Int)(g:LL)(i:LL->Option R)(l:By->Int->Int->Int->Int->LL->Option R):Option R:=match n with|0=>none|n+1=>cond (ltI c j) (cond (inR (A1 (f+c)) h.length) (vl (bAt h (A1 (f+c))) λb=>cond (ltI (A1 b) (128:Int)) (i g) (cond (ltI 191 (A1 b)) (i g) (vl (A1 ((A1 (m*64))+(A1 b))) λd=>vl (A1 (d-128)) λe=>Gn L n h f j e a (A1 (c+1)) g i l))) none) (l h f j m a g)
def Bk9(n d b c e a kk5 l6):D0 1 ((P8 L).keep 17) (bd (P8 L) Q Y (cd [1,1,0,1,0,0,1,0,1,1,1,1,0,1,0,0] Ap)) n ⟨gp [(0,pS d),(3,.fl 0),(0,pI b),(1,pI c),(0,pI e),(0,pI a),(0,pI kk5)] 84,[.arr true 3 1 l6],s⟩ k =
 Gn L n d b c e a kk5 l6 (λg=>k .ret ⟨gp [(2,.fl 1),(0,pB false)] 91,[.arr true 3 1 g,.arr true 3 1 []],s⟩) (λd b c e a h=>k (.exit 3) ⟨gp [(0,pS d),(3,.fl 0),(0,pI b),(1,pI c),(0,pI e),(0,pI a)] 85,[.arr true 3 1 h],s⟩):=by
 induction n generalizing d b c e a kk5 l6 with
 | zero=>rfl
 | succ n f=>rw[Gn];simp only[<-f];kernel_rfl
def Et{R:Type}(L:Nat)(o:By)(l n q d:Int)(m:LL)(j:LL->Option R)(p:By->Int->LL->Option R):Option R:=vl (A1 ((o.length:Int)-l)) λg=>cond (ltI g n) (j m) (Gn L L o l n q d 1 m (λf=>j f) (λi e h c b a=>cond (ltI c b) (j a) (cond (not (ptI c)) (j a) (cond (G2 (a.length+1)) (p i (A1 (e+h)) (a++[[(SV.int .i64 c)]])) none))))
abbrev DF(b:Code):Prop:=∀(k:Out->St Z->Option R) c a n2 v3 least4 l5,A9 (P8 L) Q Y b ⟨gp [(0,pS c),(3,.fl 0),(0,pI a),(1,pI n2),(0,pI v3),(0,pI least4)] 85,[.arr true 3 1 l5],s⟩ k=Et L c a n2 v3 least4 l5 (λd=>k .ret ⟨gp [(2,.fl 1),(0,pB false)] 91,[.arr true 3 1 d,.arr true 3 1 []],s⟩) (λc a e=>k .normal ⟨gp [(0,pS c),(3,.fl 0),(0,pI a)] 89,[.arr true 3 1 e],s⟩)
def Bk6:DF (R:=R) L Q Y s (cd [1,1,0,1,0,0,1,0,1,1,1] Ap):=by intro k f c e g a d;unfold Et;exact(a8 (by kernel_rfl) (A4 λb=>(A0 rfl ((Bk9 L Q Y s (E2 3 (E1 (P8 L) Q Y (cd [1,1,0,1,0,0,1,0,1,1,1,1,1] Ap) k)) L f c e g a 1 d).trans (by kernel_rfl)))))
def Ak{R:Type}(L n:Nat)(d:By)(c:Int)(D:LL)(e:LL->Option R)(C:LL->Option R):Option R:=match n with|0=>none|n+1=>cond (ltI c (d.length:Int)) (cond (inR c d.length) (cond (ltI (A1 (bAt d c)) (128:Int)) (Yv L d c (A1 (bAt d c)) D (λG=>e G) (λI F H=>Ak L n I F H e C)) (cond (not (ltI (A1 (bAt d c)) (194:Int))) (Nu d c (A1 (bAt d c)) (ltI (A1 (bAt d c)) (224:Int)) D (λw f u A a j=>Et L w f u A a j (λm=>e m) (λx g o=>Ak L n x g o e C)) (λl=>e l)) (Nu d c (A1 (bAt d c)) false D (λy h v B b p=>Et L y h v B b p (λr=>e r) (λz i t=>Ak L n z i t e C)) (λq=>e q)))) none) (C D)
def Bl0(a:Code)(e:DE (R:=R) L Q Y s a)(d:DF (R:=R) L Q Y s a)(b:Code)(c:Sj (R:=R) L Q Y s b)(n:Nat)(i:By)(h:Int)(j:LL):D0 1 ((P8 L).keep 3) (bd (P8 L) Q Y (cd [1,1,0,1,0,0] (G7 [1,1,0,1,0,0,1,0,1,1,0,0,1,1,1] b (G7 [1,1,0,1,0,0,1,0,1,1,1] a Ap)))) n ⟨gp [(0,pS i),(3,.fl 0),(0,pI h)] 89,[.arr true 3 1 j],s⟩ k =
 Ak L n i h j (λI=>k .ret ⟨gp [(2,.fl 1),(0,pB false)] 91,[.arr true 3 1 I,.arr true 3 1 []],s⟩) (λI=>k (.exit 0) ⟨gp [(4,.fl 0)] 90,[.arr true 3 1 I],s⟩):=by
 induction n generalizing i h j with
 | zero=>rfl
 | succ n G=>rw[Ak];exact let D:=(E2 1 (lpK 1 ((P8 L).keep 3) (bd (P8 L) Q Y (cd [1,1,0,1,0,0] (G7 [1,1,0,1,0,0,1,0,1,1,0,0,1,1,1] b (G7 [1,1,0,1,0,0,1,0,1,1,1] a Ap)))) n k));let K:=(E2 2 (E1 (P8 L) Q Y a D));(a8 (by kernel_rfl) (A0 (A0 (A0 ((e D i h (A1 (bAt i h)) (ltI (A1 (bAt i h)) (128:Int)) j).trans (congr (congr rfl (by kernel_rfl)) (fx3 λJ F H=>(a8 (by kernel_rfl) (G J F H))))) (A0 ((c K i h (A1 (bAt i h)) (ltI (A1 (bAt i h)) (224:Int)) j).trans (congr (congr rfl (fx6 λx l v B f q=>(a8 (by kernel_rfl) ((d D x l v B f q).trans (congr (congr rfl (by kernel_rfl)) (fx3 λy m r=>(a8 (by kernel_rfl) (G y m r)))))))) (by kernel_rfl))) ((c K i h (A1 (bAt i h)) false j).trans (congr (congr rfl (fx6 λz o w C g t=>(a8 (by kernel_rfl) ((d D z o w C g t).trans (congr (congr rfl (by kernel_rfl)) (fx3 λA p u=>(a8 (by kernel_rfl) (G A p u)))))))) (by kernel_rfl))))) rfl) rfl))
def Dl5{R:Type}(L:Nat)(e:By)(c:LL->Option R)(d:LL->Option R):Option R:=Ak L L e 0 [] (λa=>c a) (λb=>d b)
def Dl6(b:Code)(c:DE (R:=PV × List Blk × Z) L Q Y s b)(e:DF (R:=PV × List Blk × Z) L Q Y s b)(a:Code)(d:Sj (R:=PV × List Blk × Z) L Q Y s a)(g:By):A9 (P8 L) Q Y (cd [] (G7 [1,1,0,1,0,0,1,0,1,1,0,0,1,1,1] a (G7 [1,1,0,1,0,0,1,0,1,1,1] b Ap))) ⟨[pS g]++tps 94,[],s⟩ (F4 (P8 L) ag5)=Dl5 L g (λf=>some (.tup [.fl 1,pB false],[.arr true 3 1 f,.arr true 3 1 []],s)) (λf=>some (.tup [.fl 0,pB true],[.arr true 3 1 f],s)):=by unfold Dl5;exact(a8 (by kernel_rfl) ((Bl0 L Q Y s (E2 0 (E1 (P8 L) Q Y (cd [1,1,1] Ap) (F4 (P8 L) ag5))) b c e a d L g 0 []).trans (by kernel_rfl)))
def Dl7(d:Nat)(s0):evC (P8 L) (d+1) Z Y 175 [pS s0] [] s=Dl5 L s0 (λa=>some (.tup [.fl 1,pB false],[.arr true 3 1 a,.arr true 3 1 []],s)) (λa=>some (.tup [.fl 0,pB true],[.arr true 3 1 a],s)):=
 (evE (fn:=ag5) (by kernel_rfl)).trans (a8 (by kernel_rfl) (Dl6 L (evC (P8 L) d) Y s (cd [1,1,0,1,0,0,1,0,1,1,1] Ap) (Bk1 L (evC (P8 L) d) Y s) (Bk6 L (evC (P8 L) d) Y s) (cd [1,1,0,1,0,0,1,0,1,1,0,0,1,1,1] Ap) (Bk5 L (evC (P8 L) d) Y s) s0))
noncomputable abbrev Bv2:Code:=C7 ai2
noncomputable def Ms(L:Nat):Cfg:=B8 L [113] (A2 [(6,[0,1,0,1,0])]) [(154,Bt4),(155,A00)] (A2 [(12,[2]),(11,[0,4,1,0]),(7,[0,2,1,0]),(10,[2]),(9,[0,2,1,0,34]),(8,[0,2,1,0]),(6,[0,2,1,0,12]),(5,[0,2,1,0]),(4,[0,2,1]),(3,[2]),(2,[0,2,11]),(1,[0,2,0]),(0,[0])]) [155] (A2 [(0,[0,2,1]),(1,[0,2,1,0])]) (some [2]) [] [] []
def Z8{R:Type}(L n:Nat)(a:By)(d:Bool)(b:LL)(e:Bool)(c:Int)(f:Unit->Option R)(g:By->Bool->LL->Bool->Option R):Option R:=match n with|0=>none|n+1=>cond (ltI c (b.length:Int)) (cond e (cond (inR c b.length) (cond (okE Ma b (j4 c) 0) (cond (not (ltI (gE b (j4 c) 0) (65:Int))) (cond (inR c b.length) (cond (okE Ma b (j4 c) 0) (cond (not (ltI 90 (gE b (j4 c) 0))) (f ()) (Z8 L n a d b true (A1 (c+1)) f g)) none) none) (Z8 L n a d b true (A1 (c+1)) f g)) none) none) (cond (inR c b.length) (cond (okE Ma b (j4 c) 0) (cond (inR c b.length) (cond (okE Ma b (j4 c) 0) (cond (not (ltI (gE b (j4 c) 0) (65:Int))) (cond (inR c b.length) (cond (okE Ma b (j4 c) 0) (cond (not (ltI 90 (gE b (j4 c) 0))) (f ()) (Z8 L n a d b (not (ltI (gE b (j4 c) 0) (128:Int))) (A1 (c+1)) f g)) none) none) (Z8 L n a d b (not (ltI (gE b (j4 c) 0) (128:Int))) (A1 (c+1)) f g)) none) none) none) none)) (g a d b e)
def Ar3(n c b d a i4):D0 0 ((Ms L).keep 6) (bd (Ms L) Q Y (cd [1,1,1,1,0,1,0,0] Bv2)) n ⟨gp [(0,pS c),(2,.s (.sl b b 1 d)),(1,pB a),(0,pI i4)] 50,[],s⟩ k =
 Z8 L n c b d a i4 (λ_=>k .ret ⟨gp [(2,pB false)] 54,[],s⟩) (λc b d a=>k (.exit 0) ⟨gp [(0,pS c),(2,.s (.sl b b 1 d)),(1,pB a)] 51,[],s⟩):=by
 induction n generalizing c b d a i4 with
 | zero=>rfl
 | succ n e=>rw[Z8];simp only[<-e];kernel_rfl
def B00{R:Type}(L:Nat)(a:By)(e:Bool->Option R):Option R:=cond (A3 a.length) (vl (↑((O5 a)).2:Int) λf=>cond (f !=0) (e false) (Z8 L L a (ai7 ((O5 a)).1) (Ni ((O5 a)).1) false 0 (λ_=>e false) (λc h d b=>cond (af2 d Ou) (vl ((Y2 (ad1 elI d))).1 λi=>vl (↑((Y2 (ad1 elI d))).2:Int) λg=>cond (g==0) (cond (i==c) (e b) (e false)) (e false)) none))) none
def C00(d:Nat)(rest0):evC (Ms L) (d+1) Z Y 113 [pS rest0] [] s=B00 L rest0 (λb=>some (pB b,[],s)):=by refine(evE (fn:=ai2) (by kernel_rfl)).trans ?_;generalize evC (Ms L) d=Q;unfold B00;exact(a8 (by kernel_rfl) (A0 (A4 λa=>(A0 rfl ((Ar3 L Q Y s (E2 0 (E1 (Ms L) Q Y (cd [1,1,1,1,1] Bv2) (F4 (Ms L) ai2))) L rest0 (ai7 ((O5 rest0)).1) (Ni ((O5 rest0)).1) false 0).trans (by kernel_rfl)))) rfl))
noncomputable abbrev Bv0:Code:=C7 aj0
noncomputable def Mq(L:Nat):Cfg:=B8 L [77] (A2 [(4,[0,1,0])]) [(113,Bt6)] (A2 [(9,[2]),(5,[0,2]),(8,[2]),(7,[0,2,52]),(6,[0,2,0]),(4,[0,2,24]),(3,[0,2]),(2,[2]),(1,[0,23]),(0,[0])]) [113] (A2 [(0,[0]),(1,[0,2])]) (some [2]) [] [] []
def O8{R:Type}(L n:Nat)(a:By)(b:Int)(c:Unit->Option R)(d:By->Option R):Option R:=match n with|0=>none|n+1=>cond (ltI b (a.length:Int)) (cond (inR b a.length) (cond (not (ltI (bAt a b) (97:Int))) (cond (not (ltI 122 (bAt a b))) (O8 L n a (A1 (b+1)) c d) (cond (not (ltI (bAt a b) (48:Int))) (cond (not (ltI 57 (bAt a b))) (O8 L n a (A1 (b+1)) c d) (cond ((bAt a b)==45) (O8 L n a (A1 (b+1)) c d) (cond (not ((bAt a b)==95)) (c ()) (O8 L n a (A1 (b+1)) c d)))) (cond ((bAt a b)==45) (O8 L n a (A1 (b+1)) c d) (cond (not ((bAt a b)==95)) (c ()) (O8 L n a (A1 (b+1)) c d))))) (cond (not (ltI (bAt a b) (48:Int))) (cond (not (ltI 57 (bAt a b))) (O8 L n a (A1 (b+1)) c d) (cond ((bAt a b)==45) (O8 L n a (A1 (b+1)) c d) (cond (not ((bAt a b)==95)) (c ()) (O8 L n a (A1 (b+1)) c d)))) (cond ((bAt a b)==45) (O8 L n a (A1 (b+1)) c d) (cond (not ((bAt a b)==95)) (c ()) (O8 L n a (A1 (b+1)) c d))))) none) (d a)
def Aq2(n a i1):D0 0 ((Mq L).keep 4) (bd (Mq L) Q Y (cd [1,1,0,1,0,0] Bv0)) n ⟨gp [(0,pS a),(2,pI i1)] 66,[],s⟩ k =
 O8 L n a i1 (λ_=>k .ret ⟨gp [(2,pB false)] 67,[],s⟩) (λa=>k (.exit 0) ⟨gp [(0,pS a)] 69,[],s⟩):=by
 induction n generalizing a i1 with
 | zero=>rfl
 | succ n b=>rw[O8];simp only[<-b];kernel_rfl
def Bz6{R:Type}(L:Nat)(c:By)(b:Bool->Option R):Option R:=cond (c==[]) (b false) (cond (ltI 63 (c.length:Int)) (b false) (cond (inR 0 c.length) (cond ((bAt c (0:Int))==45) (b false) (vl (A1 ((c.length:Int)-1)) λd=>cond (inR d c.length) (cond ((bAt c d)==45) (b false) (O8 L L c 0 (λ_=>b false) (λa=>cond (ltI (a.length:Int) (4:Int)) (b true) (cond (J0 0 (4:Int) a.length) (vl (cut a 0 (4:Int)) λf=>cond (not (f==[120,110,45,45])) (b true) (cond (J0 4 (a.length:Int) a.length) (vl (cut a 4 (a.length:Int)) λe=>cond (A3 e.length) (b (Er e)) none) none)) none)))) none)) none))
def Cz4(d:Nat)(s0):evC (Mq L) (d+1) Z Y 77 [pS s0] [] s=Bz6 L s0 (λb=>some (pB b,[],s)):=by refine(evE (fn:=aj0) (by kernel_rfl)).trans ?_;generalize evC (Mq L) d=Q;unfold Bz6;exact(a8 (by kernel_rfl) (A0 rfl (A0 rfl (A0 (A0 rfl (A4 λa=>(A0 (A0 rfl ((Aq2 L Q Y s (E2 0 (E1 (Mq L) Q Y (cd [1,1,1] Bv0) (F4 (Mq L) aj0))) L s0 0).trans (by kernel_rfl))) rfl))) rfl))))
noncomputable def XR(L:Nat):Cfg:=B8 L [131] (A2 []) [(175,Cl7),(127,A03),(155,A00),(77,VJ)] (A2 [(15,[2,0]),(14,[2,0]),(13,[6,37]),(12,[6]),(11,[2,0]),(10,[9,29]),(9,[9,0]),(8,[7]),(7,[6,20]),(6,[0,3,1]),(5,[2,0]),(4,[0,3,15]),(3,[2,0]),(2,[0,3,12]),(1,[0,3,0]),(0,[0])]) [127,155,77] (A2 []) (some [2,0]) [] [] []
def Bz5{R:Type}(L:Nat)(a:By)(b:By->Int->Option R):Option R:=cond (A3 a.length) (cond (not (ab5 (Df a))) (b ([]:List UInt8) 4) (cond (ltI 256 (↑(j0 (Ni (Sr a))):Int)) (b ([]:List UInt8) 3) (cond (A3 a.length) (cond (ltI (↑(j0 (Ni (Sr a))):Int) (a.length:Int)) (cond (A3 (j0 (B6 a))) (cond (af2 (Ni (Sr (B6 a))) Ou) (vl ((Y2 (ad1 elI (Ni (Sr (B6 a)))))).1 λd=>vl (↑((Y2 (ad1 elI (Ni (Sr (B6 a)))))).2:Int) λe=>cond (e !=0) (b ([]:List UInt8) 14) (cond (E6 4 d.length) (vl (([120,110,45,45]:List UInt8)++d) λc=>cond (A3 c.length) (cond (not (K6 c)) (b ([]:List UInt8) 14) (b c 0)) none) none)) none) none) (cond (A3 (j0 (B6 a))) (cond (not (K6 (B6 a))) (b ([]:List UInt8) 14) (b (B6 a) 0)) none)) none))) none
def Cz3(d:Nat)(s0):evC (XR L) (d+1) Z Y 131 [pS s0] [] s=Bz5 L s0 (λa b=>some (.tup [pS a,pI b],[],s)):=by refine(evE (fn:=Tryz.f131) (by kernel_rfl)).trans ?_;generalize evC (XR L) d=Q;unfold Bz5;kernel_rfl
end
def Ar2{R:Type}{a:Bool->Option R}(n:Int):Aa7 LF n a=a (ptI n):=by
 unfold Aa7;by_cases h:n<0
 ·rw[B9 h];have:ptI n=false:=by
   cases n with
   | ofNat m=>exact absurd h (by simp)
   | negSucc m=>rfl
  grind
 ·obtain⟨m,rfl⟩:=p6 (show 0<=n by omega);rw[A6,Nm];unfold W8;by_cases b:1114111<m
  ·rw[A8];have:v7 m 1114111=false:=by rw[o8,ne_eq,p4];omega
   grind
  ·rw[A6];have:v7 m 1114111=true:=by rw[p4];omega
   rw[this];by_cases c:m<55296
   ·rw[A8];have:Nat.blt m 55296=true:=by rw[af0];omega
    grind
   ·rw[A6];have e:Nat.blt m 55296=false:=by rw[o8,ne_eq,af0];omega
    rw[e];simp only[j1,cond_true,cond_false,ab1,y7]
    congr 1
def Ap0{R:Type}{k0:Int->Int->Option R}:∀(d n k:Nat),d<2305843009213693952->d<n->k+d<=4611686018427387904->
  ∃a b,a<=455/\b<=k+d/\AY d k=b+36*a / (a+38)/\Hh LF n (d:Int) (k:Int) k0=k0 (a:Int) (b:Int):=by
 intro d
 induction d using ae0 with
 | _ d l=>
  intro n k p r q;obtain⟨n,rfl⟩:∃m,n=m+1:=⟨n-1,by omega⟩
  rw[Hh];by_cases h:455<d
  ·obtain⟨a,b,g,o,i,j⟩:=l (d / 35) (by omega) n (k+36) (by omega) (by omega) (by omega);refine⟨a,b,g,by omega,by rw[JT h];exact i,?_⟩;have e:w6 (d:Int) 35=((d / 35:Nat):Int):=M8 d 35;have c:A1 ((d / 35:Nat):Int)=((d / 35:Nat):Int):=A7;have f:A1 ((k:Int)+36)=((k+36:Nat):Int):=by rw[A7];rfl
   rw[A8];simp only[cond_true,vl,e,c,f];exact j
  ·refine⟨d,k,by omega,by omega,Tx h,?_⟩;rw[A6];rfl
def Ap1{R:Type}{k0:Int->Option R}(d c:Int)(f:Bool)(z:ltN d 1152921504606846976=true)(A:ltN c 1000000=true)(B:ltI 0 c=true):NB LF d c f k0=k0 (R5 d.toNat c.toNat f:Nat):=by
 obtain⟨k,F⟩:=E3.1 z;obtain⟨j,D⟩:=E3.1 A;obtain⟨d,rfl⟩:=p6 k;obtain⟨c,rfl⟩:=p6 j;have J:=Ng.1 B;have C:=C5;have key:∀x:Nat,x<1152921504606846976->Hg LF (x:Int) (c:Int) k0=k0 ((AY (x+x / c) 0:Nat):Int):=by
  intro x L;have G:x / c<=x:=aa0 _ _;unfold Hg;have g:w6 (x:Int) (c:Int)=((x / c:Nat):Int):=M8 x c;generalize x / c=q at *;have h:A1 (q:Int)=(q:Int):=A7;have o:A1 ((x:Int)+(q:Int))=((x+q:Nat):Int):=by rw[A7];rfl
  rw[show((c:Int)!=0)=true by simp;omega];simp only[cond_true,vl,g,h,o];obtain⟨a,n,H,I,w,y⟩:=Ap0 (R:=R) (k0:=λb l=>vl (A1 ((36)*b)) λm=>vl (A1 (b+(38))) λe=>cond (e !=(0)) (vl (A1 (w6 m e)) λi=>k0 (A1 (l+i))) none) (x+q) LF 0 (by omega) (by omega) (by omega);refine a8 y ?_;have K:36*a / (a+38)<=36*a:=aa0 _ _;have p:A1 (36*(a:Int))=((36*a:Nat):Int):=by rw[A7];rfl
  have r:A1 ((a:Int)+38)=((a+38:Nat):Int):=by rw[A7];rfl
  have t:w6 ((36*a:Nat):Int) ((a+38:Nat):Int)=((36*a / (a+38):Nat):Int):=M8 _ _;have u:A1 ((36*a / (a+38):Nat):Int)=((36*a / (a+38):Nat):Int):=A7;have v:A1 ((n:Int)+((36*a / (a+38):Nat):Int))=((n+36*a / (a+38):Nat):Int):=by rw[A7];rfl
  simp only[vl,p,r,t,u,v];rw[show(((a+38:Nat):Int)!=0)=true by simp;omega,w];rfl
 unfold NB R5;rw[b8,b8];cases f with
 | true=>
  have g:w6 (d:Int) 700=((d / 700:Nat):Int):=M8 d 700;have h:A1 ((d / 700:Nat):Int)=((d / 700:Nat):Int):=A7;simp only[cond_true,vl,g,h,if_true];exact key _ (by omega)
 | false=>
  have g:w6 (d:Int) 2=((d / 2:Nat):Int):=M8 d 2;have h:A1 ((d / 2:Nat):Int)=((d / 2:Nat):Int):=A7;simp only[cond_false,vl,g,h,x9,if_false];exact key _ (by omega)
def Be1{R:Type}{b:Int->Option R}(d:Int)(c:ltN d 36=true):Bz1 LF d b=b ((Bc d.toNat).toNat:Nat):=by
 obtain⟨a,e⟩:=E3.1 c;obtain⟨d,rfl⟩:=p6 a;unfold Bz1;rw[b8,QT (by omega)];by_cases h:d<26
 ·rw[A8,if_pos h];simp only[cond_true,vl]
  congr 1
  rw[A7,N2];rfl
 ·rw[A6,if_neg h];simp only[cond_false,vl]
  congr 1
  rw[D1 (n:=48+(d:Int)) (by omega) (by omega),A7,N2];omega
def Cf1{R:Type}{g:Int->Option R}(b:Int)(h:inR b 256=true):C16 LF b g=g (E5 (u8n b)):=by
 simp only[inR,k9,decide_eq_true_eq] at h;have j:b=((u8n b).toNat:Int):=by
  unfold u8n;simp;omega
 generalize u8n b=c at *;subst j;have i:=c.toNat_lt;unfold C16 E5;simp only[Zb,Za,vl];rcases FS c with⟨d,f,e⟩|⟨d,f,e⟩|⟨d,f,e⟩|⟨d,f,o,e⟩
 ·have a:A1 (wu8 ((c.toNat:Int)-97))=((c.toNat-97:Nat):Int):=by
   rw[N2,A7];omega
  simp (disch:=omega) only[B9,E7,b9,j1,cond_false,cond_true,a,e]
 ·have a:A1 (wu8 ((c.toNat:Int)-65))=((c.toNat-65:Nat):Int):=by
   rw[N2,A7];omega
  simp (disch:=omega) only[B9,E7,b9,j1,cond_false,cond_true,a,e]
 ·have a:A1 (A1 (wu8 ((c.toNat:Int)-48))+26)=((c.toNat-22:Nat):Int):=by
   rw[N2,D1 (n:=(c.toNat:Int)-48) (by omega) (by omega),A7];omega
  simp (disch:=omega) only[B9,E7,b9,j1,cond_false,cond_true,a,e]
 ·rw[e];by_cases k:c.toNat<48
  ·simp (disch:=omega) only[B9,E7,b9,j1,cond_false,cond_true]
  ·by_cases l:c.toNat<65
   ·simp (disch:=omega) only[B9,E7,b9,j1,cond_false,cond_true]
   ·by_cases m:c.toNat<97
    ·simp (disch:=omega) only[B9,E7,b9,j1,cond_false,cond_true]
    ·simp (disch:=omega) only[B9,E7,b9,j1,cond_false,cond_true]
def Cd9{R:Type}{a:Int->Option R}(k b:Int)(c:ltN k 10000000000=true)(d:ltN b 1000000=true):Dl9 LF k b a=a (L9 (ac4 36 k) b):=by obtain⟨j,l⟩:=E3.1 c;obtain⟨e,f⟩:=E3.1 d;unfold Dl9 L9;have g:A1 (k+1)=k+1:=A7;have h:A1 ((36:Int)*(k+1))=36*(k+1):=A7;have i:A1 (36*(k+1)-b)=36*(k+1)-b:=A7;grind
def Cx7(z t:Bool)(c:LL)(done a u delta i:Int)(b:Nat)(T:b<1000000):∀(r q k n:Nat) (l:LL),q<10 ^ r->q<1152921504606846976->k+r<=1000->r<n->l.length+r<=200000->
  ∃(d:Nat) (pre:By),d<36/\Q6 q k b=pre++[Bc d]/\∀(R:Type) (g:Bool->Bool->LL->Int->Int->Int->Int->Int->Int->LL->Option R),Gi LF n z t c done a u delta (b:Int) i (q:Int) (k:Int) l g=g z t c done a u delta i (d:Int) (l++pre.map E4):=by
 have f:∀k:Nat,L9 (ac4 36 (k:Int)) (b:Int)=(thr k b:Int):=λk=>by
  rw[show ac4 36 (k:Int)=((36*k:Nat):Int) from rfl,Zm]
 have j:∀(q k n:Nat) (l:LL),q<thr k b->k<=1000->∃(d:Nat) (pre:By),d<36/\Q6 q k b=pre++[Bc d]/\∀(R:Type) (g:Bool->Bool->LL->Int->Int->Int->Int->Int->Int->LL->Option R),Gi LF (n+1) z t c done a u delta (b:Int) i (q:Int) (k:Int) l g=g z t c done a u delta i (d:Int) (l++pre.map E4):=by
  intro q k n l p v;have x:=X8 k b;refine⟨q,[],by omega,by rw[Ru p];rfl,λR g=>?_⟩;rw[Gi];have o:ltI (q:Int) (thr k b:Int)=true:=A8;rw[M5,M5,f];grind
 intro r
 induction r with
 | zero=>
  intro q k n l h _ v P N;have x:=X8 k b;obtain⟨n,rfl⟩:∃m,n=m+1:=⟨n-1,by omega⟩
  exact j q k n l (by simp at h;omega) (by omega)
 | succ r Q=>
  intro q k n l h w v P N;have x:=X8 k b;obtain⟨n,rfl⟩:∃m,n=m+1:=⟨n-1,by omega⟩
  by_cases p:q<thr k b
  ·exact j q k n l p (by omega)
  ·have L:(q-thr k b) / (36-thr k b)<10 ^ r:=YD (by omega) (by rw[Nat.pow_succ] at h;omega);have M:(q-thr k b) / (36-thr k b)<=q:=Nat.le_trans (aa0 _ _) (by omega);have O:(q-thr k b) % (36-thr k b)<36-thr k b:=ah6 _ (by omega);obtain⟨d,pre,e0,K,e⟩:=Q ((q-thr k b) / (36-thr k b)) (k+1) n (l++[E4 (Bc (thr k b+(q-thr k b) % (36-thr k b)))]) L (by omega) (by omega) (by omega) (by rw[j5,y8];omega);refine⟨d,Bc (thr k b+(q-thr k b) % (36-thr k b))::pre,e0,by rw[BT p,K];rfl,λR g=>?_⟩;rw[Gi];have y:A1 ((q:Int)-(thr k b:Int))=((q-thr k b:Nat):Int):=by rw[A7];omega
   have C:A1 ((36:Int)-(thr k b:Int))=((36-thr k b:Nat):Int):=by rw[A7];omega
   have D:v8 ((q-thr k b:Nat):Int) ((36-thr k b:Nat):Int)=(((q-thr k b) % (36-thr k b):Nat):Int):=Db _ _;have F:w6 ((q-thr k b:Nat):Int) ((36-thr k b:Nat):Int)=(((q-thr k b) / (36-thr k b):Nat):Int):=M8 _ _;have I:((((36-thr k b:Nat):Int))!=0)=true:=by rw[bne_iff_ne];omega
   have J:A1 ((k:Int)+1)=((k+1:Nat):Int):=by rw[A7];rfl
   have o:ltI (q:Int) (thr k b:Int)=false:=A6;rw[M5,M5,f];simp only[vl,o,y,C,D,F,I,J,cond_true,cond_false,j1];generalize hA:(q-thr k b) / (36-thr k b)=A at *;generalize S:(q-thr k b) % (36-thr k b)=B at *;have G:A1 ((thr k b:Int)+(B:Int))=((thr k b+B:Nat):Int):=by rw[A7];rfl
   have H:A1 (A:Int)=(A:Int):=A7;rw[G,H,M5,F8 (by omega),b8];refine a8 (e R g) ?_;simp[y9,E4]
def Dk4(z t:Bool)(c:List Nat)(a m:Nat)(Z:m<=1114112)(Y:c.length<=256):∀(r i n:Nat) (s:TO),i+r=c.length->r<n->s.delta+r<=1000000000000->s.bias<=500->s.out.length+20*r<=90000->s.done+r<=1000->a<=256->
  (∀(R:Type) (d:Bool->Bool->LL->Int->Int->Int->Int->Int->LL->Option R),Bj LF n z t (B7 c) (s.done:Int) (a:Int) (m:Int) (s.delta:Int) (s.bias:Int) (i:Int) (s.out.map E4) d =
   d z t (B7 c) ((I5 m a (c.drop i) s).done:Int) (a:Int) (m:Int) ((I5 m a (c.drop i) s).delta:Int) ((I5 m a (c.drop i) s).bias:Int) ((I5 m a (c.drop i) s).out.map E4))/\
  (I5 m a (c.drop i) s).bias<=500/\(I5 m a (c.drop i) s).out.length<=s.out.length+20*(c.drop i).countP (· == m)/\(I5 m a (c.drop i) s).done=s.done+(c.drop i).countP (· == m)/\
  (I5 m a (c.drop i) s).delta<=(if 0<(c.drop i).countP (· == m) then r else s.delta+r):=by
 have S:=C5;intro r
 induction r with
 | zero=>
  intro i n s T U O B P Q C;obtain⟨n,rfl⟩:∃m,n=m+1:=⟨n-1,by omega⟩
  rw[j2 (by omega)];refine⟨λR d=>?_,B,by simp[I5],by simp[I5],by simp[I5]⟩;rw[Bj];rw[D4,A6];rfl
 | succ r H=>
  intro i n s T U O B P Q C;obtain⟨n,rfl⟩:∃m,n=m+1:=⟨n-1,by omega⟩
  rw[Ww c i (by omega)];have F:=CA c i (by omega);have ok:=Sa (l:=c) (i:=i) (by omega);have e:inR (i:Int) (B7 c).length=true:=K8 (by omega) (by rw[D4];omega);have f:ltI (i:Int) ((B7 c).length:Int)=true:=B9 (by rw[D4];omega);generalize c.getD i 0=p at *;have A:A1 ((i:Int)+1)=((i+1:Nat):Int):=by rw[A7];rfl
  have M:A1 ((s.delta:Int)+1)=((s.delta+1:Nat):Int):=by rw[A7];rfl
  have I:A1 ((s.done:Int)+1)=((s.done+1:Nat):Int):=by rw[A7];rfl
  by_cases G:p<m
  ·have g:(p==m)=false:=by rw[beq_eq_false_iff_ne];omega
   have u:I5 m a (p::c.drop (i+1)) s=I5 m a (c.drop (i+1)) { s with delta:=s.delta+1 }:=by rw[I5,if_pos G]
   obtain⟨v,w,x,y,h⟩:=H (i+1) n { s with delta:=s.delta+1 } (by omega) (by omega) (by simp only;omega) B (by simp only;omega) (by simp only;omega) C;rw[u,ac9 (by rw[g];simp)];refine⟨λR d=>?_,w,x,y,?_⟩
   ·rw[Bj];rw[b8];simp only[e,f,ok,cond_true,vl,F,A,M];rw[A8,cond_true,show((p:Int)!=(m:Int))=true by rw[bne_iff_ne];omega,cond_true];exact v R d
   ·simp only at h;split at h<;>split<;>omega
  ·by_cases L:p=m
   ·subst L;have K:=QX (q:=s.delta) (k:=0) (b:=s.bias) (by omega);have D:=Po s.delta (s.done+1) (s.done==a) (by omega);have u:I5 p a (p::c.drop (i+1)) s=I5 p a (c.drop (i+1)) { delta:=0,bias:=R5 s.delta (s.done+1) (s.done==a),done:=s.done+1,out:=s.out++Q6 s.delta 0 s.bias }:=by rw[I5,if_neg G,if_pos rfl]
    obtain⟨v,w,x,y,h⟩:=H (i+1) n { delta:=0,bias:=R5 s.delta (s.done+1) (s.done==a),done:=s.done+1,out:=s.out++Q6 s.delta 0 s.bias } (by omega) (by omega) (by simp only;omega) D (by simp only[j5];omega) (by simp only;omega) C;obtain⟨W,pre,X,J,N⟩:=Cx7 z t (B7 c) (s.done:Int) (a:Int) (p:Int) (s.delta:Int) (i:Int) s.bias (by omega) 19 s.delta 0 LF (s.out.map E4) (by omega) (by omega) (by omega) (by omega) (by rw[p9];omega);rw[u,List.countP_cons_of_pos (by simp)];refine⟨λR d=>?_,w,?_,?_,?_⟩
    ·rw[Bj];have j:((s.done:Int)==(a:Int))=(s.done==a):=by
      rw[o7,beq_iff_eq,beq_iff_eq];omega
     rw[b8];simp only[e,f,ok,cond_true,vl,F,A,I];rw[A6,cond_false,bne_self_eq_false,cond_false];refine a8 (N R _) ?_;have V:pre.length+1=(Q6 s.delta 0 s.bias).length:=by rw[J];simp
     rw[M5,b8,F8 (by rw[j5,p9,p9];omega)];simp only[vl,cond_true,A,I];rw[M5,M5,A8,j];simp only[cond_true,b8];have o:s.out.map E4++pre.map E4++[[SV.int .u8 (((Bc W).toNat:Nat):Int)]]=(s.out++Q6 s.delta 0 s.bias).map E4:=by
      rw[J,ad9,ad9,y9];rfl
     rw[o];exact v R d
    ·simp only[j5] at x;omega
    ·simp only at y;omega
    ·simp only at h;rw[R2];split at h<;>omega
   ·have g:(p==m)=false:=by rw[beq_eq_false_iff_ne];omega
    have u:I5 m a (p::c.drop (i+1)) s=I5 m a (c.drop (i+1)) s:=by rw[I5,if_neg G,if_neg L]
    obtain⟨v,w,x,y,h⟩:=H (i+1) n s (by omega) (by omega) (by omega) B (by omega) (by omega) C;rw[u,ac9 (by rw[g];simp)];refine⟨λR d=>?_,w,x,y,?_⟩
    ·rw[Bj];rw[b8];simp only[e,f,ok,cond_true,vl,F,A];rw[A6,cond_false,show((p:Int)!=(m:Int))=true by rw[bne_iff_ne];omega,cond_true];exact v R d
    ·split at h<;>split<;>omega
def Bf7{R:Type}{k0:Bool->Bool->LL->Int->Int->Int->Int->Int->Int->LL->Option R}(z t:Bool)(a:List Nat)(q:a.length<=256)(n0:Nat)(b delta c done:Int)(l:LL):∀(r i n m:Nat),i+r=a.length->r<n->
  Js LF n z t (B7 a) done b (n0:Int) delta c (m:Int) (i:Int) l k0=k0 z t (B7 a) done b (n0:Int) delta c ((I2 n0 (a.drop i) m:Nat):Int) l:=by
 intro r
 induction r with
 | zero=>
  intro i n m k o;obtain⟨n,rfl⟩:∃m,n=m+1:=⟨n-1,by omega⟩
  rw[Js];rw[D4,A6,j2 (by omega)];rfl
 | succ r f=>
  intro i n m k o;obtain⟨n,rfl⟩:∃m,n=m+1:=⟨n-1,by omega⟩
  have j:=CA a i (by omega);have ok:=Sa (l:=a) (i:=i) (by omega);have d:inR (i:Int) (B7 a).length=true:=K8 (by omega) (by rw[D4];omega);have e:ltI (i:Int) ((B7 a).length:Int)=true:=B9 (by rw[D4];omega);rw[Js,Ww a i (by omega)];generalize a.getD i 0=p at *;have g:A1 ((i:Int)+1)=((i+1:Nat):Int):=by rw[A7];rfl
  rw[b8];simp only[d,e,ok,cond_true,vl,j,g,I2];by_cases h:n0<=p
  ·rw[if_pos h,A6,j1,cond_true];have:(if (p:Int)<(m:Int) then (p:Int) else (m:Int))=((min m p:Nat):Int):=by split<;>omega
   rw[this];exact f (i+1) n (min m p) (by omega) (by omega)
  ·rw[if_neg h,A8,b9,cond_false];exact f (i+1) n m (by omega) (by omega)
def Cx8(z t:Bool)(a:List Nat)(b:Nat)(B:a.length<=256)(T:b<=256)(i:∀p∈a,p<=1114111):∀(f n d:Nat) (s:TO),s.done=a.countP (λp=>decide (p<n))->a.length<=s.done+f->f<d->s.delta<=300->s.bias<=500->s.out.length+20*(a.length-s.done)<=80000->n<=1114112->
  ∀(R:Type) (k0:LL->Option R),Gj LF d z t (B7 a) (s.done:Int) (b:Int) (n:Int) (s.delta:Int) (s.bias:Int) (s.out.map E4) k0=k0 ((T0 a b f n s).out.map E4):=by
 intro f;have S:=C5
 induction f with
 | zero=>
  intro n d s V X Y O y P Q R k0;obtain⟨d,rfl⟩:∃m,d=m+1:=⟨d-1,by omega⟩
  rw[Gj];rw[D4,A6];rfl
 | succ f Z=>
  intro n d s V X Y O y P Q R k0;obtain⟨d,rfl⟩:∃m,d=m+1:=⟨d-1,by omega⟩
  rw[Gj];rw[D4];have U:a.countP (λp=>decide (p<n))<=a.length:=aa7;by_cases o:s.done<a.length
  ·obtain⟨v,g,q⟩:=A50 (n:=n) (l:=a) (by omega);obtain⟨g1,g2,x⟩:=Fb n a 1114112;obtain⟨D,F,w⟩:=Fb n a 1073741824;have g4:=x v g q;have G:=w v g q;have g5:=i v g;have e:I2 n a 1114112∈a/\n<=I2 n a 1114112:=by grind
   have h:I2 n a 1073741824∈a/\n<=I2 n a 1073741824:=by grind
   have heq:I2 n a 1073741824=I2 n a 1114112:=by grind
   have W:T0 a b (f+1) n s=T0 a b f (I2 n a 1114112+1) { I5 (I2 n a 1114112) b a { s with delta:=s.delta+(I2 n a 1114112-n)*(s.done+1) } with delta:=(I5 (I2 n a 1114112) b a { s with delta:=s.delta+(I2 n a 1114112-n)*(s.done+1) }).delta+1 }:=by
    rw[T0,if_pos o]
   rw[W,A8,cond_true];have c:=λ(K:Bool->Bool->LL->Int->Int->Int->Int->Int->Int->LL->Option R)=>Bf7 (k0:=K) z t a B n (b:Int) (s.delta:Int) (s.bias:Int) (s.done:Int) (s.out.map E4) a.length 0 LF 1073741824 (by omega) (by omega)
   rw[o5,heq] at c;refine a8 (c _) ?_;clear c heq D F w G h;generalize I2 n a 1114112=m at *;have C:(m-n)*(s.done+1)<=1114112*256:=Nat.mul_le_mul (by omega) (by omega);have H:A1 ((s.done:Int)+1)=((s.done+1:Nat):Int):=by rw[A7];rfl
   have I:A1 ((m:Int)-(n:Int))=((m-n:Nat):Int):=by rw[A7];omega
   have J:A1 (((m-n:Nat):Int)*((s.done+1:Nat):Int))=(((m-n)*(s.done+1):Nat):Int):=by
    rw[<-Int.natCast_mul];exact A7
   have L:A1 ((s.delta:Int)+(((m-n)*(s.done+1):Nat):Int))=((s.delta+(m-n)*(s.done+1):Nat):Int):=by
    rw[A7];rfl
   simp only[vl,H,I,J,L];have k:=Dk4 z t a b m (by omega) B a.length 0 LF { s with delta:=s.delta+(m-n)*(s.done+1) } (by omega) (by omega) (by simp only;omega) y (by simp only;omega) (by simp only;omega) T;rw[o5] at k;obtain⟨q1,q2,q3,q4,q5⟩:=k;refine a8 (q1 R _) ?_;have j:0<a.countP (· == m):=List.countP_pos_iff.2 ⟨m,e.1,by simp⟩;rw[if_pos j] at q5;have u:=Wp e.2 a x;generalize I5 m b a { s with delta:=s.delta+(m-n)*(s.done+1) } = r at *;simp only at q3 q4;have M:A1 ((r.delta:Int)+1)=((r.delta+1:Nat):Int):=by rw[A7];rfl
   have N:A1 ((m:Int)+1)=((m+1:Nat):Int):=by rw[A7];rfl
   have A:a.countP (λp=>decide (p<m+1))<=a.length:=aa7;simp only[M,N];exact Z (m+1) d { r with delta:=r.delta+1 } (by simp only;omega) (by simp only;omega) (by omega) (by simp only;omega) q2 (by simp only;omega) (by omega) R k0
  ·rw[A6];rw[T0,if_neg o];rfl
def Bf2(z t:Bool)(P:List Int)(C:P.length<=256):∀(r i n:Nat) (out:By),i+r=P.length->r<n->out.length+r<=1000->
  ((P.drop i).all ptI=true->∀(R:Type) (a:LL->Option R) (b:Bool->Bool->LL->LL->Option R),W4 LF n z t (Bl P) (i:Int) (out.map E4) a b=b z t (Bl P) ((out++Y0 (P.drop i)).map E4))/\
  ((P.drop i).all ptI=false->∃l,∀(R:Type) (a:LL->Option R) (b:Bool->Bool->LL->LL->Option R),W4 LF n z t (Bl P) (i:Int) (out.map E4) a b=a l):=by
 intro r
 induction r with
 | zero=>
  intro i n out w y A;obtain⟨n,rfl⟩:∃m,n=m+1:=⟨n-1,by omega⟩
  rw[j2 (by omega)];refine⟨λ_ R a b=>?_,λh=>(by cases h)⟩;rw[W4];rw[W6,A6];simp[Y0]
 | succ r v=>
  intro i n out w y A;obtain⟨n,rfl⟩:∃m,n=m+1:=⟨n-1,by omega⟩
  have o:=A69 P i (by omega);have ok:=ZH (l:=P) (i:=i) (by omega);have f:inR (i:Int) (Bl P).length=true:=K8 (by omega) (by rw[W6];omega);have g:ltI (i:Int) ((Bl P).length:Int)=true:=B9 (by rw[W6];omega);rw[Aj1 P i (by omega)];generalize P.getD i 0=x at *;have u:A1 ((i:Int)+1)=((i+1:Nat):Int):=by rw[A7];rfl
  cases j:ptI x with
  | false=>
   refine⟨λh=>?_,λ_=>⟨out.map E4,λR a b=>?_⟩⟩
   ·rw[ab2,j] at h;cases h
   ·rw[W4];rw[b8];simp only[f,g,ok,cond_true,vl,o,j,j1]
  | true=>
   obtain⟨B,D⟩:=Vg j;rw[ab2,j,y7];by_cases c:x<128
   ·have d:Y0 (x::P.drop (i+1))=x5 x.toNat::Y0 (P.drop (i+1)):=by
     unfold Y0;rw[List.filter_cons_of_pos (by simpa using c)];rfl
    have k:out.map E4++[[SV.int .u8 (wu8 x)]]=(out++[x5 x.toNat]).map E4:=by rw[C41 x B c];simp
    obtain⟨p,q⟩:=v (i+1) n (out++[x5 x.toNat]) (by omega) (by omega) (by simp;omega);have step:∀(R:Type) (a:LL->Option R) (b:Bool->Bool->LL->LL->Option R),W4 LF (n+1) z t (Bl P) (i:Int) (out.map E4) a b=W4 LF n z t (Bl P) ((i+1:Nat):Int) ((out++[x5 x.toNat]).map E4) a b:=by
     intro R a b;rw[W4];rw[b8];simp only[f,g,ok,cond_true,vl,o,j,b9,cond_false,u];rw[B9 c,p9,F8 (by omega),k];rfl
    refine⟨λh R a b=>?_,λh=>?_⟩
    ·rw[step,p h,d];simp
    ·obtain⟨l,e⟩:=q h;exact⟨l,λR a b=>by rw[step];exact e R a b⟩
   ·have d:Y0 (x::P.drop (i+1))=Y0 (P.drop (i+1)):=by
     unfold Y0;rw[List.filter_cons_of_neg (by simpa using c)]
    obtain⟨p,q⟩:=v (i+1) n out (by omega) (by omega) (by omega);have step:∀(R:Type) (a:LL->Option R) (b:Bool->Bool->LL->LL->Option R),W4 LF (n+1) z t (Bl P) (i:Int) (out.map E4) a b=W4 LF n z t (Bl P) ((i+1:Nat):Int) (out.map E4) a b:=by
     intro R a b;rw[W4];rw[b8];simp only[f,g,ok,cond_true,vl,o,j,b9,cond_false,u];rw[A6];rfl
    refine⟨λh R a b=>?_,λh=>?_⟩
    ·rw[step,p h,d]
    ·obtain⟨l,e⟩:=q h;exact⟨l,λR a b=>by rw[step];exact e R a b⟩
def Bf3(z t:Bool)(P:List Int):(Y2 P=([],3)/\∀(R:Type) (b:Unit->Option R) (f:By->Int->LL->Option R),Ap4 LF z t (Bl P) b f=b ())\/
  (∃l,∀(R:Type) (b:Unit->Option R) (f:By->Int->LL->Option R),Ap4 LF z t (Bl P) b f=f (Y2 P).1 ((Y2 P).2:Nat) l):=by
 have x:=C5;by_cases i:256<P.length
 ·refine .inl ⟨by unfold Y2;rw[if_pos i],λR b f=>?_⟩;unfold Ap4;rw[W6,A8];rfl
 ·right
  obtain⟨v,w⟩:=Bf2 z t P (by omega) P.length 0 LF [] (by omega) (by omega) (by simp;omega);rw[o5] at v w;cases g:P.all ptI with
  | false=>
   obtain⟨l,e⟩:=w g;refine⟨l,λR b f=>?_⟩;unfold Ap4;rw[W6,A6,cond_false];refine a8 (e R _ _) ?_;unfold Y2;rw[if_neg i,g];rfl
  | true=>
   obtain⟨a,rfl,A,m⟩:=Bz0 g;rw[p9] at i;have k:Y2 (a.map λn:Nat=>(n:Int))=Du a:=by
    unfold Y2;rw[p9,if_neg i,g];simp[Function.comp_def]
   have j:=Uh a;have y:a.countP (λp=>decide (p<128))<=a.length:=aa7;have main:∀(o:By),o.length<=300->∀(R:Type) (b:LL->Option R),Gj LF LF z t (B7 a) ((J1 a).length:Int) ((J1 a).length:Int) 128 0 72 (o.map E4) b=b ((T0 a (J1 a).length 256 128 { delta:=0,bias:=72,done:=(J1 a).length,out:=o }).out.map E4):=by
    intro o B R b;exact Cx8 z t a (J1 a).length (by omega) (by omega) m 256 128 LF { delta:=0,bias:=72,done:=(J1 a).length,out:=o } j (by simp only;omega) (by omega) (by simp) (by simp) (by simp only;omega) (by omega) R b
   have d:Du a=((T0 a (J1 a).length 256 128 { delta:=0,bias:=72,done:=(J1 a).length,out:=if (J1 a).isEmpty then [] else J1 a++[45] }).out,0):=by
    unfold Du;grind
   refine⟨(Du a).1.map E4,λR b f=>?_⟩;unfold Ap4;rw[W6,p9,A6,cond_false,k];have r:=v g R;refine a8 (r _ _) ?_;rw[ab8,JZ,Ry];simp only[vl,p9];by_cases c:J1 a=[]
   ·rw[c,o9,A6,cond_false];have q:=main [] (by simp) R;rw[c,o9] at q;rw[List.map_nil] at q;refine a8 (q _) ?_;rw[c] at d;rw[d];simp only[List.isEmpty_nil,if_true,o9];rw[Y7,Z6];rfl
   ·have u:0<(J1 a).length:=ae8.2 c;rw[A8,cond_true,F8 (by omega),cond_true];have h:(J1 a).map E4++[[SV.int .u8 (45:Int)]]=(J1 a++[45]).map E4:=by rw[ad9];rfl
    rw[h];refine a8 (main (J1 a++[45]) (by simp;omega) R _) ?_;rw[d,if_neg (by simpa using c)];rw[Y7,Z6];rfl
def Dk5(z t:Bool)(p:LL)(b:p.all Ou=true):∃r H,Ap4 LF z t p (λ_=>rv (.tup [.s (.str []),.s (.int .i64 3)]) []) (λd e l=>rv (.tup [.s (.str d),.s (.int .i64 e)]) [.arr true 5 1 l])=rv r H/\
  r.stab [0,0] H = .tup [.s (.str (Y2 (p.map elI)).1),.s (.int .i64 ((Y2 (p.map elI)).2:Nat))]:=by
 obtain⟨P,rfl⟩:=Bw6 b;rw[Aj3];rcases Bf3 z t P with⟨c,a⟩|⟨l,a⟩
 ·exact⟨_,_,a _ _ _,by rw[c];rfl⟩
 ·exact⟨_,_,a _ _ _,rfl⟩
def Bj6{R:Type}{k0:Unit->Option R}{k1:By->Int->Option R}(s:By)(k:s.length<=1000000):∀(r i n cut:Nat),i+r=s.length->r<n->
  Fd LF n s (cut:Int) (i:Int) k0 k1=if (s.drop i).any (λb=>v7 128 b.toNat) then k0 () else k1 s ((if 45∈s.drop i then i+H5 (s.drop i) else cut:Nat):Int):=by
 intro r
 induction r with
 | zero=>
  intro i n cut g j;obtain⟨n,rfl⟩:∃m,n=m+1:=⟨n-1,by omega⟩
  rw[Fd];rw[A6,j2 (by omega)];rfl
 | succ r d=>
  intro i n cut g j;obtain⟨n,rfl⟩:∃m,n=m+1:=⟨n-1,by omega⟩
  rw[Fd];have e:A1 ((i:Int)+1)=((i+1:Nat):Int):=by rw[A7];rfl
  rw[A8,F1,D3,D6 s i (by omega),e,ab3];simp only[cond_true];generalize s.getD i 0=b;by_cases h:128<=b.toNat
  ·rw[A6,aa8 h];rfl
  ·have:v7 128 b.toNat=false:=by rw[o8,ne_eq,p4];exact h
   rw[A8,this,ab1,b9,cond_false];have f:((b.toNat:Int)==45)=(b==45):=S6 b 45 (by omega);rw[f];by_cases a:b=45
   ·subst a;rw[show((45:UInt8)==45)=true from rfl,cond_true];refine(d (i+1) n i (by omega) (by omega)).trans ?_;have c:(45:UInt8)∈45::s.drop (i+1):=by simp
    rw[if_pos c];have:(if (45:UInt8)∈s.drop (i+1) then i+1+H5 (s.drop (i+1)) else i)=i+H5 (45::s.drop (i+1)):=by
     rw[H5];grind
    rw[this]
   ·rw[show(b==45)=false from beq_eq_false_iff_ne.2 a,cond_false];refine(d (i+1) n cut (by omega) (by omega)).trans ?_;have c:((45:UInt8)∈b::s.drop (i+1))↔((45:UInt8)∈s.drop (i+1)):=by simp[af4 a]
    have:(if (45:UInt8)∈s.drop (i+1) then i+1+H5 (s.drop (i+1)) else cut)=(if (45:UInt8)∈b::s.drop (i+1) then i+H5 (b::s.drop (i+1)) else cut):=by
     by_cases q:(45:UInt8)∈s.drop (i+1)
     ·rw[if_pos q,if_pos (c.2 q),H5,if_pos q];omega
     grind
    rw[this]
def Bj1{R:Type}{k0:By->Int->LL->Option R}(s:By)(q:s.length<=1000000)(k:Nat)(p:k<=s.length):∀(r i n:Nat) (l:List Nat),i+r=k->r<n->l.length=i->
  Ik LF n s (k:Int) (i:Int) (B7 l) k0=k0 s (k:Int) (B7 (l++((s.take k).drop i).map (·.toNat))):=by
 intro r
 induction r with
 | zero=>
  intro i n l f h g;obtain⟨n,rfl⟩:∃m,n=m+1:=⟨n-1,by omega⟩
  rw[Ik];rw[A6,j2 (by rw[o0];omega)];simp
 | succ r j=>
  intro i n l f h g;obtain⟨n,rfl⟩:∃m,n=m+1:=⟨n-1,by omega⟩
  rw[Ik];have c:A1 ((i:Int)+1)=((i+1:Nat):Int):=by rw[A7];rfl
  have e:(s.take k).drop i=s.getD i 0::(s.take k).drop (i+1):=by
   rw[D6 (s.take k) i (by rw[o0];omega)]
   congr 1
   rw[o6,o6,List.getElem?_take_of_lt (by omega)]
  rw[A8,F1,D3,e,D4,F8 (by omega),c];simp only[cond_true];generalize s.getD i 0=b;have o:=b.toNat_lt;have d:A1 (b.toNat:Int)=(b.toNat:Int):=A7;have a:B7 l++[[SV.int .i64 (A1 (b.toNat:Int))]]=B7 (l++[b.toNat]):=by rw[d,Ll];rfl
  rw[a];refine(j (i+1) n _ (by omega) (by omega) (by simp;omega)).trans ?_;simp
def Bj4(s:By)(hs:s.length<=1000000)(out:LL)(f b e:Int)(l:LL)(P:0<=b)(Q:b<1000000):∀(r p n k:Nat) (i w:Int),p+r=s.length->r<n->0<=i->i<=1099511627776->0<=w->w<=1099511627776->k+r<=10000000->
  ((V2 b (s.drop p) i w ((36*k:Nat):Int)).1=0->∃o,p<o/\o<=s.length/\(V2 b (s.drop p) i w ((36*k:Nat):Int)).2.1=s.drop o/\∀(R:Type) (a:Int->LL->Option R) (d:By->LL->Int->Int->Int->Int->LL->Option R),X1 LF n s out (p:Int) f i b e w (k:Int) l a d=d s out (o:Int) f (V2 b (s.drop p) i w ((36*k:Nat):Int)).2.2 e l)/\
  ((V2 b (s.drop p) i w ((36*k:Nat):Int)).1≠0->∀(R:Type) (a:Int->LL->Option R) (d:By->LL->Int->Int->Int->Int->LL->Option R),X1 LF n s out (p:Int) f i b e w (k:Int) l a d=a (V2 b (s.drop p) i w ((36*k:Nat):Int)).1 l):=by
 intro r
 induction r with
 | zero=>
  intro p n k i w X W U D G g V;obtain⟨n,rfl⟩:∃m,n=m+1:=⟨n-1,by omega⟩
  rw[j2 (by omega)];refine⟨λh=>by simp[V2] at h,λ_ R a d=>?_⟩;rw[X1];rw[A6];rfl
 | succ r Z=>
  intro p n k i w X W U D G g V;obtain⟨n,rfl⟩:∃m,n=m+1:=⟨n-1,by omega⟩
  have S:=D6 s p (by omega);have C:=D3 s p;rw[S];generalize s.getD p 0=c at *;have Y:=Gr c;have ht:=Of ((36*k:Nat):Int) b;have e0:ac4 36 (k:Int)=((36*k:Nat):Int):=rfl;have J:A1 ((p:Int)+1)=((p+1:Nat):Int):=by rw[A7];rfl
  have K:A1 ((k:Int)+1)=((k+1:Nat):Int):=by rw[A7];rfl
  have start:∀(R:Type) (a:Int->LL->Option R) (d:By->LL->Int->Int->Int->Int->LL->Option R),X1 LF (n+1) s out (p:Int) f i b e w (k:Int) l a d =
    cond (ltI (E5 c) 0) (a 4 l)
     (vl (A1 (i+(A1 (E5 c*w)))) λj=>cond (ltI 1099511627776 j) (a 19 l)
      (cond (ltI (E5 c) (L9 ((36*k:Nat):Int) b)) (d s out ((p+1:Nat):Int) f j e l)
       (vl (A1 (36-(L9 ((36*k:Nat):Int) b))) λq=>cond (ltI 1099511627776 (A1 (w*q))) (a 19 l) (X1 LF n s out ((p+1:Nat):Int) f j b e (A1 (w*q)) ((k+1:Nat):Int) l a d)))):=by
   intro R a d;rw[X1];have T:=c.toNat_lt;rw[A8,F1,C,F1,Ka,M5,M5,e0,J,K];rfl
  unfold V2;by_cases y:E5 c<0
  ·rw[if_pos y];refine⟨λh=>by simp at h,λ_ R a d=>?_⟩;rw[start,B9 y];rfl
  ·rw[if_neg y];have hm:=Ec (by omega) Y.2 G g;have u:A1 (E5 c*w)=E5 c*w:=A7;have v:A1 (i+E5 c*w)=i+E5 c*w:=A7;by_cases z:1099511627776<i+E5 c*w
   ·rw[if_pos z];refine⟨λh=>by simp at h,λ_ R a d=>?_⟩;rw[start,A6,u,v];simp only[vl,cond_false];rw[B9 z];rfl
   ·rw[if_neg z];by_cases A:E5 c<L9 ((36*k:Nat):Int) b
    ·rw[if_pos A];refine⟨λ_=>⟨p+1,by omega,by omega,rfl,λR a d=>?_⟩,λh=>absurd rfl h⟩;rw[start,A6,u,v];simp only[vl,cond_false];rw[A6,B9 A];rfl
    ·rw[if_neg A];have H:A1 (36-L9 ((36*k:Nat):Int) b)=36-L9 ((36*k:Nat):Int) b:=A7;have F:=Ec (x:=36-L9 ((36*k:Nat):Int) b) (by omega) (by omega) G g;rw[ai5] at F;have I:A1 (w*(36-L9 ((36*k:Nat):Int) b))=w*(36-L9 ((36*k:Nat):Int) b):=A7;by_cases B:1099511627776<w*(36-L9 ((36*k:Nat):Int) b)
     ·rw[if_pos B];refine⟨λh=>by simp at h,λ_ R a d=>?_⟩;rw[start,A6,u,v];simp only[vl,cond_false];rw[A6,A6,H,I,B9 B];rfl
     ·rw[if_neg B];have L:((36*k:Nat):Int)+36=((36*(k+1):Nat):Int):=by omega
      rw[L];obtain⟨q1,q2⟩:=Z (p+1) n (k+1) (i+E5 c*w) (w*(36-L9 ((36*k:Nat):Int) b)) (by omega) (by omega) (by omega) (by omega) (by omega) (by omega) (by omega);have t:∀(R:Type) (a:Int->LL->Option R) (d:By->LL->Int->Int->Int->Int->LL->Option R),X1 LF (n+1) s out (p:Int) f i b e w (k:Int) l a d=X1 LF n s out ((p+1:Nat):Int) f (i+E5 c*w) b e (w*(36-L9 ((36*k:Nat):Int) b)) ((k+1:Nat):Int) l a d:=by simp_all
      refine⟨λh=>?_,λh R a d=>by rw[t];exact q2 h R a d⟩;obtain⟨o,g1,M,N,O⟩:=q1 h;exact⟨o,by omega,M,N,λR a d=>by rw[t];exact O R a d⟩
def Bj5(s:By)(Z:s.length<=1000000)(l:LL):∀(r p n k:Nat) (i w:Int),p+r=s.length->r<n->0<=i->i<=1099511627776->0<=w->w<=1099511627776->k+r<=10000000->
  ((V2 72 (s.drop p) i w ((36*k:Nat):Int)).1=0->∃f,p<f/\f<=s.length/\(V2 72 (s.drop p) i w ((36*k:Nat):Int)).2.1=s.drop f/\∀(R:Type) (a:Int->LL->Option R) (b:By->Int->Int->LL->Option R),X2 LF n s (p:Int) i w (k:Int) l a b=b s (f:Int) (V2 72 (s.drop p) i w ((36*k:Nat):Int)).2.2 l)/\
  ((V2 72 (s.drop p) i w ((36*k:Nat):Int)).1≠0->∀(R:Type) (a:Int->LL->Option R) (b:By->Int->Int->LL->Option R),X2 LF n s (p:Int) i w (k:Int) l a b=a (V2 72 (s.drop p) i w ((36*k:Nat):Int)).1 l):=by
 intro r
 induction r with
 | zero=>
  intro p n k i w S Q O A C d P;obtain⟨n,rfl⟩:∃m,n=m+1:=⟨n-1,by omega⟩
  rw[j2 (by omega)];refine⟨λh=>by simp[V2] at h,λ_ R a b=>?_⟩;rw[X2];rw[A6];rfl
 | succ r U=>
  intro p n k i w S Q O A C d P;obtain⟨n,rfl⟩:∃m,n=m+1:=⟨n-1,by omega⟩
  have M:=D6 s p (by omega);have z:=D3 s p;rw[M];generalize s.getD p 0=c at *;have T:=Gr c;have ht:=Of ((36*k:Nat):Int) 72;have e0:ac4 36 (k:Int)=((36*k:Nat):Int):=rfl;have G:A1 ((p:Int)+1)=((p+1:Nat):Int):=by rw[A7];rfl
  have H:A1 ((k:Int)+1)=((k+1:Nat):Int):=by rw[A7];rfl
  have start:∀(R:Type) (a:Int->LL->Option R) (b:By->Int->Int->LL->Option R),X2 LF (n+1) s (p:Int) i w (k:Int) l a b =
    cond (ltI (E5 c) 0) (a 4 l)
     (vl (A1 (i+(A1 (E5 c*w)))) λe=>cond (ltI 1099511627776 e) (a 19 l)
      (cond (ltI (E5 c) (L9 ((36*k:Nat):Int) 72)) (b s ((p+1:Nat):Int) e l)
       (vl (A1 (36-(L9 ((36*k:Nat):Int) 72))) λg=>cond (ltI 1099511627776 (A1 (w*g))) (a 19 l) (X2 LF n s ((p+1:Nat):Int) e (A1 (w*g)) ((k+1:Nat):Int) l a b)))):=by
   intro R a b;rw[X2];have N:=c.toNat_lt;rw[A8,F1,z,F1,Ka,M5,M5,e0,G,H];rfl
  unfold V2;by_cases t:E5 c<0
  ·rw[if_pos t];refine⟨λh=>by simp at h,λ_ R a b=>?_⟩;rw[start,B9 t];rfl
  ·rw[if_neg t];have Y:=Ec (by omega) T.2 C d;have o:A1 (E5 c*w)=E5 c*w:=A7;have q:A1 (i+E5 c*w)=i+E5 c*w:=A7;by_cases u:1099511627776<i+E5 c*w
   ·rw[if_pos u];refine⟨λh=>by simp at h,λ_ R a b=>?_⟩;rw[start,A6,o,q];simp only[vl,cond_false];rw[B9 u];rfl
   ·rw[if_neg u];by_cases v:E5 c<L9 ((36*k:Nat):Int) 72
    ·rw[if_pos v];refine⟨λ_=>⟨p+1,by omega,by omega,rfl,λR a b=>?_⟩,λh=>absurd rfl h⟩;rw[start,A6,o,q];simp only[vl,cond_false];rw[A6,B9 v];rfl
    ·rw[if_neg v];have D:A1 (36-L9 ((36*k:Nat):Int) 72)=36-L9 ((36*k:Nat):Int) 72:=A7;have B:=Ec (x:=36-L9 ((36*k:Nat):Int) 72) (by omega) (by omega) C d;rw[ai5] at B;have F:A1 (w*(36-L9 ((36*k:Nat):Int) 72))=w*(36-L9 ((36*k:Nat):Int) 72):=A7;by_cases y:1099511627776<w*(36-L9 ((36*k:Nat):Int) 72)
     ·rw[if_pos y];refine⟨λh=>by simp at h,λ_ R a b=>?_⟩;rw[start,A6,o,q];simp only[vl,cond_false];rw[A6,A6,D,F,B9 y];rfl
     ·rw[if_neg y];have I:((36*k:Nat):Int)+36=((36*(k+1):Nat):Int):=by omega
      rw[I];obtain⟨V,W⟩:=U (p+1) n (k+1) (i+E5 c*w) (w*(36-L9 ((36*k:Nat):Int) 72)) (by omega) (by omega) (by omega) (by omega) (by omega) (by omega) (by omega);have j:∀(R:Type) (a:Int->LL->Option R) (b:By->Int->Int->LL->Option R),X2 LF (n+1) s (p:Int) i w (k:Int) l a b=X2 LF n s ((p+1:Nat):Int) (i+E5 c*w) (w*(36-L9 ((36*k:Nat):Int) 72)) ((k+1:Nat):Int) l a b:=by simp_all
      refine⟨λh=>?_,λh R a b=>by rw[j];exact W h R a b⟩;obtain⟨f,X,J,K,L⟩:=V h;exact⟨f,by omega,J,K,λR a b=>by rw[j];exact L R a b⟩
def RW(l:List Nat)(k:Nat):(B7 l).take k=B7 (l.take k):=by unfold B7;rw[List.map_take]
def RV(l:List Nat)(k:Nat):(B7 l).drop k=B7 (l.drop k):=by unfold B7;rw[List.map_drop]
def Bj3(s:By)(hs:s.length<=1000000)(l:LL):∀(r p f:Nat) (a:List Nat) (n i b:Nat),p+r=s.length->r<f->a.length<=256->n<=1114111->i<=1000->b<=500->
  ((I1 (s.drop p) a n i b false).2=0->∀(R:Type) (c:Int->LL->Option R) (d e:LL->LL->Option R),Q3 LF f s (B7 a) (p:Int) (n:Int) (i:Int) (b:Int) l c d e=e (B7 (I1 (s.drop p) a n i b false).1) l)/\
  ((I1 (s.drop p) a n i b false).2≠0->(I1 (s.drop p) a n i b false).1=[]/\((∀(R:Type) (c:Int->LL->Option R) (d e:LL->LL->Option R),Q3 LF f s (B7 a) (p:Int) (n:Int) (i:Int) (b:Int) l c d e=c ((I1 (s.drop p) a n i b false).2:Nat) l)\/
   ((I1 (s.drop p) a n i b false).2=3/\∃D,∀(R:Type) (c:Int->LL->Option R) (d e:LL->LL->Option R),Q3 LF f s (B7 a) (p:Int) (n:Int) (i:Int) (b:Int) l c d e=d l D))):=by
 have a0:=C5;intro r
 induction r using ae0 with
 | _ r ih=>
  intro p f a n i b hp hf h2 h3 h4 h5;obtain⟨f,rfl⟩:∃m,f=m+1:=⟨f-1,by omega⟩
  by_cases hr:r=0
  ·rw[j2 (by omega),Dr];refine⟨λ_ R c d e=>?_,λh=>absurd rfl h⟩;rw[Q3];rw[A6];rfl
  ·have q:s.drop p≠[]:=λh=>by
    have:=congrArg j0 h;rw[j7] at this;simp at this;omega
   obtain⟨z,H⟩:=Bj4 s hs (B7 a) (n:Int) (b:Int) (i:Int) l (by omega) (by omega) r p LF 0 (i:Int) 1 hp (by omega) (by omega) (by omega) (by omega) (by omega) (by omega);obtain⟨F,G⟩:=Wv b (s.drop p) i 1 0;have y:V2 (b:Int) (s.drop p) (i:Int) 1 ((36*0:Nat):Int)=V2 (b:Int) (s.drop p) (i:Int) ((1:Nat):Int) ((36*0:Nat):Int):=rfl;rw[y] at z H;by_cases o:(E0 b (s.drop p) i 1 0).2.2=0
   ·rw[Ew q a n i b false o];have T:=G o;have K:(V2 (b:Int) (s.drop p) (i:Int) ((1:Nat):Int) ((36*0:Nat):Int)).1=0:=by rw[F,o];rfl
    obtain⟨v,a1,a2,w,x⟩:=z K;obtain⟨L,O,_⟩:=Wu (b:Int) (s.drop p) (i:Int) ((1:Nat):Int) ((36*0:Nat):Int) (by omega) (by omega) (by omega) K;rw[T] at L O w x;simp only at L O w x;rw[w];generalize (E0 b (s.drop p) i 1 0).1=X at *;have el:A1 (((B7 a).length:Int)+1)=((a.length+1:Nat):Int):=by rw[D4,A7];rfl
    have U:A1 ((X:Int)-(i:Int))=((X-i:Nat):Int):=by rw[A7];omega
    have Z:w6 (X:Int) ((a.length+1:Nat):Int)=((X / (a.length+1):Nat):Int):=M8 _ _;have em:v8 (X:Int) ((a.length+1:Nat):Int)=((X % (a.length+1):Nat):Int):=Db _ _;have a5:X / (a.length+1)<=X:=aa0 _ _;have J:=ah6 X (show 0<a.length+1 by omega);have A:=Po (X-i) (a.length+1) false (by omega);generalize hQ:X / (a.length+1)=Q at *;generalize hM:X % (a.length+1)=M at *;have V:A1 (Q:Int)=(Q:Int):=A7;have W:A1 ((n:Int)+(Q:Int))=((n+Q:Nat):Int):=by rw[A7];rfl
    have Y:A1 ((M:Int)+1)=((M+1:Nat):Int):=by rw[A7];rfl
    have C:(((a.length+1:Nat):Int)!=0)=true:=by rw[bne_iff_ne];omega
    have P:cut (B7 a) 0 (M:Int)=B7 (a.take M):=by rw[L1,b8,RW]
    have S:cut (B7 a) (M:Int) ((B7 a).length:Int)=B7 (a.drop M):=by rw[Q5,b8,RV]
    have t:∀N:Nat,B7 (a.take M)++[[SV.int .i64 (N:Int)]]++B7 (a.drop M)=B7 (W7 a M N):=λN=>by
     unfold W7;rw[Ll,y9];rfl
    have start:∀(R:Type) (c:Int->LL->Option R) (d e:LL->LL->Option R),Q3 LF (f+1) s (B7 a) (p:Int) (n:Int) (i:Int) (b:Int) l c d e =
      cond (not (W8 (n+Q))) (c 2 l) (cond (ltI 256 ((a.length+1:Nat):Int)) (d l (B7 (W7 a M (n+Q))))
       (Q3 LF f s (B7 (W7 a M (n+Q))) (v:Int) ((n+Q:Nat):Int) ((M+1:Nat):Int) ((R5 (X-i) (a.length+1) false:Nat):Int) l c d e)):=by
     intro R c d e;rw[Q3];rw[A8,cond_true];refine(x R _ _).trans ?_;have s1:J0 (0:Int) (M:Int) (B7 a).length=true:=Ay (by omega) (by omega) (by rw[D4];omega);have s2:J0 (M:Int) ((B7 a).length:Int) (B7 a).length=true:=Ay (by omega) (by rw[D4];omega) (by omega);have t1:ltN ((X-i:Nat):Int) 1152921504606846976=true:=M5;have t2:ltN ((a.length+1:Nat):Int) 1000000=true:=M5;have t3:ltI 0 ((a.length+1:Nat):Int)=true:=A8;have l1:(B7 (a.take M)).length=M:=by rw[D4,o0];omega
     have l2:(B7 (a.drop M)).length=a.length-M:=by rw[D4,j7]
     have r1:G2 (0+(B7 (a.take M)).length)=true:=F8 (by omega);have r2:G2 ((B7 (a.take M)).length+1)=true:=F8 (by omega);have r3:G2 ((B7 (a.take M)++[[SV.int .i64 ((n+Q:Nat):Int)]]).length+(B7 (a.drop M)).length)=true:=F8 (by rw[j5,y8];omega);have l3:(B7 (W7 a M (n+Q))).length=a.length+1:=by rw[D4,Bx]
     simp only[vl,el,U,Z,em,V,W,Y,C,s1,s2,t1,t2,t3,P,S,r1,r2,r3,t,l3,cond_true,b8,Nm]
    cases g:W8 (n+Q) with
    | false=>
     rw[if_neg (by simp)];refine⟨λh=>by simp at h,λ_=>⟨rfl,.inl λR c d e=>?_⟩⟩;rw[start,g];rfl
    | true=>
     rw[if_pos rfl];by_cases I:256<a.length+1
     ·rw[if_pos I];refine⟨λh=>by simp at h,λ_=>⟨rfl,.inr ⟨rfl,B7 (W7 a M (n+Q)),λR c d e=>?_⟩⟩⟩;rw[start,g,A8];rfl
     ·rw[if_neg I];have B:n+Q<=1114111:=by
       unfold W8 at g;simp only[k9,p4] at g;exact g.1
      have k:∀(R:Type) (c:Int->LL->Option R) (d e:LL->LL->Option R),Q3 LF (f+1) s (B7 a) (p:Int) (n:Int) (i:Int) (b:Int) l c d e=Q3 LF f s (B7 (W7 a M (n+Q))) (v:Int) ((n+Q:Nat):Int) ((M+1:Nat):Int) ((R5 (X-i) (a.length+1) false:Nat):Int) l c d e:=by
       intro R c d e;rw[start,g,A6];rfl
      obtain⟨z1,z2⟩:=ih (s.length-v) (by omega) v f (W7 a M (n+Q)) (n+Q) (M+1) (R5 (X-i) (a.length+1) false) (by omega) (by omega) (by rw[Bx];omega) B (by omega) A;refine⟨λh R c d e=>by rw[k];exact z1 h R c d e,λh=>?_⟩;obtain⟨y1,u⟩:=z2 h;refine⟨y1,?_⟩;rcases u with u|⟨u,D,y3⟩
      ·exact .inl λR c d e=>by rw[k];exact u R c d e
      ·exact .inr ⟨u,D,λR c d e=>by rw[k];exact y3 R c d e⟩
   ·rw[Hv q a n i b false o];clear z G;refine⟨λh=>absurd h o,λ_=>⟨rfl,.inl λR c d e=>?_⟩⟩;rw[Q3];rw[A8,cond_true];have j:=congrArg Prod.fst F;simp only at j;refine(H (by rw[j];omega) R _ _).trans ?_;rw[j]
def B35:∀(r:Nat) (s:By) (a:List Nat) (n i b:Nat) (f:Bool),s.length<=r->0<a.length->(I1 s a n i b f).2=0->(I1 s a n i b f).1≠[]:=by
 intro r
 induction r with
 | zero=>
  intro s a n i b f d l h;obtain rfl:=aa4.1 (Nat.le_zero.1 d);rw[Dr];grind
 | succ r m=>
  intro s a n i b f d l h;by_cases e:s=[]
  ·grind
  ·by_cases c:(E0 b s i 1 0).2.2=0
   ·rw[Ew e a n i b f c] at h ⊢;split at h
    ·rename_i g;rw[if_pos g];split at h
     ·omega
     ·rename_i j;rw[if_neg j];have k:=Rs b s i 1 0 c;exact m _ _ _ _ _ _ (by omega) (by rw[Bx];omega) h
    omega
   ·rw[Hv e a n i b f c] at h;omega
def Bj2(s:By)(K:s.length<=1000000)(p:Nat)(a:List Nat)(h2:a.length<=256)(hp:p<=s.length) :
  (s.drop p=[]/\∀(R:Type) (b:Int->LL->Option R) (c d:LL->LL->Option R) (g:LL->Option R),L3 LF LF s (p:Int) (B7 a) b c d g=g (B7 a))\/
  ((I1 (s.drop p) a 128 0 72 true).2=0/\(I1 (s.drop p) a 128 0 72 true).1≠[]/\∀(R:Type) (b:Int->LL->Option R) (c d:LL->LL->Option R) (g:LL->Option R),L3 LF LF s (p:Int) (B7 a) b c d g=d (B7 (I1 (s.drop p) a 128 0 72 true).1) (B7 a))\/
  ((I1 (s.drop p) a 128 0 72 true).1=[]/\((∀(R:Type) (b:Int->LL->Option R) (c d:LL->LL->Option R) (g:LL->Option R),L3 LF LF s (p:Int) (B7 a) b c d g=b ((I1 (s.drop p) a 128 0 72 true).2:Nat) (B7 a))\/
   ((I1 (s.drop p) a 128 0 72 true).2=3/\∃F,∀(R:Type) (b:Int->LL->Option R) (c d:LL->LL->Option R) (g:LL->Option R),L3 LF LF s (p:Int) (B7 a) b c d g=c (B7 a) F))):=by
 have a0:=C5;obtain⟨f,B⟩:∃m,LF=m+1:=⟨LF-1,by omega⟩
 by_cases hr:s.length<=p
 ·refine .inl ⟨j2 hr,λR b c d g=>?_⟩;have e:L3 LF LF s (p:Int) (B7 a) b c d g=L3 LF (f+1) s (p:Int) (B7 a) b c d g:=by rw[<-B]
  rw[e,L3];rw[A6];rfl
 ·right
  have o:s.drop p≠[]:=λh=>by
   have:=congrArg j0 h;grind
  obtain⟨u,y⟩:=Bj5 s K (B7 a) (s.length-p) p LF 0 0 1 (by omega) (by omega) (by omega) (by omega) (by omega) (by omega) (by omega);obtain⟨G,x⟩:=Wv 72 (s.drop p) 0 1 0;have n:V2 72 (s.drop p) 0 1 ((36*0:Nat):Int)=V2 ((72:Nat):Int) (s.drop p) ((0:Nat):Int) ((1:Nat):Int) ((36*0:Nat):Int):=rfl;rw[n] at u y;by_cases A:(E0 72 (s.drop p) 0 1 0).2.2=0
  ·rw[Ew o a 128 0 72 true A];have H:=x A;have k:(V2 ((72:Nat):Int) (s.drop p) ((0:Nat):Int) ((1:Nat):Int) ((36*0:Nat):Int)).1=0:=by grind
   obtain⟨r,a1,a2,v,w⟩:=u k;obtain⟨L,O,_⟩:=Wu ((72:Nat):Int) (s.drop p) ((0:Nat):Int) ((1:Nat):Int) ((36*0:Nat):Int) (by omega) (by omega) (by omega) k;rw[H] at L O v w;simp only at L O v w;clear u y G x H k n;rw[v];generalize (E0 72 (s.drop p) 0 1 0).1=X at *;have Z:A1 (((B7 a).length:Int)+1)=((a.length+1:Nat):Int):=by rw[D4,A7];rfl
   have T:A1 ((X:Int)-0)=(X:Int):=by rw[A7];omega
   have Y:w6 (X:Int) ((a.length+1:Nat):Int)=((X / (a.length+1):Nat):Int):=M8 _ _;have em:v8 (X:Int) ((a.length+1:Nat):Int)=((X % (a.length+1):Nat):Int):=Db _ _;have a5:X / (a.length+1)<=X:=aa0 _ _;have J:=ah6 X (show 0<a.length+1 by omega);have z:=Po X (a.length+1) true (by omega);generalize hQ:X / (a.length+1)=Q at *;generalize hM:X % (a.length+1)=M at *;have U:A1 (Q:Int)=(Q:Int):=A7;have V:A1 ((128:Int)+(Q:Int))=((128+Q:Nat):Int):=by rw[A7];rfl
   have W:A1 ((M:Int)+1)=((M+1:Nat):Int):=by rw[A7];rfl
   have D:(((a.length+1:Nat):Int)!=0)=true:=by rw[bne_iff_ne];omega
   have P:aa9 (M-0) (ac1 0 (B7 a))=B7 (a.take M):=by rw[ai8,o5,RW]
   have S:aa9 ((B7 a).length-M) (ac1 M (B7 a))=B7 (a.drop M):=by
    rw[List.take_of_length_le (by rw[j7];omega),RV]
   have q:∀N:Nat,B7 (a.take M)++[[SV.int .i64 (N:Int)]]++B7 (a.drop M)=B7 (W7 a M N):=λN=>by
    unfold W7;rw[Ll,y9];rfl
   have start:∀(R:Type) (b:Int->LL->Option R) (c d:LL->LL->Option R) (g:LL->Option R),L3 LF LF s (p:Int) (B7 a) b c d g =
     cond (not (W8 (128+Q))) (b 2 (B7 a)) (cond (ltI 256 ((a.length+1:Nat):Int)) (c (B7 a) (B7 (W7 a M (128+Q))))
      (Q3 LF f s (B7 (W7 a M (128+Q))) (r:Int) ((128+Q:Nat):Int) ((M+1:Nat):Int) ((R5 X (a.length+1) true:Nat):Int) (B7 a) b c d)):=by
    intro R b c d g;have e:L3 LF LF s (p:Int) (B7 a) b c d g=L3 LF (f+1) s (p:Int) (B7 a) b c d g:=by rw[<-B]
    rw[e,L3];rw[A8,cond_true];refine(w R _ _).trans ?_;have s1:J0 (0:Int) (M:Int) (B7 a).length=true:=Ay (by omega) (by omega) (by rw[D4];omega);have s2:J0 (M:Int) ((B7 a).length:Int) (B7 a).length=true:=Ay (by omega) (by rw[D4];omega) (by omega);have t1:ltN (X:Int) 1152921504606846976=true:=M5;have t2:ltN ((a.length+1:Nat):Int) 1000000=true:=M5;have t3:ltI 0 ((a.length+1:Nat):Int)=true:=A8;have l1:(B7 (a.take M)).length=M:=by rw[D4,o0];omega
    have l2:(B7 (a.drop M)).length=a.length-M:=by rw[D4,j7]
    have r1:G2 (0+(B7 (a.take M)).length)=true:=F8 (by omega);have r2:G2 ((B7 (a.take M)).length+1)=true:=F8 (by omega);have r3:G2 ((B7 (a.take M)++[[SV.int .i64 ((128+Q:Nat):Int)]]).length+(B7 (a.drop M)).length)=true:=F8 (by rw[j5,y8];omega);have l3:(B7 (W7 a M (128+Q))).length=a.length+1:=by rw[D4,Bx]
    simp only[vl,Z,T,Y,em,U,V,W,D,s1,s2,t1,t2,t3,b8,P,S,r1,r2,r3,q,l3,cond_true,Nm]
   cases j:W8 (128+Q) with
   | false=>
    rw[if_neg (by simp)];refine .inr ⟨rfl,.inl λR b c d g=>?_⟩;rw[start,j];rfl
   | true=>
    rw[if_pos rfl];by_cases I:256<a.length+1
    ·rw[if_pos I];refine .inr ⟨rfl,.inr ⟨rfl,B7 (W7 a M (128+Q)),λR b c d g=>?_⟩⟩;rw[start,j,A8];rfl
    ·rw[if_neg I];have C:128+Q<=1114111:=by
      unfold W8 at j;simp_all
     have l:∀(R:Type) (b:Int->LL->Option R) (c d:LL->LL->Option R) (g:LL->Option R),L3 LF LF s (p:Int) (B7 a) b c d g=Q3 LF f s (B7 (W7 a M (128+Q))) (r:Int) ((128+Q:Nat):Int) ((M+1:Nat):Int) ((R5 X (a.length+1) true:Nat):Int) (B7 a) b c d:=by
      intro R b c d g;rw[start,j,A6];rfl
     obtain⟨z1,z2⟩:=Bj3 s K (B7 a) (s.length-r) r f (W7 a M (128+Q)) (128+Q) (M+1) (R5 X (a.length+1) true) (by omega) (by omega) (by rw[Bx];omega) C (by omega) z;have hX:X-0=X:=ai8 X;rw[hX];by_cases k:(I1 (s.drop r) (W7 a M (128+Q)) (128+Q) (M+1) (R5 X (a.length+1) true) false).2=0
     ·refine .inl ⟨k,?_,λR b c d g=>by rw[l];exact z1 k R b c d⟩;exact B35 _ _ _ _ _ _ _ (w9 _) (by rw[Bx];omega) k
     ·obtain⟨y1,t⟩:=z2 k;refine .inr ⟨y1,?_⟩;rcases t with t|⟨t,F,y3⟩
      ·exact .inl λR b c d g=>by rw[l];exact t R b c d
      ·exact .inr ⟨t,F,λR b c d g=>by rw[l];exact y3 R b c d⟩
  ·rw[Hv o a 128 0 72 true A];clear u x;refine .inr ⟨rfl,.inl λR b c d g=>?_⟩;have e:L3 LF LF s (p:Int) (B7 a) b c d g=L3 LF (f+1) s (p:Int) (B7 a) b c d g:=by rw[<-B]
   rw[e,L3];rw[A8,cond_true];have i:=congrArg Prod.fst G;simp only at i;refine(y (by rw[i];omega) R _ _).trans ?_;rw[i]
def Cz8(s:By)(M:A3 s.length=true):∃r H,Bz8 LF s (λi f=>rv (.tup [.fl 0,.s (.int .i64 i)]) [.arr true 3 1 f]) (λi f=>rv (.tup [.fl 1,.s (.int .i64 i)]) [.arr true 3 1 f,.arr true 3 1 []]) (λx f=>rv (.tup [.fl 2,.s (.int .i64 (3:Int))]) [.arr true 3 1 x,.arr false 3 1 f,.arr true 3 1 []]) (λi f=>rv (.tup [.s (.sl false false 1 i),.s (.int .i64 (0:Int))]) [.arr true 3 1 f])=rv r H/\
  r.stab [1,0] H = .tup [.s (.sl (O5 s).1.isEmpty (O5 s).1.isEmpty 1 (Ni (O5 s).1)),.s (.int .i64 ((O5 s).2:Nat))]:=by
 have G:=C5;unfold Bz8 O5;by_cases z:1024<s.length
 ·rw[if_pos z,A8];exact⟨_,_,rfl,rfl⟩
 ·rw[if_neg z,A6,cond_false];have e:=λ(R:Type) (C:Unit->Option R) (D:By->Int->Option R)=>Bj6 (k0:=C) (k1:=D) s (by omega) s.length 0 LF 0 (by omega) (by omega)
  rw[o5] at e;cases y:s.any (λb=>v7 128 b.toNat) with
  | true=>
   rw[if_pos rfl];refine⟨.tup [.fl 0,.s (.int .i64 4)],[.arr true 3 1 []],(e _ _ _).trans ?_,rfl⟩;rw[y,if_pos rfl]
  | false=>
   rw[if_neg (by simp)];obtain⟨L,F⟩:=Qj s;have I:=Qk s;have q:(if (45:UInt8)∈s then 0+H5 s else 0)=H5 s:=by
    split
    ·omega
    ·rename_i h;exact(F h).2.symm
   rw[y,q] at e;have c:=λ(R:Type) (K:By->Int->LL->Option R)=>Bj1 (k0:=K) s (by omega) (H5 s) (by omega) (H5 s) 0 LF [] (by omega) (by omega) rfl
   rw[o5] at c;have g:((s.take (H5 s)).map (·.toNat)).length=H5 s:=by rw[p9,o0];omega
   generalize N:H5 s=m at *;generalize A:(s.take m).map (·.toNat)=d at *;by_cases k:256<m
   ·rw[if_pos k];refine⟨.tup [.fl 1,.s (.int .i64 3)],[.arr true 3 1 (B7 d),.arr true 3 1 []],(e _ _ _).trans ?_,rfl⟩;rw[if_neg (by simp)];refine(c _ _).trans ?_;rw[ab8,D4,g,A8];rfl
   ·rw[if_neg k];have o:∀p:Nat,p<=s.length->∀(X:Option (PV × List Blk × Unit)),X=L3 LF LF s (p:Int) (B7 d) (λi f=>rv (.tup [.fl 1,.s (.int .i64 i)]) [.arr true 3 1 f,.arr true 3 1 []]) (λx f=>rv (.tup [.fl 2,.s (.int .i64 (3:Int))]) [.arr true 3 1 x,.arr false 3 1 f,.arr true 3 1 []]) (λi f=>rv (.tup [.s (.sl false false 1 i),.s (.int .i64 (0:Int))]) [.arr true 3 1 f]) (λl=>rv (.tup [.fl 0,.s (.int .i64 0)]) [.arr true 3 1 l])->
      ∃r H,X=rv r H/\r.stab [1,0] H = .tup [.s (.sl (I1 (s.drop p) d 128 0 72 true).1.isEmpty (I1 (s.drop p) d 128 0 72 true).1.isEmpty 1 (Ni (I1 (s.drop p) d 128 0 72 true).1)),.s (.int .i64 ((I1 (s.drop p) d 128 0 72 true).2:Nat))]:=by
     intro p J X t;rcases Bj2 s (by omega) p d (by omega) J with⟨j,n⟩|⟨j,u,n⟩|⟨j,n|⟨u,O,n⟩⟩
     ·refine⟨_,_,t.trans (n _ _ _ _ _),?_⟩;rw[j,Dr,Ed];simp[PV.stab,Qb,Sq,PV.snap,N1,Xz]
     ·refine⟨_,_,t.trans (n _ _ _ _ _),?_⟩;rw[j,Ed];have:(I1 (s.drop p) d 128 0 72 true).1.isEmpty=false:=by
       cases h:(I1 (s.drop p) d 128 0 72 true).1 with
       | nil=>exact absurd h u
       | cons a r=>rfl
      rw[this];rfl
     ·refine⟨_,_,t.trans (n _ _ _ _ _),?_⟩;rw[j];rfl
     ·refine⟨_,_,t.trans (n _ _ _ _ _),?_⟩;rw[j,u];rfl
    by_cases B:m=0
    ·subst B;rw[if_pos rfl];have:=o 0 (by omega) _ rfl;rw[o5] at this;obtain⟨r,H,v,w⟩:=this;refine⟨r,H,(e _ _ _).trans ?_,w⟩;rw[if_neg (by simp)];refine(c _ _).trans ?_;rw[ab8,D4,g,A6,cond_false,A6,cond_false];exact v
    ·rw[if_neg B];obtain⟨r,H,v,w⟩:=o (m+1) (by omega) _ rfl;refine⟨r,H,(e _ _ _).trans ?_,w⟩;rw[if_neg (by simp)];refine(c _ _).trans ?_;have j:A1 ((m:Int)+1)=((m+1:Nat):Int):=by rw[A7];rfl
     rw[ab8,D4,g,A6,cond_false,A8,cond_true,j];exact v
def Aj{R:Type}{d:LL->Option R}{e:By->Int->Int->Int->Int->LL->Option R}(s:By)(u:s.length<=1000000000)(n i m v c a:Nat)(l:LL)(q:a<m)(r:m<=4)(p:i+a<s.length)(w:v<=100000)(t:0<n) :
  Gn LF n s i m v c a l d e=if 128<=(s.getD (i+a) 0).toNat/\(s.getD (i+a) 0).toNat<=191 then Gn LF (n-1) s i m ((v*64+(s.getD (i+a) 0).toNat-128:Nat):Int) c ((a+1:Nat):Int) l d e else d l:=by
 have o:=(s.getD (i+a) 0).toNat_lt;obtain⟨n,rfl⟩:∃m,n=m+1:=⟨n-1,by omega⟩
 rw[Gn];have f:A1 ((i:Int)+a)=((i+a:Nat):Int):=by rw[A7];rfl
 have g:A1 ((a:Int)+1)=((a+1:Nat):Int):=by rw[A7];rfl
 rw[A8,f,g,F1,D3];generalize (s.getD (i+a) 0).toNat=b at *;simp only[cond_true,vl];rw[D1 (n:=(b:Int)) (by omega) (by omega),Nat.add_sub_cancel];by_cases j:b<128
 ·rw[A8,G0];rfl
 ·rw[A6,cond_false];by_cases k:191<b
  ·rw[A8,G0];rfl
  ·rw[A6,cond_false,R2];have h:A1 (A1 (A1 ((v:Int)*64)+(b:Int))-128)=((v*64+b-128:Nat):Int):=by
    rw[D1 (n:=(v:Int)*64) (by omega) (by omega),D1 (n:=(v:Int)*64+b) (by omega) (by omega),A7];omega
   rw[h]
def Qu{R:Type}{c:LL->Option R}{b:By->Int->Int->Int->Int->LL->Option R}(s:By)(n i m v a:Nat)(l:LL)(d:0<n) :
  Gn LF n s i m v a m l c b=b s i m v a l:=by
 obtain⟨n,rfl⟩:∃m,n=m+1:=⟨n-1,by omega⟩
 rw[Gn];rw[A6];rfl
def Sk{R:Type}{b:LL->Option R}{c:By->Int->LL->Option R}(s:By)(k:s.length<=1000000000)(i m v a:Nat)(P:List Nat)(e:P.length<=1000000000)(f:i+m<=s.length)(l:v<=10000000)(g:m<=4) :
  cond (ltI (v:Int) (a:Int)) (b (B7 P)) (cond (not (ptI v)) (b (B7 P)) (cond (G2 ((B7 P).length+1)) (c s (A1 ((i:Int)+m)) (B7 P++[[SV.int .i64 (v:Int)]])) none)) =
   if a<=v/\W8 v=true then c s ((i+m:Nat):Int) (B7 (P++[v])) else b (B7 P):=by
 have d:A1 ((i:Int)+m)=((i+m:Nat):Int):=by rw[A7];rfl
 rw[d,D4,F8 (by omega),Ll,show ptI (v:Int)=W8 v from rfl];by_cases h:v<a
 ·rw[A8,G0];rfl
 ·rw[A6,cond_false];cases j:W8 v with
  | false=>rw[if_neg (by simp)];rfl
  | true=>rw[if_pos ⟨by omega,rfl⟩];rfl
def Cd4{R:Type}{d:LL->Option R}{f:By->Int->LL->Option R}(s:By)(e:s.length<=1000000000)(i v a:Nat)(P:List Nat)(k:P.length<=1000000000)(m:i<s.length)(n:v<=32) :
  Et LF s i 2 v a (B7 P) d f=if 2<=s.length-i/\128<=(s.getD (i+1) 0).toNat/\(s.getD (i+1) 0).toNat<=191 then
   (if a<=v*64+(s.getD (i+1) 0).toNat-128/\W8 (v*64+(s.getD (i+1) 0).toNat-128)=true then f s ((i+2:Nat):Int) (B7 (P++[v*64+(s.getD (i+1) 0).toNat-128])) else d (B7 P)) else d (B7 P):=by
 have l:=(s.getD (i+1) 0).toNat_lt;have j:=C5;unfold Et;have g:A1 ((s.length:Int)-i)=((s.length-i:Nat):Int):=by rw[A7];omega
 rw[g];simp only[vl];by_cases h:s.length-i<2
 ·rw[A8,G0];rfl
 ·rw[A6,cond_false];refine a8 (Aj s e LF i 2 v a 1 (B7 P) (by omega) (by omega) (by omega) (by omega) (by omega)) ?_;generalize (s.getD (i+1) 0).toNat=b at *;by_cases c:128<=b/\b<=191
  ·rw[if_pos c,if_pos ⟨by omega,c⟩];refine a8 (Qu s (LF-1) i 2 _ a (B7 P) (by omega)) ?_;exact Sk s e i 2 _ a P k (by omega) (by omega) (by omega)
  ·rw[if_neg c,if_neg (λh=>c h.2)]
def Cd5{R:Type}{e:LL->Option R}{f:By->Int->LL->Option R}(s:By)(d:s.length<=1000000000)(i v a:Nat)(P:List Nat)(k:P.length<=1000000000)(n:i<s.length)(o:v<=32) :
  Et LF s i 3 v a (B7 P) e f=if 3<=s.length-i/\(128<=(s.getD (i+1) 0).toNat/\(s.getD (i+1) 0).toNat<=191)/\(128<=(s.getD (i+2) 0).toNat/\(s.getD (i+2) 0).toNat<=191) then
   (if a<=(v*64+(s.getD (i+1) 0).toNat-128)*64+(s.getD (i+2) 0).toNat-128/\W8 ((v*64+(s.getD (i+1) 0).toNat-128)*64+(s.getD (i+2) 0).toNat-128)=true then f s ((i+3:Nat):Int) (B7 (P++[(v*64+(s.getD (i+1) 0).toNat-128)*64+(s.getD (i+2) 0).toNat-128])) else e (B7 P)) else e (B7 P):=by
 have m:=(s.getD (i+1) 0).toNat_lt;have l:=(s.getD (i+2) 0).toNat_lt;have j:=C5;unfold Et;have g:A1 ((s.length:Int)-i)=((s.length-i:Nat):Int):=by rw[A7];omega
 rw[g];simp only[vl];by_cases h:s.length-i<3
 ·rw[A8,G0];rfl
 ·rw[A6,cond_false];refine a8 (Aj s d LF i 3 v a 1 (B7 P) (by omega) (by omega) (by omega) (by omega) (by omega)) ?_;by_cases b:128<=(s.getD (i+1) 0).toNat/\(s.getD (i+1) 0).toNat<=191
  ·rw[if_pos b];refine a8 (Aj s d (LF-1) i 3 _ a 2 (B7 P) (by omega) (by omega) (by omega) (by omega) (by omega)) ?_;by_cases c:128<=(s.getD (i+2) 0).toNat/\(s.getD (i+2) 0).toNat<=191
   ·rw[if_pos c,if_pos ⟨by omega,b,c⟩];refine a8 (Qu s (LF-2) i 3 _ a (B7 P) (by omega)) ?_;exact Sk s d i 3 _ a P k (by omega) (by omega) (by omega)
   ·rw[if_neg c,if_neg (λh=>c h.2.2)]
  ·rw[if_neg b,if_neg (λh=>b h.2.1)]
def Cd6{R:Type}{f:LL->Option R}{g:By->Int->LL->Option R}(s:By)(e:s.length<=1000000000)(i v a:Nat)(P:List Nat)(l:P.length<=1000000000)(p:i<s.length)(q:v<=20) :
  Et LF s i 4 v a (B7 P) f g=if 4<=s.length-i/\(128<=(s.getD (i+1) 0).toNat/\(s.getD (i+1) 0).toNat<=191)/\(128<=(s.getD (i+2) 0).toNat/\(s.getD (i+2) 0).toNat<=191)/\(128<=(s.getD (i+3) 0).toNat/\(s.getD (i+3) 0).toNat<=191) then
   (if a<=((v*64+(s.getD (i+1) 0).toNat-128)*64+(s.getD (i+2) 0).toNat-128)*64+(s.getD (i+3) 0).toNat-128/\W8 (((v*64+(s.getD (i+1) 0).toNat-128)*64+(s.getD (i+2) 0).toNat-128)*64+(s.getD (i+3) 0).toNat-128)=true then g s ((i+4:Nat):Int) (B7 (P++[((v*64+(s.getD (i+1) 0).toNat-128)*64+(s.getD (i+2) 0).toNat-128)*64+(s.getD (i+3) 0).toNat-128])) else f (B7 P)) else f (B7 P):=by
 have o:=(s.getD (i+1) 0).toNat_lt;have m:=(s.getD (i+2) 0).toNat_lt;have n:=(s.getD (i+3) 0).toNat_lt;have k:=C5;unfold Et;have j:A1 ((s.length:Int)-i)=((s.length-i:Nat):Int):=by rw[A7];omega
 rw[j];simp only[vl];by_cases h:s.length-i<4
 ·rw[A8,G0];rfl
 ·rw[A6,cond_false];refine a8 (Aj s e LF i 4 v a 1 (B7 P) (by omega) (by omega) (by omega) (by omega) (by omega)) ?_;by_cases b:128<=(s.getD (i+1) 0).toNat/\(s.getD (i+1) 0).toNat<=191
  ·rw[if_pos b];refine a8 (Aj s e (LF-1) i 4 _ a 2 (B7 P) (by omega) (by omega) (by omega) (by omega) (by omega)) ?_;by_cases c:128<=(s.getD (i+2) 0).toNat/\(s.getD (i+2) 0).toNat<=191
   ·rw[if_pos c];refine a8 (Aj s e (LF-2) i 4 _ a 3 (B7 P) (by omega) (by omega) (by omega) (by omega) (by omega)) ?_;by_cases d:128<=(s.getD (i+3) 0).toNat/\(s.getD (i+3) 0).toNat<=191
    ·rw[if_pos d,if_pos ⟨by omega,b,c,d⟩];refine a8 (Qu s (LF-3) i 4 _ a (B7 P) (by omega)) ?_;exact Sk s e i 4 _ a P l (by omega) (by omega) (by omega)
    ·rw[if_neg d,if_neg (λh=>d h.2.2.2)]
   ·rw[if_neg c,if_neg (λh=>c h.2.2.1)]
  ·rw[if_neg b,if_neg (λh=>b h.2.1)]
def Bk8{R:Type}{a:By->Int->Int->LL->Option R}(n:Nat)(b:0<n)(s:By)(i v:Int)(l:LL):Yw LF n s i v l a=a s i v l:=by
 obtain⟨n,rfl⟩:∃m,n=m+1:=⟨n-1,by omega⟩
 rw[Yw]
def Bk2{R:Type}{a:LL->Option R}{b:By->Int->LL->Option R}(s:By)(e:s.length<=1000000000)(i v:Nat)(P:List Nat)(d:P.length<=1000000000)(f:i<s.length)(g:v<128) :
  Yv LF s i v (B7 P) a b=b s ((i+1:Nat):Int) (B7 (P++[v])):=by
 unfold Yv;have c:A1 ((s.length:Int)-i)=((s.length-i:Nat):Int):=by rw[A7];omega
 rw[c];simp only[vl];rw[A6,cond_false];refine a8 (show _=cond (ltI (v:Int) ((0:Nat):Int)) (a (B7 P)) (cond (not (ptI v)) (a (B7 P)) (cond (G2 ((B7 P).length+1)) (b s (A1 ((i:Int)+(1:Nat))) (B7 P++[[SV.int .i64 (v:Int)]])) none)) from Bk8 LF (by have:=C5;omega) _ _ _ _) ?_;rw[Sk s e i 1 v 0 P d (by omega) (by omega) (by omega),if_pos];refine⟨ag9 _,?_⟩;simp only[W8,k9,ab7,p4,af0];omega
def Cs7{v:Nat}(h:v<2048):W8 v=true:=by simp only[W8,k9,ab7,p4,af0];omega
def Bl1{R:Type}{k0 k1:LL->Option R}(s:By)(h:s.length<=1000000000)(n i:Nat)(P:List Nat)(d:P.length<=1000000000)(f:i<s.length) :
  Ak LF (n+1) s i (B7 P) k0 k1=if (p5 (s.drop i)).1=65533/\(p5 (s.drop i)).2=1 then k0 (B7 P) else Ak LF n s ((i+(p5 (s.drop i)).2:Nat):Int) (B7 (P++[(p5 (s.drop i)).1])) k0 k1:=by
 have g:∀k,(s.drop i).getD k 0=s.getD (i+k) 0:=λk=>by grind
 have r:p5 (s.drop i)=aa3 (s.length-i) (s.getD i 0).toNat (s.getD (i+1) 0).toNat (s.getD (i+2) 0).toNat (s.getD (i+3) 0).toNat:=by
  rw[Lib.decodeL_N,g,g,g,g,j7];rfl
 have v:=(s.getD i 0).toNat_lt;have j:=(s.getD (i+1) 0).toNat_lt;have m:=(s.getD (i+2) 0).toNat_lt;have t:=(s.getD (i+3) 0).toNat_lt;rw[r];rw[Ak,A8,F1,D3,D1 (n:=((s.getD i 0).toNat:Int)) (by omega) (by omega)];simp only[cond_true];generalize (s.getD i 0).toNat=b at *;by_cases l:b<128
 ·rw[A8,cond_true];have e:aa3 (s.length-i) b (s.getD (i+1) 0).toNat (s.getD (i+2) 0).toNat (s.getD (i+3) 0).toNat=(b,1):=by unfold aa3;rw[if_pos l]
  rw[e];simp only;rw[G0];exact Bk2 s h i b P d f l
 ·rw[E7 (show(128:Int)<=b by omega),cond_false];by_cases u:b<194
  ·rw[B9 (show(b:Int)<194 by omega)];have e:aa3 (s.length-i) b (s.getD (i+1) 0).toNat (s.getD (i+2) 0).toNat (s.getD (i+3) 0).toNat=(65533,1):=by
    unfold aa3;grind
   rw[e,if_pos ⟨rfl,rfl⟩];simp only[b9,cond_false];unfold Nu;unfold Nt;rw[cond_false,B9 (show(b:Int)<224 by omega),B9 (show(b:Int)<240 by omega)];rfl
  ·rw[E7 (show(194:Int)<=b by omega)];simp only[j1,cond_true];by_cases o:b<224
   ·rw[B9 (show(b:Int)<224 by omega)];unfold Nu;have c:A1 ((b:Int)-192)=((b-192:Nat):Int):=by rw[A7];omega
    rw[cond_true,c,D98 _ _ _ _ _ ⟨by omega,o⟩ j];simp only[vl];refine a8 (Cd4 s h i (b-192) 128 P d f (by omega)) ?_;by_cases a:2<=s.length-i/\128<=(s.getD (i+1) 0).toNat/\(s.getD (i+1) 0).toNat<=191
    ·rw[if_pos a,if_pos a];simp only;rw[if_pos ⟨by omega,Cs7 (by omega)⟩,G0]
    ·rw[if_neg a,if_neg a,if_pos ⟨rfl,rfl⟩]
   ·rw[E7 (show(224:Int)<=b by omega)];unfold Nu;rw[cond_false,E7 (show(224:Int)<=b by omega)];simp only[j1,cond_true];by_cases p:b<240
    ·rw[B9 (show(b:Int)<240 by omega)];unfold Nt;have c:A1 ((b:Int)-224)=((b-224:Nat):Int):=by rw[A7];omega
     rw[cond_true,c,D99 _ _ _ _ _ ⟨by omega,p⟩ j m];simp only[vl];refine a8 (Cd5 s h i (b-224) 2048 P d f (by omega)) ?_;by_cases a:3<=s.length-i/\(128<=(s.getD (i+1) 0).toNat/\(s.getD (i+1) 0).toNat<=191)/\(128<=(s.getD (i+2) 0).toNat/\(s.getD (i+2) 0).toNat<=191)
     ·rw[if_pos a,if_pos a];split
      ·simp only;rw[G0]
      ·rw[if_pos ⟨rfl,rfl⟩]
     ·rw[if_neg a,if_neg a,if_pos ⟨rfl,rfl⟩]
    ·rw[E7 (show(240:Int)<=b by omega)];unfold Nt;rw[cond_false,E7 (show(240:Int)<=b by omega)];simp only[j1,cond_true];by_cases q:b<245
     ·rw[B9 (show(b:Int)<245 by omega),cond_true];have c:A1 ((b:Int)-240)=((b-240:Nat):Int):=by rw[A7];omega
      rw[c,Ea0 _ _ _ _ _ ⟨by omega,q⟩ j m t];simp only[vl];refine a8 (Cd6 s h i (b-240) 65536 P d f (by omega)) ?_;by_cases a:4<=s.length-i/\(128<=(s.getD (i+1) 0).toNat/\(s.getD (i+1) 0).toNat<=191)/\(128<=(s.getD (i+2) 0).toNat/\(s.getD (i+2) 0).toNat<=191)/\(128<=(s.getD (i+3) 0).toNat/\(s.getD (i+3) 0).toNat<=191)
      ·rw[if_pos a,if_pos a];split
       ·simp only;rw[G0]
       ·rw[if_pos ⟨rfl,rfl⟩]
      ·rw[if_neg a,if_neg a,if_pos ⟨rfl,rfl⟩]
     ·rw[E7 (show(245:Int)<=b by omega),cond_false];have e:aa3 (s.length-i) b (s.getD (i+1) 0).toNat (s.getD (i+2) 0).toNat (s.getD (i+3) 0).toNat=(65533,1):=by
       unfold aa3;grind
      rw[e,if_pos ⟨rfl,rfl⟩]
def Cd7(s:By)(k:s.length<=1000000000):∀(r i n:Nat) (P:List Nat),i+r=s.length->r<n->P.length<=i->
  (Df (s.drop i)=none->∃l,∀(R:Type) (k0 k1:LL->Option R),Ak LF n s i (B7 P) k0 k1=k0 l)/\
  (∀q,Df (s.drop i)=some q->∀(R:Type) (k0 k1:LL->Option R),Ak LF n s i (B7 P) k0 k1=k1 (B7 (P++q))):=by
 intro r
 induction r using ae0 with
 | _ r o=>
  intro i n P v w u;obtain⟨n,rfl⟩:∃m,n=m+1:=⟨n-1,by omega⟩
  by_cases j:i<s.length
  ·have d:s.drop i≠[]:=by rw[ne_eq,<-aa4,j7];omega
   have c:=λ(R:Type) (k0 k1:LL->Option R)=>Bl1 (k0:=k0) (k1:=k1) s k n i P (by omega) j
   have x:=Lib.decodeL_width (s.drop i);have g:=Lib.decodeL_le (s.drop i) d;rw[j7] at g;rw[Ca8 _ d];by_cases a:(p5 (s.drop i)).1=65533/\(p5 (s.drop i)).2=1
   ·rw[if_pos a];refine⟨λ_=>⟨B7 P,λR k0 k1=>?_⟩,λq b=>by cases b⟩;refine(c R k0 k1).trans ?_;rw[if_pos a]
   ·rw[if_neg a,ac2];obtain⟨w1,t⟩:=o (r-(p5 (s.drop i)).2) (by omega) (i+(p5 (s.drop i)).2) n (P++[(p5 (s.drop i)).1]) (by omega) (by omega) (by rw[j5,y8];omega);constructor
    ·intro h;cases b:Df (s.drop (i+(p5 (s.drop i)).2)) with
     | some q=>rw[b] at h;cases h
     | none=>
      obtain⟨l,e⟩:=w1 b;refine⟨l,λR k0 k1=>?_⟩;refine(c R k0 k1).trans ?_;rw[if_neg a];exact e R k0 k1
    ·intro q h R k0 k1;cases b:Df (s.drop (i+(p5 (s.drop i)).2)) with
     | none=>rw[b] at h;cases h
     | some p=>
      rw[b] at h;simp only[Option.map_some,z7] at h;subst h;refine(c R k0 k1).trans ?_;rw[if_neg a];refine(t p b R k0 k1).trans ?_;rw[y9];rfl
  ·have f:s.drop i=[]:=by rw[<-aa4,j7];omega
   have e:∀(R:Type) (k0 k1:LL->Option R),Ak LF (n+1) s i (B7 P) k0 k1=k1 (B7 P):=λR k0 k1=>by
    rw[Ak];rw[A6];rfl
   rw[f,show Df []=some [] from rfl];refine⟨λh=>(by cases h),λq b R k0 k1=>?_⟩;simp only[z7] at b;subst b;rw[ah2];exact e R k0 k1
def Dl8(s:By)(d:A3 s.length=true):∃r H,Dl5 LF s (λa=>rv (.tup [.fl 1,.s (.bool false)]) [.arr true 3 1 a,.arr true 3 1 []]) (λa=>rv (.tup [.fl 0,.s (.bool true)]) [.arr true 3 1 a])=rv r H/\
  r.stab [1,0] H = .tup [.s (.sl (Sr s).isEmpty (Sr s).isEmpty 1 (Ni (Sr s))),.s (.bool (Df s).isSome)]:=by
 have f:=L7 d;obtain⟨w1,c⟩:=Cd7 s f s.length 0 LF [] (by omega) (by have:=C5;omega) (ag9 _);rw[o5] at w1 c;unfold Sr;cases b:Df s with
 | none=>
  obtain⟨l,e⟩:=w1 b;exact⟨_,_,e _ _ _,rfl⟩
 | some q=>
  refine⟨_,_,c q b _ _ _,?_⟩;cases q<;>rfl
def Bj9{R:Type}{a:Unit->Option R}{d:By->Bool->LL->Bool->Option R}(s:By)(z:Bool)(p:List Nat)(t:p.length<=1000000000):∀(r i n:Nat) (b:Bool),i+r=p.length->r<n->
  Z8 LF n s z (B7 p) b (i:Int) a d=if (p.drop i).any (λp=>v7 65 p&&v7 p 90) then a () else d s z (B7 p) (b||((p.drop i).any λp=>v7 128 p)):=by
 intro r
 induction r with
 | zero=>
  intro i n b h j;obtain⟨n,rfl⟩:∃m,n=m+1:=⟨n-1,by omega⟩
  rw[Z8];rw[D4,A6,j2 (by omega)];simp
 | succ r k=>
  intro i n b h j;obtain⟨n,rfl⟩:∃m,n=m+1:=⟨n-1,by omega⟩
  rw[Z8];have f:A1 ((i:Int)+1)=((i+1:Nat):Int):=by rw[A7];rfl
  have g:p.drop i=p.getD i 0::p.drop (i+1):=by
   rw[o6,x6 (by omega),ad2,List.getElem_cons_drop]
  rw[D4,A8,F1,b8,Sa (by omega),CA _ _ (by omega),g,ab3,ab3,f];simp only[cond_true];generalize p.getD i 0=q;have go:∀c:Bool,Z8 LF n s z (B7 p) c ((i+1:Nat):Int) a d=_:=λc=>k (i+1) n c (by omega) (by omega)
  simp only[go];by_cases l:q<65
  ·rw[show ltI (q:Int) (65:Int)=true from A8,show v7 65 q=false by rw[o8,ne_eq,p4];omega];have e:v7 128 q=false:=by rw[o8,ne_eq,p4];omega
   rw[show ltI (q:Int) (128:Int)=true from A8,e];cases b<;>simp
  ·rw[show ltI (q:Int) (65:Int)=false from A6,show v7 65 q=true by rw[p4];omega];by_cases e:90<q
   ·rw[show ltI (90:Int) (q:Int)=true from A8,show v7 q 90=false by rw[o8,ne_eq,p4];omega];by_cases o:q<128
    ·rw[show ltI (q:Int) (128:Int)=true from A8,show v7 128 q=false by rw[o8,ne_eq,p4];omega];cases b<;>simp
    ·rw[show ltI (q:Int) (128:Int)=false from A6,show v7 128 q=true by rw[p4];omega];cases b<;>simp
   ·rw[show ltI (90:Int) (q:Int)=false from A6,show v7 q 90=true by rw[p4];omega];cases b<;>simp
def Bk0{R:Type}{a:Bool->Option R}(s:By)(b:A3 s.length=true):B00 LF s a=a (Er s):=by
 have c:=C5;unfold B00 Er;rw[b,cond_true];simp only[vl];by_cases h:(O5 s).2=0
 ·have e:(((O5 s).2:Int)!=(0:Int))=false:=by rw[h];rfl
  rw[e,cond_false,Ed,h];have g:=Ai5 s;refine a8 (Bj9 s _ (O5 s).1 (by omega) (O5 s).1.length 0 LF false (by omega) (by omega)) ?_;rw[o5];cases d:(O5 s).1.any (λp=>v7 65 p&&v7 p 90) with
  | true=>simp
  | false=>
   rw[if_neg (by simp),Eo,Wx,Wz];simp only[cond_true,vl,ab1,j1];by_cases f:(Du (O5 s).1).2=0;all_goals grind
 grind
def Bh7{R:Type}{g:Unit->Option R}{j:By->Option R}(s:By)(v:s.length<=1000000000):∀(r i n:Nat),i+r=s.length->r<n->
  O8 LF n s (i:Int) g j=if (s.drop i).all L5 then j s else g ():=by
 intro r
 induction r with
 | zero=>
  intro i n l c;obtain⟨n,rfl⟩:∃m,n=m+1:=⟨n-1,by omega⟩
  rw[O8];rw[A6,j2 (by omega)];rfl
 | succ r o=>
  intro i n l c;obtain⟨n,rfl⟩:∃m,n=m+1:=⟨n-1,by omega⟩
  rw[O8];have k:A1 ((i:Int)+1)=((i+1:Nat):Int):=by rw[A7];rfl
  rw[A8,F1,D3,D6 s i (by omega),k,ab2];simp only[cond_true];rw[o (i+1) n (by omega) (by omega)];generalize s.getD i 0=b;have f:=Cb b;have t:((b.toNat:Int)==45)=(b==45):=S6 b 45 (by omega);have u:((b.toNat:Int)==95)=(b==95):=S6 b 95 (by omega);rw[t,u];cases a:L5 b with
  | true=>
   rw[f] at a;simp only[y7];by_cases d:b=45
   ·subst d;simp (disch:=decide) [ltI]
   ·by_cases e:b=95
    ·subst e;simp (disch:=decide) [ltI]
    ·rcases a with a|a|a|a
     ·rw[show ltI (b.toNat:Int) 97=false from A6,show ltI (122:Int) b.toNat=false from A6];rfl
     ·rw[show ltI (b.toNat:Int) 97=true from A8,show ltI (b.toNat:Int) 48=false from A6,show ltI (57:Int) b.toNat=false from A6];rfl
     ·exact absurd a d
     ·exact absurd a e
  | false=>
   have c:¬((97<=b.toNat/\b.toNat<=122)\/(48<=b.toNat/\b.toNat<=57)\/b=45\/b=95):=λh=>by rw[f.2 h] at a;cases a
   have p:(b==45)=false:=by simpa using λh=>c (.inr (.inr (.inl h)))
   have q:(b==95)=false:=by simpa using λh=>c (.inr (.inr (.inr h)))
   rw[p,q];simp only[j1,cond_true,cond_false,Bool.false_and,x9,if_false];by_cases d:b.toNat<48
   ·rw[show ltI (b.toNat:Int) 97=true from A8,show ltI (b.toNat:Int) 48=true from A8];rfl
   ·by_cases e:b.toNat<97
    ·rw[show ltI (b.toNat:Int) 97=true from A8,show ltI (b.toNat:Int) 48=false from A6,show ltI (57:Int) b.toNat=true from A8];rfl
    ·rw[show ltI (b.toNat:Int) 97=false from A6,show ltI (122:Int) b.toNat=true from A8,show ltI (b.toNat:Int) 48=false from A6,show ltI (57:Int) b.toNat=true from A8];rfl
def C30(s:By)(h:4<=s.length):(s.take 4==([120,110,45,45]:List UInt8))=xnB.isPrefixOf s:=by
 match s,h with
 | a::b::c::d::t,_=>
  simp only[List.take_succ_cons,List.take_zero,xnB,ad8,ac6];rw[show((a::b::c::d::[])==([120,110,45,45]:List UInt8))=(a==120&&(b==110&&(c==45&&(d==45&&true)))) from rfl,ac6];rw[o7];simp only[k9,beq_iff_eq];exact⟨λh=>⟨h.1.symm,h.2.1.symm,h.2.2.1.symm,h.2.2.2.symm⟩,λh=>⟨h.1.symm,h.2.1.symm,h.2.2.1.symm,h.2.2.2.symm⟩⟩
def Bh8{R:Type}{c:Bool->Option R}(s:By)(e:A3 s.length=true):Bz6 LF s c=c (K6 s):=by
 have k:=L7 e;have i:=C5;unfold Bz6 K6;by_cases a:s=[]
 ·grind
 ·have r:0<s.length:=ae8.2 a;have j:s.isEmpty=false:=by simpa using a
  have b:(s==([]:List UInt8))=false:=by simpa using a
  rw[b,cond_false,j];by_cases n:63<s.length
  ·rw[A8,show v7 s.length 63=false by rw[o8,ne_eq,p4];omega];rfl
  ·rw[A6,cond_false,show v7 s.length 63=true by rw[p4];omega,F1];have m:(bAt s 0==(45:Int))=(s.getD 0 0==45):=by rw[Ba];exact S6 _ 45 (by omega)
   have d:A1 ((s.length:Int)-1)=((s.length-1:Nat):Int):=by rw[A7];omega
   rw[m,d];simp only[cond_true,vl];rw[F1,D3,show((((s.getD (s.length-1) 0).toNat:Nat):Int)==45)=(s.getD (s.length-1) 0==45) from S6 _ 45 (by omega)];cases f:(s.getD 0 0==45) with
   | true=>
    grind
   | false=>
    rw[show(s.getD 0 0 !=45)=true by unfold bne;rw[f];rfl];simp only[cond_true,cond_false];cases g:(s.getD (s.length-1) 0==45) with
    | true=>
     grind
    | false=>
     rw[show(s.getD (s.length-1) 0 !=45)=true by unfold bne;rw[g];rfl];simp only[cond_false];refine a8 (Bh7 s k s.length 0 LF (by omega) (by omega)) ?_;rw[o5];cases o:s.all L5 with
     | false=>simp
     | true=>
      rw[if_pos rfl];simp only[j1,y7,ac6];by_cases p:s.length<4
      ·rw[A8];have:xnB.isPrefixOf s=false:=by
        rw[o8,ne_eq,ac3];intro h;have:=h.length_le;simp only[xnB,j6,o9] at this;omega
       grind
      ·rw[A6,cond_false,I3,cond_true,L1];have l:(aa9 (j4 4) s==([120,110,45,45]:List UInt8))=xnB.isPrefixOf s:=C30 s (by omega);rw[l];cases q:xnB.isPrefixOf s with
       | false=>rfl
       | true=>
        rw[I3,Q5];simp only[b9,cond_false,cond_true];rw[D9 (by rw[j7];omega)];rfl
def Bh5{R:Type}{h:By->Int->Option R}(s:By)(c:A3 s.length=true):Bz5 LF s h=h (I7 s).1 ((I7 s).2:Nat):=by
 have m:=L7 c;have j:=C5;unfold Bz5 I7;rw[c,cond_true];cases f:Df s with
 | none=>rfl
 | some p=>
  have hN:(Sr s)=p:=by unfold Sr;rw[f];rfl
  rw[hN,Ed,D4];simp only[Option.isSome_some,b9,cond_false,cond_true];by_cases d:256<p.length
  ·rw[if_pos d,A8];rfl
  ·rw[if_neg d,A6,cond_false,D9 (by rw[Ag];exact m)];by_cases e:p.length<s.length
   ·rw[if_pos e,A8];have a:=Ao8 (l:=s) (by rw[f];rfl);cases g:Df (B6 s) with
    | none=>rw[g] at a;cases a
    | some q=>
     have b:Sr (B6 s)=q:=by unfold Sr;rw[g];rfl
     have k:=Aj5 q;rw[b,Ed,Eo,Wx,Wz];simp only[cond_true,vl];rw[G3 (by omega),cond_true,D9 (by rw[j5];simp only[j6,o9];omega),cond_true];by_cases i:(Du q).2=0
     ·rw[i,if_pos rfl];show cond (not (K6 (xnB++(Du q).1))) _ _=_;cases n:K6 (xnB++(Du q).1) with
      | true=>rfl
      | false=>rfl
     grind
   ·rw[if_neg e,A6];grind
section
variable {Z R : Type} (L : Nat) (Q : G4) (Y : Yh Z) (s : Z) (k : Out -> St Z -> Option R)
noncomputable abbrev JY:Code:=C7 ag4
noncomputable def Sw(L:Nat):Cfg:=B8 L [174] (A2 []) [] (A2 [(7,[2]),(2,[2]),(4,[2]),(6,[2]),(5,[0,23]),(3,[0,12]),(1,[0,2]),(0,[0])]) [] (A2 [(0,[])]) (some [2]) [] [] []
def NF{R:Type}(a:Int)(h:Bool)(f:Int->Option R)(g:Int->Bool->Option R):Option R:=cond h (vl (A1 (wu8 (a-97))) λb=>vl (A1 (b+10)) λc=>f c) (cond (not (ltI a 65)) (cond (not (ltI 70 a)) (vl (A1 (wu8 (a-65))) λd=>vl (A1 (d+10)) λe=>f e) (g a (not (ltI 70 a)))) (g a false))
abbrev Aq1(b:Code):Prop:=∀(k:Out->St Z->Option R) a c,A9 (Sw L) Q Y b ⟨gp [(0,p8 a),(12,pB c)] 21,[],s⟩ k=NF a c (λn0=>k .ret ⟨gp [(2,pI n0)] 32,[],s⟩) (λa c=>k .normal ⟨gp [(0,p8 a),(23,pB c)] 10,[],s⟩)
def Cc2:Aq1 (R:=R) L Q Y s (cd [1,0,0,1,1,1] JY):=by intro k a b;unfold NF;kernel_rfl
def NG{R:Type}(b:Int)(l:Bool)(f:Int->Option R)(j:Int->Bool->Option R):Option R:=cond l (vl (A1 (wu8 (b-48))) λg=>f g) (cond (not (ltI b 97)) (NF b (not (ltI 102 b)) (λh=>f h) (λc d=>j c d)) (NF b false (λi=>f i) (λe a=>j e a)))
abbrev NH(b:Code):Prop:=∀(k:Out->St Z->Option R) a c,A9 (Sw L) Q Y b ⟨gp [(0,p8 a),(2,pB c)] 31,[],s⟩ k=NG a c (λn0=>k .ret ⟨gp [(2,pI n0)] 32,[],s⟩) (λa c=>k .normal ⟨gp [(0,p8 a),(23,pB c)] 10,[],s⟩)
def Cc3(a:Code)(b:Aq1 (R:=R) L Q Y s a):NH (R:=R) L Q Y s (cd [1,0,0,1] (G7 [1,0,0,1,1,1] a JY)):=by intro k c d;unfold NG;simp only[<-b k];kernel_rfl
def Cc4:NH (R:=R) L Q Y s (cd [1,0,0,1] JY):=by intro k a b;exact a8 (by kernel_rfl) (Cc3 L Q Y s (cd [1,0,0,1,1,1] JY) (Cc2 L Q Y s) k a b)
def rhx{R:Type}(L:Nat)(c:Int)(d:Int->Option R):Option R:=cond (not (ltI c 48)) (NG c (not (ltI 57 c)) (λa=>d a) (λe f=>d (-1))) (NG c false (λb=>d b) (λg h=>d (-1)))
def D00(b:Code)(a:NH (R:=PV × List Blk × Z) L Q Y s b)(c:Int):A9 (Sw L) Q Y (cd [] (G7 [1,0,0,1] b JY)) ⟨[p8 c]++tps 34,[],s⟩ (F4 (Sw L) ag4)=rhx L c (λe=>some (pI e,[],s)):=by unfold rhx;exact let d:=(E2 0 (E1 (Sw L) Q Y (cd [1,1] JY) (F4 (Sw L) ag4)));(a8 (by kernel_rfl) (A0 ((a d c (not (ltI 57 c))).trans (by kernel_rfl)) ((a d c false).trans (by kernel_rfl))))
def D01(d:Nat)(b0):evC (Sw L) (d+1) Z Y 174 [p8 b0] [] s=rhx L b0 (λa=>some (pI a,[],s)):=
 (evE (fn:=ag4) (by kernel_rfl)).trans (a8 (by kernel_rfl) (D00 L (evC (Sw L) d) Y s (cd [1,0,0,1] JY) (Cc4 L (evC (Sw L) d) Y s) b0))
noncomputable abbrev Bu8:Code:=C7 ai3
noncomputable def Mo(L:Nat):Cfg:=B8 L [129] (A2 [(3,[0,1,0,0,0])]) [(174,Dt9)] (A2 [(11,[2,0]),(4,[0,3,0]),(10,[0,3,0]),(9,[0,3,0]),(8,[2,0]),(7,[0,3,0,36]),(6,[0,3,0]),(5,[0,3,0,9]),(3,[0,3,0,3]),(2,[0,3,0]),(1,[0,3]),(0,[0])]) [174] (A2 [(0,[4]),(1,[0,3,0])]) (some [2,0]) [] [] []
def Q2{R:Type}(L n:Nat)(b:By)(a:Int)(c:LL)(d:LL->Option R)(j:LL->Option R):Option R:=match n with|0=>none|n+1=>cond (ltI a (b.length:Int)) (cond (inR a b.length) (cond ((bAt b a)!=37) (cond (inR a b.length) (cond (G2 (c.length+1)) (Q2 L n b (A1 (a+1)) (c++[[(SV.int .u8 (bAt b a))]]) d j) none) none) (vl (A1 ((b.length:Int)-a)) λl=>cond (ltI l 3) (d c) (cond (inR (A1 (a+1)) b.length) (vl (bAt b (A1 (a+1))) λf=>cond (inR f 256) (cond (ltI (Fz (u8n f)) (0:Int)) (d c) (cond (inR (A1 (a+2)) b.length) (vl (bAt b (A1 (a+2))) λg=>cond (inR g 256) (cond (ltI (Fz (u8n g)) (0:Int)) (d c) (cond (inR (A1 (a+1)) b.length) (vl (bAt b (A1 (a+1))) λh=>cond (inR h 256) (vl (A1 ((16:Int)*(Fz (u8n h)))) λm=>cond (inR (A1 (a+2)) b.length) (vl (bAt b (A1 (a+2))) λi=>cond (inR i 256) (vl (A1 (m+(Fz (u8n i)))) λo=>cond (G2 (c.length+1)) (vl (A1 ((A1 (a+2))+1)) λe=>Q2 L n b e (c++[[(SV.int .u8 (wu8 o))]]) d j) none) none) none) none) none)) none) none)) none) none))) none) (j c)
def Ap9(n s0 i1 l2):D0 1 ((Mo L).keep 3) (bd (Mo L) Q Y (cd [1,1,0,1,0,0] Bu8)) n ⟨gp [(0,pS s0),(3,.fl 0),(0,pI i1)] 57,[.arr true 5 1 l2],s⟩ k =
 Q2 L n s0 i1 l2 (λa=>k .ret ⟨gp [(2,pS ([]:List UInt8)),(0,pB false)] 59,[.arr true 5 1 a],s⟩) (λa=>k (.exit 0) ⟨gp [(4,.fl 0)] 58,[.arr true 5 1 a],s⟩):=by
 induction n generalizing s0 i1 l2 with
 | zero=>rfl
 | succ n b=>rw[Q2];simp only[<-b];kernel_rfl
def Bz3{R:Type}(L:Nat)(d:By)(c:By->Bool->LL->Option R):Option R:=Q2 L L d 0 [] (λb=>c ([]:List UInt8) false b) (λa=>cond (af2 a Pb) (c (ad1 Mu a) true a) none)
def Cy3(d:Nat)(s0):evC (Mo L) (d+1) Z Y 129 [pS s0] [] s=Bz3 L s0 (λb c a=>some (.tup [pS b,pB c],[.arr true 5 1 a],s)):=by refine(evE (fn:=ai3) (by kernel_rfl)).trans ?_;generalize evC (Mo L) d=Q;unfold Bz3;exact(a8 (by kernel_rfl) ((Ap9 L Q Y s (E2 0 (E1 (Mo L) Q Y (cd [1,1,1] Bu8) (F4 (Mo L) ai3))) L s0 0 []).trans (by kernel_rfl)))
noncomputable abbrev Co1:Code:=C7 ai9
noncomputable def Un(L:Nat):Cfg:=B8 L [45] (A2 [(5,[2,0,0])]) [(75,Tp),(76,Ku),(77,VJ)] (A2 [(9,[2]),(6,[3,0]),(8,[2]),(7,[3,0,24]),(5,[3,0,16]),(4,[3,0]),(3,[3]),(2,[2]),(1,[0,14]),(0,[0])]) [75,77] (A2 [(0,[]),(1,[3,0])]) (some [2]) [] [] []
def Nr{R:Type}(L n:Nat)(b:LL)(a:Int)(c:Unit->Option R)(d:Unit->Option R):Option R:=match n with|0=>none|n+1=>cond (ltI a (b.length:Int)) (cond (inR a b.length) (cond (okE Pd b (j4 a) 0) (cond (A3 (j0 (gX b (j4 a) 0))) (cond (not (K6 (gX b (j4 a) 0))) (c ()) (Nr L n b (A1 (a+1)) c d)) none) none) none) (d ())
def Bh4(n p0 i1):D0 0 ((Un L).keep 5) (bd (Un L) Q Y (cd [1,1,1,0,1,0,0] Co1)) n ⟨gp [(3,.s (.sl false false 1 p0)),(0,pI i1)] 25,[],s⟩ k =
 Nr L n p0 i1 (λ_=>k .ret ⟨gp [(2,pB false)] 27,[],s⟩) (λ_=>k (.exit 0) ⟨gp [] 30,[],s⟩):=by
 induction n generalizing p0 i1 with
 | zero=>rfl
 | succ n a=>rw[Nr];simp only[<-a];kernel_rfl
def Dk8{R:Type}(L:Nat)(a:By)(b:Bool->Option R):Option R:=cond (a==[]) (b false) (cond (ltI 253 (a.length:Int)) (b false) (cond (A3 a.length) (cond (E9 a) (b false) (cond (A3 a.length) (vl (D5 (pcs (u8n (46:Int)) a)) λc=>Nr L L c 0 (λ_=>b false) (λ_=>b true)) none)) none))
def Dk9(d:Nat)(name0):evC (Un L) (d+1) Z Y 45 [pS name0] [] s=Dk8 L name0 (λb=>some (pB b,[],s)):=by refine(evE (fn:=ai9) (by kernel_rfl)).trans ?_;generalize evC (Un L) d=Q;unfold Dk8;exact(a8 (by kernel_rfl) (A0 rfl (A0 rfl (A0 (A0 rfl (A0 (A4 λa=>((Bh4 L Q Y s (E2 0 (E1 (Un L) Q Y (cd [1,1,1,1] Co1) (F4 (Un L) ai9))) L a 0).trans (by kernel_rfl))) rfl)) rfl))))
noncomputable def XQ(L:Nat):Cfg:=B8 L [42] (A2 []) [(45,A01)] (A2 [(9,[2]),(4,[2]),(6,[2]),(8,[2]),(7,[1,32]),(5,[1,1,2,16]),(3,[1,1,2,0]),(2,[1,1,2]),(1,[1,1]),(0,[1])]) [45] (A2 [(0,[])]) (some [2]) [] [] []
def Cy9{R:Type}(L:Nat)(c:Int)(b:By)(d e f g h i j l a:Int)(m:Bool->Int->By->Int->Int->Int->Int->Int->Int->Int->Int->Int->LL->Option R):Option R:=cond (c==1) (cond (A3 b.length) (cond (V0 b) (cond (d==0) (m ((e==0)&&((f==0)&&((g==0)&&((h==0)&&((i==0)&&((j==0)&&((l==0)&&((a==0)&&true)))))))) c b d e f g h i j l a (x3 8 [(SV.int .u16 (0:Int))])) (m false c b d e f g h i j l a (x3 8 [(SV.int .u16 (0:Int))]))) (m false c b d e f g h i j l a (x3 8 [(SV.int .u16 (0:Int))]))) none) (cond (c==2) (cond (b==[]) (m ((e==0)&&((f==0)&&((g==0)&&((h==0)&&((i==0)&&((j==0)&&((l==0)&&((a==0)&&true)))))))) c b d e f g h i j l a (x3 8 [(SV.int .u16 (0:Int))])) (m false c b d e f g h i j l a (x3 8 [(SV.int .u16 (0:Int))]))) (cond (c==3) (cond (b==[]) (m (d==0) c b d e f g h i j l a (x3 8 [(SV.int .u16 (0:Int))])) (m false c b d e f g h i j l a (x3 8 [(SV.int .u16 (0:Int))]))) (m false c b d e f g h i j l a (x3 8 [(SV.int .u16 (0:Int))]))))
def Cz0(d:Nat)(h0 h1 h2 h3 h4 h5 h6 h7 h8 h9 h10):evC (XQ L) (d+1) Z Y 42 [.agg [pI h0,pS h1,p32 h2,p16 h3,p16 h4,p16 h5,p16 h6,p16 h7,p16 h8,p16 h9,p16 h10]] [] s=Cy9 L h0 h1 h2 h3 h4 h5 h6 h7 h8 h9 h10 (λn f o g h i j l e m b c a=>some (pB n,[.box [pI f,pS o,p32 g,p16 h,p16 i,p16 j,p16 l,p16 e,p16 m,p16 b,p16 c],.arr false 26 1 a],s)):=by refine(evE (fn:=Tryz.f42) (by kernel_rfl)).trans ?_;generalize evC (XQ L) d=Q;unfold Cy9;kernel_rfl
noncomputable def XP(L:Nat):Cfg:=B8 L [59] (A2 []) [(42,VG),(96,Cl8),(97,Cm0)] (A2 [(8,[2]),(5,[2]),(7,[2]),(6,[1,10]),(4,[1,5,0]),(3,[1,5]),(2,[2]),(1,[1,3]),(0,[1])]) [42,96,97] (A2 [(0,[1])]) (some [2]) [] [] []
def Cy6{R:Type}(L:Nat)(j:Int)(l:By)(b c d e f g h i a:Int)(o:By->Int->By->Int->Int->Int->Int->Int->Int->Int->Int->Int->Option R):Option R:=cond (A3 l.length) (cond (ltN b 4294967296) (cond (ok8 c d e f g h i a) (cond (not (K4 (mkH j l b (n8 c d e f g h i a)))) (o ([]:List UInt8) j l b c d e f g h i a) (cond (j==1) (o l j l b c d e f g h i a) (cond (j==2) (cond (ltN b 4294967296) (o (V4 (j4 b)) j l b c d e f g h i a) none) (cond (ok8 c d e f g h i a) (vl (Ao (n8 c d e f g h i a)) λm=>cond (E6 1 m.length) (vl (([91]:List UInt8)++m) λn=>cond (E6 n.length 1) (vl (n++[93]) λp=>o p j l b c d e f g h i a) none) none) none)))) none) none) none
def Cy7(d:Nat)(h0 h1 h2 h3 h4 h5 h6 h7 h8 h9 h10):evC (XP L) (d+1) Z Y 59 [.agg [pI h0,pS h1,p32 h2,p16 h3,p16 h4,p16 h5,p16 h6,p16 h7,p16 h8,p16 h9,p16 h10]] [] s=Cy6 L h0 h1 h2 h3 h4 h5 h6 h7 h8 h9 h10 (λm e n f g h i j c l a b=>some (pS m,[.box [pI e,pS n,p32 f,p16 g,p16 h,p16 i,p16 j,p16 c,p16 l,p16 a,p16 b]],s)):=by refine(evE (fn:=Tryz.f59) (by kernel_rfl)).trans ?_;generalize evC (XP L) d=Q;unfold Cy6;kernel_rfl
noncomputable def XO(L:Nat):Cfg:=B8 L [20] (A2 []) [(45,A01)] (A2 [(3,[4]),(2,[4]),(1,[0,0,10]),(0,[0,0])]) [45] (A2 []) (some [4]) [] [] []
def Bz2{R:Type}(L:Nat)(b a:By)(c:Bool->Option R):Option R:=cond (A3 b.length) (cond (not (V0 b)) (c false) (cond (A3 a.length) (cond (not (V0 a)) (c false) (cond (b==a) (c true) (cond (ltI (b.length:Int) (a.length:Int)) (vl (A1 ((a.length:Int)-(b.length:Int))) λd=>cond (J0 (A1 (d-1)) (a.length:Int) a.length) (vl (cut a (A1 (d-1)) (a.length:Int)) λe=>cond (E6 1 b.length) (vl (([46]:List UInt8)++b) λf=>c (e==f)) none) none) (c false)))) none)) none
def Cy2(d:Nat)(super0 name1):evC (XO L) (d+1) Z Y 20 [pS super0,pS name1] [] s=Bz2 L super0 name1 (λa=>some (pB a,[],s)):=by refine(evE (fn:=Tryz.f20) (by kernel_rfl)).trans ?_;generalize evC (XO L) d=Q;unfold Bz2;kernel_rfl
end
section
variable {Z R : Type} (L : Nat) (Q : G4) (Y : Yh Z) (s : Z) (k : Out -> St Z -> Option R)
noncomputable abbrev T2:Code:=C7 ah9
noncomputable def L0(L:Nat):Cfg:=B8 L [93] (A2 [(23,[2,0,6,0,0])]) [(128,Cm1),(129,Bt0),(75,Tp),(130,Bt5),(76,Ku),(131,Bt3)] (A2 [(35,[2,0]),(34,[2,0]),(33,[2,7,108]),(32,[2,0]),(31,[2,7,105]),(24,[2,7,0,0]),(30,[2,7,0,0]),(29,[2,7,0,0,0]),(28,[2,7,0,0,0,94]),(27,[2,0]),(26,[2,7,0,0,0,0,89]),(25,[2,7,0,0,0,0]),(23,[2,7,0,0,79]),(22,[2,7,0,0]),(21,[2,7,0]),(20,[2,3,3]),(19,[2,0]),(18,[2,0]),(17,[2,5,74]),(16,[2,5,0]),(15,[2,3,69]),(14,[2,3]),(13,[2,3,62]),(12,[2,0]),(11,[2,3,51]),(10,[2,3,0]),(9,[2,0]),(8,[2,0]),(7,[2,1,43]),(6,[2,1,0]),(5,[2,0]),(4,[0,1,33]),(3,[0,1,22]),(2,[2,0]),(1,[0,1,14]),(0,[0,1])]) [129,75,130,131] (A2 [(0,[2,7]),(1,[2,7,0,0])]) (some [2,0]) [] [] []
def Ig{R:Type}(b:By)(e:Bool)(f:Unit->Option R)(g:Int->Int->Int->Int->Int->Int->Int->Int->Int->Int->LL->Option R)(h:By->Bool->Option R):Option R:=cond e (vl (A1 ((b.length:Int)-1)) λd=>cond (inR d b.length) (cond ((bAt b d)!=93) (f ()) (cond (ltI (b.length:Int) (2:Int)) (f ()) (vl (A1 ((b.length:Int)-1)) λc=>cond (J0 1 c b.length) (vl (cut b 1 c) λa=>cond (A3 a.length) (cond (not (ab5 (v6B a))) (g 14 0 0 0 0 0 0 0 0 0 [[(SV.int .u16 (↑(v6c 0 a):Int))],[(SV.int .u16 (↑(v6c 1 a):Int))],[(SV.int .u16 (↑(v6c 2 a):Int))],[(SV.int .u16 (↑(v6c 3 a):Int))],[(SV.int .u16 (↑(v6c 4 a):Int))],[(SV.int .u16 (↑(v6c 5 a):Int))],[(SV.int .u16 (↑(v6c 6 a):Int))],[(SV.int .u16 (↑(v6c 7 a):Int))]]) (g 0 3 (↑(v6c 0 a):Int) (↑(v6c 1 a):Int) (↑(v6c 2 a):Int) (↑(v6c 3 a):Int) (↑(v6c 4 a):Int) (↑(v6c 5 a):Int) (↑(v6c 6 a):Int) (↑(v6c 7 a):Int) [[(SV.int .u16 (↑(v6c 0 a):Int))],[(SV.int .u16 (↑(v6c 1 a):Int))],[(SV.int .u16 (↑(v6c 2 a):Int))],[(SV.int .u16 (↑(v6c 3 a):Int))],[(SV.int .u16 (↑(v6c 4 a):Int))],[(SV.int .u16 (↑(v6c 5 a):Int))],[(SV.int .u16 (↑(v6c 6 a):Int))],[(SV.int .u16 (↑(v6c 7 a):Int))]])) none) none))) none) (h b e)
abbrev Yo(b:Code):Prop:=∀(k:Out->St Z->Option R) a c,A9 (L0 L) Q Y b ⟨gp [(0,pS a),(1,.ptr 0 0 0),(22,pB c)] 97,[.box [pI (0:Int),pS ([]:List UInt8),p32 (0:Int),p16 (0:Int),p16 (0:Int),p16 (0:Int),p16 (0:Int),p16 (0:Int),p16 (0:Int),p16 (0:Int),p16 (0:Int)]],s⟩ k=Ig a c (λ_=>k .ret ⟨gp [(2,.ptr 0 0 0),(0,pI (14:Int))] 119,[.box [pI (0:Int),pS ([]:List UInt8),p32 (0:Int),p16 (0:Int),p16 (0:Int),p16 (0:Int),p16 (0:Int),p16 (0:Int),p16 (0:Int),p16 (0:Int),p16 (0:Int)]],s⟩) (λn0 e f g h i j l d m l10=>k .ret ⟨gp [(2,.ptr 0 0 0),(0,pI n0)] 119,[.box [pI e,pS ([]:List UInt8),p32 (0:Int),p16 f,p16 g,p16 h,p16 i,p16 j,p16 l,p16 d,p16 m],.arr false 26 1 l10],s⟩) (λa c=>k .normal ⟨gp [(0,pS a),(1,.ptr 0 0 0),(22,pB c)] 97,[.box [pI (0:Int),pS ([]:List UInt8),p32 (0:Int),p16 (0:Int),p16 (0:Int),p16 (0:Int),p16 (0:Int),p16 (0:Int),p16 (0:Int),p16 (0:Int),p16 (0:Int)]],s⟩)
def PB:Yo (R:=R) L Q Y s (cd [1,1,0,1] T2):=by intro k a b;unfold Ig;kernel_rfl
def J8{R:Type}(L n:Nat)(a:By)(e:LL)(c:Int)(g:Int->Option R)(h:By->Option R):Option R:=match n with|0=>none|n+1=>cond (ltI c (e.length:Int)) (cond (inR c e.length) (cond (okE Pd e (j4 c) 0) (cond (A3 (j0 (gX e (j4 c) 0))) (vl ((I7 (gX e (j4 c) 0))).1 λb=>vl (↑((I7 (gX e (j4 c) 0))).2:Int) λd=>cond (d !=0) (g d) (cond (ltI 0 c) (cond (E6 a.length 1) (vl (a++[46]) λf=>cond (E6 f.length b.length) (J8 L n (f++b) e (A1 (c+1)) g h) none) none) (cond (E6 a.length b.length) (J8 L n (a++b) e (A1 (c+1)) g h) none))) none) none) none) (h a)
def Td(n a p1 i2):D0 1 ((L0 L).keep 23) (bd (L0 L) Q Y (cd [1,1,1,1,1,1,1,1,1,0,1,0,0] T2)) n ⟨gp [(2,.ptr 0 0 0),(7,pS a),(0,.s (.sl false false 1 p1)),(0,pI i2)] 110,[.box [pI (0:Int),pS ([]:List UInt8),p32 (0:Int),p16 (0:Int),p16 (0:Int),p16 (0:Int),p16 (0:Int),p16 (0:Int),p16 (0:Int),p16 (0:Int),p16 (0:Int)]],s⟩ k =
 J8 L n a p1 i2 (λn0=>k .ret ⟨gp [(2,.ptr 0 0 0),(0,pI n0)] 119,[.box [pI (0:Int),pS ([]:List UInt8),p32 (0:Int),p16 (0:Int),p16 (0:Int),p16 (0:Int),p16 (0:Int),p16 (0:Int),p16 (0:Int),p16 (0:Int),p16 (0:Int)]],s⟩) (λa=>k (.exit 0) ⟨gp [(2,.ptr 0 0 0),(7,pS a)] 112,[.box [pI (0:Int),pS ([]:List UInt8),p32 (0:Int),p16 (0:Int),p16 (0:Int),p16 (0:Int),p16 (0:Int),p16 (0:Int),p16 (0:Int),p16 (0:Int),p16 (0:Int)]],s⟩):=by
 induction n generalizing a p1 i2 with
 | zero=>rfl
 | succ n b=>rw[J8];simp only[<-b];kernel_rfl
def Ef{R:Type}(L:Nat)(b:By)(c:Int->Int->By->Int->Option R):Option R:=cond (A3 b.length) (cond (E9 b) (cond (A3 b.length) (cond (not (ab5 (pnB b))) (c 14 0 ([]:List UInt8) 0) (c 0 2 ([]:List UInt8) (↑(N8 (pnB b)):Int))) none) (cond (A3 b.length) (vl (D5 (pcs (u8n (46:Int)) b)) λd=>J8 L L ([]:List UInt8) d 0 (λe=>c e 0 ([]:List UInt8) 0) (λa=>cond (ltI 253 (a.length:Int)) (c 3 0 ([]:List UInt8) 0) (cond (A3 a.length) (cond (E9 a) (c 14 0 ([]:List UInt8) 0) (c 0 1 a 0)) none))) none)) none
abbrev Yp(b:Code):Prop:=∀(k:Out->St Z->Option R) s0,A9 (L0 L) Q Y b ⟨gp [(2,.ptr 0 0 0),(3,pS s0)] 116,[.box [pI (0:Int),pS ([]:List UInt8),p32 (0:Int),p16 (0:Int),p16 (0:Int),p16 (0:Int),p16 (0:Int),p16 (0:Int),p16 (0:Int),p16 (0:Int),p16 (0:Int)]],s⟩ k=Ef L s0 (λn0 a d c=>k .ret ⟨gp [(2,.ptr 0 0 0),(0,pI n0)] 119,[.box [pI a,pS d,p32 c,p16 (0:Int),p16 (0:Int),p16 (0:Int),p16 (0:Int),p16 (0:Int),p16 (0:Int),p16 (0:Int),p16 (0:Int)]],s⟩)
def PC:Yp (R:=R) L Q Y s (cd [1,1,1,1,1,1] T2):=by intro k b;unfold Ef;exact(a8 (by kernel_rfl) (A0 (A0 (A0 (A0 rfl rfl) rfl) (A0 (A4 λa=>((Td L Q Y s (E2 0 (E1 (L0 L) Q Y (cd [1,1,1,1,1,1,1,1,1,1] T2) k)) L ([]:List UInt8) a 0).trans (by kernel_rfl))) rfl)) rfl))
def Np{R:Type}(L:Nat)(b:By)(c:Int->Int->By->Int->Option R):Option R:=cond (A3 b.length) (cond (E9 b) (cond (A3 b.length) (cond (not (ab5 (pnB b))) (c 14 0 ([]:List UInt8) 0) (c 0 2 ([]:List UInt8) (↑(N8 (pnB b)):Int))) none) (cond (A3 b.length) (vl (D5 (pcs (u8n (46:Int)) b)) λd=>J8 L L ([]:List UInt8) d 0 (λe=>c e 0 ([]:List UInt8) 0) (λa=>cond (ltI 253 (a.length:Int)) (c 3 0 ([]:List UInt8) 0) (cond (A3 a.length) (cond (E9 a) (c 14 0 ([]:List UInt8) 0) (c 0 1 a 0)) none))) none)) none
abbrev Yq(b:Code):Prop:=∀(k:Out->St Z->Option R) s0 b1,A9 (L0 L) Q Y b ⟨gp [(2,.ptr 0 0 0),(3,pS s0),(62,pB b1)] 53,[.box [pI (0:Int),pS ([]:List UInt8),p32 (0:Int),p16 (0:Int),p16 (0:Int),p16 (0:Int),p16 (0:Int),p16 (0:Int),p16 (0:Int),p16 (0:Int),p16 (0:Int)]],s⟩ k=Np L s0 (λn0 a d c=>k .ret ⟨gp [(2,.ptr 0 0 0),(0,pI n0)] 119,[.box [pI a,pS d,p32 c,p16 (0:Int),p16 (0:Int),p16 (0:Int),p16 (0:Int),p16 (0:Int),p16 (0:Int),p16 (0:Int),p16 (0:Int)]],s⟩)
def PE:Yq (R:=R) L Q Y s (cd [1,1,1,1,1,1] T2):=by intro k c b;unfold Np;exact(a8 (by kernel_rfl) (A0 (A0 (A0 (A0 rfl rfl) rfl) (A0 (A4 λa=>((Td L Q Y s (E2 0 (E1 (L0 L) Q Y (cd [1,1,1,1,1,1,1,1,1,1] T2) k)) L ([]:List UInt8) a 0).trans (by kernel_rfl))) rfl)) rfl))
def Eg{R:Type}(L:Nat)(a:By)(r:Int->Int->By->Int->Option R):Option R:=cond (A3 a.length) (cond (not (ab5 (R8 a))) (r 14 0 ([]:List UInt8) 0) (cond (not ((Gg a)==[])) (vl (A1 ((↑(j0 (Gg a)):Int)-1)) λb=>cond (inR b (j0 (Gg a))) (cond ((bAt (Gg a) b)==46) (vl (A1 ((↑(j0 (Gg a)):Int)-1)) λc=>cond (J0 0 c (j0 (Gg a))) (vl (cut (Gg a) (0:Int) c) λn=>Ef L n (λd e o f=>r d e o f)) none) (Np L (Gg a) (λg h p i=>r g h p i))) none) (Np L (Gg a) (λj l q m=>r j l q m)))) none
abbrev Nq(b:Code):Prop:=∀(k:Out->St Z->Option R) raw0 b1,A9 (L0 L) Q Y b ⟨gp [(0,pS raw0),(1,.ptr 0 0 0),(22,pB b1)] 97,[.box [pI (0:Int),pS ([]:List UInt8),p32 (0:Int),p16 (0:Int),p16 (0:Int),p16 (0:Int),p16 (0:Int),p16 (0:Int),p16 (0:Int),p16 (0:Int),p16 (0:Int)]],s⟩ k=Eg L raw0 (λn0 a d c=>k .ret ⟨gp [(2,.ptr 0 0 0),(0,pI n0)] 119,[.box [pI a,pS d,p32 c,p16 (0:Int),p16 (0:Int),p16 (0:Int),p16 (0:Int),p16 (0:Int),p16 (0:Int),p16 (0:Int),p16 (0:Int)]],s⟩)
def PG(b:Code)(c:Yp (R:=R) L Q Y s b)(a:Yq (R:=R) L Q Y s b):Nq (R:=R) L Q Y s (cd [1,1,1] (G7 [1,1,1,1,1,1] b T2)):=by intro k d h;unfold Eg;exact(a8 (by kernel_rfl) (A0 (A0 rfl (A0 (A4 λe=>(A0 (A0 (A4 λg=>(A0 (A4 λf=>((c k f).trans (by kernel_rfl))) rfl)) ((a k (Gg d) ((bAt (Gg d) e)==46)).trans (by kernel_rfl))) rfl)) ((a k (Gg d) false).trans (by kernel_rfl)))) rfl))
def PH:Nq (R:=R) L Q Y s (cd [1,1,1] T2):=by intro k a b;exact a8 (by kernel_rfl) (PG L Q Y s (cd [1,1,1,1,1,1] T2) (PC L Q Y s) (PE L Q Y s) k a b)
def Yn{R:Type}(L:Nat)(a:By)(j:Int->By->Int->Int->Int->By->Int->Option R)(O:Int->Int->Int->Int->Int->Int->Int->Int->Int->Int->LL->Option R):Option R:=cond (ltI 1024 (a.length:Int)) (j 0 ([]:List UInt8) 0 3 0 ([]:List UInt8) 0) (cond (not (a==[])) (cond (inR 0 a.length) (Ig a ((bAt a (0:Int))==91) (λ_=>j 0 ([]:List UInt8) 0 14 0 ([]:List UInt8) 0) (λn o p q r t u v w x l=>O o p q r t u v w x n l) (λb M=>Eg L b (λy d h e=>j d h e y d h e))) none) (Ig a false (λ_=>j 0 ([]:List UInt8) 0 14 0 ([]:List UInt8) 0) (λz A B C D F G H I J m=>O A B C D F G H I J z m) (λc N=>Eg L c (λK f i g=>j f i g K f i g))))
def Bh1(e:Code)(a:Yo (R:=PV × List Blk × Z) L Q Y s e)(d:Code)(b:Nq (R:=PV × List Blk × Z) L Q Y s d)(c:By):A9 (L0 L) Q Y (cd [] (G7 [1,1,1] d (G7 [1,1,0,1] e T2))) ⟨[pS c]++tps 122,[],s⟩ (F4 (L0 L) ah9)=Yn L c (λj l m n v y w=>some (.tup [.agg [pI j,pS l,p32 m,p16 (0:Int),p16 (0:Int),p16 (0:Int),p16 (0:Int),p16 (0:Int),p16 (0:Int),p16 (0:Int),p16 (0:Int)],pI n],[.box [pI v,pS y,p32 w,p16 (0:Int),p16 (0:Int),p16 (0:Int),p16 (0:Int),p16 (0:Int),p16 (0:Int),p16 (0:Int),p16 (0:Int)]],s)) (λj l m n q r t u r8 x l10=>some (.tup [.agg [pI j,pS ([]:List UInt8),p32 (0:Int),p16 l,p16 m,p16 n,p16 q,p16 r,p16 t,p16 u,p16 r8],pI x],[.box [pI j,pS ([]:List UInt8),p32 (0:Int),p16 l,p16 m,p16 n,p16 q,p16 r,p16 t,p16 u,p16 r8],.arr false 26 1 l10],s)):=by unfold Yn;exact let o:=(F4 (L0 L) ah9);let p:=(E1 (L0 L) Q Y d o);(a8 (by kernel_rfl) (A0 rfl (A0 (A0 ((a p c ((bAt c (0:Int))==91)).trans (congr (congr (congr rfl (by kernel_rfl)) (by kernel_rfl)) (fx2 λf h=>(a8 (by kernel_rfl) ((b o f h).trans (by kernel_rfl)))))) rfl) ((a p c false).trans (congr (congr (congr rfl (by kernel_rfl)) (by kernel_rfl)) (fx2 λg i=>(a8 (by kernel_rfl) ((b o g i).trans (by kernel_rfl)))))))))
def Bh2(d:Nat)(raw0):evC (L0 L) (d+1) Z Y 93 [pS raw0] [] s=Yn L raw0 (λa b c e j n l=>some (.tup [.agg [pI a,pS b,p32 c,p16 (0:Int),p16 (0:Int),p16 (0:Int),p16 (0:Int),p16 (0:Int),p16 (0:Int),p16 (0:Int),p16 (0:Int)],pI e],[.box [pI j,pS n,p32 l,p16 (0:Int),p16 (0:Int),p16 (0:Int),p16 (0:Int),p16 (0:Int),p16 (0:Int),p16 (0:Int),p16 (0:Int)]],s)) (λa b c e f g h i r8 m l10=>some (.tup [.agg [pI a,pS ([]:List UInt8),p32 (0:Int),p16 b,p16 c,p16 e,p16 f,p16 g,p16 h,p16 i,p16 r8],pI m],[.box [pI a,pS ([]:List UInt8),p32 (0:Int),p16 b,p16 c,p16 e,p16 f,p16 g,p16 h,p16 i,p16 r8],.arr false 26 1 l10],s)):=
 (evE (fn:=ah9) (by kernel_rfl)).trans (a8 (by kernel_rfl) (Bh1 L (evC (L0 L) d) Y s (cd [1,1,0,1] T2) (PB L (evC (L0 L) d) Y s) (cd [1,1,1] T2) (PH L (evC (L0 L) d) Y s) raw0))
end
end
end Go.Proofs.YtfkhfkjcidamaaaGreatDoor.E
