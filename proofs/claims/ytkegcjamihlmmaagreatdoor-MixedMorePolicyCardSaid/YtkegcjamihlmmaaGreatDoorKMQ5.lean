/-
  Parts of the proof, merged by a program of the prover's own; no condition.
-/
import Derived.Test.YtkegcjamihlmmaaGreatDoorKMQ4
import Derived.BigQuiet
import Derived.Deep.QuietTactic
import Derived.Laws.Runes
import Derived.Shelf.Abstract
import Derived.Test.YtkegcjamihlmmaaGreatDoorProg
import Derived.WalkKit
import Derived.WideMake
open Eq renaming trans->a8
open Int renaming toNat_natCast->b8,toNat->j7,eq_ofNat_of_zero_le->w6,tmod->w9,tdiv->x5,mul->ad0,mul_comm->ai7
open Bool renaming not_true->b9,not_false->j2,and_eq_true->o6,eq_false_iff->o8,eq_iff_iff->p5,true_and->x6,not_eq_true'->aa0,false_eq_true->aa4,or_eq_true->ac2,and_true->ad2,false_or->ad3,not_and->ai6
open List renaming length->j4,drop_of_length_le->j5,length_append->j6,length_cons->j8,length_drop->j9,getD_eq_getElem?_getD->o5,length_take->o7,drop_zero->o9,length_nil->p6,getElem?_eq_getElem->p7,length_map->v8,length_singleton->x3,append_assoc->x4,replicate->x8,getD_cons_zero->y5,takeWhile_cons->y7,nil_append->y8,length_pos_iff->aa2,length_eq_zero_iff->aa6,drop_drop->aa7,countP_le_length->ab0,getElem_mem->ab2,take->ab3,all_cons->ab6,any_cons->ab7,mem_cons->ab8,append_nil->ac3,map_append->ac4,drop->ac7,contains_cons->ac8,isPrefixOf_iff_prefix->ac9,countP_cons_of_neg->ad5,isEmpty_iff->ad6,map->ad7,getElem_cons_drop->ad9,toArray->ae0,drop_left'->ae3,head?_cons->ae4,isPrefixOf->ae5,take_left->af0,getD_cons_succ->af5,all->ag1,not_mem_nil->ag5,take_length->ag6,takeWhile->ah4,isEmpty->ai9
open Go.Proofs.Tryz renaming prog->k9,underlying79->aa9,underlying9->ab5,func56->ac0,ntmps56->ae1,f118->af4,underlying36->ag3,f144->ag7,f13->ah7,f21->ah8,f24->ah9,f65->ai0,f69->ai1,f70->ai2,f96->ai3,f23->aj2,f36->aj3,f41->aj4,f61->aj5,f89->aj6,func28->aj7
open Exists renaming intro->o0
open Nat renaming ble_eq->p4,ble->w8,le_refl->x7,div_le_self->aa3,ble_eq_true_of_le->ab1,add_lt_add_iff_right->ad4,strongRecOn->ae6,le_of_ble_eq_true->ae8,blt_eq->af7,zero_le->ag9,mod_lt->ah5,mul_le_mul->ah6,sub_zero->aj0,zero_add->aj1
open Go.Lib renaming decodeL->p9,indexByte->z7,decodeN->aa5,cut->ad1,join->ae9,joinTail->ag0,size_eq->ag8,decDigits->ai4
open Option.some renaming injEq->v7
open UInt8 renaming ofNat->x9,toNat_inj->y9,toNat->ah0
open Option renaming getD_some->aa1,bind_some->ab4,isSome->ab9,map_some->ae7,isSome_some->af8
open Go.MapKept renaming run_getObj_map->aa8,run_findKey->ac5,run_checkKey->af1,IsKey->ai5
open Go.Utf8 renaming encode->ac1,decode->af3
open Go.Instr renaming lookup->ac6,mapUpdate->ae2,findNow->af6,checkKey->ah3
open Array renaming getElem?_eq_none->ad8,toList_push->af9,toList_inj->ag4,size_push->ah1
open Go.Result renaming andThen->af2
open Go.RowKit.Below renaming refl->ag2
open Ne renaming symm->ah2
open List.Sublist renaming length_le->ai8
namespace Go.Proofs.YtkegcjamihlmmaaGreatDoor.E
set_option linter.all false
section
open Go Go.Proofs
set_option maxRecDepth 100000
def hpT(name tail b user a:By):U0 × Nat:=
 if (C4 name).2≠0 then (Al,(C4 name).2)
 else match Ii (-1) (tail.drop 1) with
  | none=>(Al,16)
  | some p=>(⟨b,user,(C4 name).1,if p=Q1 b then -1 else p,a⟩,0)
def hpC(name tail b user a:By):U0 × Nat:=if tail≠[]/\tail.head?≠some 58 then (Al,4) else hpT name tail b user a
theorem Ya(c user b a:By):N8 c user b a=match Fd a with|none=>(Al,4)|some (name,tail)=>hpC name tail c user b:=by
 unfold N8;cases Fd a with
 | none=>rfl
 | some q=>
  obtain⟨name,tail⟩:=q;rfl
theorem Vg{t:By}(h:t=[]\/t.head? = some 58):Hx t [58]=t.drop 1:=by
 rcases h with rfl|h
 ·rfl
 ·cases t with
  | nil=>cases h
  | cons b r=>
   simp only[ae4,v7] at h;subst h;simp[Hx]
theorem AJ(name tail:By)(f:name.length<=1000000000)(j:tail.length<=1000000000)(h:tail=[]\/tail.head? = some 58)(d u:By)(v:Int)(y:By)(w n8 x k l m n o r:Int)(c:By) :
  ∃B H,∀(R:Type) (a:Int->Blk->By->By->Int->By->Int->Int->Int->Int->Int->Int->Int->Int->Int->Int->By->List Blk->Option R),X5 name tail d u v y w n8 x k l m n o r (-1) c a=(λq=>a (uE q) B (uS q) (uU q) (uK q) (uN q) (uV q) (uA q 0) (uA q 1) (uA q 2) (uA q 3) (uA q 4) (uA q 5) (uA q 6) (uA q 7) (uP q) (uR q) H) (hpT name tail d u c):=by
 have i:(tail.drop 1).length<=1000000000:=by rw[j9];omega
 by_cases b:(C4 name).2=0
 ·cases g:Ii (-1) (tail.drop 1) with
  | none=>
   apply o0;apply o0;intro R a;unfold X5 hpT;rw[E7 f,cond_true,Vg h,E7 j];simp only[vl,cond_true];rw[b,E7 i,g];rfl
  | some p=>
   have t:=Cy2 g;by_cases e:p=Q1 d
   ·apply o0;apply o0;intro R a;unfold X5 hpT;rw[E7 f,cond_true,Vg h,E7 j];simp only[vl,cond_true];rw[b,E7 i,g,t,show(p !=Q1 d)=false by simpa using e];simp only[e,if_true];rfl
   ·apply o0;apply o0;intro R a;unfold X5 hpT;rw[E7 f,cond_true,Vg h,E7 j];simp only[vl,cond_true];rw[b,E7 i,g,t,show(p !=Q1 d)=true by simpa using e];simp only[e,if_false];rfl
 ·apply o0;apply o0;intro R a;unfold X5 hpT;rw[E7 f,cond_true];simp only[vl];rw[show(((C4 name).2:Int)!=0)=true by simpa using b,cond_true,if_pos b];rfl
theorem Oo(name tail:By)(w:name.length<=1000000000)(x:tail.length<=1000000000)(l m:By)(p:Int)(v:By)(t n8 u d f g i j k:Int)(a:By) :
  ∃B H,∀(R:Type) (c:Int->Blk->By->By->Int->By->Int->Int->Int->Int->Int->Int->Int->Int->Int->Int->By->List Blk->Option R),R3 name tail l m p v t n8 u d f g i j k (-1) a c=(λq=>c (uE q) B (uS q) (uU q) (uK q) (uN q) (uV q) (uA q 0) (uA q 1) (uA q 2) (uA q 3) (uA q 4) (uA q 5) (uA q 6) (uA q 7) (uP q) (uR q) H) (hpC name tail l m a):=by
 cases tail with
 | nil=>
  obtain⟨B,H,e⟩:=AJ name [] w x (.inl rfl) l m p v t n8 u d f g i j k a;refine⟨B,H,λR c=>?_⟩;unfold R3 hpC;exact e R c
 | cons b r=>
  by_cases n:b=58
  ·subst n;obtain⟨B,H,e⟩:=AJ name (58::r) w x (.inr rfl) l m p v t n8 u d f g i j k a;refine⟨B,H,λR c=>?_⟩;unfold R3 hpC;rw[K7 (by omega) (by simp),if_neg (by simp)];exact e R c
  ·apply o0;apply o0;intro R c;unfold R3 hpC;have o:(((b.toNat:Int))!=(58:Int))=true:=by
    rw[bne_iff_ne];intro h;have y:b.toNat=58:=by omega
    exact n (y9.1 y)
   rw[K7 (by omega) (by simp),if_pos (by simpa using n),Ay,y5,o];rfl
theorem Bz3{c:UInt8}{s:By}(h:Ic c s=none):z7 s c=-1:=by rw[Kp,h]
theorem ZH{c:UInt8}{s:By}{k:Nat}(h:Ic c s=some k):z7 s c=(k:Int)/\k<s.length:=by obtain⟨p,r,rfl,_,rfl⟩:=Sd h;exact⟨by rw[Kp,h],by simp⟩
theorem D22(c:UInt8)(s:By):([c]:By).isPrefixOf s=(s.head? == some c):=by
 cases s with
 | nil=>rfl
 | cons b r=>
  grind
abbrev KU(R:Type):=By->By->Int->By->Int->Int->Int->Int->Int->Int->Int->Int->Int->Int->By->Int->List Blk->Option R
abbrev LH{R:Type}(a:KU R)(q:U0 × Nat)(H:List Blk):Option R:=a (uS q) (uU q) (uK q) (uN q) (uV q) (uA q 0) (uA q 1) (uA q 2) (uA q 3) (uA q 4) (uA q 5) (uA q 6) (uA q 7) (uP q) (uR q) (uE q) H
theorem Br5(u:By)(J:Int)(O:By)(v4 y z A C D F G I:Int)(t a:By)(h2:A3 a.length=true) :
  ∃H,∀(R:Type) (o:KU R),Wk LF u [] J O v4 y z A C D F G I (-1) t a o=LH o (G5 u t a) H:=by
 have ha:=L4 h2;have ge:=ML 64 a;have key:∀(x b:By),b.length<=1000000000->∃H,∀(R:Type) (o:KU R),(cond (A3 (j4 b)) (cond (ae5 (([91]:List UInt8)) b)
   (cond (A3 (j4 b))
    (vl (z7 b (u8n (93:Int))) λc=>
    cond (ltI c (0:Int))
     (o ([]:List UInt8) ([]:List UInt8) 0 ([]:List UInt8) 0 0 0 0 0 0 0 0 0 0 ([]:List UInt8) 4 [(bU u x J O v4 y z A C D F G I (-1) t),bU0])
     (cond (I9 (0:Int) (A1 (c+(1:Int))) (j4 b))
      (cond (I9 (A1 (c+(1:Int))) (↑(j4 b):Int) (j4 b))
       (R3 (cut b (0:Int) (A1 (c+(1:Int)))) (cut b (A1 (c+(1:Int))) (↑(j4 b):Int)) u x J O v4 y z A C D F G I (-1) t (λn0 T P Q K S L M n8 N f g i j l m n q=>o P Q K S L M n8 N f g i j l m n n0 (T::((bU P Q K S L M n8 N f g i j l m n)::q))))
       (none))
      (none)))
    (none))
   (cond (A3 (j4 b))
    (vl (z7 b (u8n (58:Int))) λd=>
    cond (not (ltI d (0:Int)))
     (cond (I9 (0:Int) d (j4 b))
      (cond (I9 d (↑(j4 b):Int) (j4 b))
       (R3 (cut b (0:Int) d) (cut b d (↑(j4 b):Int)) u x J O v4 y z A C D F G I (-1) t (λn0 T P Q K S L M n8 N f g i j l m n q=>o P Q K S L M n8 N f g i j l m n n0 (T::((bU P Q K S L M n8 N f g i j l m n)::q))))
      (none))
     (none))
     (R3 b ([]:List UInt8) u x J O v4 y z A C D F G I (-1) t (λn0 T P Q K S L M n8 N f g i j l m n q=>o P Q K S L M n8 N f g i j l m n n0 (T::((bU P Q K S L M n8 N f g i j l m n)::q)))))
    (none))) none)=LH o (N8 u x t b) H:=by
  intro x b hb;rw[Ya];unfold Fd;have w:A3 b.length=true:=E7 hb;have W:u8n (93:Int)=93:=rfl;have U:u8n (58:Int)=58:=rfl;by_cases v:b.head? = some 91
  ·rw[if_pos v];have Z:([91]:By).isPrefixOf b=true:=by rw[D22,v];rfl
   cases Y:Ic 93 b with
   | none=>
    apply o0;intro R o;rw[w,Z,W,Bz3 Y];rfl
   | some k=>
    obtain⟨e,hk⟩:=ZH Y;have e1:A1 ((k:Int)+1)=((k+1:Nat):Int):=by rw[A7];rfl
    obtain⟨B,H,X⟩:=Oo (b.take (k+1)) (b.drop (k+1)) (by rw[o7];omega) (by rw[j9];omega) u x J O v4 y z A C D F G I t;apply o0;intro R o;rw[w,Z,W,e];simp only[vl,cond_true];rw[A6,cond_false,e1,I4,I4,cond_true,cond_true,L2,Q6,b8,X]
  ·rw[if_neg v];have Z:([91]:By).isPrefixOf b=false:=by rw[D22];simpa using v
   cases Y:Ic 58 b with
   | none=>
    obtain⟨B,H,X⟩:=Oo b [] hb (by simp) u x J O v4 y z A C D F G I t;apply o0;intro R o;rw[w,Z,U,Bz3 Y];simp only[vl,cond_true,cond_false];rw[A9,b9,cond_false,X]
   | some k=>
    obtain⟨e,hk⟩:=ZH Y;obtain⟨B,H,X⟩:=Oo (b.take k) (b.drop k) (by rw[o7];omega) (by rw[j9];omega) u x J O v4 y z A C D F G I t;apply o0;intro R o;rw[w,Z,U,e];simp only[vl,cond_true,cond_false];rw[A6,j2,cond_true,I4,I4,cond_true,cond_true,L2,Q6,b8,X]
 have V:u8n (64:Int)=64:=rfl;unfold G5;by_cases h:0<=L3 64 a
 ·obtain⟨p,r,rfl,_,hl⟩:=MN h;rw[if_pos h,hl,b8];rw[j6,j8] at ha;obtain⟨H,e⟩:=key ((p++64::r).take p.length) ((p++64::r).drop (p.length+1)) (by rw[j9,j6,j8];omega);refine⟨H,λR o=>?_⟩;refine a8 ?_ (e R o);have e1:A1 ((p.length:Int)+1)=((p.length+1:Nat):Int):=by rw[A7];rfl
  have ln:(p++64::r).length=p.length+r.length+1:=by rw[j6,j8];omega
  unfold Wk;rw[h2,V,hl];simp only[vl,cond_true];rw[A6,j2,cond_true,e1,I4,I4,cond_true,cond_true,L2,Q6,b8,b8];rfl
 ·rw[if_neg h];obtain⟨H,e⟩:=key [] a ha;refine⟨H,λR o=>?_⟩;refine a8 ?_ (e R o);unfold Wk;rw[h2,V];simp only[vl,cond_true];rw[A9,b9,cond_false];rfl
def Tru(x:Option (PV × List Blk × Unit)):Prop:=∃H,x=some (.s (.bool true),H,())
theorem eq8{v6:List Nat}(h:v6.length=8):∃a b c d e f g i,v6=[a,b,c,d,e,f,g,i]:=by
 match v6,h with
 | [a,b,c,d,e,f,g,i],_=>exact⟨a,b,c,d,e,f,g,i,rfl⟩
theorem Dk3{a b c d e f g i:Nat}(h:∀x∈[a,b,c,d,e,f,g,i],x<65536):ok8 a b c d e f g i=true:=by
 have q:∀x∈[a,b,c,d,e,f,g,i],ltN (x:Int) 65536=true:=λx j=>E2.2 ⟨by omega,by have:=h x j;omega⟩
 simp[ok8,q a,q b,q c,q d,q e,q f,q g,q i]
theorem GH{h:B5}(a:J7 h=true):h.name.length<=253:=by
 unfold J7 at a;split at a
 ·simp only[o6] at a;exact(Ji.1 a.1.1).le
 ·split at a
  ·simp only[o6,ad6] at a;rw[a.1];simp
  ·split at a
   ·simp only[o6,ad6] at a;rw[a.1];simp
   ·cases a
theorem Xo{h:B5}(ok:Dh h):(P0 h).length<=300:=by
 cases a:J7 h with
 | false=>rw[LZ a];simp
 | true=>
  have d:=GH a;have c:=Bs7 _ ok.v6.1 ok.v6.2;have b:=C76 _ ok.v4;unfold P0;rw[if_pos a];split
  ·omega
  ·split
   ·omega
   ·simp only[j8,j6,p6];omega
theorem HB{h0 b c d e f g i j a:Int}{h1:By}(k:ltN b 4294967296=true)(l:ok8 c d e f g i j a=true):Dh (mkH h0 h1 b (n8 c d e f g i j a)):=by
 have⟨m,n⟩:=E2.1 k;refine⟨by show b.toNat<_;omega,Dx8 l,?_⟩;show(if ltN h0 4 then h0.toNat else 0)<4;split
 ·rename_i h;have:=E2.1 h;omega
 ·omega
theorem Ck4(c z:By)(x:Int)(y:By)(v4 m n o p t u v w k:Int)(b a:By)(O:A3 c.length=true)(P:A3 b.length=true)(A:A3 a.length=true)(B:z.isEmpty=true)(C:(k==-1)=true) :
  ∃r H,Wk LF c z x y v4 m n o p t u v w k b a (λL M D N F G I J n8 K f g h i l j d=>rv (.tup [gU L M D N F G I J n8 K f g h i l,.s (.int .i64 j)]) d)=rv r H/\
   r.stab [0,0] H=(λq=>.tup [gU (uS q) (uU q) (uK q) (uN q) (uV q) (uA q 0) (uA q 1) (uA q 2) (uA q 3) (uA q 4) (uA q 5) (uA q 6) (uA q 7) (uP q) (uR q),.s (.int .i64 (uE q))]) (G5 c b a):=by
 obtain rfl:=ad6.1 B;obtain rfl:k=-1:=by simpa using C
 obtain⟨H,e⟩:=Br5 c x y v4 m n o p t u v w b a A;exact⟨_,_,e _ _,rfl⟩
theorem By1(b:UInt8):ctl b=(!ltI 32 (b.toNat:Int)||((b.toNat:Int)==127)):=by rw[p5,Xc,ac2,aa0,Qu,beq_iff_eq];omega
theorem Ck5{R:Type}{a:List Blk->Option R}{b:By->Option R}(s:By)(g:s.length<=1000000000):∀(r i n:Nat),i+r=s.length->r<n->
  Kg LF n s (s.length:Int) (i:Int) a b=if (s.drop i).any ctl then a [] else b s:=by
 intro r
 induction r with
 | zero=>
  intro i n d e;obtain⟨n,rfl⟩:∃m,n=m+1:=⟨n-1,by omega⟩
  rw[Kg];rw[A6,j5 (by omega)];rfl
 | succ r f=>
  intro i n d e;obtain⟨n,rfl⟩:∃m,n=m+1:=⟨n-1,by omega⟩
  have c:A1 ((i:Int)+1)=((i+1:Nat):Int):=by rw[A7];rfl
  rw[Kg];rw[A9,F2,D4,D6 s i (by omega),c,ab7,By1];simp only[cond_true];rw[f (i+1) n (by omega) (by omega)];cases ltI 32 ((s.getD i 0).toNat:Int) with
  | false=>rfl
  | true=>cases (((s.getD i 0).toNat:Int)==127)<;>rfl
theorem C71(s:By)(i:A3 s.length=true):∃H,∀(R:Type) (a:KU R),QK LF s a=LH a (C2 s) H:=by
 have y:=L4 i;have v:=C5;have L:∀{R:Type} (a:List Blk->Option R) (l:By->Option R),Kg LF LF s (s.length:Int) 0 a l=if s.any ctl then a [] else l s:=λa l=>Ck5 s y s.length 0 LF (by omega) (by omega)
 unfold C2;by_cases h:s.any ctl=true
 ·rw[if_pos h];apply o0;intro R a;unfold QK;rw[L,if_pos h];rfl
 rw[if_neg h];rcases R2 58 s with b|⟨p,r,rfl,b⟩
 ·apply o0;intro R a;unfold QK;rw[L,if_neg h,i,Lg b];rfl
 have B:(p++58::r).length=p.length+r.length+1:=by rw[j6,j8];omega
 have sp:A3 p.length=true:=J9;have o:A3 r.length=true:=J9;rw[U6 b];simp only[b9,ad3];cases c:T7 p with
 | false=>
  apply o0;intro R a;unfold QK;rw[L,if_neg h,i,U6 b];simp only[vl,cond_true,b9,cond_false];rw[sp,c];rfl
 | true=>
 rw[if_neg (by simp)];cases f:H8 (B6 p) with
 | false=>
  apply o0;intro R a;unfold QK;rw[L,if_neg h,i,U6 b];simp only[vl,cond_true,b9,cond_false];rw[sp,c,f];rfl
 | true=>
 rw[if_neg (by simp)];cases Ql:([47,47]:By).isPrefixOf r with
 | false=>
  apply o0;intro R a;unfold QK;rw[L,if_neg h,i,U6 b];simp only[vl,cond_true,b9,cond_false];rw[sp,c,f,o,Ql];rfl
 | true=>
 rw[if_neg (by simp)];have j:Hx r [47,47]=r.drop 2:=by unfold Hx;rw[Ql,if_pos rfl];rfl
 generalize m:r.drop 2=t;rw[m] at j;have lt:t.length<=r.length:=by rw[<-m,j9];omega
 have u:A3 t.length=true:=J9;have z:=AA t;have sl:A3 (B6 p).length=true:=by rw[Ad];exact sp
 have tail:∀(R:Type) (a:KU R) (X d:By),X.length<=t.length->d.length<=t.length->
   (cond (A3 (j4 X))
    (cond (not (ae5 (([47]:List UInt8)) X))
     (cond (E8 1 (j4 X))
     (cond (A3 (j4 (B6 p)))
      (cond (A3 (j4 (([47]:List UInt8)++X)))
       (cond (A3 (j4 d))
       (cond (((-1):Int)==((-1):Int))
        (LH a (G5 (B6 p) (([47]:List UInt8)++X) d) ((λq=>[bU (uS q) (uU q) (uK q) (uN q) (uV q) (uA q 0) (uA q 1) (uA q 2) (uA q 3) (uA q 4) (uA q 5) (uA q 6) (uA q 7) (uP q) (uR q),bU (B6 p) [] 0 [] 0 0 0 0 0 0 0 0 0 (-1) (([47]:List UInt8)++X)]) (G5 (B6 p) (([47]:List UInt8)++X) d)))
        (none))
       (none))
       (none))
      (none))
     (none))
     (cond (A3 (j4 (B6 p)))
     (cond (A3 (j4 X))
      (cond (A3 (j4 d))
      (cond (((-1):Int)==((-1):Int))
       (LH a (G5 (B6 p) X d) ((λq=>[bU (uS q) (uU q) (uK q) (uN q) (uV q) (uA q 0) (uA q 1) (uA q 2) (uA q 3) (uA q 4) (uA q 5) (uA q 6) (uA q 7) (uP q) (uR q),bU (B6 p) [] 0 [] 0 0 0 0 0 0 0 0 0 (-1) X]) (G5 (B6 p) X d)))
       (none))
      (none))
      (none))
     (none)))
    none)=LH a (G5 (B6 p) (S9 X) d) ((λq=>[bU (uS q) (uU q) (uK q) (uN q) (uV q) (uA q 0) (uA q 1) (uA q 2) (uA q 3) (uA q 4) (uA q 5) (uA q 6) (uA q 7) (uP q) (uR q),bU (B6 p) [] 0 [] 0 0 0 0 0 0 0 0 0 (-1) (S9 X)]) (G5 (B6 p) (S9 X) d)):=by
  intro R a X d A w;rw[J9,sl,D22,E7 (n:=d.length) (by omega)];unfold S9;by_cases g:X.head? = some 47
  ·rw[if_pos g,g];rfl
  ·have e:(X.head? == some 47)=false:=by simpa using g
   rw[if_neg g,e,G3 (by omega),E7 (by simp;omega)];rfl
 refine⟨(λX=>(λq=>[bU (uS q) (uU q) (uK q) (uN q) (uV q) (uA q 0) (uA q 1) (uA q 2) (uA q 3) (uA q 4) (uA q 5) (uA q 6) (uA q 7) (uP q) (uR q),bU (B6 p) [] 0 [] 0 0 0 0 0 0 0 0 0 (-1) (S9 X)]) (G5 (B6 p) (S9 X) (t.take (J4 t)))) (t.drop (J4 t)),λR a=>?_⟩;refine a8 ?_ (tail R a (t.drop (J4 t)) (t.take (J4 t)) (by rw[j9];omega) (by rw[o7];omega));unfold QK;rw[L,if_neg h,i,U6 b];simp only[vl,cond_true,b9,cond_false];rw[sp,c,f,o,Ql,j,u];rw[show DE ([47,63,35]:List UInt8)=true from rfl,show([47,63,35]:List UInt8)=isl from rfl,Ko];simp only[cond_true,b9,cond_false];by_cases k:J4 t<t.length
 ·rw[if_pos k,A6,j2,cond_true,L2,b8,o7,Nat.min_eq_left (by omega),I4,I4,Q6,b8];rfl
 ·have x:J4 t=t.length:=by omega
  rw[if_neg k,A9,b9,cond_false,I4,Q6,b8,x,ag6,u];rfl
abbrev rvU(n o:By)(h:Int)(p:By)(i j k l n8 m b c d e:Int)(g:By)(f:Int)(a:List Blk):=rv (.tup [gU n o h p i j k l n8 m b c d e g,.s (.int .i64 f)]) a
abbrev pvU(q:U0 × Nat):PV:=.tup [gU (uS q) (uU q) (uK q) (uN q) (uV q) (uA q 0) (uA q 1) (uA q 2) (uA q 3) (uA q 4) (uA q 5) (uA q 6) (uA q 7) (uP q) (uR q),.s (.int .i64 (uE q))]
theorem Dr1(s:By)(a:A3 s.length=true):∃r H,QK LF s rvU=rv r H/\r.stab [0,0] H=pvU (C2 s):=by obtain⟨H,e⟩:=C71 s a;exact⟨_,_,e _ _,rfl⟩
theorem SL{p:Int}(h:R7 p=true):(V2 p).length<=20:=by
 obtain⟨a,b⟩:=Yc.1 h;unfold V2;split
 ·have:=Gy 19 (-p).toNat (by omega) (by omega);rw[j8];omega
 ·have:=Gy 19 p.toNat (by omega) (by omega);omega
theorem EX(b:Int)(c:By)(v4:Int)(a:List Nat):P0 (mkH b c v4 a)=P0 (Cx3 b c v4 a):=by
 unfold mkH Cx3;cases h:ltN b 4 with
 | true=>rfl
 | false=>
  rw[if_neg (by simp),if_neg (by simp),LZ (by rfl),LZ (by rfl)]
theorem Gs{c d a b:By}(h:smU c d a b=true):c.length<=100000000/\d.length<=100000000/\a.length<=100000000/\b.length<=100000000:=by simp only[smU,o6,p4,and_assoc] at h;exact h
theorem UA{l m:By}{kd:Int}{a:By}{v4 b c d e f g h i j:Int}{k:By}(h0:smU l m a k=true)(h1:ltN v4 4294967296=true)(n:ok8 b c d e f g h i=true)(o:R7 j=true) :
  (Y3 (mkU l m kd a v4 (n8 b c d e f g h i) j k)).length<=400000000:=by
 obtain⟨r,t,u,v⟩:=Gs h0;have p:=Xo (HB (h0:=kd) (h1:=a) h1 n);rw[EX] at p;have q:=SL o;unfold Y3 mkU Oy;simp only;split
 ·split<;>split<;>simp only[j6,j8,p6]<;>omega
 ·simp only[j6,j8];omega
theorem C75(c n:By)(m:Int)(a:By)(v4 e f g h i j k l b:Int)(d:By)(h0:smU c n a d=true)(h1:ltN v4 4294967296=true)(t:ok8 e f g h i j k l=true)(x:R7 b=true) :
  ∃r H,Tq LF c n m a v4 e f g h i j k l b d (λu q=>rv (.s (.str u)) q)=rv r H/\r.stab [] H = .s (.str (Y3 (mkU c n m a v4 (n8 e f g h i j k l) b d))):=by
 obtain⟨D,F,G,I⟩:=Gs h0;have A:=Xo (HB (h0:=m) (h1:=a) h1 t);have C:=SL x;have key:∀T:By,Tq LF c n m a v4 e f g h i j k l b d (λu q=>rv (.s (.str u)) q)=rv (.s (.str T)) [bU c n m a v4 e f g h i j k l b d]->T=Y3 (mkU c n m a v4 (n8 e f g h i j k l) b d)->∃r H,Tq LF c n m a v4 e f g h i j k l b d (λu q=>rv (.s (.str u)) q)=rv r H/\r.stab [] H = .s (.str (Y3 (mkU c n m a v4 (n8 e f g h i j k l) b d))):=λT y z=>⟨_,_,y,by rw[<-z];rfl⟩
 have w:A3 a.length=true:=J9;cases o:H8 c with
 | false=>
  refine key (c++[58]++d) ?_ ?_
  ·unfold Tq;rw[o,G3 (by omega)];simp only[vl,cond_true,j2];rw[G3 (by simp;omega)];rfl
  ·unfold Y3 mkU;simp only[o];simp
 | true=>
  have B:=A;by_cases v:n=[]
  ·subst v;have e0:(([]:By)==([]:List UInt8))=true:=rfl;by_cases p:b=-1
   ·subst p;refine key (((c++[58,47,47])++P0 (mkH m a v4 (n8 e f g h i j k l)))++d) ?_ ?_
    ·unfold Tq;rw[o,w,h1,t,e0];simp only[vl,cond_true,cond_false,b9,show((-1:Int)!=-1)=false from rfl]
     repeat rw[G3 (by first|omega|(simp only[j6,j8,p6];omega))]
     rfl
    ·unfold Y3 mkU Oy;simp[o,EX]
   ·refine key (((c++[58,47,47])++P0 (mkH m a v4 (n8 e f g h i j k l)))++([58]++V2 b)++d) ?_ ?_
    ·unfold Tq;rw[o,w,h1,t,x,e0];simp only[vl,cond_true,cond_false,b9,show(b !=-1)=true by simpa using p]
     repeat rw[G3 (by first|omega|(simp only[j6,j8,p6];omega))]
     rfl
    ·unfold Y3 mkU Oy;simp[o,EX,p]
  ·have e0:(n==([]:List UInt8))=false:=by simpa using v
   by_cases p:b=-1
   ·subst p;refine key (((c++[58,47,47])++(n++[64])++P0 (mkH m a v4 (n8 e f g h i j k l)))++d) ?_ ?_
    ·unfold Tq;rw[o,w,h1,t,e0];simp only[vl,cond_true,cond_false,b9,j2,show((-1:Int)!=-1)=false from rfl]
     repeat rw[G3 (by first|omega|(simp only[j6,j8,p6];omega))]
     rfl
    ·unfold Y3 mkU Oy;simp[o,EX,v]
   ·refine key (((c++[58,47,47])++(n++[64])++P0 (mkH m a v4 (n8 e f g h i j k l)))++([58]++V2 b)++d) ?_ ?_
    ·unfold Tq;rw[o,w,h1,t,x,e0];simp only[vl,cond_true,cond_false,b9,j2,show(b !=-1)=true by simpa using p]
     repeat rw[G3 (by first|omega|(simp only[j6,j8,p6];omega))]
     rfl
    ·unfold Y3 mkU Oy;simp[o,EX,p,v]
theorem Di0{a:Int}{k:Nat}(d:k<4):(a==(k:Int))=(k==(if ltN a 4 then a.toNat else 4)):=by
 rw[p5,beq_iff_eq,beq_iff_eq];cases h:ltN a 4 with
 | true=>
  obtain⟨b,c⟩:=E2.1 h;rw[if_pos rfl];omega
 | false=>
  rw[if_neg (by simp)];have:¬(0<=a/\a<4):=λq=>by
   have:=E2.2 q;rw[h] at this;cases this
  omega
theorem Qb(a b:By):(a==b)=(b==a):=by rw[p5,beq_iff_eq,beq_iff_eq];exact eq_comm
theorem Bg(a b:Int):(a==b)=(b==a):=by rw[p5,beq_iff_eq,beq_iff_eq];exact eq_comm
theorem Gg(a b:Nat):((a:Int)==(b:Int))=(b==a):=by rw[p5,beq_iff_eq,beq_iff_eq];omega
theorem RJ{sc us:By}{kd:Int}{nm:By}{v4 a b c d f g h i po:Int}{re:By}{p:U0 × Nat}(L:ltN v4 4294967296=true)(M:ok8 a b c d f g h i=true)(P:Ag7 p.1) :
  ((sc==(uS p))&&((us==(uU p))&&((kd==(uK p))&&((nm==(uN p))&&((v4==(uV p))&&((a==(uA p 0))&&((b==(uA p 1))&&((c==(uA p 2))&&((d==(uA p 3))&&((f==(uA p 4))&&((g==(uA p 5))&&((h==(uA p 6))&&((i==(uA p 7))&&((po==(uP p))&&((re==(uR p))&&true)))))))))))))))=eqU p.1 (mkU sc us kd nm v4 (n8 a b c d f g h i) po re):=by
 obtain⟨⟨s,u,⟨k,n,v,l⟩,q,t⟩,e⟩:=p;obtain⟨K,_⟩:=P;obtain⟨B,C,D,F,G,H,I,J,rfl⟩:=eq8 K.v6.1;obtain⟨j,m,o,r,x,y,z,A,rfl,rfl,rfl,rfl,rfl,rfl,rfl,rfl,_⟩:=Sg M;obtain⟨w,rfl⟩:=w6 (E2.1 L).1;have N:k<4:=K.kd;have O:(([B,C,D,F,G,H,I,J]:List Nat)==[j,m,o,r,x,y,z,A])=((B==j)&&((C==m)&&((D==o)&&((F==r)&&((G==x)&&((H==y)&&((I==z)&&((J==A)&&true)))))))):=rfl;simp only[eqU,eqH,mkU,Cx3,n8,b8,O,y5,af5];rw[Di0 N,Qb sc,Qb us,Qb nm,Qb re,Bg po,Gg w,Gg j,Gg m,Gg o,Gg r,Gg x,Gg y,Gg z,Gg A];simp only[Bool.and_assoc,ad2];rfl
theorem Bs4(m n:By)(kd:Int)(j:By)(v4 a b c d f g h i k:Int)(l:By)(u:smU m n j l=true)(o:ltN v4 4294967296=true)(q:ok8 a b c d f g h i=true)(v:R7 k=true) :
  ∃r H,IA LF m n kd j v4 a b c d f g h i k l (λz w=>rv (.s (.bool z)) w)=rv r H/\r.stab [] H = .s (.bool (T9 (mkU m n kd j v4 (n8 a b c d f g h i) k l))):=by
 have A:=UA (kd:=kd) u o q v;unfold IA T9;rw[u,o,q,v];simp only[vl,cond_true];rw[J9,cond_true];have x:=Yv (Y3 (mkU m n kd j v4 (n8 a b c d f g h i) k l));rw[RJ o q x];generalize C2 (Y3 (mkU m n kd j v4 (n8 a b c d f g h i) k l))=p;obtain⟨y,e⟩:=p;by_cases t:e=0
 ·subst t;exact⟨_,_,rfl,rfl⟩
 ·rw[show(uE (y,e)==(0:Int))=false by simpa using t,show(e==0)=false by simpa using t];exact⟨_,_,rfl,rfl⟩
theorem Dq5(l m:By)(n:Int)(i:By)(v4 a b c d e f g h j:Int)(k:By)(p:smU l m i k=true)(q:ltN v4 4294967296=true)(t:ok8 a b c d e f g h=true)(u:R7 j=true) :
  ∃r H,Dq3 LF l m n i v4 a b c d e f g h j k (λv o=>rv (.s (.str v)) o)=rv r H/\r.stab [] H = .s (.str (Xp (mkU l m n i v4 (n8 a b c d e f g h) j k))):=by
 unfold Dq3 Xp;rw[p,q,t,u];cases T9 (mkU l m n i v4 (n8 a b c d e f g h) j k) with
 | false=>exact⟨_,_,rfl,rfl⟩
 | true=>exact⟨_,_,rfl,rfl⟩
end
section
open Go Go.Proofs Go.Sort
set_option maxRecDepth 100000
theorem Af9:B4 k9 GX 72 Ws:=by
 refine B4.fix (pf:=JW) _ (J2 (fn:=Tryz.f72) (by kernel_rfl) (by kernel_rfl) (by kernel_rfl) ?_);intro args ret j h;unfold JW at h;split at h
 ·rename_i s c;obtain⟨l,h⟩:=C7 h;obtain⟨m,h⟩:=C7 h;obtain⟨rfl,rfl⟩:=J6 h;refine⟨rfl,rfl,λC o a p w k n d b=>?_⟩;obtain⟨U,V,rfl,f,g⟩:=b.arr2;obtain⟨i,rfl,rfl⟩:=f.inv_str;obtain rfl:=g.inv_int;refine(Any.strings_IndexByte Tryz.lays137 i c w).mono ?_;rintro e w' ⟨rfl,rfl⟩;exact⟨_,rfl,ag2 _ _,VP.mk_int _ _⟩
 ·cases h
theorem Bt2:B4 k9 GX 60 IG:=OY 9223372036854775808 (x7 _)
theorem Ds9:B4 k9 GX 55 Bu6:=by
 refine B4.fix (pf:=IM) _ (J2 (fn:=Tryz.f55) (by kernel_rfl) (by kernel_rfl) (by kernel_rfl) ?_);intro args ret l h;unfold IM at h;split at h
 ·rename_i n;obtain⟨b,h⟩:=C7 h;obtain⟨rfl,rfl⟩:=J6 h;refine⟨rfl,rfl,λC o a p w m c i g=>?_⟩;obtain⟨U,rfl,j⟩:=g.arr1;obtain rfl:=j.inv_int;obtain⟨d,f⟩:=Yc.1 b;refine(Any.strconv_Itoa Tryz.laysM171 n (by omega) (by omega) w (Ct9 c a)).mono ?_;rintro e w' ⟨rfl,k,os,rfl⟩;refine⟨_,rfl,(Qa w k).trans (show RowKit.Below w.heap.size _ _ from KP (w.drewN k) os),?_⟩;have:Lib.itoa n=V2 n:=by
   unfold Lib.itoa V2;split
   ·rw[show n.natAbs=(-n).toNat by omega]
   ·rfl
  rw[this];exact VP.mk_str _
 ·cases h
theorem Db0:B4 k9 GX 51 Ah8:=by
 refine B4.fix (pf:=Rs) _ (J2 (fn:=Tryz.f51) (by kernel_rfl) (by kernel_rfl) (by kernel_rfl) ?_);intro args ret A h;unfold Rs at h;split at h
 ·rename_i s p;obtain⟨i,h⟩:=C7 h;obtain⟨k,h⟩:=C7 h;obtain⟨l,h⟩:=C7 h;obtain⟨rfl,rfl⟩:=J6 h;refine⟨rfl,rfl,λC G m I w B F r q=>?_⟩;obtain⟨U,V,rfl,y,z⟩:=q.arr2;obtain⟨g,rfl,rfl⟩:=y.inv_str;obtain⟨d,rfl,a⟩:=z.inv_str;have H:=L4 i;have c:p=isl:=by simpa[DE] using k
  have D:=ae8 l;have f:=zero_of_info (P:=k9) (t:=Tryz.lays153_ren.t 116) (v:=.agg (Array.replicate 256 (.bool false))) (n:=256) (by kernel_rfl);subst c;have u:d.size=3:=by have:=ag8 d;rw[a] at this;exact this
  have x:=ag8 g;refine(Any.strings_IndexAny_long Tryz.lays153 f.1 f.2 g d w (by omega) (by omega) (by omega) (by omega) ?_).mono ?_
  ·rw[a];intro j b o;have:b∈isl:=List.mem_of_getElem? o
   revert b
   simp only[isl,ab8,ag5,or_false];rintro b _ (rfl|rfl|rfl)<;>decide
  ·rintro e w' ⟨rfl,rfl⟩;rw[a];exact⟨_,rfl,((ag2 _ _).alloc (x7 _) _).alloc (by simp) _,VP.mk_int _ _⟩
 ·cases h
end
section
open Go Go.Proofs
set_option maxRecDepth 100000
theorem Ad9{R:Type}{a:Bool->Option R}(n:Int):Ad8 LF n a=a (ltI 8 n):=rfl
theorem Az3{R:Type}{a:Bool->Option R}(r:Int):OU LF r a=a (OW r):=by
 have b:ltN r 55296=(!ltI r 0&&ltI r 55296):=by
  rw[p5,E2,o6,aa0,Qu,Nm];omega
 have c:(ltI 57343 r&&ltN r 1114112)=(ltI 57343 r&&!ltI 1114111 r):=by
  rw[p5,o6,o6,E2,aa0,Qu,Nm];omega
 unfold OU Mj OW;rw[b,c];cases ltI r 0<;>cases ltI r 55296<;>cases ltI 57343 r<;>cases ltI 1114111 r<;>rfl
theorem D07(b:UInt8):z7 isl b=irn (b.toNat:Int):=by
 by_cases a:b=47
 ·subst a;rfl
 ·by_cases d:b=63
  ·subst d;rfl
  ·by_cases f:b=35
   ·subst f;rfl
   ·have n:∀c:UInt8,b≠c->(c==b)=false:=λc h=>by rw[beq_eq_false_iff_ne];exact ah2 h
    have e:∀c:UInt8,b≠c->¬(b.toNat:Int)=(c.toNat:Int):=λc h q=>h (y9.1 (by omega))
    have g:¬(b.toNat:Int)=47:=e 47 a;have i:¬(b.toNat:Int)=63:=e 63 d;have j:¬(b.toNat:Int)=35:=e 35 f;unfold irn;rw[if_neg g,if_neg i,if_neg j];simp[isl,z7,n _ a,n _ d,n _ f]
theorem Ea0{l:By}{x:UInt8}(h:∀b∈l,b.toNat<128)(d:128<=x.toNat):z7 l x=-1:=by
 have e:=Nh x l;have c:l.contains x=false:=by
  rw[o8];intro a;have:=h x (by simpa using a);omega
 rw[c,j2,Nm] at e;have:=Lib.indexByte_ge l x;omega
theorem Ct1{r:Int}(g:OW r=true)(h:128<=r):2<=(ac1 r).data.toList.length/\(ac1 r).data.toList.length<=4/\128<=((ac1 r).data.toList.getD ((ac1 r).data.toList.length-1) 0).toNat:=by
 have a:Utf8.valid r=true:=by
  rw[validRune_eq];unfold validRune;simp only[OW,ac2,o6,E2,Nm] at g;exact decide_eq_true (by omega)
 obtain⟨b,c,d⟩:=encode_facts r a h;have f:=ag8 (ac1 r);rw[<-f];refine⟨b,c,?_⟩;have e:=d (by omega);rw[o5,p7 (by omega),aa1];exact e
theorem Ci6(r:Int)(h:ltN r 1114112=true):∃v H,OM LF r (λk=>rv (.s (.int .i64 k)) []) (λk I=>rv (.s (.int .i64 k)) [.iter [47,63,35] I])=rv v H/\v.stab [] H = .s (.int .i64 (irn r)):=by
 obtain⟨A,M⟩:=E2.1 h;have B:=C5;unfold OM;rw[A6,j2,cond_true];unfold Me;by_cases p:r<128
 ·obtain⟨n,rfl⟩:=w6 A;have e:wu8 (n:Int)=(n:Int):=N6;have f:u8n (n:Int)=x9 n:=by unfold u8n;simp
  have g:(((x9 n).toNat:Nat):Int)=(n:Int):=by simp;omega
  rw[A9,cond_true,e,F2,f];have o:=D07 (x9 n);rw[g] at o;rw[<-o];exact⟨_,_,rfl,rfl⟩
 ·rw[A6,cond_false,Cv4 (by omega)];by_cases t:r=65533
  ·subst t;obtain⟨m,i⟩:∃m,LF=m+1+1+1+1:=⟨LF-4,by omega⟩
   have w:af3 ⟨ae0 ([47,63,35]:List UInt8)⟩ 0=(47,1):=rfl;have x:af3 ⟨ae0 ([47,63,35]:List UInt8)⟩ 1=(63,1):=rfl;have y:af3 ⟨ae0 ([47,63,35]:List UInt8)⟩ 2=(35,1):=rfl;have go:∀(R:Type) (c:Int->Nat->Option R) (a:Nat->Option R),Aj LF LF 0 c a=a 3:=λR c a=>by
    have L:Aj LF (m+1) 3 c a=a 3:=by rw[Fk];rfl
    have K:Aj LF (m+1+1) 2 c a=a 3:=by rw[Fk];unfold Ek;rw[y];exact L
    have J:Aj LF (m+1+1+1) 1 c a=a 3:=by rw[Fk];unfold Ek;rw[x];exact K
    have d:Aj LF (m+1+1+1+1) 0 c a=a 3:=by rw[Fk];unfold Ek;rw[w];exact J
    rw[<-i] at d;exact d
   rw[go];exact⟨_,_,rfl,rfl⟩
  ·rw[show(r==(65533:Int))=false by simpa using t,cond_false];cases F:OW r with
   | false=>exact⟨_,_,rfl,rfl⟩
   | true=>
    obtain⟨O,P,G⟩:=Ct1 F (by omega);simp only[vl,b9,cond_false];generalize (ac1 r).data.toList=l at *;obtain⟨m,i⟩:∃m,LF=m+1:=⟨LF-1,by omega⟩
    have z:A1 ((l.length:Int)-1)=((l.length-1:Nat):Int):=by rw[A7];omega
    have go:∀(R:Type) (c:Int->Option R) (a:Unit->Option R),a ()=c (-1)->Hl LF LF l ((l.length-1:Nat):Int) c a=c (-1):=λR c a C=>by
     have d:Hl LF (m+1) l ((l.length-1:Nat):Int) c a=c (-1):=by
      rw[GB];unfold Oj;by_cases N:l.length=4
      ·rw[A6];exact C
      ·rw[A9,F2,F2,D4,D4];simp only[vl,cond_true];have D:(([47,63,35]:List UInt8).getD (l.length-1) 0).toNat<128:=by
        have:l.length=2\/l.length=3:=by omega
        rcases this with q|q<;>rw[q]<;>decide
       have j:((((([47,63,35]:List UInt8).getD (l.length-1) 0).toNat:Nat):Int)!=(((l.getD (l.length-1) 0).toNat:Nat):Int))=true:=by
        rw[bne_iff_ne];omega
       have f:A1 (((l.length-1:Nat):Int)+1)=((l.length:Nat):Int):=by rw[A7];omega
       have g:cut ([47,63,35]:List UInt8) ((l.length:Nat):Int) 3=([47,63,35]:List UInt8).drop l.length:=by
        rw[show(3:Int)=((3:Nat):Int) from rfl,Fz];rfl
       have u:=(l.getD (l.length-1) 0).toNat_lt;rw[j,cond_true,f,I4,cond_true,g,E7 (by simp;omega),cond_true,F2,cond_true,Kf,Ea0 (λb u=>?_) G]
       ·rfl
       ·have:=List.mem_of_mem_drop u;simp only[ab8,ag5,or_false] at this;rcases this with rfl|rfl|rfl<;>decide
     rw[<-i] at d;exact d
    rw[z,go _ _ _ rfl];exact⟨_,_,rfl,rfl⟩
theorem Cm3:B4 k9 GX 75 BJ:=by
 refine B4.fix (pf:=Ue) _ (J3 [] (C₀:=CF LF) (N7.ok (l:=[]) rfl trivial) (J1 rfl (by kernel_rfl)) follows ?_);intro args ret a h;unfold Ue at h;split at h
 ·rename_i n;obtain⟨rfl,rfl⟩:=J6 h;have e:=(Bq4 LF noY () 0 n).trans (Ad9 n);exact⟨rfl,rfl,rfl,1,_,_,e,rfl⟩
 ·cases h
theorem Db8:B4 k9 GX 99 KG:=by
 refine B4.fix (pf:=BO) _ (J3 [] (C₀:=Cl LF) (N7.ok (l:=[]) rfl trivial) (J1 rfl (by kernel_rfl)) follows ?_);intro args ret a h;unfold BO at h;split at h
 ·rename_i n;obtain⟨rfl,rfl⟩:=J6 h;have e:=(Ck9 LF noY () 0 n).trans (Az3 n);exact⟨rfl,rfl,rfl,1,_,_,e,rfl⟩
 ·cases h
theorem Db3:B4 k9 GX 76 Ps:=λargs ret a h=>by
 have:M3 (Ps args)=none:=by unfold Ps QP;split<;>rfl
 rw[this] at h;cases h
theorem Db2:B4 k9 GX 74 JX:=by
 refine B4.fix (pf:=BI) _ (J3 [] (C₀:=M7 LF) (N7.ok (l:=[(72,Ws),(99,KG)]) rfl ⟨Af9,Db8,trivial⟩) (J1 rfl (by kernel_rfl)) follows ?_);intro args ret f h;unfold BI at h;split at h
 ·rename_i p r;obtain⟨a,h⟩:=C7 h;obtain⟨b,h⟩:=C7 h;obtain⟨rfl,rfl⟩:=J6 h;obtain rfl:p=isl:=by simpa[DE] using a
  obtain⟨d,H,e,c⟩:=Ci6 r b;exact⟨rfl,rfl,rfl,1,d,H,(Ci5 LF noY () 0 r).trans e,c⟩
 ·cases h
theorem OP:∀(w:Nat) (l:By),w<=l.length->(∀i,i<w->N2 (l.getD i 0)=false)->J4 l=w+J4 (l.drop w)
 | 0,l,_,_=>by simp
 | w+1,[],h,_=>by simp at h
 | w+1,b::l,h,hb=>by
  have a:=hb 0 (by omega);rw[y5] at a;have d:=OP w l (by simpa using h) (λi c=>by have:=hb (i+1) (by omega);rwa [af5] at this);rw[Jd,a,List.drop_succ_cons];simp only[aa4,if_false];omega
theorem Ax2(s:By)(O:s.length<=8):∀(f m n:Nat),s.length-m<=f->m<=s.length->f<n->∃H t,∀(R:Type) (j:Int->List Blk->Option R) (k:By->Nat->Option R),
  Md LF n s m j k=if J4 (s.drop m)<(s.drop m).length then j ((m+J4 (s.drop m):Nat):Int) H else k s t:=by
 intro f
 induction f with
 | zero=>
  intro m n G K L;obtain⟨n,rfl⟩:∃q,n=q+1:=⟨n-1,by omega⟩
  refine⟨[],m,λR j k=>?_⟩;rw[Cc];unfold Z7;rw[decide_eq_false (by omega),cond_false,j5 (by omega),if_neg (by simp)]
 | succ f z=>
  intro m n G K L;obtain⟨n,rfl⟩:∃q,n=q+1:=⟨n-1,by omega⟩
  by_cases a:m<s.length
  ·have F:=Lib.decodeL_drop ⟨s.toArray⟩ m;have h:af3 ⟨ae0 s⟩ m=p9 (s.drop m):=by rw[<-F]
   have p:=D6 s m a;have N:(s.drop m).length=s.length-m:=j9;generalize M:s.getD m 0=b at p;by_cases o:b.toNat<128
   ·have y:p9 (s.drop m)=(b.toNat,1):=by rw[p];exact Lib.decodeL_ascii b _ o
    have l:=D08 b;cases g:N2 b with
    | true=>
     rw[g,b9] at l;have u:J4 (s.drop m)=0:=by rw[p,Jd,g];rfl
     refine⟨[Blk.iter s (m+1)],m,λR j k=>?_⟩;rw[Cc];unfold Z7;rw[decide_eq_true a,h,y,u,R0];simp only[vl,cond_true];rw[show DE ([47,63,35]:List UInt8)=true from rfl,cond_true,E2.2 ⟨by omega,by omega⟩,cond_true,l];rfl
    | false=>
     rw[g,j2] at l;have u:J4 (s.drop m)=J4 (s.drop (m+1))+1:=by rw[p,Jd,g];rfl
     have v:(s.drop (m+1)).length=s.length-(m+1):=j9;obtain⟨H,t,e⟩:=z (m+1) n (by omega) (by omega) (by omega);refine⟨H,t,λR j k=>?_⟩;rw[Cc];unfold Z7;rw[decide_eq_true a,h,y];simp only[vl,cond_true];rw[show DE ([47,63,35]:List UInt8)=true from rfl,cond_true,E2.2 ⟨by omega,by omega⟩,cond_true,l,b9,cond_false,e,u];by_cases q:J4 (s.drop (m+1))<(s.drop (m+1)).length
     ·rw[if_pos q,R0,show m+1+J4 (s.drop (m+1))=m+(J4 (s.drop (m+1))+1) by omega]
     ·rw[if_neg q,G1]
   ·obtain⟨A,B,C,D,x⟩:=Dz5 b (s.drop (m+1)) (by omega);rw[<-p] at A B C D x;have v:(s.drop (m+1)).length=s.length-(m+1):=j9;generalize p9 (s.drop m)=d at *;obtain⟨c,w⟩:=d;simp only at A B C D x;have r:=OP w (s.drop m) (by omega) (λi I=>C47 (x i I));rw[aa7] at r;have J:(s.drop (m+w)).length=s.length-(m+w):=j9;have l:ltI (irn (c:Int)) 0=true:=by rw[Cv4 (by omega)];rfl
    obtain⟨H,t,e⟩:=z (m+w) n (by omega) (by omega) (by omega);refine⟨H,t,λR j k=>?_⟩;rw[Cc];unfold Z7;rw[decide_eq_true a,h];simp only[vl,cond_true];rw[show DE ([47,63,35]:List UInt8)=true from rfl,cond_true,E2.2 ⟨by omega,by omega⟩,cond_true,l,b9,cond_false,e,r];by_cases q:J4 (s.drop (m+w))<(s.drop (m+w)).length
    ·rw[if_pos q,R0,show m+w+J4 (s.drop (m+w))=m+(w+J4 (s.drop (m+w))) by omega]
    ·rw[if_neg q,G1]
  ·refine⟨[],m,λR j k=>?_⟩;rw[Cc];unfold Z7;rw[decide_eq_false a,cond_false,j5 (by omega),if_neg (by simp)]
theorem Ci3(s:By)(h:s.length<=8):∃r H,Ad2 LF s (λc a=>rv (.s (.int .i64 c)) a)=rv r H/\r.stab [] H = .s (.int .i64 (Lib.indexAny s isl)):=by
 have b:=C5;obtain⟨H,d,e⟩:=Ax2 s h s.length 0 LF (by omega) (by omega) (by omega);unfold Ad2;rw[A6,cond_false,e,Ko,o9,aj1];by_cases q:J4 s<s.length
 ·rw[if_pos q,if_pos q];exact⟨_,_,rfl,rfl⟩
 ·rw[if_neg q,if_neg q];exact⟨_,_,rfl,rfl⟩
theorem Db1:B4 k9 GX 51 Ah9:=by
 refine B4.fix (pf:=Rt) _ (J3 [] (C₀:=Hs LF) (N7.ok (l:=[(74,JX),(75,BJ),(76,Ps)]) rfl ⟨Db2,Cm3,Db3,trivial⟩) (J1 rfl (by kernel_rfl)) follows ?_);intro args ret f h;unfold Rt at h;split at h
 ·rename_i s p;obtain⟨a,h⟩:=C7 h;obtain⟨b,h⟩:=C7 h;obtain⟨rfl,rfl⟩:=J6 h;obtain rfl:p=isl:=by simpa[DE] using a
  obtain⟨d,H,e,c⟩:=Ci3 s (ae8 b);exact⟨rfl,rfl,rfl,1,d,H,(Ci2 LF noY () 0 s).trans e,c⟩
 ·cases h
theorem El{c:Bool}{t:Tr}(h:c=true):M3 (.need c t)=M3 t:=by subst h;rfl
theorem Dv2:B4 k9 GX 51 WY:=λargs ret c h=>by
 have a:=Db0 args ret c;have b:=Db1 args ret c;unfold WY at h;unfold Ah8 at a;unfold Ah9 at b;generalize C1 [[0],[0]] args=l at h a b;unfold Ah7 at h;split at h
 ·rename_i s p;obtain⟨e,h⟩:=C7 h;obtain⟨d,h⟩:=C7 h;by_cases f:s.length<=8
  ·refine b ?_;unfold Rt;rw[El d,El (ab1 f)];exact h
  ·refine a ?_;unfold Rs;rw[El e,El d,El (ab1 (by omega))];exact h
 ·cases h
section
theorem Dt4:B4 k9 GX 111 Bu9:=xf [] (YC LF) IS rfl ⟨Bt4,trivial⟩ rfl (by kernel_rfl) follows λargs=>by
 unfold IS;split
 ·rename_i s p;exact λa=>⟨rfl,rfl,rfl,_,_,(Cw8 LF noY () 0 s p).trans (Bc4 s p a),rfl⟩
 ·trivial
theorem D74:B4 k9 GX 82 Cp2:=xf [] (A64 LF) XC rfl ⟨Dt4,trivial⟩ rfl (by kernel_rfl) follows λargs=>by
 unfold XC;split
 ·rename_i s p;exact λa=>⟨rfl,rfl,rfl,_,_,(Dq1 LF noY () 0 s p).trans (Cj8 s p a),rfl⟩
 ·trivial
theorem IC:B4 k9 GX 56 Wu:=xf [] (YR LF) KC rfl trivial rfl (by kernel_rfl) follows λargs=>by
 unfold KC;split
 ·rename_i s;exact⟨rfl,rfl,rfl,_,_,(C70 LF noY () 0 s).trans (Br7 s ),rfl⟩
 ·trivial
theorem Ag0:B4 k9 GX 49 GR:=xf [] (YS LF) KD rfl ⟨IC,trivial⟩ rfl (by kernel_rfl) follows λargs=>by
 unfold KD;split
 ·rename_i s;exact⟨rfl,rfl,rfl,_,_,(C73 LF noY () 0 s).trans (Bs2 s ),rfl⟩
 ·trivial
theorem Db5:B4 k9 GX 28 A31:=xf [] (A66 LF) XE rfl ⟨IC,trivial⟩ rfl (by kernel_rfl) follows λargs=>by
 unfold XE;split
 ·rename_i m n i j v4 a b c d e f g h k l;exact(let⟨r,p,o,q⟩:=Dq7 m n i j v4 a b c d e f g h k l ; ⟨rfl,rfl,rfl,r,p,(Dq6 LF noY () 0 m n i j v4 a b c d e f g h k l).trans o,q⟩)
 ·trivial
theorem D78:B4 k9 GX 47 Cp7:=xf [] (Au LF) XH rfl ⟨Af9,trivial⟩ rfl (by kernel_rfl) follows λargs=>by
 unfold XH;split
 ·rename_i s;exact λa=>⟨rfl,rfl,rfl,_,_,(Dr3 LF noY () 0 s).trans (Ck7 s a),rfl⟩
 ·trivial
theorem D76:B4 k9 GX 81 Cp5:=xf [0,0] (Ve LF) XF rfl trivial rfl (by kernel_rfl) follows λargs=>by
 unfold XF;split
 ·rename_i s;exact λa=>⟨rfl,rfl,rfl,_,_,(Dq9 LF noY () 0 s).trans (Ck1 s a),rfl⟩
 ·trivial
theorem Db6:B4 k9 GX 53 Ai1:=xf [0,0] (Y9 LF) BM rfl ⟨B43,Af7,Af9,C90,D74,D76,IC,trivial⟩ rfl (by kernel_rfl) follows λargs=>by
 unfold BM;split
 ·rename_i n o j k v4 b c d e f g h i l m a;exact λq=>λr=>λt=>λu=>λv=>(let⟨y,w,p,x⟩:=Ck4 n o j k v4 b c d e f g h i l m a q r t u v;⟨rfl,rfl,rfl,y,w,(Ck3 LF noY () 0 n o j k v4 b c d e f g h i l m a).trans p,x⟩)
 ·trivial
theorem D77:B4 k9 GX 26 Cp6:=xf [0,0] (Vf LF) XG rfl ⟨Da9,D78,C94,Ag0,C86,Dv2,Af7,Db6,trivial⟩ rfl (by kernel_rfl) follows λargs=>by
 unfold XG;split
 ·rename_i s;exact λb=>(let⟨e,c,a,d⟩:=Dr1 s b;⟨rfl,rfl,rfl,e,c,(Dr0 LF noY () 0 s).trans a,d⟩)
 ·trivial
theorem B49:B4 k9 GX 27 XI:=xf [] (YT LF) KF rfl ⟨Ag0,C89,Ds9,trivial⟩ rfl (by kernel_rfl) follows λargs=>by
 unfold KF;split
 ·rename_i m n i j v4 a b c d e f g h k l;exact λp=>λq=>λr=>λt=>(let⟨w,u,o,v⟩:=C75 m n i j v4 a b c d e f g h k l p q r t;⟨rfl,rfl,rfl,w,u,(C74 LF noY () 0 m n i j v4 a b c d e f g h k l).trans o,v⟩)
 ·trivial
theorem EI:B4 k9 GX 14 Ru:=xf [] (CH LF) Ug rfl ⟨B49,D77,trivial⟩ rfl (by kernel_rfl) follows λargs=>by
 unfold Ug;split
 ·rename_i m n i j v4 a b c d e f g h k l;exact λp=>λq=>λr=>λt=>(let⟨w,u,o,v⟩:=Bs4 m n i j v4 a b c d e f g h k l p q r t;⟨rfl,rfl,rfl,w,u,(Bs3 LF noY () 0 m n i j v4 a b c d e f g h k l).trans o,v⟩)
 ·trivial
theorem D75:B4 k9 GX 29 Cp4:=xf [] (A65 LF) XD rfl ⟨EI,B49,trivial⟩ rfl (by kernel_rfl) follows λargs=>by
 unfold XD;split
 ·rename_i m n i j v4 a b c d e f g h k l;exact λp=>λq=>λr=>λt=>(let⟨w,u,o,v⟩:=Dq5 m n i j v4 a b c d e f g h k l p q r t;⟨rfl,rfl,rfl,w,u,(Dq4 LF noY () 0 m n i j v4 a b c d e f g h k l).trans o,v⟩)
 ·trivial
end
end
section
open Go Go.Proofs Go.RowKit
set_option maxRecDepth 100000
abbrev Rg(m n:ByteArray)(i:Int)(j:ByteArray)(v4 a b c d e f g h k:Int)(l:ByteArray):Array Value:=#[.string m,.string n,.int .i64 i,.string j,.int .u32 v4,.int .u16 a,.int .u16 b,.int .u16 c,.int .u16 d,.int .u16 e,.int .u16 f,.int .u16 g,.int .u16 h,.int .i64 k,.string l]
abbrev Zu:ByteArray:=⟨#[104,116,116,112]⟩
abbrev Rd:ByteArray:=⟨#[104,116,116,112,115]⟩
abbrev sWs:ByteArray:=⟨#[119,115]⟩
abbrev Bp6:ByteArray:=⟨#[119,115,115]⟩
abbrev Lh:MapEntry:={ key:=.string Zu,val:=.string Rd,born:=0 }
abbrev CP:MapEntry:={ key:=.string sWs,val:=.string Bp6,born:=1 }
theorem Wv(w:World)(o:Obj):(w.alloc o).heap[w.heap.size]? = some o:=(MapKept.heap_alloc w o).1
theorem QU(w:World)(o p:Obj):({ (w.alloc o) with heap:=(w.alloc o).heap.setIfInBounds w.heap.size p }:World)=w.alloc p:=by
 have e:(w.heap.push o).setIfInBounds w.heap.size p=w.heap.push p:=by
  apply ag4.1;rw[Array.toList_setIfInBounds,af9,af9,<-Array.length_toList,List.set_append_right _ _ (x7 _),Nat.sub_self];rfl
 show({ w with heap:=(w.heap.push o).setIfInBounds w.heap.size p }:World) = { w with heap:=w.heap.push p }
 rw[e]
theorem D15{P:Program}{t k e:TypeId}(b:P.underlying t=some (.map k e))(a:P.underlying k=some .string)(w:World):(ae2 t (.map (some w.heap.size)) (.string Zu) (.string Rd)).run P (w.alloc (.map #[] 0)) = .ok () (w.alloc (.map #[Lh] 1)):=by rw[run_mapUpdate_first (w:=w.alloc (.map #[] 0)) t k e w.heap.size 0 Zu (.string Rd) b a (Wv w _),QU]
theorem D16{P:Program}{t k e:TypeId}(f:P.underlying t=some (.map k e))(b:P.underlying k=some .string)(w:World):(ae2 t (.map (some w.heap.size)) (.string sWs) (.string Bp6)).run P (w.alloc (.map #[Lh] 1)) = .ok () (w.alloc (.map #[Lh,CP] 2)):=by have a:=Wv w (.map #[Lh] 1);have d:af6 .string (.string sWs) (#[Lh]:Array MapEntry).toList 0=some none:=rfl;have c:(ah3 false 10000 k (.string sWs)).run P (w.alloc (.map #[Lh] 1)) = .ok () (w.alloc (.map #[Lh] 1)):=af1 (k:=.string sWs) b (by simp[ai5]) false 9999;simp only[ae2,Sem.run_bind,run_underlying f,aa8 a,c,ac5 b d,MapKept.run_setObj_map _ a,af2];exact congrArg (Result.ok ()) (QU w (.map #[Lh] 1) (.map #[Lh,CP] 2))
theorem Cx0{P:Program}{t k e:TypeId}(g:P.underlying t=some (.map k e))(c:P.underlying k=some .string)(w:World):(ac6 t (.map (some w.heap.size)) (.string Zu) false).run P (w.alloc (.map #[Lh,CP] 2)) = .ok (.string Rd) (w.alloc (.map #[Lh,CP] 2))/\(ac6 t (.map (some w.heap.size)) (.string sWs) false).run P (w.alloc (.map #[Lh,CP] 2)) = .ok (.string Bp6) (w.alloc (.map #[Lh,CP] 2)):=by
 have d:=Wv w (.map #[Lh,CP] 2);have h:af6 .string (.string Zu) (#[Lh,CP]:Array MapEntry).toList 0=some (some (0,.string Rd)):=rfl;have a:af6 .string (.string sWs) (#[Lh,CP]:Array MapEntry).toList 0=some (some (1,.string Bp6)):=rfl;have f:∀s b,(ah3 b 10000 k (.string s)).run P (w.alloc (.map #[Lh,CP] 2)) = .ok () (w.alloc (.map #[Lh,CP] 2)):=λs b=>af1 (k:=.string s) c (by simp[ai5]) b 9999
 constructor
 ·simp[ac6,run_underlying g,aa8 d,f,ac5 c h,af2]
 ·simp[ac6,run_underlying g,aa8 d,f,ac5 c a,af2]
theorem size_alloc(w:World)(o:Obj):(w.alloc o).heap.size=w.heap.size+1:=ah1 ..
theorem Am9(w:World)(A B C D:Obj):((((w.alloc A).alloc B).alloc C).alloc D).heap[w.heap.size+1]? = some B:=by
 have e:∀(w:World) (o:Obj) (i:Nat),i<w.heap.size->(w.alloc o).heap[i]? = w.heap[i]?:=λw o i h=>by
  show(w.heap.push o)[i]? = w.heap[i]?;rw[Array.getElem?_push,if_neg (Nat.ne_of_lt h)]
 rw[e _ _ _ (by simp only[size_alloc];omega),e _ _ _ (by simp only[size_alloc];omega),<-size_alloc w A];exact Wv (w.alloc A) B
theorem Ak9(w:World)(o:Obj)(n:Nat):(w.alloc o).drewN n=(w.drewN n).alloc o:=rfl
theorem Cd3(w:World):Calls k9 56 #[.string Zu] w λe w'=>e = .returned (.int .i64 80)/\w'=w:=by
 go_enter ac0,ae1
 go_wp2
 go_ret
 exact⟨rfl,rfl⟩
theorem Bf7(w:World):Calls k9 56 #[.string Rd] w λe w'=>e = .returned (.int .i64 443)/\w'=w:=by
 go_enter ac0,ae1
 go_wp2
 go_ret
 exact⟨rfl,rfl⟩
theorem Dl5(w:World):Calls k9 56 #[.string sWs] w λe w'=>e = .returned (.int .i64 80)/\w'=w:=by
 go_enter ac0,ae1
 go_wp2
 go_ret
 exact⟨rfl,rfl⟩
theorem Cz6(w:World):Calls k9 56 #[.string Bp6] w λe w'=>e = .returned (.int .i64 443)/\w'=w:=by
 go_enter ac0,ae1
 go_wp2
 go_ret
 exact⟨rfl,rfl⟩
theorem Cv3(a o l n:ByteArray)(k v4 b c d f g h i j m:Int)(q:∀w,Calls k9 56 #[.string a] w λe w'=>e = .returned (.int .i64 80)/\w'=w)(w:World):Calls k9 28 #[.agg (Rg a o k l v4 b c d f g h i j m n)] w λe w'=>e = .returned (.bool true)/\w'=w.alloc (.cells (Rg a o k l v4 b c d f g h i j m n) 36):=by
 have p:∀args w,(callFunc 56 args).run k9 w = .ok (.enter 56 args) w:=enters_of ac0 (by kernel_rfl) rfl
 go_enter aj7,Tryz.ntmps28
 go_wp2_with (go_at_fn 56;refine(q _).mono ?_;rintro e w' ⟨rfl,r⟩;rw[r])
 go_ret
 exact⟨rfl,rfl⟩
theorem B36(x g y u v:ByteArray)(t v4 i j k l m n o p c f:Int)(L:c=443->f=-1)(M:¬c=443->f=c)
  (b:∀w,Calls k9 28 #[.agg (Rg x y t u v4 i j k l m n o p c v)] w λe w'=>e = .returned (.bool true)/\w'=w.alloc (.cells (Rg x y t u v4 i j k l m n o p c v) 36))
  (J:∀w:World,(ac6 79 (.map (some w.heap.size)) (.string x) false).run k9 (w.alloc (.map #[Lh,CP] 2)) = .ok (.string g) (w.alloc (.map #[Lh,CP] 2)))
  (d:∀w,Calls k9 56 #[.string g] w λe w'=>e = .returned (.int .i64 443)/\w'=w) (w:World) :
  Calls k9 30 #[.agg (Rg x y t u v4 i j k l m n o p c v)] w λe w'=>e = .returned (.agg (Rg g y t u v4 i j k l m n o p f v))/\Below w.heap.size w w':=by
 have z:∀args w,(callFunc 28 args).run k9 w = .ok (.enter 28 args) w:=enters_of aj7 (by kernel_rfl) rfl;have K:∀args w,(callFunc 56 args).run k9 w = .ok (.enter 56 args) w:=enters_of ac0 (by kernel_rfl) rfl;have H:=@run_makeMap k9;have q:∀(w:World) A B C,(((w.alloc A).alloc B).alloc C).heap.size=w.heap.size+1+1+1:=λw A B C=>by simp only[World.alloc,ah1]
 have D:∀(w:World) A B C,_:=λw A B C=>q w A B C▸D15 (P:=k9) aa9 ab5 (((w.alloc A).alloc B).alloc C)
 have F:∀(w:World) A B C,_:=λw A B C=>q w A B C▸D16 (P:=k9) aa9 ab5 (((w.alloc A).alloc B).alloc C)
 have G:∀(w:World) A B C,_:=λw A B C=>q w A B C▸J (((w.alloc A).alloc B).alloc C)
 clear J
 go_enter Tryz.func30,Tryz.ntmps30
 go_wp2_with (go_at_fn 28;refine(b _).mono ?_;rintro e w' ⟨rfl,N⟩;rw[N])
 clear b H z
 go_quiet (first|(go_at_call 56;exact Calls.quiet_of_same (d _)))
 obtain⟨h,a⟩:∃h,h=w.drewN nq:=⟨_,rfl⟩
 have r:w.heap.size=h.heap.size:=by rw[a];rfl
 have I:Below h.heap.size w h:=by rw[<-r,a];exact⟨rfl,rfl,rfl,x7 _,λ_ _=>rfl⟩
 simp only[Ak9,<-a,r];clear D F G q a
 go_wp2
 all_goals (try simp only[Exit.inBlock,Exit.then])
 ·have e:=L (by first|rfl|simpa using ‹(c==443)=true›);subst e;refine bodyPost_ret (results_cell_row rfl _ _ (h.heap.size+1) 36 _ _ _ rfl (Am9 _ _ _ _ _) ag3 rfl (by kernel_rfl)) rfl ⟨rfl,?_⟩;rw[r];exact(((I.alloc (x7 _) _).alloc (by simp only[size_alloc];omega) _).alloc (by simp only[size_alloc];omega) _).alloc (by simp only[size_alloc];omega) _
 ·have e:=M (by first|assumption|simpa using ‹(c==443)=false›);subst e;refine bodyPost_ret (results_cell_row rfl _ _ (h.heap.size+1) 36 _ _ _ rfl (Am9 _ _ _ _ _) ag3 rfl (by kernel_rfl)) rfl ⟨rfl,?_⟩;rw[r];exact(((I.alloc (x7 _) _).alloc (by simp only[size_alloc];omega) _).alloc (by simp only[size_alloc];omega) _).alloc (by simp only[size_alloc];omega) _
end
section
open Go Go.Proofs
set_option maxRecDepth 100000
section
variable {Y R : Type} (L : Nat) (Q : F6) (W : Yh Y) (s : Y) (k : Out -> St Y -> Option R)
noncomputable def A67(L:Nat):Cfg:=B8 L [30] (A2 []) [(28,A31),(56,Wu)] (A2 [(6,[2]),(5,[1,0]),(4,[1,0,15]),(3,[1,0]),(2,[2]),(1,[1,0,2]),(0,[1,0])]) [28,56] (A2 []) (some [2]) [] [] []
noncomputable def Dr4{R:Type}(L:Nat)(f g:By)(h:Int)(i:By)(j l m n u8 o a b c d:Int)(e:By)(p:By->By->Int->By->Int->Int->Int->Int->Int->Int->Int->Int->Int->Int->By->(List Blk)->Option R):Option R:=cond (not (M8 f)) (p f g h i j l m n u8 o a b c d e [(bU f g h i j l m n u8 o a b c d e),(bU f g h i j l m n u8 o a b c d e)]) none
theorem Dr5(d:Nat)(u0 u1 u2 u3 u4 u5 u6 u7 u8 u9 u10 u11 u12 u13 u14):evC (A67 L) (d+1) Y W 30 [(gU u0 u1 u2 u3 u4 u5 u6 u7 u8 u9 u10 u11 u12 u13 u14)] [] s=Dr4 L u0 u1 u2 u3 u4 u5 u6 u7 u8 u9 u10 u11 u12 u13 u14 (λh i j l m n o p r8 q b c e f g a=>some ((gU h i j l m n o p r8 q b c e f g),a,s)):=by refine(evE (fn:=Tryz.f30) (by kernel_rfl)).trans ?_;generalize evC (A67 L) d=Q;unfold Dr4;kernel_rfl
end
end
section
open Go Go.Proofs Go.RowKit
set_option maxRecDepth 100000
theorem D06{Γ:Ctx}{sh:Nat->Option Shp}{w:World}{V:Value}{I J:By}{D:Int}{F:By}{v4 t u v x y z B C G:Int}{H:By}(h:VP Γ sh w (gU I J D F v4 t u v x y z B C G H) V) :
  ∃d e b c:ByteArray,I=d.data.toList/\J=e.data.toList/\F=b.data.toList/\H=c.data.toList/\V = .agg (Rg d e D b v4 t u v x y z B C G c):=by
 obtain⟨A,rfl,hA,a⟩:=h.inv_agg;have hs:A.size=15:=hA;obtain⟨_,e0,T⟩:=a 0 (show 0<15 by omega);obtain⟨_,K,U⟩:=a 1 (show 1<15 by omega);obtain⟨_,L,W⟩:=a 2 (show 2<15 by omega);obtain⟨_,M,X⟩:=a 3 (show 3<15 by omega);obtain⟨_,N,Y⟩:=a 4 (show 4<15 by omega);obtain⟨_,O,Z⟩:=a 5 (show 5<15 by omega);obtain⟨_,P,q6⟩:=a 6 (show 6<15 by omega);obtain⟨_,Q,q7⟩:=a 7 (show 7<15 by omega);obtain⟨_,R,q8⟩:=a 8 (show 8<15 by omega);obtain⟨_,S,q9⟩:=a 9 (show 9<15 by omega);obtain⟨_,f,m⟩:=a 10 (show 10<15 by omega);obtain⟨_,g,o⟩:=a 11 (show 11<15 by omega);obtain⟨_,j,p⟩:=a 12 (show 12<15 by omega);obtain⟨_,k,q⟩:=a 13 (show 13<15 by omega);obtain⟨_,l,r⟩:=a 14 (show 14<15 by omega);obtain⟨d,rfl,rfl⟩:=VP.inv_str T;obtain⟨e,rfl,rfl⟩:=VP.inv_str U;obtain rfl:=VP.inv_int W;obtain⟨b,rfl,rfl⟩:=VP.inv_str X;obtain rfl:=VP.inv_int Y;obtain rfl:=VP.inv_int Z;obtain rfl:=VP.inv_int q6;obtain rfl:=VP.inv_int q7;obtain rfl:=VP.inv_int q8;obtain rfl:=VP.inv_int q9;obtain rfl:=VP.inv_int m;obtain rfl:=VP.inv_int o;obtain rfl:=VP.inv_int p;obtain rfl:=VP.inv_int q;obtain⟨c,rfl,rfl⟩:=VP.inv_str r;refine⟨d,e,b,c,rfl,rfl,rfl,rfl,?_⟩
 congr 1
 apply Array.ext_getElem?;intro i
 match i with
 | 0=>exact e0
 | 1=>exact K
 | 2=>exact L
 | 3=>exact M
 | 4=>exact N
 | 5=>exact O
 | 6=>exact P
 | 7=>exact Q
 | 8=>exact R
 | 9=>exact S
 | 10=>exact f
 | 11=>exact g
 | 12=>exact j
 | 13=>exact k
 | 14=>exact l
 | n+15=>rw[ad8 (by omega),ad8 (by simp)]
theorem Dx7{t:Ctx}{sh:Nat->Option Shp}{w:World}(c d:ByteArray)(p:Int)(a:ByteArray)(v4 e f g i k l m o q:Int)(b:ByteArray) :
  VP t sh w (gU c.data.toList d.data.toList p a.data.toList v4 e f g i k l m o q b.data.toList) (.agg (Rg c d p a v4 e f g i k l m o q b)):=by
 refine VP.mk_agg rfl λj r=>?_
 match j,r with
 | 0,_=>exact⟨_,rfl,VP.mk_str c.data.toList⟩
 | 1,_=>exact⟨_,rfl,VP.mk_str d.data.toList⟩
 | 2,_=>exact⟨_,rfl,VP.mk_int _ _⟩
 | 3,_=>exact⟨_,rfl,VP.mk_str a.data.toList⟩
 | 4,_=>exact⟨_,rfl,VP.mk_int _ _⟩
 | 5,_=>exact⟨_,rfl,VP.mk_int _ _⟩
 | 6,_=>exact⟨_,rfl,VP.mk_int _ _⟩
 | 7,_=>exact⟨_,rfl,VP.mk_int _ _⟩
 | 8,_=>exact⟨_,rfl,VP.mk_int _ _⟩
 | 9,_=>exact⟨_,rfl,VP.mk_int _ _⟩
 | 10,_=>exact⟨_,rfl,VP.mk_int _ _⟩
 | 11,_=>exact⟨_,rfl,VP.mk_int _ _⟩
 | 12,_=>exact⟨_,rfl,VP.mk_int _ _⟩
 | 13,_=>exact⟨_,rfl,VP.mk_int _ _⟩
 | 14,_=>exact⟨_,rfl,VP.mk_str b.data.toList⟩
 | n+15,h=>exact absurd h (by simp)
theorem Aj5{s t:ByteArray}(h:s.data.toList=t.data.toList):s=t:=by
 cases s with
 | mk a=>cases t with
  | mk b=>congr 1;exact ag4.1 h
theorem D35{s:By}{a:Int}(h:M8 s=true):upP s a=if a=443 then -1 else a:=by
 unfold upP;rw[h,x6];by_cases q:a=443
 ·rw[if_pos q,q];rfl
 ·rw[if_neg q,show(a==443)=false by simpa using q];rfl
theorem D79:B4 k9 GX 30 Cq0:=by
 refine B4.fix (pf:=GS) _ (J2 (fn:=Tryz.f30) (by kernel_rfl) (by kernel_rfl) (by kernel_rfl) ?_);intro args ret B h;unfold GS at h;split at h
 ·rename_i J K p H v4 g i j k l m n o d I;obtain⟨v,h⟩:=C7 h;obtain⟨rfl,rfl⟩:=J6 h;refine⟨rfl,rfl,λC G x L w D F z y=>?_⟩;obtain⟨U,rfl,A⟩:=y.arr1;obtain⟨f,c,a,b,rfl,rfl,rfl,rfl,rfl⟩:=D06 A;rw[D35 v];rcases Qm v with u|u
  ·obtain rfl:f=Zu:=Aj5 (t:=Zu) u;have W:=B36 Zu Rd c a b p v4 g i j k l m n o d (if d=443 then -1 else d) (λq=>if_pos q) (λq=>if_neg q) (λw=>Cv3 _ _ _ _ _ _ _ _ _ _ _ _ _ _ _ Cd3 w) (λw=>(Cx0 aa9 ab5 w).1) Bf7 w;refine W.mono ?_;rintro e w' ⟨rfl,r⟩;exact⟨_,rfl,r,Dx7 Rd c p a v4 g i j k l m n o _ b⟩
  ·obtain rfl:f=sWs:=Aj5 (t:=sWs) u;have W:=B36 sWs Bp6 c a b p v4 g i j k l m n o d (if d=443 then -1 else d) (λq=>if_pos q) (λq=>if_neg q) (λw=>Cv3 _ _ _ _ _ _ _ _ _ _ _ _ _ _ _ Dl5 w) (λw=>(Cx0 aa9 ab5 w).2) Cz6 w;refine W.mono ?_;rintro e w' ⟨rfl,r⟩;exact⟨_,rfl,r,Dx7 Bp6 c p a v4 g i j k l m n o _ b⟩
 ·cases h
theorem Dr6(g v:By)(p:Int)(q:By)(v4 h i j k l m n o t:Int)(u:By)(w:(not (M8 g))=true) :
  ∃r H,Dr4 LF g v p q v4 h i j k l m n o t u (λD F x G y z A B n8 C b c d e f a=>rv (gU D F x G y z A B n8 C b c d e f) a)=rv r H/\r.stab [] H=gU g v p q v4 h i j k l m n o t u:=by
 unfold Dr4;rw[w];exact⟨_,_,rfl,rfl⟩
end
section
open Go Go.Proofs
set_option maxRecDepth 100000
section
theorem D80:B4 k9 GX 30 Cq1:=xf [] (A67 LF) GU rfl ⟨Db5,IC,trivial⟩ rfl (by kernel_rfl) follows λargs=>by
 unfold GU;split
 ·rename_i m n i j v4 a b c d e f g h k l;exact λp=>(let⟨t,q,o,r⟩:=Dr6 m n i j v4 a b c d e f g h k l p;⟨rfl,rfl,rfl,t,q,(Dr5 LF noY () 0 m n i j v4 a b c d e f g h k l).trans o,r⟩)
 ·trivial
end
end
section
open Go Go.Proofs Go.RowKit
set_option maxRecDepth 100000
theorem Eb3:B4 k9 GX 30 Cp8:=λargs ret d h=>by
 have a:=D79 args ret d;have b:=D80 args ret d;unfold Cp8 at h;unfold Cq0 at a;unfold Cq1 at b;generalize C1 _ args=l at h a b;unfold Cp9 at h;split at h
 ·rename_i i w t u v4 j k m n o p q r g v;cases c:M8 i with
  | true=>
   refine a ?_;unfold GS;rw[El c];exact h
  | false=>
   refine b ?_;unfold GU;rw[El (by rw[c];rfl)];obtain⟨e,f⟩:=B35 c g;rw[e,f] at h;exact h
 ·cases h
end
section
open Go Go.Proofs
set_option maxRecDepth 100000
theorem Ap6{p:U0 × Nat}(h:Ag7 p.1):ltN (uV p) 4294967296=true/\okQ p=true/\R7 (uP p)=true/\∀c b,mkQ c p b=⟨c,p.1.user,p.1.host,b,p.1.rest⟩:=by obtain⟨⟨s,u,⟨k,n,v,l⟩,q,t⟩,e⟩:=p;obtain⟨a,d⟩:=h;obtain⟨g,i,j,m,o,r,w,x,rfl⟩:=eq8 a.v6.1;have f:=a.v4;simp only at f d;refine⟨E2.2 ⟨by show(0:Int)<=(v:Int);omega,by show(v:Int)<_;omega⟩,Dk3 a.v6.2,Yc.2 ⟨by show _<=q;omega,by show q<_;omega⟩,λc b=>Cx4 a.kd⟩
theorem Aq2(s:By):(A8 s).1.host.name.length<=253:=by
 by_cases h:(A8 s).2=0
 ·have b:=SZ h;cases c:H8 (A8 s).1.sch with
  | false=>
   obtain⟨_,_,_,a,_,_⟩:=b.ns c;rw[a]
   decide
  | true=>
   obtain⟨_,_,_,a,_,_⟩:=b.sp c;exact GH a
 ·rw[Bd9 h]
  decide
theorem Cy8{s:By}(h:s.length<=10000000)(a:By)(b:a.length<=10000000):smU a (uU (A8 s)) (uN (A8 s)) (uR (A8 s))=true:=by obtain⟨c,d,e⟩:=NK s;have f:=Aq2 s;simp only[smU,uU,uN,uR,o6,p4];refine⟨⟨⟨by omega,by omega⟩,by omega⟩,by omega⟩
theorem D36{s:By}{a:Int}(h:R7 a=true):R7 (upP s a)=true:=by
 unfold upP;split
 ·rfl
 ·exact h
end
section
open Go
abbrev hK(p:B5 × Nat):Int:=(p.1.kind:Int)
abbrev hN(p:B5 × Nat):By:=p.1.name
abbrev hV(p:B5 × Nat):Int:=(p.1.v4:Int)
abbrev hA(p:B5 × Nat)(i:Nat):Int:=(p.1.v6.getD i 0:Int)
abbrev e0:By:=[]
end
section
open Go Go.Proofs
set_option maxRecDepth 100000
section
variable {W R : Type} (L : Nat) (Q : F6) (Y : Yh W) (s : W) (k : Out -> St W -> Option R)
noncomputable def KZ(L:Nat):Cfg:=B8 L [22] (A2 []) [] (A2 [(1,[2]),(0,[0])]) [] (A2 []) (some [2]) [] [] []
noncomputable def Ac9{R:Type}(L:Nat)(b:By)(a:Bool->Option R):Option R:=cond (b==[104,116,116,112]) (a true) (cond (b==[104,116,116,112,115]) (a true) (cond (b==[119,115]) (a true) (a (b==[119,115,115]))))
theorem Ch1(d:Nat)(s0):evC (KZ L) (d+1) W Y 22 [pS s0] [] s=Ac9 L s0 (λa=>some (pB a,[],s)):=by refine(evE (fn:=Tryz.f22) (by kernel_rfl)).trans ?_;generalize evC (KZ L) d=Q;unfold Ac9;kernel_rfl
noncomputable def YN(L:Nat):Cfg:=B8 L [25] (A2 []) [] (A2 [(8,[2]),(4,[2]),(7,[2]),(6,[7]),(5,[3,3]),(3,[3,0]),(2,[3,0]),(1,[3]),(0,[0])]) [] (A2 [(0,[])]) (some [2]) [] [] []
noncomputable def B29{R:Type}(L:Nat)(b:By)(a:Int->Option R):Option R:=cond (b==[104,116,116,112]) (cond (b==[104,116,116,112]) (a 80) (cond (b==[104,116,116,112,115]) (cond (b==[104,116,116,112,115]) (a 443) (a (-1))) (cond (b==[119,115,115]) (a 443) (a (-1))))) (cond (b==[119,115]) (a 80) (cond (b==[104,116,116,112,115]) (cond (b==[104,116,116,112,115]) (a 443) (a (-1))) (cond (b==[119,115,115]) (a 443) (a (-1)))))
theorem C40(d:Nat)(s0):evC (YN L) (d+1) W Y 25 [pS s0] [] s=B29 L s0 (λa=>some (pI a,[],s)):=by refine(evE (fn:=Tryz.f25) (by kernel_rfl)).trans ?_;generalize evC (YN L) d=Q;unfold B29;kernel_rfl
noncomputable abbrev Ww:Code:=C6 aj2
noncomputable def Bd(L:Nat):Cfg:=B8 L [23] (A2 [(5,[0,0,2,0,0]),(2,[0,0,2,0])]) [] (A2 [(9,[4]),(3,[0,0,3]),(6,[0,0,3,0]),(8,[4]),(7,[0,0,3,0,18]),(5,[0,0,3,0,9]),(4,[0,0,3,0]),(2,[0,0,3,4]),(1,[0,0,3]),(0,[0,0])]) [] (A2 [(0,[0]),(1,[0,0,3]),(2,[0,0,3]),(3,[0,0,3,0])]) (some [4]) [] [] []
noncomputable def It{R:Type}(L n:Nat)(d a:By)(c b:Int)(e:Int->Option R)(f:By->By->Int->Option R):Option R:=match n with|0=>none|n+1=>cond (ltI b (a.length:Int)) (cond (inR c d.length) (cond (inR b a.length) (cond ((bAt d c)==(bAt a b)) (e c) (It L n d a c (A1 (b+1)) e f)) none) none) (f d a c)
theorem At9(n c a b kk3):D0 0 ((Bd L).keep 5) (bd (Bd L) Q Y (cd [1,0,1,0,0,1,0,0,1,0,0] Ww)) n ⟨gp [(0,pS c),(0,pS a),(3,pI b),(0,pI kk3)] 22,[],s⟩ k =
 It L n c a b kk3 (λn0=>k .ret ⟨gp [(4,pI n0)] 24,[],s⟩) (λc a b=>k (.exit 2) ⟨gp [(0,pS c),(0,pS a),(3,pI b)] 23,[],s⟩):=by
 induction n generalizing c a b kk3 with
 | zero=>rfl
 | succ n d=>rw[It];simp only[<-d];kernel_rfl
noncomputable def Iu{R:Type}(L n:Nat)(e b:By)(f:Int)(g:Int->Option R)(h:By->Option R):Option R:=match n with|0=>none|n+1=>cond (ltI f (e.length:Int)) (It L L e b f 0 g (λd a c=>Iu L n d a (A1 (c+1)) g h)) (h e)
theorem Au0(n b set1 i2):D0 0 ((Bd L).keep 2) (bd (Bd L) Q Y (cd [1,0,1,0,0] Ww)) n ⟨gp [(0,pS b),(0,pS set1),(3,pI i2)] 23,[],s⟩ k =
 Iu L n b set1 i2 (λn0=>k .ret ⟨gp [(4,pI n0)] 24,[],s⟩) (λb=>k (.exit 0) ⟨gp [(0,pS b)] 28,[],s⟩):=by
 induction n generalizing b set1 i2 with
 | zero=>rfl
 | succ n e=>rw[Iu];exact(a8 (by kernel_rfl) (A0 ((At9 L Q Y s (E1 2 (E1 1 (E0 (Bd L) Q Y (cd [1,0,1,0,0,1,1] Ww) (lpK 0 ((Bd L).keep 2) (bd (Bd L) Q Y (cd [1,0,1,0,0] Ww)) n k)))) L b set1 i2 0).trans (congr (congr rfl (by kernel_rfl)) (fx3 λd a c=>(a8 (by kernel_rfl) (e d a (A1 (c+1))))))) rfl))
noncomputable def C30{R:Type}(L:Nat)(e a:By)(d:Int->Option R):Option R:=Iu L L e a 0 d (λc=>vl (c.length:Int) λb=>d b)
theorem C31(d:Nat)(s0 set1):evC (Bd L) (d+1) W Y 23 [pS s0,pS set1] [] s=C30 L s0 set1 (λa=>some (pI a,[],s)):=by refine(evE (fn:=aj2) (by kernel_rfl)).trans ?_;generalize evC (Bd L) d=Q;unfold C30;exact(a8 (by kernel_rfl) ((Au0 L Q Y s (E1 0 (E0 (Bd L) Q Y (cd [1,1] Ww) (F3 (Bd L) aj2))) L s0 set1 0).trans (by kernel_rfl)))
noncomputable abbrev O6:Code:=C6 ah8
noncomputable def M6(L:Nat):Cfg:=B8 L [21] (A2 [(2,[0,1,0,0,0])]) [(39,A25)] (A2 [(11,[2,0,0]),(3,[0,4]),(10,[2,0,0]),(9,[0,4,67]),(8,[0,4,1,0]),(7,[0,4,0,0]),(6,[2,0,0]),(5,[0,4,0,16]),(4,[0,4,0]),(2,[0,4,6]),(1,[0,4]),(0,[0])]) [39] (A2 [(0,[]),(1,[0,4])]) (some [2,0,0]) [] [] []
noncomputable def Lz{R:Type}(a:By)(b f:Int)(e:Bool)(g:By->By->Option R)(h:By->Int->Int->Bool->Option R):Option R:=cond e (cond (I9 0 b a.length) (cond (A3 (j4 (cut a 0 b))) (vl (B6 (cut a 0 b)) λc=>cond (I9 (A1 (b+1)) (a.length:Int) a.length) (vl (cut a (A1 (b+1)) (a.length:Int)) λd=>g c d) none) none) none) (h a b f e)
abbrev Wc(b:Code):Prop:=∀(k:Out->St W->Option R) a e c d,B3 (M6 L) Q Y b ⟨gp [(0,pS a),(4,pI e),(0,p8 c),(16,pB d)] 50,[],s⟩ k=Lz a e c d (λa f=>k .ret ⟨gp [(2,pS a),(0,pS f),(0,pB true)] 69,[],s⟩) (λa e c d=>k .normal ⟨gp [(0,pS a),(4,pI e),(0,p8 c),(16,pB d)] 50,[],s⟩)
theorem Av1:Wc (R:=R) L Q Y s (cd [1,0,1,0,0,1,0,0,1,0,1] O6):=by intro k d c a b;unfold Lz;kernel_rfl
noncomputable def Ma{R:Type}(c:By)(a:Int)(b:By->Int->Option R):Option R:=b c a
abbrev Wd(b:Code):Prop:=∀(k:Out->St W->Option R) c a,B3 (M6 L) Q Y b ⟨gp [(0,pS c),(4,pI a),(1,pB true),(0,pB true)] 65,[],s⟩ k=Ma c a (λc a=>k .normal ⟨gp [(0,pS c),(4,pI a),(67,pB false)] 0,[],s⟩)
theorem FX:Wd (R:=R) L Q Y s (cd [1,0,1,0,0,1,0,0,1,1,1,1] O6):=by intro k b a;unfold Ma;kernel_rfl
noncomputable def Iy{R:Type}(c:By)(a:Int)(b:By->Int->Option R):Option R:=b c a
abbrev We(b:Code):Prop:=∀(k:Out->St W->Option R) c a other2,B3 (M6 L) Q Y b ⟨gp [(0,pS c),(4,pI a),(1,pB true),(0,pB other2)] 65,[],s⟩ k=Iy c a (λc a=>k .normal ⟨gp [(0,pS c),(4,pI a),(67,pB false)] 0,[],s⟩)
theorem FY:We (R:=R) L Q Y s (cd [1,0,1,0,0,1,0,0,1,1,1,1] O6):=by intro k c b a;unfold Iy;kernel_rfl
noncomputable def Zq{R:Type}(c:By)(a d:Int)(b:By->Int->Option R):Option R:=cond (not (ltI d 48)) (cond (not (ltI 57 d)) (Ma c a b) (cond (d==43) (Ma c a b) (cond (d==45) (Ma c a b) (Iy c a b)))) (cond (d==43) (Iy c a b) (cond (d==45) (Iy c a b) (Iy c a b)))
abbrev Wf(b:Code):Prop:=∀(k:Out->St W->Option R) c a b2,B3 (M6 L) Q Y b ⟨gp [(0,pS c),(4,pI a),(0,p8 b2),(0,pB true)] 66,[],s⟩ k=Zq c a b2 (λc a=>k .normal ⟨gp [(0,pS c),(4,pI a),(67,pB false)] 0,[],s⟩)
theorem Av2(a:Code)(c:Wd (R:=R) L Q Y s a)(b:We (R:=R) L Q Y s a):Wf (R:=R) L Q Y s (cd [1,0,1,0,0,1,0,0,1,1,1] (G6 [1,0,1,0,0,1,0,0,1,1,1,1] a O6)):=by intro k e d f;unfold Zq;exact(a8 (by kernel_rfl) (A0 (A0 ((c k e d).trans (by kernel_rfl)) (A0 ((c k e d).trans (by kernel_rfl)) (A0 ((c k e d).trans (by kernel_rfl)) ((b k e d (f==46)).trans (by kernel_rfl))))) (A0 ((b k e d true).trans (by kernel_rfl)) (A0 ((b k e d true).trans (by kernel_rfl)) ((b k e d (f==46)).trans (by kernel_rfl))))))
theorem Av3:Wf (R:=R) L Q Y s (cd [1,0,1,0,0,1,0,0,1,1,1] O6):=by intro k c b a;exact a8 (by kernel_rfl) (Av2 L Q Y s (cd [1,0,1,0,0,1,0,0,1,1,1,1] O6) (FX L Q Y s) (FY L Q Y s) k c b a)
noncomputable def Mb{R:Type}(d:By)(b:Int)(a:Bool)(e:Unit->Option R)(c:By->Int->Bool->Option R):Option R:=cond (not a) (cond (b==0) (e ()) (c d b (b==0))) (c d b false)
abbrev OE(b:Code):Prop:=∀(k:Out->St W->Option R) c a letter2,B3 (M6 L) Q Y b ⟨gp [(0,pS c),(4,pI a),(1,pB letter2),(0,pB true)] 65,[],s⟩ k=Mb c a letter2 (λ_=>k .ret ⟨gp [(2,pS e0),(0,pS e0),(0,pB false)] 69,[],s⟩) (λc a d=>k .normal ⟨gp [(0,pS c),(4,pI a),(67,pB d)] 0,[],s⟩)
theorem Av4:OE (R:=R) L Q Y s (cd [1,0,1,0,0,1,0,0,1,1,1,1] O6):=by intro k c b a;unfold Mb;kernel_rfl
noncomputable def Iz{R:Type}(f:By)(c:Int)(a b:Bool)(d:Unit->Option R)(e:By->Int->Bool->Option R):Option R:=cond (not a) (cond (not b) (d ()) (cond (c==0) (d ()) (e f c (c==0)))) (e f c false)
abbrev OF(b:Code):Prop:=∀(k:Out->St W->Option R) c a letter2 other3,B3 (M6 L) Q Y b ⟨gp [(0,pS c),(4,pI a),(1,pB letter2),(0,pB other3)] 65,[],s⟩ k=Iz c a letter2 other3 (λ_=>k .ret ⟨gp [(2,pS e0),(0,pS e0),(0,pB false)] 69,[],s⟩) (λc a d=>k .normal ⟨gp [(0,pS c),(4,pI a),(67,pB d)] 0,[],s⟩)
theorem Av5:OF (R:=R) L Q Y s (cd [1,0,1,0,0,1,0,0,1,1,1,1] O6):=by intro k d c a b;unfold Iz;kernel_rfl
noncomputable def Ja{R:Type}(f:By)(c b:Int)(a:Bool)(d:Unit->Option R)(e:By->Int->Bool->Option R):Option R:=cond (not (ltI b 48)) (cond (not (ltI 57 b)) (Mb f c a (λ_=>d ()) e) (cond (b==43) (Mb f c a (λ_=>d ()) e) (cond (b==45) (Mb f c a (λ_=>d ()) e) (Iz f c a (b==46) (λ_=>d ()) e)))) (cond (b==43) (Iz f c a true (λ_=>d ()) e) (cond (b==45) (Iz f c a true (λ_=>d ()) e) (Iz f c a (b==46) (λ_=>d ()) e)))
abbrev Wg(b:Code):Prop:=∀(k:Out->St W->Option R) d c a letter3,B3 (M6 L) Q Y b ⟨gp [(0,pS d),(4,pI c),(0,p8 a),(0,pB letter3)] 66,[],s⟩ k=Ja d c a letter3 (λ_=>k .ret ⟨gp [(2,pS e0),(0,pS e0),(0,pB false)] 69,[],s⟩) (λd c a=>k .normal ⟨gp [(0,pS d),(4,pI c),(67,pB a)] 0,[],s⟩)
theorem Av6(a:Code)(d:Wd (R:=R) L Q Y s a)(e:We (R:=R) L Q Y s a)(b:OE (R:=R) L Q Y s a)(c:OF (R:=R) L Q Y s a):Wg (R:=R) L Q Y s (cd [1,0,1,0,0,1,0,0,1,1,1] (G6 [1,0,1,0,0,1,0,0,1,1,1,1] a O6)):=by intro k i h g f;unfold Ja;simp only[<-b k,<-c k];kernel_rfl
theorem Av7:Wg (R:=R) L Q Y s (cd [1,0,1,0,0,1,0,0,1,1,1] O6):=by intro k d c b a;exact a8 (by kernel_rfl) (Av6 L Q Y s (cd [1,0,1,0,0,1,0,0,1,1,1,1] O6) (FX L Q Y s) (FY L Q Y s) (Av4 L Q Y s) (Av5 L Q Y s) k d c b a)
noncomputable def Bc{R:Type}(f:By)(c a:Int)(d:By->Int->Bool->Option R)(g:Unit->Option R):Option R:=cond (not (ltI a 97)) (cond (not (ltI 122 a)) (Zq f c a (λe b=>d e b false)) (cond (not (ltI a 65)) (Ja f c a (not (ltI 90 a)) (λ_=>g ()) d) (Ja f c a false (λ_=>g ()) d))) (cond (not (ltI a 65)) (Ja f c a (not (ltI 90 a)) (λ_=>g ()) d) (Ja f c a false (λ_=>g ()) d))
abbrev Od(b:Code):Prop:=∀(k:Out->St W->Option R) d c a b3,B3 (M6 L) Q Y b ⟨gp [(0,pS d),(4,pI c),(0,p8 a),(16,pB b3)] 50,[],s⟩ k=Bc d c a (λd c a=>k .normal ⟨gp [(0,pS d),(4,pI c),(67,pB a)] 0,[],s⟩) (λ_=>k .ret ⟨gp [(2,pS e0),(0,pS e0),(0,pB false)] 69,[],s⟩)
theorem Av8(a:Code)(b:Wf (R:=R) L Q Y s a)(c:Wg (R:=R) L Q Y s a):Od (R:=R) L Q Y s (cd [1,0,1,0,0,1,0,0,1,1] (G6 [1,0,1,0,0,1,0,0,1,1,1] a O6)):=by intro k g f d e;unfold Bc;simp only[<-b k,<-c k];kernel_rfl
theorem Av9:Od (R:=R) L Q Y s (cd [1,0,1,0,0,1,0,0,1,1] O6):=by intro k d c a b;exact a8 (by kernel_rfl) (Av8 L Q Y s (cd [1,0,1,0,0,1,0,0,1,1,1] O6) (Av3 L Q Y s) (Av7 L Q Y s) k d c a b)
noncomputable def P4{R:Type}(L n:Nat)(b:By)(a:Int)(c:By->By->Bool->Option R)(t:Unit->Option R):Option R:=match n with|0=>none|n+1=>cond (ltI a (b.length:Int)) (cond (inR a b.length) (cond ((bAt b a)==58) (Lz b a (bAt b a) (ltI 0 a) (λu v=>c u v true) (λw r q A=>Bc w r q (λj e x=>vl (A1 (e+1)) λh=>P4 L n j h c t) (λ_=>c e0 e0 false))) (Lz b a (bAt b a) false (λl m=>c l m true) (λo f d y=>Bc o f d (λp g z=>vl (A1 (g+1)) λi=>P4 L n p i c t) (λ_=>c e0 e0 false)))) none) (t ())
theorem Aw0(b:Code)(c:Wc (R:=R) L Q Y s b)(a:Code)(d:Od (R:=R) L Q Y s a)(n:Nat)(e:By)(f:Int):D0 0 ((M6 L).keep 2) (bd (M6 L) Q Y (cd [1,0,1,0,0] (G6 [1,0,1,0,0,1,0,0,1,1] a (G6 [1,0,1,0,0,1,0,0,1,0,1] b O6)))) n ⟨gp [(0,pS e),(4,pI f)] 68,[],s⟩ k =
 P4 L n e f (λe D C=>k .ret ⟨gp [(2,pS e),(0,pS D),(0,pB C)] 69,[],s⟩) (λ_=>k (.exit 0) ⟨gp [] 74,[],s⟩):=by
 induction n generalizing e f with
 | zero=>rfl
 | succ n B=>rw[P4];exact let q:=(E1 1 (E0 (M6 L) Q Y (cd [1,0,1,0,0,1,1] O6) (lpK 0 ((M6 L).keep 2) (bd (M6 L) Q Y (cd [1,0,1,0,0] (G6 [1,0,1,0,0,1,0,0,1,1] a (G6 [1,0,1,0,0,1,0,0,1,0,1] b O6)))) n k)));let w:=(E0 (M6 L) Q Y a q);(a8 (by kernel_rfl) (A0 (A0 (A0 ((c w e f (bAt e f) (ltI 0 f)).trans (congr (congr rfl (by kernel_rfl)) (fx4 λv u r t=>(a8 (by kernel_rfl) ((d q v u r t).trans (congr (congr rfl (fx3 λm z x=>(a8 (by kernel_rfl) (A4 λj=>(B m j))))) (by kernel_rfl))))))) ((c w e f (bAt e f) false).trans (congr (congr rfl (by kernel_rfl)) (fx4 λo i g h=>(a8 (by kernel_rfl) ((d q o i g h).trans (congr (congr rfl (fx3 λp A y=>(a8 (by kernel_rfl) (A4 λl=>(B p l))))) (by kernel_rfl)))))))) rfl) rfl))
noncomputable def Av0{R:Type}(L:Nat)(b:By)(a:By->By->Bool->Option R):Option R:=P4 L L b 0 a (λ_=>a e0 e0 false)
theorem C38(a:Code)(c:Wc (R:=PV × List Blk × W) L Q Y s a)(b:Code)(d:Od (R:=PV × List Blk × W) L Q Y s b)(e:By):B3 (M6 L) Q Y (cd [] (G6 [1,0,1,0,0,1,0,0,1,1] b (G6 [1,0,1,0,0,1,0,0,1,0,1] a O6))) ⟨[pS e]++tps 73,[],s⟩ (F3 (M6 L) ah8)=Av0 L e (λf g h=>some (.tup [pS f,pS g,pB h],[],s)):=by unfold Av0;exact(a8 (by kernel_rfl) ((Aw0 L Q Y s (E1 0 (E0 (M6 L) Q Y (cd [1,1] O6) (F3 (M6 L) ah8))) a c b d L e 0).trans (by kernel_rfl)))
theorem C39(d:Nat)(s0):evC (M6 L) (d+1) W Y 21 [pS s0] [] s=Av0 L s0 (λa b c=>some (.tup [pS a,pS b,pB c],[],s)):=
 (evE (fn:=ah8) (by kernel_rfl)).trans (a8 (by kernel_rfl) (C38 L (evC (M6 L) d) Y s (cd [1,0,1,0,0,1,0,0,1,0,1] O6) (Av1 L (evC (M6 L) d) Y s) (cd [1,0,1,0,0,1,0,0,1,1] O6) (Av9 L (evC (M6 L) d) Y s) s0))
noncomputable abbrev M5:Code:=C6 ah7
noncomputable def J8(L:Nat):Cfg:=B8 L [13] (A2 [(36,[2,0,1,3,0,4,0]),(20,[2,0,1,3,0,0]),(2,[0,1,0,0])]) [(21,Bw3),(22,JS),(23,Bw2),(24,QO),(25,Bw4)] (A2 [(46,[2,0]),(45,[2,7]),(44,[2,7,173]),(43,[2,2,4]),(42,[2,0]),(41,[2,2,4,4,160]),(37,[2,2,3,0,4,0]),(40,[2,2,3,0,4,0]),(39,[2,0]),(38,[2,2,3,0,4,0,147]),(36,[2,2,3,0,4,0,135]),(35,[2,2,3,0,4,0]),(34,[2,2,3,0,1,2]),(33,[2,2,3,0,1,133]),(32,[2,2,3,0,1]),(31,[2,0]),(30,[2,2,3,0,1,0,0,122]),(29,[2,2,3,0,1,0,0]),(28,[2,0]),(27,[2,2,3,0,1,114]),(26,[2,2,3,0,1]),(25,[2,2,3,0,1,95]),(24,[2,2,3,0,1]),(21,[2,2,3,0,0]),(23,[2,2,3,0]),(22,[2,2,3,0,0,79]),(20,[2,2,3,0,0,73]),(19,[2,2,3,0,0]),(18,[2,2,3,0]),(17,[2,2,0,2,0,66]),(16,[2,2,0,2,0]),(15,[2,2,0,2]),(14,[2,2,0,1]),(13,[2,2,0]),(12,[2,0]),(11,[2,2,0,49]),(10,[2,0]),(9,[2,2,0,38]),(8,[2,0]),(7,[2,2,0,34]),(6,[2,2,0,0]),(3,[0,1,1]),(5,[2,0]),(4,[0,1,1,27]),(2,[0,1,1,15]),(1,[0,1,1]),(0,[0,1])]) [21,22,23,25] (A2 [(4,[2,2,4,4]),(5,[2,2,3,0,4,0]),(2,[2,2,3,0]),(3,[2,2,3,0,0]),(0,[0,1]),(1,[0,1,1])]) (some [2,0]) [] [] []
noncomputable def Fh{R:Type}(L n:Nat)(a:By)(b:Int)(c:(List Blk)->Option R)(d:By->Option R):Option R:=match n with|0=>none|n+1=>cond (ltI b (a.length:Int)) (cond (inR b a.length) (cond (not (ltI 32 (bAt a b))) (c []) (cond (inR b a.length) (cond ((bAt a b)==127) (c []) (Fh L n a (A1 (b+1)) c d)) none)) none) (d a)
theorem Au6(n a i1):D0 1 ((J8 L).keep 2) (bd (J8 L) Q Y (cd [1,0,1,0,0] M5)) n ⟨gp [(0,pS a),(1,.ptr 0 0 0),(1,pI i1)] 182,[bU0],s⟩ k =
 Fh L n a i1 (λb=>k .ret ⟨gp [(2,.ptr 0 0 0),(0,pI (4:Int))] 183,(bU0::b),s⟩) (λa=>k (.exit 0) ⟨gp [(0,pS a),(1,.ptr 0 0 0)] 184,[bU0],s⟩):=by
 induction n generalizing a i1 with
 | zero=>rfl
 | succ n c=>rw[Fh];simp only[<-c];kernel_rfl
noncomputable def Z6{R:Type}(L n:Nat)(b a:By)(c:Int)(g:By)(f:By->By->By->By->Option R):Option R:=match n with|0=>none|n+1=>cond (not (ltI c 0)) (cond (inR c a.length) (cond ((bAt a c)==64) (cond (I9 0 c a.length) (vl (cut a 0 c) λd=>cond (I9 (A1 (c+1)) (a.length:Int) a.length) (vl (cut a (A1 (c+1)) (a.length:Int)) λe=>f b e d g) none) none) (Z6 L n b a (A1 (c-1)) g f)) none) (f b a e0 g)
theorem FU(n b a i2 c):D0 2 ((J8 L).keep 20) (bd (J8 L) Q Y (cd [1,1,1,1,1,1,1,1,1,1,1,0,1,0,0] M5)) n ⟨gp [(2,.ptr 0 0 0),(2,pS b),(3,pS a),(0,.ptr 1 0 0),(0,pI i2)] 175,[bU0,(bU b [] 0 [] 0 0 0 0 0 0 0 0 0 (-1) c)],s⟩ k =
 Z6 L n b a i2 c (λb a e c=>k (.exit 2) ⟨gp [(2,.ptr 0 0 0),(2,pS b),(3,pS a),(0,.ptr 1 0 0)] 176,[bU0,(bU b e 0 [] 0 0 0 0 0 0 0 0 0 (-1) c)],s⟩):=by
 induction n generalizing b a i2 c with
 | zero=>rfl
 | succ n d=>rw[Z6];simp only[<-d];kernel_rfl
noncomputable def Cv{R:Type}(c a:By)(d:Int)(h:Bool)(f g:By)(i:(List Blk)->Option R)(j:By->By->Int->Bool->By->By->Option R)(l:By->By->Int->Bool->By->By->Option R):Option R:=cond h (cond (A3 a.length) (vl (↑(S7 a ([93]:List UInt8)):Int) λe=>vl (A1 (e+1)) λb=>cond (ltI (a.length:Int) b) (i [(bU c f 0 [] 0 0 0 0 0 0 0 0 0 (-1) g)]) (cond (ltI b (a.length:Int)) (cond (inR b a.length) (cond ((bAt a b)!=58) (i [(bU c f 0 [] 0 0 0 0 0 0 0 0 0 (-1) g)]) (j c a b ((bAt a b)!=58) f g)) none) (j c a b false f g))) none) (l c a d h f g)
abbrev Vx(b:Code):Prop:=∀(k:Out->St W->Option R) c a d e f g,B3 (J8 L) Q Y b ⟨gp [(2,.ptr 0 0 0),(2,pS c),(3,pS a),(0,.ptr 1 0 0),(1,pI d),(95,pB e)] 78,[bU0,(bU c f 0 [] 0 0 0 0 0 0 0 0 0 (-1) g)],s⟩ k=Cv c a d e f g (λh=>k .ret ⟨gp [(2,.ptr 0 0 0),(0,pI (4:Int))] 183,(bU0::h),s⟩) (λc a d e f g=>k .normal ⟨gp [(2,.ptr 0 0 0),(2,pS c),(3,pS a),(0,.ptr 1 0 0),(1,pI d),(114,pB e)] 59,[bU0,(bU c f 0 [] 0 0 0 0 0 0 0 0 0 (-1) g)],s⟩) (λc a d e f g=>k .normal ⟨gp [(2,.ptr 0 0 0),(2,pS c),(3,pS a),(0,.ptr 1 0 0),(1,pI d),(95,pB e)] 78,[bU0,(bU c f 0 [] 0 0 0 0 0 0 0 0 0 (-1) g)],s⟩)
theorem FR:Vx (R:=R) L Q Y s (cd [1,1,1,1,1,1,1,1,1,1,1,1,1,0,1] M5):=by intro k b a c d e f;unfold Cv;kernel_rfl
noncomputable def Fi{R:Type}(L n:Nat)(b a:By)(y l:Int)(v:By)(o:Int)(r:By)(p i q c d e f g h:Int)(j:By)(w:(List Blk)->Option R)(x:By->Int->By->Int->By->Int->Int->Int->Int->Int->Int->Int->Int->Int->By->Option R):Option R:=match n with|0=>none|n+1=>cond (ltI l (a.length:Int)) (cond (inR l a.length) (cond (ltI (bAt a l) (48:Int)) (w [(bU b v o r p i q c d e f g h (-1) j),(bH o r p i q c d e f g h)]) (cond (inR l a.length) (cond (ltI 57 (bAt a l)) (w [(bU b v o r p i q c d e f g h (-1) j),(bH o r p i q c d e f g h)]) (cond (inR l a.length) (vl (wu8 ((bAt a l)-48)) λt=>vl (A1 ((A1 (y*10))+(A1 t))) λm=>vl (if ((1048576:Int)<m) then (1048576:Int) else m) λu=>Fi L n b a u (A1 (l+1)) v o r p i q c d e f g h j w x) none)) none)) none) (x b y v o r p i q c d e f g h j)
theorem FW(n a authority1 n2 i3 j g s6 h f i b c d e n14 n15 s16):D0 3 ((J8 L).keep 36) (bd (J8 L) Q Y (cd [1,1,1,1,1,1,1,1,1,1,1,1,1,1,1,1,1,0,1,0,1,0,1,0,0] M5)) n ⟨gp [(2,.ptr 0 0 0),(2,pS a),(3,pS authority1),(0,.ptr 1 0 0),(4,pI n2),(0,pI i3)] 170,[bU0,(bU a j g s6 h f i b c d e n14 n15 (-1) s16),(bH g s6 h f i b c d e n14 n15)],s⟩ k =
 Fi L n a authority1 n2 i3 j g s6 h f i b c d e n14 n15 s16 (λp=>k .ret ⟨gp [(2,.ptr 0 0 0),(0,pI (16:Int))] 183,(bU0::p),s⟩) (λa r t m j g o h f i b c d e l=>k (.exit 4) ⟨gp [(2,.ptr 0 0 0),(2,pS a),(4,.ptr 1 0 0),(4,pI r)] 171,[bU0,(bU a t m j g o h f i b c d e (-1) l),(bH m j g o h f i b c d e)],s⟩):=by
 induction n generalizing a authority1 n2 i3 j g s6 h f i b c d e n14 n15 s16 with
 | zero=>rfl
 | succ n q=>rw[Fi];simp only[<-q];kernel_rfl
noncomputable def T6{R:Type}(L:Nat)(d b:By)(t:Int)(x y:By)(w:Int->By->By->Int->By->Int->Int->Int->Int->Int->Int->Int->Int->Int->Int->By->(List Blk)->Option R):Option R:=cond (I9 0 t b.length) (vl (cut b 0 t) λv=>cond (A3 v.length) (vl (C4 v) λa=>cond ((↑(a).2:Int)!=0) (w (↑(a).2:Int) e0 e0 0 e0 0 0 0 0 0 0 0 0 0 0 e0 [(bU d x 0 [] 0 0 0 0 0 0 0 0 0 (-1) y),(bH (hK a) (hN a) (hV a) (hA a 0) (hA a 1) (hA a 2) (hA a 3) (hA a 4) (hA a 5) (hA a 6) (hA a 7))]) (vl (A1 (t+1)) λA=>cond (ltI A (b.length:Int)) (vl (A1 (t+1)) λB=>Fi L L d b 0 B x (hK a) (hN a) (hV a) (hA a 0) (hA a 1) (hA a 2) (hA a 3) (hA a 4) (hA a 5) (hA a 6) (hA a 7) y (λz=>w 16 e0 e0 0 e0 0 0 0 0 0 0 0 0 0 0 e0 z) (λc u q e p f g h i j l m n o r=>cond (ltI 65535 u) (w 16 e0 e0 0 e0 0 0 0 0 0 0 0 0 0 0 e0 [(bU c q e p f g h i j l m n o (-1) r),(bH e p f g h i j l m n o)]) (cond (u==(Q1 c)) (w 0 c q e p f g h i j l m n o (-1) r [(bU c q e p f g h i j l m n o (-1) r),(bH e p f g h i j l m n o)]) (w 0 c q e p f g h i j l m n o u r [(bU c q e p f g h i j l m n o u r),(bH e p f g h i j l m n o)])))) (cond (((-1):Int)==(Q1 d)) (w 0 d x (hK a) (hN a) (hV a) (hA a 0) (hA a 1) (hA a 2) (hA a 3) (hA a 4) (hA a 5) (hA a 6) (hA a 7) (-1) y [(bU d x (hK a) (hN a) (hV a) (hA a 0) (hA a 1) (hA a 2) (hA a 3) (hA a 4) (hA a 5) (hA a 6) (hA a 7) (-1) y),(bH (hK a) (hN a) (hV a) (hA a 0) (hA a 1) (hA a 2) (hA a 3) (hA a 4) (hA a 5) (hA a 6) (hA a 7))]) (w 0 d x (hK a) (hN a) (hV a) (hA a 0) (hA a 1) (hA a 2) (hA a 3) (hA a 4) (hA a 5) (hA a 6) (hA a 7) (-1) y [(bU d x (hK a) (hN a) (hV a) (hA a 0) (hA a 1) (hA a 2) (hA a 3) (hA a 4) (hA a 5) (hA a 6) (hA a 7) (-1) y),(bH (hK a) (hN a) (hV a) (hA a 0) (hA a 1) (hA a 2) (hA a 3) (hA a 4) (hA a 5) (hA a 6) (hA a 7))])))) none) none
abbrev Vy(b:Code):Prop:=∀(k:Out->St W->Option R) name0 authority1 end2 b3 a s5,B3 (J8 L) Q Y b ⟨gp [(2,.ptr 0 0 0),(2,pS name0),(3,pS authority1),(0,.ptr 1 0 0),(1,pI end2),(114,pB b3)] 59,[bU0,(bU name0 a 0 [] 0 0 0 0 0 0 0 0 0 (-1) s5)],s⟩ k=T6 L name0 authority1 end2 a s5 (λn0 q r l a m n o i p d e f g h j c=>k .ret ⟨gp [(2,.ptr 0 0 0),(0,pI n0)] 183,((bU q r l a m n o i p d e f g h j)::c),s⟩)
theorem FS:Vy (R:=R) L Q Y s (cd [1,1,1,1,1,1,1,1,1,1,1,1,1,1] M5):=by intro k c b e j h i;unfold T6;exact(a8 (by kernel_rfl) (A0 (A4 λg=>(A0 (A4 λa=>(A0 rfl (A4 λf=>(A0 (A4 λd=>((FW L Q Y s (E1 4 (E0 (J8 L) Q Y (cd [1,1,1,1,1,1,1,1,1,1,1,1,1,1,1,1,1,0,1,0,1,1] M5) (E0 (J8 L) Q Y (cd [1,1,1,1,1,1,1,1,1,1,1,1,1,1,1,1,1,1] M5) k))) L c b 0 d h (hK a) (hN a) (hV a) (hA a 0) (hA a 1) (hA a 2) (hA a 3) (hA a 4) (hA a 5) (hA a 6) (hA a 7) i).trans (by kernel_rfl))) (A0 rfl rfl))))) rfl)) rfl))
noncomputable def Ly{R:Type}(L:Nat)(p c:By)(u:Int)(A B:By)(x:Int->By->By->Int->By->Int->Int->Int->Int->Int->Int->Int->Int->Int->Int->By->(List Blk)->Option R):Option R:=cond (I9 0 u c.length) (vl (cut c 0 u) λv=>cond (A3 v.length) (vl (C4 v) λa=>cond ((↑(a).2:Int)!=0) (x (↑(a).2:Int) e0 e0 0 e0 0 0 0 0 0 0 0 0 0 0 e0 [(bU p A 0 [] 0 0 0 0 0 0 0 0 0 (-1) B),(bH (hK a) (hN a) (hV a) (hA a 0) (hA a 1) (hA a 2) (hA a 3) (hA a 4) (hA a 5) (hA a 6) (hA a 7))]) (vl (A1 (u+1)) λy=>cond (ltI y (c.length:Int)) (vl (A1 (u+1)) λz=>Fi L L p c 0 z A (hK a) (hN a) (hV a) (hA a 0) (hA a 1) (hA a 2) (hA a 3) (hA a 4) (hA a 5) (hA a 6) (hA a 7) B (λw=>x 16 e0 e0 0 e0 0 0 0 0 0 0 0 0 0 0 e0 w) (λb t q d o e f g h i j l m n r=>cond (ltI 65535 t) (x 16 e0 e0 0 e0 0 0 0 0 0 0 0 0 0 0 e0 [(bU b q d o e f g h i j l m n (-1) r),(bH d o e f g h i j l m n)]) (cond (t==(Q1 b)) (x 0 b q d o e f g h i j l m n (-1) r [(bU b q d o e f g h i j l m n (-1) r),(bH d o e f g h i j l m n)]) (x 0 b q d o e f g h i j l m n t r [(bU b q d o e f g h i j l m n t r),(bH d o e f g h i j l m n)])))) (cond (((-1):Int)==(Q1 p)) (x 0 p A (hK a) (hN a) (hV a) (hA a 0) (hA a 1) (hA a 2) (hA a 3) (hA a 4) (hA a 5) (hA a 6) (hA a 7) (-1) B [(bU p A (hK a) (hN a) (hV a) (hA a 0) (hA a 1) (hA a 2) (hA a 3) (hA a 4) (hA a 5) (hA a 6) (hA a 7) (-1) B),(bH (hK a) (hN a) (hV a) (hA a 0) (hA a 1) (hA a 2) (hA a 3) (hA a 4) (hA a 5) (hA a 6) (hA a 7))]) (x 0 p A (hK a) (hN a) (hV a) (hA a 0) (hA a 1) (hA a 2) (hA a 3) (hA a 4) (hA a 5) (hA a 6) (hA a 7) (-1) B [(bU p A (hK a) (hN a) (hV a) (hA a 0) (hA a 1) (hA a 2) (hA a 3) (hA a 4) (hA a 5) (hA a 6) (hA a 7) (-1) B),(bH (hK a) (hN a) (hV a) (hA a 0) (hA a 1) (hA a 2) (hA a 3) (hA a 4) (hA a 5) (hA a 6) (hA a 7))])))) none) none
abbrev Vz(b:Code):Prop:=∀(k:Out->St W->Option R) name0 authority1 end2 b3 a s5,B3 (J8 L) Q Y b ⟨gp [(2,.ptr 0 0 0),(2,pS name0),(3,pS authority1),(0,.ptr 1 0 0),(1,pI end2),(95,pB b3)] 78,[bU0,(bU name0 a 0 [] 0 0 0 0 0 0 0 0 0 (-1) s5)],s⟩ k=Ly L name0 authority1 end2 a s5 (λn0 q r l a m n o i p d e f g h j c=>k .ret ⟨gp [(2,.ptr 0 0 0),(0,pI n0)] 183,((bU q r l a m n o i p d e f g h j)::c),s⟩)
theorem FT:Vz (R:=R) L Q Y s (cd [1,1,1,1,1,1,1,1,1,1,1,1,1,1] M5):=by intro k d b f j h i;unfold Ly;exact(a8 (by kernel_rfl) (A0 (A4 λg=>(A0 (A4 λa=>(A0 rfl (A4 λe=>(A0 (A4 λc=>((FW L Q Y s (E1 4 (E0 (J8 L) Q Y (cd [1,1,1,1,1,1,1,1,1,1,1,1,1,1,1,1,1,0,1,0,1,1] M5) (E0 (J8 L) Q Y (cd [1,1,1,1,1,1,1,1,1,1,1,1,1,1,1,1,1,1] M5) k))) L d b 0 c h (hK a) (hN a) (hV a) (hA a 0) (hA a 1) (hA a 2) (hA a 3) (hA a 4) (hA a 5) (hA a 6) (hA a 7) i).trans (by kernel_rfl))) (A0 rfl rfl))))) rfl)) rfl))
noncomputable def Ix{R:Type}(L:Nat)(v b O:By)(A:Int->By->By->Int->By->Int->Int->Int->Int->Int->Int->Int->Int->Int->Int->By->(List Blk)->Option R):Option R:=vl (A1 ((b.length:Int)-1)) λC=>Z6 L L v b C O (λg a r t=>cond (A3 a.length) (vl (↑(S7 a ([58]:List UInt8)):Int) λq=>cond (not (a==e0)) (cond (inR 0 a.length) (vl (bAt a (0:Int)) λD=>Cv g a q (D==91) r t (λB=>A 4 e0 e0 0 e0 0 0 0 0 0 0 0 0 0 0 e0 B) (λm e o M F G=>T6 L m e o F G A) (λn f p N H I=>Ly L n f p H I A)) none) (Cv g a q false r t (λu=>A 4 e0 e0 0 e0 0 0 0 0 0 0 0 0 0 0 e0 u) (λh c j J w x=>T6 L h c j w x A) (λi d l K y z=>Ly L i d l y z A))) none)
abbrev Wa(b:Code):Prop:=∀(k:Out->St W->Option R) name0 authority1 a,B3 (J8 L) Q Y b ⟨gp [(2,.ptr 0 0 0),(2,pS name0),(3,pS authority1),(0,.ptr 1 0 0)] 176,[bU0,(bU name0 [] 0 [] 0 0 0 0 0 0 0 0 0 (-1) a)],s⟩ k=Ix L name0 authority1 a (λn0 q a l r m n o i p d e f g h j c=>k .ret ⟨gp [(2,.ptr 0 0 0),(0,pI n0)] 183,((bU q a l r m n o i p d e f g h j)::c),s⟩)
theorem Au1(b:Code)(d:Vx (R:=R) L Q Y s b)(a:Code)(e:Vy (R:=R) L Q Y s a)(f:Vz (R:=R) L Q Y s a):Wa (R:=R) L Q Y s (cd [1,1,1,1,1,1,1,1,1,1,1] (G6 [1,1,1,1,1,1,1,1,1,1,1,1,1,1] a (G6 [1,1,1,1,1,1,1,1,1,1,1,1,1,0,1] b M5))):=by intro k B l T;unfold Ix;exact let S:=(E0 (J8 L) Q Y a k);(a8 (by kernel_rfl) (A4 λJ=>((FU L Q Y s (E1 2 (E0 (J8 L) Q Y (cd [1,1,1,1,1,1,1,1,1,1,1,1] (G6 [1,1,1,1,1,1,1,1,1,1,1,1,1,1] a (G6 [1,1,1,1,1,1,1,1,1,1,1,1,1,0,1] b M5))) k)) L B l J T).trans (congr rfl (fx4 λm c x y=>(a8 (by kernel_rfl) (A0 (A4 λw=>(A0 (A0 (A4 λK=>((d S m c w (K==91) x y).trans (congr (congr (congr rfl (by kernel_rfl)) (fx6 λr i u H M N=>(a8 (by kernel_rfl) ((e k r i u H M N).trans (by kernel_rfl))))) (fx6 λt j v I O P=>(a8 (by kernel_rfl) ((f k t j v I O P).trans (by kernel_rfl))))))) rfl) ((d S m c w false x y).trans (congr (congr (congr rfl (by kernel_rfl)) (fx6 λn g p z C D=>(a8 (by kernel_rfl) ((e k n g p z C D).trans (by kernel_rfl))))) (fx6 λo h q A F G=>(a8 (by kernel_rfl) ((f k o h q A F G).trans (by kernel_rfl)))))))) rfl)))))))
theorem Au2:Wa (R:=R) L Q Y s (cd [1,1,1,1,1,1,1,1,1,1,1] M5):=by intro k b a c;exact a8 (by kernel_rfl) (Au1 L Q Y s (cd [1,1,1,1,1,1,1,1,1,1,1,1,1,0,1] M5) (FR L Q Y s) (cd [1,1,1,1,1,1,1,1,1,1,1,1,1,1] M5) (FS L Q Y s) (FT L Q Y s) k b a c)
noncomputable def OD{R:Type}(L:Nat)(y z b:By)(J:Int->By->By->Int->By->Int->Int->Int->Int->Int->Int->Int->Int->Int->Int->By->(List Blk)->Option R):Option R:=vl (A1 ((b.length:Int)-1)) λw=>Z6 L L y b w z (λg a r t=>cond (A3 a.length) (vl (↑(S7 a ([58]:List UInt8)):Int) λq=>cond (not (a==e0)) (cond (inR 0 a.length) (vl (bAt a (0:Int)) λx=>Cv g a q (x==91) r t (λu=>J 4 e0 e0 0 e0 0 0 0 0 0 0 0 0 0 0 e0 u) (λh c m K A B=>T6 L h c m A B J) (λi d n M C D=>Ly L i d n C D J)) none) (Cv g a q false r t (λv=>J 4 e0 e0 0 e0 0 0 0 0 0 0 0 0 0 0 e0 v) (λj e o N F G=>T6 L j e o F G J) (λl f p O H I=>Ly L l f p H I J))) none)
abbrev Wb(b:Code):Prop:=∀(k:Out->St W->Option R) name0 rest1 authority2 b3,B3 (J8 L) Q Y b ⟨gp [(2,.ptr 0 0 0),(2,pS name0),(0,pS rest1),(2,pS authority2),(0,.ptr 1 0 0),(66,pB b3)] 109,[bU0,(bU name0 [] 0 [] 0 0 0 0 0 0 0 0 0 (-1) rest1)],s⟩ k=OD L name0 rest1 authority2 (λn0 p q j r l m n h o c d e f g i a=>k .ret ⟨gp [(2,.ptr 0 0 0),(0,pI n0)] 183,((bU p q j r l m n h o c d e f g i)::a),s⟩)
theorem Au4(b:Code)(d:Vx (R:=R) L Q Y s b)(a:Code)(e:Vy (R:=R) L Q Y s a)(f:Vz (R:=R) L Q Y s a):Wb (R:=R) L Q Y s (cd [1,1,1,1,1,1,1,1,1,1,1] (G6 [1,1,1,1,1,1,1,1,1,1,1,1,1,1] a (G6 [1,1,1,1,1,1,1,1,1,1,1,1,1,0,1] b M5))):=by intro k G H m U;unfold OD;exact let T:=(E0 (J8 L) Q Y a k);(a8 (by kernel_rfl) (A4 λD=>((FU L Q Y s (E1 2 (E0 (J8 L) Q Y (cd [1,1,1,1,1,1,1,1,1,1,1,1] (G6 [1,1,1,1,1,1,1,1,1,1,1,1,1,1] a (G6 [1,1,1,1,1,1,1,1,1,1,1,1,1,0,1] b M5))) k)) L G m D H).trans (congr rfl (fx4 λl c x y=>(a8 (by kernel_rfl) (A0 (A4 λw=>(A0 (A0 (A4 λF=>((d T l c w (F==91) x y).trans (congr (congr (congr rfl (by kernel_rfl)) (fx6 λn g r z I J=>(a8 (by kernel_rfl) ((e k n g r z I J).trans (by kernel_rfl))))) (fx6 λo h t A K M=>(a8 (by kernel_rfl) ((f k o h t A K M).trans (by kernel_rfl))))))) rfl) ((d T l c w false x y).trans (congr (congr (congr rfl (by kernel_rfl)) (fx6 λp i u B N O=>(a8 (by kernel_rfl) ((e k p i u B N O).trans (by kernel_rfl))))) (fx6 λq j v C P S=>(a8 (by kernel_rfl) ((f k q j v C P S).trans (by kernel_rfl)))))))) rfl)))))))
theorem Au5:Wb (R:=R) L Q Y s (cd [1,1,1,1,1,1,1,1,1,1,1] M5):=by intro k b c a d;exact a8 (by kernel_rfl) (Au4 L Q Y s (cd [1,1,1,1,1,1,1,1,1,1,1,1,1,0,1] M5) (FR L Q Y s) (cd [1,1,1,1,1,1,1,1,1,1,1,1,1,1] M5) (FS L Q Y s) (FT L Q Y s) k b c a d)
noncomputable def Rc{R:Type}(L:Nat)(s0:By)(k0:By->By->Int->By->Int->Int->Int->Int->Int->Int->Int->Int->Int->Int->By->Int->(List Blk)->Option R):Option R:=Fh L L s0 0 (λb4=>k0 e0 e0 0 e0 0 0 0 0 0 0 0 0 0 0 e0 4 (bU0::b4)) (λa=>cond (A3 a.length) (cond (not (((Ei a)).2).2) (k0 e0 e0 0 e0 0 0 0 0 0 0 0 0 0 0 e0 15 [bU0]) (cond (not (H8 ((Ei a)).1)) (k0 ((Ei a)).1 e0 0 e0 0 0 0 0 0 0 0 0 0 (-1) (((Ei a)).2).1 0 [(bU (((Ei a)).1) e0 (0:Int) e0 (0:Int) (0:Int) (0:Int) (0:Int) (0:Int) (0:Int) (0:Int) (0:Int) (0:Int) ((-1):Int) ((((Ei a)).2).1))]) (cond (ltI (↑(j4 (((Ei a)).2).1):Int) (2:Int)) (k0 e0 e0 0 e0 0 0 0 0 0 0 0 0 0 0 e0 4 [bU0]) (cond (I9 0 (2:Int) (j4 (((Ei a)).2).1)) (vl (cut (((Ei a)).2).1 (0:Int) (2:Int)) λb5=>cond (not (b5==[47,47])) (k0 e0 e0 0 e0 0 0 0 0 0 0 0 0 0 0 e0 4 [bU0]) (cond (I9 2 (↑(j4 (((Ei a)).2).1):Int) (j4 (((Ei a)).2).1)) (vl (cut (((Ei a)).2).1 (2:Int) (↑(j4 (((Ei a)).2).1):Int)) λb=>cond (A3 b.length) (vl (↑(S7 b ([47,63,35]:List UInt8)):Int) λd=>cond (I9 0 d b.length) (cond (I9 d (b.length:Int) b.length) (vl (cut b d (b.length:Int)) λc=>cond (c==e0) (cond (E8 1 c.length) (vl (([47]:List UInt8)++c) λb2=>Ix L ((Ei a)).1 (cut b 0 d) b2 (λa9 P S e T f g h i j l m n o p U a5=>k0 P S e T f g h i j l m n o p U a9 ((bU P S e T f g h i j l m n o p U)::a5))) none) (cond (inR 0 c.length) (cond ((bAt c (0:Int))!=47) (cond (E8 1 c.length) (vl (([47]:List UInt8)++c) λb3=>Ix L ((Ei a)).1 (cut b 0 d) b3 (λb0 V X q Z r t u v w x y z A B a0 a6=>k0 V X q Z r t u v w x y z A B a0 b0 ((bU V X q Z r t u v w x y z A B a0)::a6))) none) (OD L ((Ei a)).1 c (cut b 0 d) (λb1 a1 a2 C a3 D F G H I J K M N O a4 a7=>k0 a1 a2 C a3 D F G H I J K M N O a4 b1 ((bU a1 a2 C a3 D F G H I J K M N O a4)::a7)))) none)) none) none) none) none)) none)))) none)
theorem C35(a:Code)(b:Wa (R:=PV × List Blk × W) L Q Y s a)(c:Wb (R:=PV × List Blk × W) L Q Y s a)(t:By):B3 (J8 L) Q Y (cd [] (G6 [1,1,1,1,1,1,1,1,1,1,1] a M5)) ⟨[pS t]++tps 186,[],s⟩ (F3 (J8 L) ah7)=Rc L t (λu v w x y z A B r8 C m n o p q r l=>some (.tup [(gU u v w x y z A B r8 C m n o p q),pI r],l,s)):=by unfold Rc;exact let j:=(F3 (J8 L) ah7);(a8 (by kernel_rfl) ((Au6 L Q Y s (E1 0 (E0 (J8 L) Q Y (cd [1,1] (G6 [1,1,1,1,1,1,1,1,1,1,1] a M5)) j)) L t 0).trans (congr (congr rfl (by kernel_rfl)) (fx1 λe=>(a8 (by kernel_rfl) (A0 (A0 rfl (A0 rfl (A0 rfl (A0 (A4 λD=>(A0 rfl (A0 (A4 λf=>(A0 (A4 λd=>(A0 (A0 (A4 λi=>(A0 (A0 (A4 λg=>((b j ((Ei e)).1 (cut f 0 d) g).trans (by kernel_rfl))) rfl) (A0 (A0 (A0 (A4 λh=>((b j ((Ei e)).1 (cut f 0 d) h).trans (by kernel_rfl))) rfl) ((c j ((Ei e)).1 i (cut f 0 d) ((bAt i (0:Int))!=47)).trans (by kernel_rfl))) rfl))) rfl) rfl)) rfl)) rfl))) rfl)))) rfl))))))
theorem C36(d:Nat)(s0):evC (J8 L) (d+1) W Y 13 [pS s0] [] s=Rc L s0 (λi j l m n o p q r8 r b c e f g h a=>some (.tup [(gU i j l m n o p q r8 r b c e f g),pI h],a,s)):=
 (evE (fn:=ah7) (by kernel_rfl)).trans (a8 (by kernel_rfl) (C35 L (evC (J8 L) d) Y s (cd [1,1,1,1,1,1,1,1,1,1,1] M5) (Au2 L (evC (J8 L) d) Y s) (Au5 L (evC (J8 L) d) Y s) s0))
noncomputable def CE(L:Nat):Cfg:=B8 L [7] (A2 []) [(13,WN)] (A2 [(3,[2,0]),(2,[2,0]),(1,[0,1,3]),(0,[0,1])]) [] (A2 []) (some [2,0]) [] [] []
noncomputable def HV{R:Type}(L:Nat)(b:By)(c:By->By->Int->By->Int->Int->Int->Int->Int->Int->Int->Int->Int->Int->By->Int->(List Blk)->Option R):Option R:=cond (ltI 2048 (b.length:Int)) (c e0 e0 0 e0 0 0 0 0 0 0 0 0 0 0 e0 3 [bU0]) (cond (A3 b.length) (vl (C2 b) λa=>c (uS a) (uU a) (uK a) (uN a) (uV a) (uA a 0) (uA a 1) (uA a 2) (uA a 3) (uA a 4) (uA a 5) (uA a 6) (uA a 7) (uP a) (uR a) (uE a) [(bQ a)]) none)
theorem Bo0(d:Nat)(s0):evC (CE L) (d+1) W Y 7 [pS s0] [] s=HV L s0 (λi j l m n o p q r8 r b c e f g h a=>some (.tup [(gU i j l m n o p q r8 r b c e f g),pI h],a,s)):=by refine(evE (fn:=Tryz.f7) (by kernel_rfl)).trans ?_;generalize evC (CE L) d=Q;unfold HV;kernel_rfl
noncomputable def LA(L:Nat):Cfg:=B8 L [34] (A2 []) [(22,JS),(20,WF),(60,IG)] (A2 [(11,[2]),(8,[1,1]),(10,[1,1]),(9,[1,1,37]),(7,[1,1,28]),(6,[1,1]),(5,[1,1]),(4,[1,1,15]),(3,[1,1]),(2,[2]),(1,[1,5]),(0,[1])]) [22,20,60] (A2 []) (some [2]) [] [] []
noncomputable def Wh{R:Type}(L:Nat)(j t:By)(u:Int)(m:By)(n o p q u8 r e f g c:Int)(a:By)(z:By->(List Blk)->Option R):Option R:=cond (not (H8 j)) (cond (E8 j.length 1) (vl (j++[58]) λA=>cond (E8 A.length a.length) (z (A++a) [(bU j t u m n o p q u8 r e f g c a)]) none) none) (cond (E8 j.length 3) (vl (j++[58,47,47]) λb=>cond (not (t==e0)) (cond (E8 t.length 1) (vl (t++[64]) λh=>cond (E8 b.length h.length) (cond (A3 m.length) (cond (ltN n 4294967296) (cond (ok8 o p q u8 r e f g) (vl (P0 (mkH u m n (n8 o p q u8 r e f g))) λi=>cond (E8 (j4 (b++h)) i.length) (cond (not (ltI c 0)) (cond (ltN c 9223372036854775808) (vl (ai4 (j7 c)) λD=>cond (E8 1 D.length) (vl (([58]:List UInt8)++D) λF=>cond (E8 (j4 ((b++h)++i)) F.length) (vl (((b++h)++i)++F) λv=>cond (E8 v.length a.length) (z (v++a) [(bU j t u m n o p q u8 r e f g c a)]) none) none) none) none) (cond (ltI c ((-1):Int)) (cond (E8 (j4 ((b++h)++i)) 2) (vl (((b++h)++i)++[58,120]) λw=>cond (E8 w.length a.length) (z (w++a) [(bU j t u m n o p q u8 r e f g c a)]) none) none) (cond (E8 (j4 ((b++h)++i)) a.length) (vl (((b++h)++i)++a) λB=>z B [(bU j t u m n o p q u8 r e f g c a)]) none))) none) none) none) none) none) none) (cond (A3 m.length) (cond (ltN n 4294967296) (cond (ok8 o p q u8 r e f g) (vl (P0 (mkH u m n (n8 o p q u8 r e f g))) λd=>cond (E8 b.length d.length) (cond (not (ltI c 0)) (cond (ltN c 9223372036854775808) (vl (ai4 (j7 c)) λx=>cond (E8 1 x.length) (vl (([58]:List UInt8)++x) λl=>cond (E8 (j4 (b++d)) l.length) (cond (E8 (j4 ((b++d)++l)) a.length) (vl (((b++d)++l)++a) λC=>z C [(bU j t u m n o p q u8 r e f g c a)]) none) none) none) none) (cond (ltI c ((-1):Int)) (cond (E8 (j4 (b++d)) 2) (vl ((b++d)++[58,120]) λy=>cond (E8 y.length a.length) (z (y++a) [(bU j t u m n o p q u8 r e f g c a)]) none) none) (cond (E8 (j4 (b++d)) a.length) (z ((b++d)++a) [(bU j t u m n o p q u8 r e f g c a)]) none))) none) none) none) none)) none)
theorem Ch2(d:Nat)(u0 u1 u2 u3 u4 u5 u6 u7 u8 u9 u10 u11 u12 u13 u14):evC (LA L) (d+1) W Y 34 [(gU u0 u1 u2 u3 u4 u5 u6 u7 u8 u9 u10 u11 u12 u13 u14)] [] s=Wh L u0 u1 u2 u3 u4 u5 u6 u7 u8 u9 u10 u11 u12 u13 u14 (λb a=>some (pS b,a,s)):=by refine(evE (fn:=Tryz.f34) (by kernel_rfl)).trans ?_;generalize evC (LA L) d=Q;unfold Wh;kernel_rfl
noncomputable def Vb(L:Nat):Cfg:=B8 L [17] (A2 []) [(34,Ah6),(13,WN)] (A2 [(2,[2]),(1,[1,1,0]),(0,[1])]) [34] (A2 []) (some [2]) [] [] []
noncomputable def Zr{R:Type}(L:Nat)(h i:By)(q:Int)(j:By)(l m n o u8 p b c d e:Int)(f:By)(r:Bool->(List Blk)->Option R):Option R:=cond (smU h i j f) (cond (ltN l 4294967296) (cond (ok8 m n o u8 p b c d) (cond (R7 e) (vl (Jg (mkU h i q j l (n8 m n o u8 p b c d) e f)) λg=>cond (A3 g.length) (vl (C2 g) λa=>cond ((uE a)==0) (r (((uS a)==h)&&(((uU a)==i)&&(((uK a)==q)&&(((uN a)==j)&&(((uV a)==l)&&(((uA a 0)==m)&&(((uA a 1)==n)&&(((uA a 2)==o)&&(((uA a 3)==u8)&&(((uA a 4)==p)&&(((uA a 5)==b)&&(((uA a 6)==c)&&(((uA a 7)==d)&&(((uP a)==e)&&(((uR a)==f)&&true))))))))))))))) [(bU h i q j l m n o u8 p b c d e f),(bQ a)]) (r false [(bU h i q j l m n o u8 p b c d e f),(bQ a)])) none) none) none) none) none
theorem Aw2(d:Nat)(u0 u1 u2 u3 u4 u5 u6 u7 u8 u9 u10 u11 u12 u13 u14):evC (Vb L) (d+1) W Y 17 [(gU u0 u1 u2 u3 u4 u5 u6 u7 u8 u9 u10 u11 u12 u13 u14)] [] s=Zr L u0 u1 u2 u3 u4 u5 u6 u7 u8 u9 u10 u11 u12 u13 u14 (λb a=>some (pB b,a,s)):=by refine(evE (fn:=Tryz.f17) (by kernel_rfl)).trans ?_;generalize evC (Vb L) d=Q;unfold Zr;kernel_rfl
noncomputable def YM(L:Nat):Cfg:=B8 L [9] (A2 []) [] (A2 [(1,[2]),(0,[1])]) [] (A2 []) (some [2]) [] [] []
noncomputable def B28{R:Type}(L:Nat)(f h:By)(i:Int)(j:By)(l m n o u8 p a b c d:Int)(e:By)(g:Bool->(List Blk)->Option R):Option R:=cond (f==[104,116,116,112]) (g true [(bU f h i j l m n o u8 p a b c d e)]) (g (f==[119,115]) [(bU f h i j l m n o u8 p a b c d e)])
theorem C33(d:Nat)(u0 u1 u2 u3 u4 u5 u6 u7 u8 u9 u10 u11 u12 u13 u14):evC (YM L) (d+1) W Y 9 [(gU u0 u1 u2 u3 u4 u5 u6 u7 u8 u9 u10 u11 u12 u13 u14)] [] s=B28 L u0 u1 u2 u3 u4 u5 u6 u7 u8 u9 u10 u11 u12 u13 u14 (λb a=>some (pB b,a,s)):=by refine(evE (fn:=Tryz.f9) (by kernel_rfl)).trans ?_;generalize evC (YM L) d=Q;unfold B28;kernel_rfl
end
theorem Aw1{R:Type}{e:Bool->Option R}(s:By):Ac9 LF s e=e (H8 s):=by unfold Ac9 H8 Dd bWs Bj Uk;generalize (s==([104,116,116,112]:List UInt8))=a;generalize (s==([119,115]:List UInt8))=b;generalize (s==([104,116,116,112,115]:List UInt8))=c;generalize (s==([119,115,115]:List UInt8))=d;cases a<;>cases b<;>cases c<;>cases d<;>rfl
theorem Bo5{R:Type}{e:Int->Option R}(s:By):B29 LF s e=e (Q1 s):=by unfold B29 Q1 Dd bWs Bj Uk;generalize (s==([104,116,116,112]:List UInt8))=a;generalize (s==([119,115]:List UInt8))=b;generalize (s==([104,116,116,112,115]:List UInt8))=c;generalize (s==([119,115,115]:List UInt8))=d;cases a<;>cases b<;>cases c<;>cases d<;>rfl
theorem Ls(a b:UInt8):((a.toNat:Int)==(b.toNat:Int))=(a==b):=by rw[p5,beq_iff_eq,beq_iff_eq];exact⟨λh=>y9.1 (by omega),λh=>by rw[h]⟩
theorem C32{R:Type}{a:Int->Option R}{b:By->By->Int->Option R}(s t:By)(i:Nat)(h:s.length<=1000000000)(k:t.length<=1000000000)(g:i<s.length):∀(r j n:Nat),j+r=t.length->r<n->
  It LF n s t (i:Int) (j:Int) a b=if (t.drop j).contains (s.getD i 0)=true then a (i:Int) else b s t (i:Int):=by
 intro r
 induction r with
 | zero=>
  intro j n d e;obtain⟨n,rfl⟩:∃m,n=m+1:=⟨n-1,by omega⟩
  rw[It];rw[A6,j5 (by omega)];rfl
 | succ r f=>
  intro j n d e;obtain⟨n,rfl⟩:∃m,n=m+1:=⟨n-1,by omega⟩
  have c:A1 ((j:Int)+1)=((j+1:Nat):Int):=by rw[A7];rfl
  rw[It];rw[A9,F2,F2,D4,D4,Ls,D6 t j (by omega),ac8,c];simp only[cond_true];rw[f (j+1) n (by omega) (by omega)];cases (s.getD i 0==t.getD j 0)<;>rfl
theorem Cg8{R:Type}{a:Int->Option R}{c:By->Option R}(s t:By)(j:s.length<=1000000000)(k:t.length<=1000000000):∀(r i n:Nat),i+r=s.length->r<n->
  Iu LF n s t (i:Int) a c=if S7 (s.drop i) t<r then a ((i+S7 (s.drop i) t:Nat):Int) else c s:=by
 have e:=C5;intro r
 induction r with
 | zero=>
  intro i n f g;obtain⟨n,rfl⟩:∃m,n=m+1:=⟨n-1,by omega⟩
  rw[Iu];rw[A6,G1];rfl
 | succ r l=>
  intro i n f g;obtain⟨n,rfl⟩:∃m,n=m+1:=⟨n-1,by omega⟩
  have d:A1 ((i:Int)+1)=((i+1:Nat):Int):=by rw[A7];rfl
  rw[Iu];rw[A9,cond_true];refine a8 (C32 s t i j k (by omega) t.length 0 LF (by omega) (by omega)) ?_;rw[o9,d,l (i+1) n (by omega) (by omega),D6 s i (by omega)];unfold S7;cases h:t.contains (s.getD i 0) with
  | true=>
   rw[if_pos rfl,y7,h];rfl
  | false=>
   rw[if_neg (by simp),y7,h];simp only[j2,if_true,j8,ad4];rw[show i+1+(ah4 (λb=>!t.contains b) (s.drop (i+1))).length=i+((ah4 (λb=>!t.contains b) (s.drop (i+1))).length+1) by omega]
theorem A88(s t:By):S7 s t<=s.length:=ai8 (List.takeWhile_sublist _)
theorem Bn8{R:Type}{a:Int->Option R}(s t:By)(b:A3 s.length=true)(c:A3 t.length=true):C30 LF s t a=a (S7 s t:Int):=by
 have e:=L4 b;have f:=L4 c;have d:=C5;have g:=A88 s t;refine(Cg8 s t e f s.length 0 LF (by omega) (by omega)).trans ?_;rw[o9,aj1];split
 ·rfl
 ·rw[show S7 s t=s.length by omega]
set_option maxHeartbeats 4000000 in theorem FZ{R:Type}(s:By)(i:Nat)(b:UInt8)(f:By->Int->Option R)(g:Unit->Option R) :
  Bc s (i:Int) (b.toNat:Int) (λs i _=>f s i) g=if Q8 b=true\/(i≠0/\L8 b=true) then f s i else g ():=by
 have a:(b=43)=(b.toNat=43):=by rw[eq_iff_iff,<-y9];rfl
 have d:(b=45)=(b.toNat=45):=by rw[eq_iff_iff,<-y9];rfl
 have e:(b=46)=(b.toNat=46):=by rw[eq_iff_iff,<-y9];rfl
 simp only[V6,Fj,a,d,e];unfold Bc Ja Zq Mb Iz Ma Iy;generalize b.toNat=c;simp only[cond_eq_ite,aa0,Qu,beq_iff_eq,Bool.not_eq_false',Nm,beq_eq_false_iff_ne,b9,j2,aa4,Bool.true_eq_false,if_true,if_false,ne_eq]
 repeat' split
 all_goals first|rfl|(exfalso;omega)
theorem Ae6{c:UInt8}:∀{p:By},c∉p->p.takeWhile (λb=>b !=c)=p
 | [],_=>rfl
 | b::p,h=>by
  simp only[ab8,not_or] at h;rw[y7,if_pos (by simpa using ah2 h.1),Ae6 h.2]
theorem C65{c:UInt8}{p:By}(r:By)(h:c∉p):(p++c::r).takeWhile (λb=>b !=c)=p:=by
 rw[List.takeWhile_append_of_pos (λx a=>by
  rw[bne_iff_ne];intro e;subst e;exact h a),y7,if_neg (by simp),ac3]
theorem Eb1{c b:UInt8}(r:By)(h:b≠c):(b::r).takeWhile (λb=>b !=c)=b::r.takeWhile λb=>b !=c:=by rw[y7,if_pos (by simpa using h)]
theorem Cr8(b:UInt8):((b.toNat:Int)==58)=(b==58):=Ls b 58
theorem Bo3{R:Type}{c:By->By->Bool->Option R}(s:By)(q:s.length<=1000000000):∀(r i n:Nat),1<=i->i+r=s.length->r<n->
  P4 LF n s (i:Int) c (λ_=>c [] [] false)=if ((s.drop i).takeWhile λb=>b !=58).all L8=true/\((s.drop i).takeWhile λb=>b !=58).length<r then c (B6 (s.take (i+((s.drop i).takeWhile λb=>b !=58).length))) (s.drop (i+((s.drop i).takeWhile λb=>b !=58).length+1)) true else c [] [] false:=by
 intro r
 induction r with
 | zero=>
  intro i n k l o;obtain⟨n,rfl⟩:∃m,n=m+1:=⟨n-1,by omega⟩
  rw[P4];rw[A6,G1];rfl
 | succ r p=>
  intro i n k l o;obtain⟨n,rfl⟩:∃m,n=m+1:=⟨n-1,by omega⟩
  have g:A1 ((i:Int)+1)=((i+1:Nat):Int):=by rw[A7];rfl
  rw[P4];unfold Lz;rw[A9,F2,D4,D6 s i (by omega),Cr8,A9];simp only[cond_true,cond_false];by_cases a:s.getD i 0=58
  ·rw[a,show((58:UInt8)==58)=true from rfl,cond_true,show((58:UInt8)::s.drop (i+1)).takeWhile (λb=>b !=58)=[] from rfl,if_pos ⟨rfl,by simp⟩];simp only[vl];rw[I4,L2,b8,E7 (by rw[o7];omega),g,I4,Q6,b8];rfl
  ·rw[show(s.getD i 0==58)=false by simpa using a,cond_false,Eb1 _ a];simp only[vl];refine(FZ s i (s.getD i 0) (λf e=>P4 LF n f (A1 (e+1)) c λ_=>c [] [] false) (λ_=>c [] [] false)).trans ?_;rw[g,p (i+1) n (by omega) (by omega) (by omega),ab6,j8];have j:(Q8 (s.getD i 0)=true\/i≠0/\L8 (s.getD i 0)=true)↔L8 (s.getD i 0)=true:=by
    refine⟨λh=>?_,λh=>.inr ⟨by omega,h⟩⟩;rcases h with h|⟨_,h⟩
    ·rw[Fj];rw[V6] at h;exact h.elim .inl λh=>.inr (.inl h)
    ·exact h
   by_cases d:L8 (s.getD i 0)=true
   ·rw[if_pos (j.2 d)];simp only[d,x6,ad4];rw[show i+1+((s.drop (i+1)).takeWhile λb=>b !=58).length=i+(((s.drop (i+1)).takeWhile λb=>b !=58).length+1) by omega]
   ·rw[if_neg (λh=>d (j.1 h)),if_neg (λh=>d (by have:=h.1;rw[o6] at this;exact this.1))]
theorem Bo4{R:Type}{a:By->By->Bool->Option R}(s:By)(n:A3 s.length=true):Av0 LF s a=a (Ei s).1 (Ei s).2.1 (Ei s).2.2:=by
 have u:=L4 n;have o:=C5;obtain⟨N,hN⟩:∃m,LF=m+1:=⟨LF-1,by omega⟩
 unfold Av0;rw[show P4 LF LF = @P4 R LF (N+1) by rw[<-hN],P4];unfold Lz;cases s with
 | nil=>
  rfl
 | cons b r=>
  rw[j8] at u;rw[B9 (by simp only[j8];omega),K7 (by omega) (by simp),Ay,y5,Cr8,A6];simp only[cond_true,cond_false,vl];have l:A1 (((0:Nat):Int)+1)=((1:Nat):Int):=rfl;have go:Bc (b::r) ((0:Nat):Int) (b.toNat:Int) (λe d _=>P4 LF N e (A1 (d+1)) a λ_=>a [] [] false) (λ_=>a [] [] false)=if Q8 b=true/\(r.takeWhile λb=>b !=58).all L8=true/\(r.takeWhile λb=>b !=58).length<r.length then a (B6 ((b::r).take (1+(r.takeWhile λb=>b !=58).length))) ((b::r).drop (1+(r.takeWhile λb=>b !=58).length+1)) true else a [] [] false:=by
   refine(FZ (b::r) 0 b (λe d=>P4 LF N e (A1 (d+1)) a λ_=>a [] [] false) (λ_=>a [] [] false)).trans ?_;rw[l,Bo3 (b::r) (by simp;omega) r.length 1 N (by omega) (by simp;omega) (by omega)];by_cases j:Q8 b=true
   ·rw[if_pos (.inl j)];simp only[j,true_and];rfl
   ·rw[if_neg (by simp[j]),if_neg (λh=>j h.1)]
  have k:∀c,(bif c then Bc (b::r) 0 (b.toNat:Int) (λe d _=>P4 LF N e (A1 (d+1)) a λ_=>a [] [] false) (λ_=>a [] [] false) else Bc (b::r) 0 (b.toNat:Int) (λe d _=>P4 LF N e (A1 (d+1)) a λ_=>a [] [] false) (λ_=>a [] [] false))=Bc (b::r) ((0:Nat):Int) (b.toNat:Int) (λe d _=>P4 LF N e (A1 (d+1)) a λ_=>a [] [] false) (λ_=>a [] [] false):=λc=>by cases c<;>rfl
  refine(k _).trans (go.trans ?_);unfold Ei;rcases R2 58 r with f|⟨p,t,rfl,f⟩
  ·rw[Ae6 f,G1];by_cases i:b=58
   ·subst i;rw[show ad1 (58::r) [58]=([],r,true) from U6 (p:=[]) (by simp)];rfl
   ·rw[Lg (by simp only[ab8,not_or];exact⟨ah2 i,f⟩)];rfl
  ·rw[C65 t f];by_cases i:b=58
   ·subst i;rw[show ad1 (58::(p++58::t)) [58]=([],p++58::t,true) from U6 (p:=[]) (by simp),if_neg (λh=>by cases h.1)];rfl
   ·rw[show ad1 (b::(p++58::t)) [58]=(b::p,t,true) from U6 (p:=b::p) (by simp only[ab8,not_or];exact⟨ah2 i,f⟩)];simp only[x6];have q:T7 (b::p)=(Q8 b&&p.all L8):=rfl;rw[q];by_cases g:Q8 b=true/\p.all L8=true
    ·rw[if_pos ⟨g.1,g.2,by simp⟩,g.1,g.2,show(b::(p++58::t))=(b::p)++58::t from rfl,show 1+p.length=(b::p).length by rw[j8];omega,af0,show(b::p)++58::t=((b::p)++[58])++t by simp,ae3 (by simp)];rfl
    ·rw[if_neg (λh=>g ⟨h.1,h.2.1⟩),if_neg (by simpa using g)]
def PT:Int->By->Option Int
 | n,[]=>some n
 | n,b::r=>if 48<=b.toNat/\b.toNat<=57 then PT (min (n*10+((b.toNat-48:Nat):Int)) 1048576) r else none
theorem Ap4:∀(l:By) (n v:Int),0<=v->v<=65536->n<=1048576->(v<65536->n=v)->(v=65536->65536<=n)->Ii v l=(PT n l).bind λm=>if 65535<m then none else some m
 | [],n,v,d,e,f,c,g=>by
  unfold Ii PT;rw[ab4];by_cases h:v<65536
  ·rw[if_pos h,G1,c h]
  ·rw[if_neg h,R0]
 | b::r,n,v,d,e,f,c,g=>by
  unfold Ii PT;by_cases a:48<=b.toNat/\b.toNat<=57
  ·rw[if_pos a,if_pos a];exact Ap4 r _ _ (by omega) (by omega) (by omega) (by omega) (by omega)
  ·rw[if_neg a,if_neg a];rfl
theorem Bd1(b:UInt8)(r:By):Ii (-1) (b::r)=Ii 0 (b::r):=rfl
theorem Ar6:∀(l:By) (n m:Int),0<=n->n<=1048576->PT n l=some m->0<=m/\m<=1048576
 | [],n,m,a,c,h=>by
  obtain rfl:n=m:=Option.some.inj h;exact⟨a,c⟩
 | b::r,n,m,a,c,h=>by
  unfold PT at h;split at h
  ·exact Ar6 r _ m (by omega) (by omega) h
  ·cases h
theorem Au9{R:Type}(q u t:By)(d:Int)(e:By)(f g h j k l o p c:Int)(a:By)(L:a.length<=1000000000)(w:List Blk->Option R)(x:By->Int->By->Int->By->Int->Int->Int->Int->Int->Int->Int->Int->Int->By->Option R):∀(r i n:Nat) (v:Int),i+r=a.length->r<n->0<=v->v<=1048576->
  Fi LF n q a v (i:Int) u d e f g h j k l o p c t w x=match PT v (a.drop i) with
   | none=>w [bU q u d e f g h j k l o p c (-1) t,bH d e f g h j k l o p c]
   | some m=>x q m u d e f g h j k l o p c t:=by
 intro r
 induction r with
 | zero=>
  intro i n v I J D F;obtain⟨n,rfl⟩:∃m,n=m+1:=⟨n-1,by omega⟩
  rw[Fi];rw[A6,j5 (by omega)];rfl
 | succ r K=>
  intro i n v I J D F;obtain⟨n,rfl⟩:∃m,n=m+1:=⟨n-1,by omega⟩
  have y:A1 ((i:Int)+1)=((i+1:Nat):Int):=by rw[A7];rfl
  rw[Fi];rw[A9,F2,D4,D6 a i (by omega),y];have M:=(a.getD i 0).toNat_lt;generalize a.getD i 0=b at *;unfold PT;simp only[cond_true,vl];by_cases G:b.toNat<48
  ·rw[A9,cond_true,G1]
  ·rw[A6,cond_false];by_cases H:57<b.toNat
   ·rw[A9,cond_true,G1]
   ·rw[A6,cond_false,if_pos (show 48<=b.toNat/\b.toNat<=57 by omega)];have z:A1 (v*10)=v*10:=A7;have A:wu8 ((b.toNat:Int)-48)=((b.toNat-48:Nat):Int):=by rw[N6];omega
    have B:A1 ((b.toNat-48:Nat):Int)=((b.toNat-48:Nat):Int):=A7;have C:A1 (v*10+((b.toNat-48:Nat):Int))=v*10+((b.toNat-48:Nat):Int):=A7;rw[z,A,B,C,show(if (1048576:Int)<v*10+((b.toNat-48:Nat):Int) then (1048576:Int) else v*10+((b.toNat-48:Nat):Int))=min (v*10+((b.toNat-48:Nat):Int)) 1048576 by omega];exact K (i+1) n _ (by omega) (by omega) (by omega) (by omega)
abbrev KE(R:Type):=Int->By->By->Int->By->Int->Int->Int->Int->Int->Int->Int->Int->Int->Int->By->List Blk->Option R
abbrev RH{R:Type}(a:KE R)(q:U0 × Nat)(H:List Blk):Option R:=a (uE q) (uS q) (uU q) (uK q) (uN q) (uV q) (uA q 0) (uA q 1) (uA q 2) (uA q 3) (uA q 4) (uA q 5) (uA q 6) (uA q 7) (uP q) (uR q) H
theorem Kb(c l j a:By)(e:Nat)(q:a.length<=1000000000)(w:e<=a.length):∃H,∀(R:Type) (f:KE R),T6 LF c a (e:Int) l j f=RH f (hpT (a.take e) (a.drop e) c l j) H:=by
 have p:=C5;have n:A1 ((e:Int)+1)=((e+1:Nat):Int):=by rw[A7];rfl
 have k:A3 (a.take e).length=true:=E7 (by rw[o7];omega);by_cases h:(C4 (a.take e)).2=0
 ·by_cases t:e+1<a.length
  ·have i:(a.drop e).drop 1=a.drop (e+1):=by rw[aa7]
   have r:=D6 a (e+1) t;have u:Ii (-1) (a.drop (e+1))=(PT 0 (a.drop (e+1))).bind λm=>if 65535<m then none else some m:=by
    rw[r,Bd1];exact Ap4 _ 0 0 (by omega) (by omega) (by omega) (by omega) (by omega)
   have x:=@Ar6 (a.drop (e+1)) 0;generalize v:PT 0 (a.drop (e+1))=g at *;have o:g=none\/(∃m,g=some m/\65535<m)\/(∃m,g=some m/\¬ 65535<m/\m=Q1 c)\/∃m,g=some m/\¬ 65535<m/\m≠Q1 c:=by
    cases g with
    | none=>exact .inl rfl
    | some m=>
     by_cases b:65535<m
     ·exact .inr (.inl ⟨m,rfl,b⟩)
     ·by_cases d:m=Q1 c
      ·exact .inr (.inr (.inl ⟨m,rfl,b,d⟩))
      ·exact .inr (.inr (.inr ⟨m,rfl,b,d⟩))
   rcases o with rfl|⟨m,rfl,b⟩|⟨m,rfl,b,d⟩|⟨m,rfl,b,d⟩
   all_goals
    apply o0;intro R f;unfold T6 hpT;rw[I4,L2,b8,i,u];simp only[vl,cond_true,k,h,n];rw[A9,Au9 c l j _ _ _ _ _ _ _ _ _ _ _ a q _ _ (a.length-(e+1)) (e+1) LF 0 (by omega) (by omega) (by omega) (by omega),v]
   ·rfl
   ·simp only[ab4,if_pos b];rw[A9];rfl
   ·simp only[ab4,if_neg b,if_pos d];rw[A6,show(m==Q1 c)=true by simpa using d];rfl
   ·simp only[ab4,if_neg b,if_neg d];rw[A6,show(m==Q1 c)=false by simpa using d];rfl
  ·have i:(a.drop e).drop 1=[]:=by rw[aa7,j5 (by omega)]
   apply o0;intro R f;unfold T6 hpT;rw[I4,L2,b8,i];simp only[vl,cond_true,k,h,n];rw[A6];simp only[Ii,show((-1:Int)<65536)=True by simp,if_true,ite_self,show((((0:Nat):Int)!=0))=false from rfl,cond_false,ne_eq,not_true_eq_false,if_false];cases (-1:Int)==Q1 c<;>rfl
 ·apply o0;intro R f;unfold T6 hpT;rw[I4,L2,b8];simp only[vl,cond_true,k];rw[show(((C4 (a.take e)).2:Int)!=0)=true by simpa using h,cond_true,if_pos h];rfl
theorem Dh6{c:UInt8}{a:By}(h:Ic c a=none):c∉a:=λd=>by
 rcases R2 c a with b|⟨p,r,rfl,b⟩
 ·exact b d
 ·rw[Yd r b] at h;cases h
theorem Al8(c:UInt8)(a:By):S7 a [c]=match Ic c a with|some k=>k|none=>a.length:=by
 have e:S7 a [c]=(a.takeWhile λb=>b !=c).length:=by
  unfold S7
  congr 2
  funext b
  simp[ac8,bne];rfl
 rw[e];cases h:Ic c a with
 | none=>rw[Ae6 (Dh6 h)]
 | some k=>
  obtain⟨p,r,rfl,d,rfl⟩:=Sd h;rw[C65 r d]
theorem OB(c f d a:By)(w:a.length<=1000000000):∃H,∀(R:Type) (g:KE R),(cond (not (a==([]:By)))
   (cond (inR (0:Int) (j4 a))
   (Cv c a (S7 a [58]:Int) (bAt a 0==(91:Int)) f d (λH=>RH g (Al,4) H) (λo t n y u v=>T6 LF o t n u v g) (λo t n y u v=>T6 LF o t n u v g))
   none)
   (Cv c a (S7 a [58]:Int) false f d (λH=>RH g (Al,4) H) (λo t n y u v=>T6 LF o t n u v g) (λo t n y u v=>T6 LF o t n u v g)))=RH g (N8 c f d a) H:=by
 cases a with
 | nil=>
  obtain⟨H,e⟩:=Kb c f d [] 0 w (x7 _);exact⟨H,e⟩
 | cons b r=>
  have F:(((b.toNat:Int))==91)=(b==91):=Ls b 91;have z:(!((b::r)==([]:By)))=true:=rfl;have G:inR (0:Int) (b::r).length=true:=K7 (by omega) (by simp);have A:A3 (b::r).length=true:=E7 w;rw[Ya];unfold Fd Cv;simp only[z,G,A,cond_true,cond_false,vl,Ay,y5,F,ae4,v7,Al8];by_cases j:b=91
  ·rw[show(b==91)=true by simpa using j,if_pos j];simp only[cond_true];cases B:Ic 93 (b::r) with
   | none=>
    apply o0;intro R g;simp only;rw[A7,A9];rfl
   | some k=>
    obtain⟨_,K⟩:=ZH B;have C:A1 ((k:Int)+1)=((k+1:Nat):Int):=by rw[A7];rfl
    simp only[C];rw[A6];simp only[cond_false];obtain⟨H,e⟩:=Kb c f d (b::r) (k+1) w (by omega);by_cases I:k+1<(b::r).length
    ·rw[A9,F2];simp only[cond_true,D4];have m:=D6 (b::r) (k+1) I;by_cases i:(b::r).getD (k+1) 0=58
     ·have l:hpC ((b::r).take (k+1)) ((b::r).drop (k+1)) c f d=hpT ((b::r).take (k+1)) ((b::r).drop (k+1)) c f d:=if_neg (λh=>h.2 (by rw[m,i];rfl));rw[l];refine⟨H,λR g=>a8 ?_ (e R g)⟩;rw[i];rfl
     ·have l:hpC ((b::r).take (k+1)) ((b::r).drop (k+1)) c f d=(Al,4):=if_pos ⟨by rw[m];simp,by rw[m];simpa using i⟩;rw[l];apply o0;intro R g;rw[show((((b::r).getD (k+1) 0).toNat:Int)!=58)=true by rw[bne,Cr8];simpa using i];rfl
    ·have m:(b::r).drop (k+1)=[]:=j5 (by omega);rw[A6];have l:hpC ((b::r).take (k+1)) ((b::r).drop (k+1)) c f d=hpT ((b::r).take (k+1)) ((b::r).drop (k+1)) c f d:=if_neg (λh=>h.1 m);rw[l];exact⟨H,e⟩
  ·rw[show(b==91)=false by simpa using j,if_neg j];simp only[cond_false];cases B:Ic 58 (b::r) with
   | none=>
    obtain⟨H,e⟩:=Kb c f d (b::r) (b::r).length w (x7 _);rw[ag6,List.drop_length] at e;exact⟨H,e⟩
   | some k=>
    obtain⟨p,q,x,J,D⟩:=Sd B;obtain⟨H,e⟩:=Kb c f d (b::r) k w (by rw[x,j6];omega);have m:(b::r).drop k=58::q:=by rw[x,<-D,List.drop_left]
    have l:hpC ((b::r).take k) ((b::r).drop k) c f d=hpT ((b::r).take k) ((b::r).drop k) c f d:=if_neg (λh=>h.2 (by rw[m];rfl));refine⟨H,λR g=>(e R g).trans ?_⟩;show _=RH g (hpC _ _ c f d) H;rw[l]
theorem Au8{R:Type}{c:By->By->By->By->Option R}(d a f:By)(l:a.length<=1000000000)(b:(64:UInt8)∉a):∀(j n:Nat),j<=a.length->j<n->Z6 LF n d a ((j:Int)-1) f c=c d a [] f:=by
 intro j
 induction j with
 | zero=>
  intro n g i;obtain⟨n,rfl⟩:∃m,n=m+1:=⟨n-1,by omega⟩
  rw[Z6];rw[A9];rfl
 | succ j k=>
  intro n g i;obtain⟨n,rfl⟩:∃m,n=m+1:=⟨n-1,by omega⟩
  rw[Z6];have h:a.getD j 0≠64:=λe=>b (by
   rw[<-e,o5,p7 (by omega)];exact ab2 _)
  rw[show((j+1:Nat):Int)-1=(j:Int) by omega,A6,F2,D4,show(((a.getD j 0).toNat:Int)==64)=(a.getD j 0==64) from Ls _ 64,show(a.getD j 0==64)=false by simpa using h];simp only[j2,cond_true,cond_false];rw[D1 (n:=(j:Int)-1) (by omega) (by omega)];exact k n (by omega) (by omega)
theorem Au7{R:Type}{b:By->By->By->By->Option R}(c p r d:By)(l:(p++64::r).length<=1000000000)(a:(64:UInt8)∉r):∀(k n:Nat),k<=r.length->p.length+k<n->Z6 LF n c (p++64::r) ((p.length+k:Nat):Int) d b=b c r p d:=by
 have o:(p++64::r).length=p.length+r.length+1:=by rw[j6,j8];omega
 intro k
 induction k with
 | zero=>
  intro n g i;obtain⟨n,rfl⟩:∃m,n=m+1:=⟨n-1,by omega⟩
  have f:A1 ((p.length:Int)+1)=((p.length+1:Nat):Int):=by rw[A7];rfl
  rw[Z6];rw[Nat.add_zero,A6,F2,D4,show(p++64::r).getD p.length 0=64 by simp[o5]];simp only[vl,cond_true,j2];rw[I4,L2,b8,af0,f,I4,Q6,b8,show p++64::r=(p++[64])++r by simp,ae3 (by simp)];rfl
 | succ k j=>
  intro n g i;obtain⟨n,rfl⟩:∃m,n=m+1:=⟨n-1,by omega⟩
  rw[Z6];have h:(p++64::r).getD (p.length+(k+1)) 0≠64:=λe=>a (by
   rw[<-e,o5,List.getElem?_append_right (by omega),show p.length+(k+1)-p.length=k+1 by omega,List.getElem?_cons_succ,p7 (by omega)];exact ab2 _)
  rw[A6,F2,D4,show((((p++64::r).getD (p.length+(k+1)) 0).toNat:Int)==64)=((p++64::r).getD (p.length+(k+1)) 0==64) from Ls _ 64,show((p++64::r).getD (p.length+(k+1)) 0==64)=false by simpa using h,show((p.length+(k+1):Nat):Int)-1=((p.length+k:Nat):Int) by omega];simp only[j2,cond_true,cond_false];rw[D1 (n:=((p.length+k:Nat):Int)) (by omega) (by omega)];exact j n (by omega) (by omega)
theorem Au3(c d a:By)(f:a.length<=1000000000):∃H,∀(R:Type) (b:KE R),Ix LF c a d b=RH b (G5 c d a) H:=by
 have j:=C5;unfold G5;by_cases h:0<=L3 64 a
 ·obtain⟨p,r,rfl,g,k⟩:=MN h;rw[if_pos h,k,b8,af0,show p++64::r=(p++[64])++r by simp,ae3 (by simp),show(p++[64])++r=p++64::r by simp];have m:(p++64::r).length=p.length+r.length+1:=by rw[j6,j8];omega
  obtain⟨H,e⟩:=OB c p d r (by omega);refine⟨H,λR b=>a8 ?_ (e R b)⟩;unfold Ix;simp only[vl];rw[A7,show((p++64::r).length:Int)-1=((p.length+r.length:Nat):Int) by omega,Au7 c p r d f g r.length LF (x7 _) (by omega),J9];rfl
 ·rw[if_neg h];have i:(64:UInt8)∉a:=λl=>by
   obtain⟨p,r,rfl,g⟩:=DJ l;rw[Se p g] at h;omega
  obtain⟨H,e⟩:=OB c [] d a f;refine⟨H,λR b=>a8 ?_ (e R b)⟩;unfold Ix;simp only[vl];rw[A7,Au8 c a d f i a.length LF (x7 _) (by omega),E7 f];rfl
theorem Bo2{R:Type}{a:List Blk->Option R}{b:By->Option R}(s:By)(g:s.length<=1000000000):∀(r i n:Nat),i+r=s.length->r<n->
  Fh LF n s (i:Int) a b=if (s.drop i).any ctl then a [] else b s:=by
 intro r
 induction r with
 | zero=>
  intro i n d e;obtain⟨n,rfl⟩:∃m,n=m+1:=⟨n-1,by omega⟩
  rw[Fh];rw[A6,j5 (by omega)];rfl
 | succ r f=>
  intro i n d e;obtain⟨n,rfl⟩:∃m,n=m+1:=⟨n-1,by omega⟩
  have c:A1 ((i:Int)+1)=((i+1:Nat):Int):=by rw[A7];rfl
  rw[Fh];rw[A9,F2,D4,D6 s i (by omega),c,ab7,By1];simp only[cond_true];rw[f (i+1) n (by omega) (by omega)];cases ltI 32 ((s.getD i 0).toNat:Int) with
  | false=>rfl
  | true=>cases (((s.getD i 0).toNat:Int)==127)<;>rfl
theorem ZB(t:By):S7 t [47,63,35]=J4 t:=by
 unfold S7 J4
 congr 2
 funext b
 simp[N2,ac8,Bool.or_assoc];rfl
theorem Ea5(r:By):([47,47]:By).isPrefixOf r=(r.take 2==[47,47]):=by rw[p5,ac9,List.prefix_iff_eq_take,beq_iff_eq];exact eq_comm
theorem Ch0(s:By)(i:A3 s.length=true):∃H,∀(R:Type) (d:KU R),Rc LF s d=LH d (C2 s) H:=by
 have P:=L4 i;have M:=C5;have L:∀{R:Type} (d:List Blk->Option R) (y:By->Option R),Fh LF LF s 0 d y=if s.any ctl then d [] else y s:=λd y=>Bo2 s P s.length 0 LF (by omega) (by omega)
 unfold C2;by_cases g:s.any ctl=true
 ·rw[if_pos g];apply o0;intro R d;unfold Rc;rw[L,if_pos g];rfl
 rw[if_neg g];have x:(ad1 s [58]).2.1.length<=s.length:=by
  rcases R2 58 s with h|⟨p,r,rfl,h⟩
  ·rw[Lg h];exact ag9 _
  ·rw[U6 h,j6,j8];show r.length<=_;omega
 have a:Ei s=if (ad1 s [58]).2.2&&T7 (ad1 s [58]).1 then (B6 (ad1 s [58]).1,(ad1 s [58]).2.1,true) else ([],[],false):=rfl
 generalize ad1 s [58]=q at *;obtain⟨p,r,f⟩:=q;simp only at a x ⊢;cases v:(f&&T7 p) with
 | false=>
  rw[v] at a;rw[if_pos (by rw[<-ai6,v];rfl)];apply o0;intro R d;unfold Rc;rw[L,if_neg g,i,a];rfl
 | true=>
 rw[v] at a;rw[if_neg (by rw[<-ai6,v];simp)];simp only[if_true] at a;cases c:H8 (B6 p) with
 | false=>
  apply o0;intro R d;unfold Rc;rw[L,if_neg g,i,a];simp only[vl,cond_true,b9,cond_false];rw[c];rfl
 | true=>
 rw[if_neg (by simp)];by_cases U:r.length<2
 ·rw[if_pos (by rw[Ea5];simp only[aa0,beq_eq_false_iff_ne];intro e;have:=congrArg j4 e;rw[o7] at this;simp at this;omega)];apply o0;intro R d;unfold Rc;rw[L,if_neg g,i,a];simp only[vl,cond_true,b9,cond_false];rw[c,A9];rfl
 have z:cut r (0:Int) (2:Int)=r.take 2:=L2 r 2;have K:cut r (2:Int) (r.length:Int)=r.drop 2:=Q6 r 2;rw[Ea5];cases Ql:(r.take 2==([47,47]:By)) with
 | false=>
  apply o0;intro R d;unfold Rc;rw[L,if_neg g,i,a];simp only[vl,cond_true,b9,cond_false];rw[c,A6,I4];simp only[vl,cond_true,b9,cond_false,z];rw[Ql];rfl
 | true=>
 rw[if_neg (by simp)];generalize S:r.drop 2=t at *;have lt:t.length<=r.length:=by rw[<-S,j9];omega
 have Q:=AA t;obtain⟨H,e⟩:=Au3 (B6 p) (S9 (t.drop (J4 t))) (t.take (J4 t)) (by rw[o7];omega);refine⟨(λq=>bU (uS q) (uU q) (uK q) (uN q) (uV q) (uA q 0) (uA q 1) (uA q 2) (uA q 3) (uA q 4) (uA q 5) (uA q 6) (uA q 7) (uP q) (uR q)::H) (G5 (B6 p) (S9 (t.drop (J4 t))) (t.take (J4 t))),λR d=>?_⟩;refine a8 ?_ (e R λn0 G I A J B C D n8 F j k l m n o w=>d G I A J B C D n8 F j k l m n o n0 (bU G I A J B C D n8 F j k l m n o::w));unfold Rc;rw[L,if_neg g,i,a];simp only[vl,cond_true,b9,cond_false];rw[c,A6,I4];simp only[vl,cond_true,b9,cond_false,z];rw[Ql,I4];simp only[vl,cond_true,b9,cond_false,K];rw[J9,ZB,I4,I4,L2,Q6,b8];simp only[cond_true];have V:(t.drop (J4 t)).length<=t.length:=by rw[j9];omega
 generalize t.drop (J4 t)=X at *;generalize t.take (J4 t)=T at *;unfold S9;cases X with
 | nil=>rfl
 | cons b X=>
  have N:inR (0:Int) (b::X).length=true:=K7 (by omega) (by simp);have O:((((b::X).getD 0 0).toNat:Int)!=47)=(b !=47):=by rw[bne,bne];exact congrArg _ (Ls b 47)
  rw[show((b::X)==([]:By))=false from rfl,N,Ay,O];simp only[cond_true,cond_false,ae4,v7];by_cases u:b=47
  ·rw[show(b !=47)=false by simpa using u,if_pos u];rfl
  ·rw[show(b !=47)=true by simpa using u,if_neg u,G3 (by omega)];rfl
theorem C37(s:By)(a:A3 s.length=true):∃r H,Rc LF s rvU=rv r H/\r.stab [0,0] H=pvU (C2 s):=by obtain⟨H,e⟩:=Ch0 s a;exact⟨_,_,e _ _,rfl⟩
theorem Bo1(s:By)(a:A3 s.length=true):∃r H,HV LF s rvU=rv r H/\r.stab [0,0] H=pvU (A8 s):=by
 unfold HV A8;by_cases h:2048<s.length
 ·rw[A9,if_pos h];exact⟨_,_,rfl,rfl⟩
 ·rw[A6,if_neg h,a];exact⟨_,_,rfl,rfl⟩
section
variable {W R : Type} (L : Nat) (Q : F6) (Y : Yh W) (s : W) (k : Out -> St W -> Option R)
noncomputable def KY(L:Nat):Cfg:=B8 L [93] (A2 []) [] (A2 [(1,[2]),(0,[0])]) [] (A2 []) (some [2]) [] [] []
noncomputable def Ac6{R:Type}(L:Nat)(n0:Int)(a:Bool->Option R):Option R:=cond (not (ltI n0 0)) (cond (not (ltI 1114111 n0)) (cond (ltI n0 55296) (a true) (a (ltI 57343 n0))) (a false)) (a false)
theorem Cg1(d:Nat)(n0):evC (KY L) (d+1) W Y 93 [pI n0] [] s=Ac6 L n0 (λa=>some (pB a,[],s)):=by refine(evE (fn:=Tryz.f93) (by kernel_rfl)).trans ?_;generalize evC (KY L) d=Q;unfold Ac6;kernel_rfl
noncomputable abbrev Px:Code:=C6 ai3
noncomputable def Y7(L:Nat):Cfg:=B8 L [96] (A2 [(6,[0,5,0])]) [] (A2 [(9,[6]),(8,[0,6]),(7,[0,6]),(6,[0,6,11]),(5,[0,6]),(4,[0]),(2,[0,0]),(3,[0,0]),(1,[0,0,6]),(0,[0,0,0])]) [] (A2 [(0,[0,6]),(1,[0,6])]) (some [6]) [] [] []
noncomputable def Hj{R:Type}(L n:Nat)(a b:Int)(e:Int->Int->Option R):Option R:=match n with|0=>none|n+1=>cond (ltI 455 a) (vl (A1 (x5 a (35:Int))) λc=>vl (A1 (b+36)) λd=>Hj L n c d e) (e a b)
theorem Ab3(n a b):D0 0 ((Y7 L).keep 6) (bd (Y7 L) Q Y (cd [1,1,1,1,0,0,0] Px)) n ⟨gp [(0,pI a),(6,pI b)] 23,[],s⟩ k =
 Hj L n a b (λa b=>k (.exit 0) ⟨gp [(0,pI a),(6,pI b)] 23,[],s⟩):=by
 induction n generalizing a b with
 | zero=>rfl
 | succ n c=>rw[Hj];simp only[<-c];kernel_rfl
noncomputable def Hi{R:Type}(L:Nat)(b h:Int)(i:Int->Option R):Option R:=cond (h !=0) (vl (A1 (x5 b h)) λg=>Hj L L (A1 (b+g)) 0 (λa d=>vl (A1 ((36:Int)*a)) λe=>vl (A1 (a+38)) λc=>cond (c !=0) (vl (A1 (x5 e c)) λf=>i (A1 (d+f))) none)) none
abbrev FM(b:Code):Prop:=∀(k:Out->St W->Option R) delta0 n1,B3 (Y7 L) Q Y b ⟨gp [(0,pI delta0),(0,pI n1)] 29,[],s⟩ k=Hi L delta0 n1 (λn0=>k .ret ⟨gp [(6,pI n0)] 24,[],s⟩)
theorem Ab2:FM (R:=R) L Q Y s (cd [1,1] Px):=by intro k a c;unfold Hi;exact(a8 (by kernel_rfl) (A0 (A4 λb=>((Ab3 L Q Y s (E1 0 (E0 (Y7 L) Q Y (cd [1,1,1,1,1] Px) k)) L (A1 (a+b)) 0).trans (by kernel_rfl))) rfl))
noncomputable def NQ{R:Type}(L:Nat)(a h:Int)(b:Bool)(g:Int->Option R):Option R:=cond b (vl (A1 (x5 a (700:Int))) λe=>Hi L e h (λc=>g c)) (vl (A1 (x5 a (2:Int))) λf=>Hi L f h (λd=>g d))
theorem Cd8(d:Code)(a:FM (R:=PV × List Blk × W) L Q Y s d)(b e:Int)(c:Bool):B3 (Y7 L) Q Y (cd [] (G6 [1,1] d Px)) ⟨[pI b,pI e,pB c]++tps 28,[],s⟩ (F3 (Y7 L) ai3)=NQ L b e c (λi=>some (pI i,[],s)):=by unfold NQ;exact let h:=(F3 (Y7 L) ai3);(a8 (by kernel_rfl) (A0 (A4 λf=>((a h f e).trans (by kernel_rfl))) (A4 λg=>((a h g e).trans (by kernel_rfl)))))
theorem Cd9(d:Nat)(delta0 n1 first2):evC (Y7 L) (d+1) W Y 96 [pI delta0,pI n1,pB first2] [] s=NQ L delta0 n1 first2 (λa=>some (pI a,[],s)):=
 (evE (fn:=ai3) (by kernel_rfl)).trans (a8 (by kernel_rfl) (Cd8 L (evC (Y7 L) d) Y s (cd [1,1] Px) (Ab2 L (evC (Y7 L) d) Y s) delta0 n1 first2))
noncomputable def A61(L:Nat):Cfg:=B8 L [94] (A2 []) [] (A2 [(1,[4]),(0,[0,0])]) [] (A2 []) (some [4]) [] [] []
noncomputable def Do2{R:Type}(L:Nat)(c a:Int)(e:Int->Option R):Option R:=vl (A1 ((36:Int)*(A1 (c+1)))) λb=>vl (if ((if ((A1 (b-a))<(26:Int)) then (A1 (b-a)) else (26:Int)) > (1:Int)) then (if ((A1 (b-a))<(26:Int)) then (A1 (b-a)) else (26:Int)) else (1:Int)) λd=>e d
theorem Do3(d:Nat)(kk0 bias1):evC (A61 L) (d+1) W Y 94 [pI kk0,pI bias1] [] s=Do2 L kk0 bias1 (λa=>some (pI a,[],s)):=by refine(evE (fn:=Tryz.f94) (by kernel_rfl)).trans ?_;generalize evC (A61 L) d=Q;unfold Do2;kernel_rfl
noncomputable def YH(L:Nat):Cfg:=B8 L [95] (A2 []) [] (A2 [(3,[2]),(2,[2]),(1,[0,3]),(0,[0])]) [] (A2 []) (some [2]) [] [] []
noncomputable def B18{R:Type}(L:Nat)(a:Int)(d:Int->Option R):Option R:=cond (ltI a 26) (vl (wu8 (A1 ((97:Int)+a))) λb=>d b) (vl (A1 ((A1 ((48:Int)+a))-26)) λc=>d (wu8 c))
theorem C01(d:Nat)(d0):evC (YH L) (d+1) W Y 95 [pI d0] [] s=B18 L d0 (λa=>some (p8 a,[],s)):=by refine(evE (fn:=Tryz.f95) (by kernel_rfl)).trans ?_;generalize evC (YH L) d=Q;unfold B18;kernel_rfl
noncomputable abbrev Uq:Code:=C6 ag7
noncomputable def Kk(L:Nat):Cfg:=B8 L [144] (A2 []) [] (A2 [(7,[2]),(2,[2]),(4,[2]),(6,[2]),(5,[0,22]),(3,[0,12]),(1,[0,2]),(0,[0])]) [] (A2 [(0,[])]) (some [2]) [] [] []
noncomputable def Zs{R:Type}(a:Int)(g:Bool)(e:Int->Option R)(f:Int->Bool->Option R):Option R:=cond g (vl (A1 (wu8 (a-65))) λb=>e b) (cond (not (ltI a 48)) (cond (not (ltI 57 a)) (vl (A1 (wu8 (a-48))) λc=>vl (A1 (c+26)) λd=>e d) (f a (not (ltI 57 a)))) (f a false))
abbrev TT(b:Code):Prop:=∀(k:Out->St W->Option R) a c,B3 (Kk L) Q Y b ⟨gp [(0,p8 a),(12,pB c)] 20,[],s⟩ k=Zs a c (λn0=>k .ret ⟨gp [(2,pI n0)] 31,[],s⟩) (λa c=>k .normal ⟨gp [(0,p8 a),(22,pB c)] 10,[],s⟩)
theorem Bp3:TT (R:=R) L Q Y s (cd [1,0,0,1,1,1] Uq):=by intro k a b;unfold Zs;kernel_rfl
noncomputable def Zt{R:Type}(a:Int)(l:Bool)(f:Int->Option R)(j:Int->Bool->Option R):Option R:=cond l (vl (A1 (wu8 (a-97))) λg=>f g) (cond (not (ltI a 65)) (Zs a (not (ltI 90 a)) (λh=>f h) (λb c=>j b c)) (Zs a false (λi=>f i) (λd e=>j d e)))
abbrev DZ(b:Code):Prop:=∀(k:Out->St W->Option R) a c,B3 (Kk L) Q Y b ⟨gp [(0,p8 a),(2,pB c)] 30,[],s⟩ k=Zt a c (λn0=>k .ret ⟨gp [(2,pI n0)] 31,[],s⟩) (λa c=>k .normal ⟨gp [(0,p8 a),(22,pB c)] 10,[],s⟩)
theorem Bp4(a:Code)(b:TT (R:=R) L Q Y s a):DZ (R:=R) L Q Y s (cd [1,0,0,1] (G6 [1,0,0,1,1,1] a Uq)):=by intro k c d;unfold Zt;simp only[<-b k];kernel_rfl
theorem Bp5:DZ (R:=R) L Q Y s (cd [1,0,0,1] Uq):=by intro k a b;exact a8 (by kernel_rfl) (Bp4 L Q Y s (cd [1,0,0,1,1,1] Uq) (Bp3 L Q Y s) k a b)
noncomputable def C43{R:Type}(L:Nat)(c:Int)(d:Int->Option R):Option R:=cond (not (ltI c 97)) (Zt c (not (ltI 122 c)) (λa=>d a) (λe f=>d (-1))) (Zt c false (λb=>d b) (λg h=>d (-1)))
theorem Dp3(b:Code)(a:DZ (R:=PV × List Blk × W) L Q Y s b)(c:Int):B3 (Kk L) Q Y (cd [] (G6 [1,0,0,1] b Uq)) ⟨[p8 c]++tps 33,[],s⟩ (F3 (Kk L) ag7)=C43 L c (λe=>some (pI e,[],s)):=by unfold C43;exact let d:=(E1 0 (E0 (Kk L) Q Y (cd [1,1] Uq) (F3 (Kk L) ag7)));(a8 (by kernel_rfl) (A0 ((a d c (not (ltI 122 c))).trans (by kernel_rfl)) ((a d c false).trans (by kernel_rfl))))
theorem Dp4(d:Nat)(b0):evC (Kk L) (d+1) W Y 144 [p8 b0] [] s=C43 L b0 (λa=>some (pI a,[],s)):=
 (evE (fn:=ag7) (by kernel_rfl)).trans (a8 (by kernel_rfl) (Dp3 L (evC (Kk L) d) Y s (cd [1,0,0,1] Uq) (Bp5 L (evC (Kk L) d) Y s) b0))
noncomputable abbrev Ci:Code:=C6 ai2
noncomputable def O2(L:Nat):Cfg:=B8 L [70] (A2 [(32,[0,1,0,0,1,0,0,0,0,2,0,0]),(25,[0,1,0,0,1,0,0,0,0,2]),(18,[0,1,0,0,1,0,0,0,0,0,0]),(15,[0,1,0,0,1,0,0,0,0]),(5,[0,1,0,0,0])]) [(93,Wr),(94,A27),(95,Bv3),(96,IZ)] (A2 [(43,[2,0]),(42,[0,3,1,0,0,0,0]),(41,[0,3,1,0,0,0,0]),(26,[0,3,1,0,0,0,0,2]),(40,[0,3,1,0,0,0,0,2]),(39,[0,3,1,0,0,0,0,2]),(38,[0,3,1,0,0,1,2]),(37,[0,3,1,0,0,0,3]),(36,[0,3,1,0,0,0,0,2,0,0]),(35,[0,3,1,0,0,0,0,2,0,0]),(34,[0,3,1,0,0,0,0,2,0,0,0]),(33,[0,3,1,0,0,0,0,2,0,0,0]),(32,[0,3,1,0,0,0,0,2,0,0,94]),(31,[0,3,1,0,0,0,0,2,0,0]),(30,[0,3,1,0,0,0,0,2,0]),(29,[0,3,1,0,0,0,0,2,90]),(28,[0,3,1,0,0,0,0,2]),(27,[0,3,1,0,0,0,0,2,82]),(25,[0,3,1,0,0,0,0,2,74]),(24,[0,3,1,0,0,0,0,2]),(23,[0,3,1,0,0,0,0]),(22,[0,3,1,0,1,0,0]),(19,[0,3,1,0,0,0,0,0,0]),(21,[0,3,1,0,0,0,0,0,0]),(20,[0,3,1,0,0,0,0,0,0,56]),(18,[0,3,1,0,0,0,0,0,0,48]),(17,[0,3,1,0,0,0,0,0,0]),(16,[0,3,1,0,0,0,0,0]),(15,[0,3,1,0,0,0,0,46]),(14,[0,3,1,0,0,0,0]),(13,[0,3,1,0]),(12,[0,3,1,0,42]),(11,[0,3,1,0]),(6,[0,3,0]),(10,[0,3,0]),(9,[0,3,0,30]),(8,[2,0]),(7,[0,3,0,25]),(5,[0,3,0,17]),(4,[0,3,0]),(3,[0,3]),(2,[2,0]),(1,[0,18]),(0,[0])]) [93,94,95,96] (A2 [(2,[4]),(3,[0,3,1,0,0,0,0]),(6,[0,3,1,0,0,0,0]),(7,[0,3,1,0,0,0,0,2]),(8,[0,3,1,0,0,0,3,0]),(9,[0,3,1,0,0,0,0,2,0,0]),(4,[0,3,1,0,0,0,0,0]),(5,[0,3,1,0,0,0,0,0,0]),(0,[0,3]),(1,[0,3,0])]) (some [2,0]) [] [] []
noncomputable def V9{R:Type}(L n:Nat)(c b:Bool)(a:LL)(d:Int)(e:LL)(f:LL->Option R)(g:Bool->Bool->LL->LL->Option R):Option R:=match n with|0=>none|n+1=>cond (ltI d (a.length:Int)) (cond (inR d a.length) (cond (okE Mh a (j7 d) 0) (vl (gE a (j7 d) 0) λh=>cond (not (ptI h)) (f e) (cond (inR d a.length) (cond (okE Mh a (j7 d) 0) (vl (gE a (j7 d) 0) λi=>cond (ltI i 128) (cond (inR d a.length) (cond (okE Mh a (j7 d) 0) (vl (gE a (j7 d) 0) λj=>cond (G2 (e.length+1)) (V9 L n c b a (A1 (d+1)) (e++[[(SV.int .u8 (wu8 j))]]) f g) none) none) none) (V9 L n c b a (A1 (d+1)) e f g)) none) none)) none) none) (g c b a e)
theorem Bh9(n b a c i3 l4):D0 1 ((O2 L).keep 5) (bd (O2 L) Q Y (cd [1,1,1,0,1,0,0] Ci)) n ⟨gp [(0,.s (.sl b a 1 c)),(3,.fl 0),(0,pI i3)] 148,[.arr true 5 1 l4],s⟩ k =
 V9 L n b a c i3 l4 (λe=>k .ret ⟨gp [(2,pS ([]:List UInt8)),(0,pI (2:Int))] 150,[.arr true 5 1 e],s⟩) (λb a c f=>k (.exit 0) ⟨gp [(0,.s (.sl b a 1 c)),(3,.fl 0)] 149,[.arr true 5 1 f],s⟩):=by
 induction n generalizing b a c i3 l4 with
 | zero=>rfl
 | succ n d=>rw[V9];simp only[<-d];kernel_rfl
noncomputable def Jz{R:Type}(L n:Nat)(c b:Bool)(a:LL)(h e o f g d i:Int)(l10:LL)(p:Bool->Bool->LL->Int->Int->Int->Int->Int->Int->LL->Option R):Option R:=match n with|0=>none|n+1=>cond (ltI i (a.length:Int)) (cond (inR i a.length) (cond (okE Mh a (j7 i) 0) (vl (gE a (j7 i) 0) λl=>cond (not (ltI l o)) (cond (inR i a.length) (cond (okE Mh a (j7 i) 0) (vl (gE a (j7 i) 0) λj=>vl (if (j<d) then j else d) λm=>Jz L n c b a h e o f g m (A1 (i+1)) l10 p) none) none) (Jz L n c b a h e o f g d (A1 (i+1)) l10 p)) none) none) (p c b a h e o f g d l10)
theorem Bi0(n b a c h d i e g f i9 l10):D0 1 ((O2 L).keep 18) (bd (O2 L) Q Y (cd [1,1,1,1,1,1,1,0,0,0,1,0,1,0,1,0,0] Ci)) n ⟨gp [(0,.s (.sl b a 1 c)),(3,.fl 0),(1,pI h),(0,pI d),(0,pI i),(0,pI e),(0,pI g),(0,pI f),(0,pI i9)] 141,[.arr true 5 1 l10],s⟩ k =
 Jz L n b a c h d i e g f i9 l10 (λb a c h d i e g f l=>k (.exit 4) ⟨gp [(0,.s (.sl b a 1 c)),(3,.fl 0),(1,pI h),(0,pI d),(0,pI i),(0,pI e),(0,pI g),(0,pI f)] 142,[.arr true 5 1 l],s⟩):=by
 induction n generalizing b a c h d i e g f i9 l10 with
 | zero=>rfl
 | succ n j=>rw[Jz];simp only[<-j];kernel_rfl
noncomputable def Gj{R:Type}(L n:Nat)(c b:Bool)(f:LL)(i g w h a i8 u e:Int)(o:LL)(v:Bool->Bool->LL->Int->Int->Int->Int->Int->Int->LL->Option R):Option R:=match n with|0=>none|n+1=>cond (ltN e 10000000000) (cond (ltN a 1000000) (vl (M0 (ad0 (36:Int) e) a) λp=>cond (not (ltI u p)) (cond (ltN e 10000000000) (cond (ltN a 1000000) (vl (M0 (ad0 (36:Int) e) a) λd=>vl (A1 ((36:Int)-d)) λj=>cond (j !=0) (vl (w9 (A1 (u-d)) j) λl=>cond (ltN (A1 (d+l)) 36) (vl (↑(ah0 (Ba (j7 (A1 (d+l))))):Int) λq=>cond (G2 (o.length+1)) (vl (A1 ((36:Int)-d)) λm=>cond (m !=0) (vl (A1 (x5 (A1 (u-d)) m)) λr=>vl (A1 (e+1)) λt=>Gj L n c b f i g w h a i8 r t (o++[[(SV.int .u8 q)]]) v) none) none) none) none) none) none) (v c b f i g w h i8 u o)) none) none
theorem NS(n b a c f d g e bias7 i8 q9 kk10 l11):D0 1 ((O2 L).keep 32) (bd (O2 L) Q Y (cd [1,1,1,1,1,1,1,0,0,0,1,0,1,1,1,1,0,1,0,0,1,0,0,1,1,1,1,0,0,0] Ci)) n ⟨gp [(0,.s (.sl b a 1 c)),(3,.fl 0),(1,pI f),(0,pI d),(0,pI g),(0,pI e),(0,pI bias7),(2,pI i8),(0,pI q9),(0,pI kk10)] 138,[.arr true 5 1 l11],s⟩ k =
 Gj L n b a c f d g e bias7 i8 q9 kk10 l11 (λb a c f d g e h l j=>k (.exit 8) ⟨gp [(0,.s (.sl b a 1 c)),(3,.fl 0),(1,pI f),(0,pI d),(0,pI g),(0,pI e),(3,pI h),(0,pI l)] 139,[.arr true 5 1 j],s⟩):=by
 induction n generalizing b a c f d g e bias7 i8 q9 kk10 l11 with
 | zero=>rfl
 | succ n i=>rw[Gj];simp only[<-i];kernel_rfl
noncomputable def Bh{R:Type}(L n:Nat)(c b:Bool)(a:LL)(i d B e f i8:Int)(I:LL)(H:Bool->Bool->LL->Int->Int->Int->Int->Int->LL->Option R):Option R:=match n with|0=>none|n+1=>cond (ltI i8 (a.length:Int)) (cond (inR i8 a.length) (cond (okE Mh a (j7 i8) 0) (vl (gE a (j7 i8) 0) λJ=>cond (ltI J B) (vl (A1 (e+1)) λw=>cond (inR i8 a.length) (cond (okE Mh a (j7 i8) 0) (vl (gE a (j7 i8) 0) λK=>cond (K !=B) (Bh L n c b a i d B w f (A1 (i8+1)) I H) (Gj L L c b a i d B w f i8 w 0 I (λr p u g j N m F C z=>cond (ltN C 36) (vl (↑(ah0 (Ba (j7 C))):Int) λO=>cond (G2 (z.length+1)) (vl (A1 (g+1)) λx=>cond (ltN m 1152921504606846976) (cond (ltN x 1000000) (cond (ltI 0 x) (vl (↑(R5 (j7 m) (j7 x) (g==j)):Int) λP=>vl (A1 (g+1)) λS=>vl (A1 (F+1)) λT=>Bh L n r p u S j N 0 P T (z++[[(SV.int .u8 O)]]) H) none) none) none) none) none))) none) none) (cond (inR i8 a.length) (cond (okE Mh a (j7 i8) 0) (vl (gE a (j7 i8) 0) λM=>cond (M !=B) (Bh L n c b a i d B e f (A1 (i8+1)) I H) (Gj L L c b a i d B e f i8 e 0 I (λt q v h l U o G D A=>cond (ltN D 36) (vl (↑(ah0 (Ba (j7 D))):Int) λV=>cond (G2 (A.length+1)) (vl (A1 (h+1)) λy=>cond (ltN o 1152921504606846976) (cond (ltN y 1000000) (cond (ltI 0 y) (vl (↑(R5 (j7 o) (j7 y) (h==l)):Int) λX=>vl (A1 (h+1)) λZ=>vl (A1 (G+1)) λa0=>Bh L n t q v Z l U 0 X a0 (A++[[(SV.int .u8 V)]]) H) none) none) none) none) none))) none) none)) none) none) (H c b a i d B e f I)
theorem Bi1(n b a c g d t e f i8 l9):D0 1 ((O2 L).keep 25) (bd (O2 L) Q Y (cd [1,1,1,1,1,1,1,0,0,0,1,0,1,1,1,1,0,1,0,0] Ci)) n ⟨gp [(0,.s (.sl b a 1 c)),(3,.fl 0),(1,pI g),(0,pI d),(0,pI t),(0,pI e),(0,pI f),(2,pI i8)] 140,[.arr true 5 1 l9],s⟩ k =
 Bh L n b a c g d t e f i8 l9 (λb a c g d t e f l8=>k (.exit 6) ⟨gp [(0,.s (.sl b a 1 c)),(3,.fl 0),(1,pI g),(0,pI d),(0,pI t),(0,pI e),(0,pI f)] 143,[.arr true 5 1 l8],s⟩):=by
 induction n generalizing b a c g d t e f i8 l9 with
 | zero=>rfl
 | succ n M=>rw[Bh];exact let N:=(E1 8 (E0 (O2 L) Q Y (cd [1,1,1,1,1,1,1,0,0,0,1,0,1,1,1,1,0,1,0,0,1,0,0,1,1,1,1,1] Ci) (E1 7 (E0 (O2 L) Q Y (cd [1,1,1,1,1,1,1,0,0,0,1,0,1,1,1,1,0,1,0,0,1,1] Ci) (lpK 1 ((O2 L).keep 25) (bd (O2 L) Q Y (cd [1,1,1,1,1,1,1,0,0,0,1,0,1,1,1,1,0,1,0,0] Ci)) n k)))));(a8 (by kernel_rfl) (A0 (A0 (A0 (A4 λS=>(A0 (A4 λr=>(A0 (A0 (A4 λT=>(A0 (M b a c g d t r f (A1 (i8+1)) l9) ((NS L Q Y s N L b a c g d t r f i8 r 0 l9).trans (congr rfl (Df7 λj h m w p A u O Z y=>(a8 (by kernel_rfl) (A0 (A4 λB=>(A0 (A4 λV=>(A0 (A0 (A0 (A4 λC=>(A4 λD=>(A4 λF=>(M j h m D p A 0 C F (y++[[(SV.int .u8 B)]]))))) rfl) rfl) rfl)) rfl)) rfl))))))) rfl) rfl)) (A0 (A0 (A4 λU=>(A0 (M b a c g d t e f (A1 (i8+1)) l9) ((NS L Q Y s N L b a c g d t e f i8 e 0 l9).trans (congr rfl (Df7 λl i o x q G v P a0 z=>(a8 (by kernel_rfl) (A0 (A4 λH=>(A0 (A4 λX=>(A0 (A0 (A0 (A4 λI=>(A4 λJ=>(A4 λK=>(M l i o J q G 0 I K (z++[[(SV.int .u8 H)]]))))) rfl) rfl) rfl)) rfl)) rfl))))))) rfl) rfl))) rfl) rfl) rfl))
noncomputable def Gk{R:Type}(L n:Nat)(l j:Bool)(g:LL)(v w K x y:Int)(J:LL)(I:LL->Option R):Option R:=match n with|0=>none|n+1=>cond (ltI v (g.length:Int)) (Jz L L l j g v w K x y 1073741824 0 J (λd b h f m B p r a z=>vl (A1 (f+1)) λC=>vl (A1 ((A1 (a-B))*C)) λD=>Bh L L d b h f m a (A1 (p+D)) r 0 z (λe c i u o F q t A=>vl (A1 (q+1)) λG=>vl (A1 (F+1)) λH=>Gk L n e c i u o H G t A I))) (I J)
theorem NT(n points_z0 points_t1 points2 done3 basic4 n5 delta6 bias7 l8):D0 1 ((O2 L).keep 15) (bd (O2 L) Q Y (cd [1,1,1,1,1,1,1,0,0,0] Ci)) n ⟨gp [(0,.s (.sl points_z0 points_t1 1 points2)),(3,.fl 0),(1,pI done3),(0,pI basic4),(0,pI n5),(0,pI delta6),(0,pI bias7)] 143,[.arr true 5 1 l8],s⟩ k =
 Gk L n points_z0 points_t1 points2 done3 basic4 n5 delta6 bias7 l8 (λB=>k (.exit 2) ⟨gp [(4,.fl 0)] 149,[.arr true 5 1 B],s⟩):=by
 induction n generalizing points_z0 points_t1 points2 done3 basic4 n5 delta6 bias7 l8 with
 | zero=>rfl
 | succ n A=>rw[Gk];exact(a8 (by kernel_rfl) (A0 ((Bi0 L Q Y s (E1 4 (E0 (O2 L) Q Y (cd [1,1,1,1,1,1,1,0,0,0,1,0,1,1] Ci) (E1 3 (lpK 1 ((O2 L).keep 15) (bd (O2 L) Q Y (cd [1,1,1,1,1,1,1,0,0,0] Ci)) n k)))) L points_z0 points_t1 points2 done3 basic4 n5 delta6 bias7 1073741824 0 l8).trans (congr rfl (Df7 λc a e o g x i l j r=>(a8 (by kernel_rfl) (A4 λy=>(A4 λu=>((Bi1 L Q Y s (E1 6 (E0 (O2 L) Q Y (cd [1,1,1,1,1,1,1,0,0,0,1,0,1,1,1,1,1] Ci) (E1 3 (lpK 1 ((O2 L).keep 15) (bd (O2 L) Q Y (cd [1,1,1,1,1,1,1,0,0,0] Ci)) n k)))) L c a e o g j (A1 (i+u)) l 0 r).trans (congr rfl (fx9 λd b f p h z q m t=>(a8 (by kernel_rfl) (A4 λv=>(A4 λw=>(A d b f p h w v m t))))))))))))) rfl))
noncomputable def Ar7{R:Type}(L:Nat)(f e:Bool)(d:LL)(o:Unit->Option R)(m:By->Int->LL->Option R):Option R:=cond (ltI 256 (d.length:Int)) (o ()) (V9 L L f e d 0 [] (λn=>m ([]:List UInt8) 2 n) (λb a c g=>vl (g.length:Int) λl=>vl (g.length:Int) λj=>cond (ltI 0 j) (cond (G2 (g.length+1)) (Gk L L b a c l j 128 0 72 (g++[[(SV.int .u8 (45:Int))]]) (λh=>cond (ag1 h Pk) (m (ad7 Nb h) 0 h) none)) none) (Gk L L b a c l j 128 0 72 g (λi=>cond (ag1 i Pk) (m (ad7 Nb i) 0 i) none))))
theorem Dm6(d:Nat)(points_z0 points_t1 points2):evC (O2 L) (d+1) W Y 70 [.s (.sl points_z0 points_t1 1 points2)] [] s=Ar7 L points_z0 points_t1 points2 (λ_=>some (.tup [pS ([]:List UInt8),pI (3:Int)],[],s)) (λj l i=>some (.tup [pS j,pI l],[.arr true 5 1 i],s)):=by refine(evE (fn:=ai2) (by kernel_rfl)).trans ?_;generalize evC (O2 L) d=Q;unfold Ar7;exact let h:=(E1 2 (E0 (O2 L) Q Y (cd [1,1,1,1,1,1,1,1] Ci) (F3 (O2 L) ai2)));(a8 (by kernel_rfl) (A0 rfl ((Bh9 L Q Y s (E1 0 (E0 (O2 L) Q Y (cd [1,1,1,1] Ci) (F3 (O2 L) ai2))) L points_z0 points_t1 points2 0 []).trans (congr (congr rfl (by kernel_rfl)) (fx4 λb a c g=>(a8 (by kernel_rfl) (A4 λe=>(A4 λf=>(A0 (A0 ((NT L Q Y s h L b a c e f 128 0 72 (g++[[(SV.int .u8 (45:Int))]])).trans (by kernel_rfl)) rfl) ((NT L Q Y s h L b a c e f 128 0 72 g).trans (by kernel_rfl)))))))))))
noncomputable abbrev Z9:Code:=C6 af4
noncomputable def K4(L:Nat):Cfg:=B8 L [118] (A2 [(27,[0,1,0,2,1,0,0,0,0,0,0,0]),(23,[0,1,0,2,1,0,0,0,0]),(13,[0,1,0,0,1,0]),(5,[0,1,0,0,0])]) [(144,Cp1),(94,A27),(96,IZ),(93,Wr)] (A2 [(51,[2,0]),(50,[0,5,1,0,0,0,0]),(49,[2,0]),(48,[0,5,1,0,0,0,0,118]),(47,[0,5,1,0,0,0,0]),(46,[2,0]),(45,[0,5,1,0,0,0,0,103]),(44,[0,5,1,0,0,0,0]),(43,[0,5,1,0,0,0,0]),(42,[0,5,1,0,0,0,0]),(41,[0,5,1,0,0,0]),(26,[0,5,1,0,0,0,0,0,0,0]),(40,[2,0]),(39,[0,5,1,0,0,0,0,0,0,0,77]),(38,[0,5,1,0,0,0,0,0,0,0]),(37,[0,5,1,0,0,0,0,0,0,0,1,69]),(36,[0,5,1,0,0,0,0,0,0,0,0,0]),(35,[2,0]),(34,[0,5,1,0,0,0,0,0,0,0,0,64]),(33,[0,5,1,0,0,0,0,0,0,0,0]),(32,[2,0]),(31,[0,5,1,0,0,0,0,0,0,0,0,57]),(30,[0,5,1,0,0,0,0,0,0,0,0]),(29,[0,5,1,0,0,0,0,0,0,0,0]),(28,[2,0]),(27,[0,5,1,0,0,0,0,0,0,0,50]),(25,[0,5,1,0,0,0,0,0,0,0]),(24,[0,5,1,0,0,0,0,0,0]),(23,[0,5,1,0,0,0,0,46]),(22,[0,5,1,0,0,0,0]),(21,[0,5,1,0,0,0]),(20,[0,5,1]),(19,[0,5,1,44]),(18,[0,3,1,1]),(17,[2,0]),(16,[0,3,1,43]),(14,[0,3,1,0]),(15,[0,3,1,0]),(13,[0,3,1,0,30]),(12,[0,3,1,0]),(11,[0,3,1]),(6,[0,3,0]),(10,[0,3,0]),(9,[0,3,0,28]),(8,[2,0]),(7,[0,3,0,24]),(5,[0,3,0,18]),(4,[0,3,0]),(3,[0,3]),(2,[2,0]),(1,[0,19]),(0,[0])]) [144,94,96,93] (A2 [(4,[6]),(5,[0,5,1,0,0,0,0]),(6,[0,5,1,0,0,1,0]),(7,[0,5,1,0,0,0,0,0,0,0]),(2,[0,3,1]),(3,[0,3,1,0]),(0,[0,3]),(1,[0,3,0])]) (some [2,0]) [] [] [] (rw:=[(47,6)])
noncomputable def Fe{R:Type}(L n:Nat)(c:By)(a b:Int)(d:Unit->Option R)(e:By->Int->Option R):Option R:=match n with|0=>none|n+1=>cond (ltI b (c.length:Int)) (cond (inR b c.length) (cond (not (ltI (bAt c b) (128:Int))) (d ()) (cond (inR b c.length) (cond ((bAt c b)==45) (Fe L n c b (A1 (b+1)) d e) (Fe L n c a (A1 (b+1)) d e)) none)) none) (e c a)
theorem As9(n b a i2):D0 0 ((K4 L).keep 5) (bd (K4 L) Q Y (cd [1,1,1,0,1,0,0] Z9)) n ⟨gp [(0,pS b),(3,pI a),(0,pI i2)] 129,[],s⟩ k =
 Fe L n b a i2 (λ_=>k .ret ⟨gp [(2,.fl 0),(0,pI (4:Int))] 131,[.arr true 3 1 []],s⟩) (λb a=>k (.exit 0) ⟨gp [(0,pS b),(3,pI a)] 130,[],s⟩):=by
 induction n generalizing b a i2 with
 | zero=>rfl
 | succ n c=>rw[Fe];simp only[<-c];kernel_rfl
noncomputable def Ir{R:Type}(L n:Nat)(c:By)(a b:Int)(d:LL)(e:By->Int->LL->Option R):Option R:=match n with|0=>none|n+1=>cond (ltI b a) (cond (inR b c.length) (cond (G2 (d.length+1)) (Ir L n c a (A1 (b+1)) (d++[[(SV.int .i64 (A1 (bAt c b)))]]) e) none) none) (e c a d)
theorem At0(n b a i2 l3):D0 1 ((K4 L).keep 13) (bd (K4 L) Q Y (cd [1,1,1,1,1,0,1,0,0] Z9)) n ⟨gp [(0,pS b),(3,pI a),(1,.fl 0),(0,pI i2)] 127,[.arr true 3 1 l3],s⟩ k =
 Ir L n b a i2 l3 (λb a d=>k (.exit 2) ⟨gp [(0,pS b),(3,pI a),(1,.fl 0)] 128,[.arr true 3 1 d],s⟩):=by
 induction n generalizing b a i2 l3 with
 | zero=>rfl
 | succ n c=>rw[Ir];simp only[<-c];kernel_rfl
noncomputable def W6{R:Type}(L n:Nat)(l:By)(g:LL)(b q r a f o h:Int)(j:LL)(m:Int->LL->Option R)(p:By->LL->Int->Int->Int->Int->LL->Option R):Option R:=match n with|0=>none|n+1=>cond (not (ltI b (l.length:Int))) (m 4 j) (cond (inR b l.length) (cond (inR (bAt l b) 256) (vl (E5 (u8n (bAt l b))) λi=>cond (ltI i 0) (m 4 j) (vl (A1 (r+(A1 (i*o)))) λc=>cond (ltI 1099511627776 c) (m 19 j) (cond (ltN h 10000000000) (cond (ltN a 1000000) (vl (M0 (ad0 (36:Int) h) a) λd=>cond (ltI i d) (p l g (A1 (b+1)) q c f j) (vl (A1 ((36:Int)-d)) λe=>cond (ltI 1099511627776 (A1 (o*e))) (m 19 j) (W6 L n l g (A1 (b+1)) q c a f (A1 (o*e)) (A1 (h+1)) j m p))) none) none))) none) none)
theorem At1(n f a b d c bias5 old6 w7 kk8 l9):D0 1 ((K4 L).keep 27) (bd (K4 L) Q Y (cd [1,1,1,1,1,1,1,1,1,1,1,0,0,0,1,0,1,0,1,0,0] Z9)) n ⟨gp [(0,pS f),(5,.s (.sl false false 1 a)),(1,pI b),(0,pI d),(0,pI c),(0,pI bias5),(0,pB false),(0,pI old6),(0,pI w7),(0,pI kk8)] 119,[.arr true 3 1 l9],s⟩ k =
 W6 L n f a b d c bias5 old6 w7 kk8 l9 (λn0 h=>k .ret ⟨gp [(2,.fl 1),(0,pI n0)] 131,[.arr true 3 1 h,.arr true 3 1 []],s⟩) (λf a b d c e i=>k (.exit 6) ⟨gp [(0,pS f),(5,.s (.sl false false 1 a)),(1,pI b),(0,pI d),(0,pI c),(1,pB false),(0,pI e)] 121,[.arr true 3 1 i],s⟩):=by
 induction n generalizing f a b d c bias5 old6 w7 kk8 l9 with
 | zero=>rfl
 | succ n g=>rw[W6];simp only[<-g];kernel_rfl
noncomputable def Q4{R:Type}(L n:Nat)(C:By)(m:LL)(q D y p:Int)(B:LL)(x:Int->LL->Option R)(z:LL->LL->Option R)(A:LL->LL->Option R):Option R:=match n with|0=>none|n+1=>cond (ltI q (C.length:Int)) (W6 L L C m q D y p y 1 0 B (λt r=>x t r) (λw a o d b h i=>vl (A1 ((a.length:Int)+1)) λj=>cond (ltN (A1 (b-h)) 1152921504606846976) (cond (ltN j 1000000) (cond (ltI 0 j) (vl (↑(R5 (j7 (A1 (b-h))) (j7 j) false):Int) λu=>vl (A1 ((a.length:Int)+1)) λl=>cond (l !=0) (vl (A1 (x5 b l)) λe=>vl (A1 ((a.length:Int)+1)) λf=>cond (f !=0) (cond (not (ptI (A1 (d+e)))) (x 2 i) (cond (I9 0 (w9 b f) a.length) (vl (cut a 0 (w9 b f)) λc=>cond (I9 (w9 b f) (a.length:Int) a.length) (vl (cut a (w9 b f) (a.length:Int)) λg=>cond (G2 (0+c.length)) (cond (G2 (c.length+1)) (cond (G2 ((j4 (c++[[(SV.int .i64 (A1 (d+e)))]]))+g.length)) (cond (ltI 256 (↑(j4 ((c++[[(SV.int .i64 (A1 (d+e)))]])++g)):Int)) (z i ((c++[[(SV.int .i64 (A1 (d+e)))]])++g)) (vl (A1 ((w9 b f)+1)) λv=>Q4 L n w ((c++[[(SV.int .i64 (A1 (d+e)))]])++g) o (A1 (d+e)) v u i x z A)) none) none) none) none) none)) none) none) none) none) none)) (A m B)
theorem At2(n s0 out1 at2 n3 i4 bias5 l6):D0 1 ((K4 L).keep 23) (bd (K4 L) Q Y (cd [1,1,1,1,1,1,1,1,1,1,1,0,0,0] Z9)) n ⟨gp [(0,pS s0),(5,.s (.sl false false 1 out1)),(1,pI at2),(0,pI n3),(0,pI i4),(0,pI bias5),(0,pB false)] 122,[.arr true 3 1 l6],s⟩ k =
 Q4 L n s0 out1 at2 n3 i4 bias5 l6 (λn0 g=>k .ret ⟨gp [(2,.fl 1),(0,pI n0)] 131,[.arr true 3 1 g,.arr true 3 1 []],s⟩) (λv g=>k .ret ⟨gp [(2,.fl 2),(0,pI (3:Int))] 131,[.arr true 3 1 v,.arr false 3 1 g,.arr true 3 1 []],s⟩) (λj g=>k (.exit 4) ⟨gp [(6,.s (.sl false false 1 j))] 128,[.arr true 3 1 g],s⟩):=by
 induction n generalizing s0 out1 at2 n3 i4 bias5 l6 with
 | zero=>rfl
 | succ n u=>rw[Q4];exact(a8 (by kernel_rfl) (A0 ((At1 L Q Y s (E1 6 (E0 (K4 L) Q Y (cd [1,1,1,1,1,1,1,1,1,1,1,0,0,0,1,0,1,1] Z9) (E1 5 (lpK 1 ((K4 L).keep 23) (bd (K4 L) Q Y (cd [1,1,1,1,1,1,1,1,1,1,1,0,0,0] Z9)) n k)))) L s0 out1 at2 n3 i4 bias5 i4 1 0 l6).trans (congr (congr rfl (by kernel_rfl)) (fx7 λl o c a p m d=>(a8 (by kernel_rfl) (A4 λq=>(A0 (A0 (A0 (A4 λh=>(A4 λr=>(A0 (A4 λb=>(A4 λt=>(A0 (A0 rfl (A0 (A4 λe=>(A0 (A4 λf=>(A0 (A0 (A0 (A0 rfl (A4 λi=>(u l ((e++[[(SV.int .i64 (A1 (a+b)))]])++f) c (A1 (a+b)) i h d))) rfl) rfl) rfl)) rfl)) rfl)) rfl))) rfl))) rfl) rfl) rfl)))))) rfl))
noncomputable def W7{R:Type}(L n:Nat)(h:By)(a m j f:Int)(g:LL)(i:Int->LL->Option R)(l:By->Int->Int->LL->Option R):Option R:=match n with|0=>none|n+1=>cond (not (ltI a (h.length:Int))) (i 4 g) (cond (inR a h.length) (cond (inR (bAt h a) 256) (vl (E5 (u8n (bAt h a))) λb=>cond (ltI b 0) (i 4 g) (vl (A1 (m+(A1 (b*j)))) λc=>cond (ltI 1099511627776 c) (i 19 g) (cond (ltN f 10000000000) (cond (ltN 72 1000000) (vl (M0 (ad0 (36:Int) f) (72:Int)) λd=>cond (ltI b d) (l h (A1 (a+1)) c g) (vl (A1 ((36:Int)-d)) λe=>cond (ltI 1099511627776 (A1 (j*e))) (i 19 g) (W7 L n h (A1 (a+1)) c (A1 (j*e)) (A1 (f+1)) g i l))) none) none))) none) none)
theorem At3(n c a b w3 kk4 l5):D0 1 ((K4 L).keep 27) (bd (K4 L) Q Y (cd [1,1,1,1,1,1,1,1,1,1,1,0,0,0,1,0,1,0,1,0,0] Z9)) n ⟨gp [(0,pS c),(5,.fl 0),(1,pI a),(0,pI (128:Int)),(0,pI b),(0,pI (72:Int)),(0,pB true),(0,pI (0:Int)),(0,pI w3),(0,pI kk4)] 119,[.arr true 3 1 l5],s⟩ k =
 W7 L n c a b w3 kk4 l5 (λn0 e=>k .ret ⟨gp [(2,.fl 1),(0,pI n0)] 131,[.arr true 3 1 e,.arr true 3 1 []],s⟩) (λc a b f=>k (.exit 6) ⟨gp [(0,pS c),(5,.fl 0),(1,pI a),(0,pI (128:Int)),(0,pI b),(1,pB true),(0,pI (0:Int))] 121,[.arr true 3 1 f],s⟩):=by
 induction n generalizing c a b w3 kk4 l5 with
 | zero=>rfl
 | succ n d=>rw[W7];simp only[<-d];kernel_rfl
noncomputable def L5{R:Type}(L n:Nat)(D:By)(m:Int)(C:LL)(A:Int->LL->Option R)(B:LL->LL->Option R)(F:LL->LL->Option R)(G:LL->Option R):Option R:=match n with|0=>none|n+1=>cond (ltI m (D.length:Int)) (W7 L L D m 0 1 0 C (λu o=>A u o) (λz l b a=>vl (A1 (b-0)) λi=>vl (A1 ((a.length:Int)+1)) λe=>cond (ltN i 1152921504606846976) (cond (ltN e 1000000) (cond (ltI 0 e) (vl (↑(R5 (j7 i) (j7 e) true):Int) λv=>vl (A1 ((a.length:Int)+1)) λj=>cond (j !=0) (vl (A1 (x5 b j)) λw=>vl (A1 ((128:Int)+w)) λf=>vl (A1 ((a.length:Int)+1)) λc=>cond (c !=0) (cond (not (ptI f)) (A 2 a) (cond (I9 0 (w9 b c) a.length) (cond (I9 (w9 b c) (a.length:Int) a.length) (cond (G2 (0+(j4 (ab3 ((j7 (w9 b c))-0) (ac7 0 a))))) (cond (G2 ((j4 (ab3 ((j7 (w9 b c))-0) (ac7 0 a)))+1)) (vl ((ab3 ((j7 (w9 b c))-0) (ac7 0 a))++[[(SV.int .i64 f)]]) λh=>cond (G2 (h.length+(j4 (ab3 ((j7 (a.length:Int))-(j7 (w9 b c))) (ac7 (j7 (w9 b c)) a))))) (vl (h++(ab3 ((j7 (a.length:Int))-(j7 (w9 b c))) (ac7 (j7 (w9 b c)) a))) λd=>cond (ltI 256 (d.length:Int)) (B a d) (vl (A1 ((w9 b c)+1)) λx=>Q4 L n z d l f x v a (λy p=>A y p) (λq r=>B q r) (λg t=>F g t))) none) none) none) none) none)) none) none) none) none) none)) (G C)
theorem FP(n s0 at1 l2):D0 1 ((K4 L).keep 23) (bd (K4 L) Q Y (cd [1,1,1,1,1,1,1,1,1,1,1,0,0,0] Z9)) n ⟨gp [(0,pS s0),(5,.fl 0),(1,pI at1),(0,pI (128:Int)),(0,pI (0:Int)),(0,pI (72:Int)),(0,pB true)] 122,[.arr true 3 1 l2],s⟩ k =
 L5 L n s0 at1 l2 (λn0 d=>k .ret ⟨gp [(2,.fl 1),(0,pI n0)] 131,[.arr true 3 1 d,.arr true 3 1 []],s⟩) (λl d=>k .ret ⟨gp [(2,.fl 2),(0,pI (3:Int))] 131,[.arr true 3 1 l,.arr false 3 1 d,.arr true 3 1 []],s⟩) (λh d=>k (.exit 4) ⟨gp [(6,.s (.sl false false 1 h))] 128,[.arr true 3 1 d],s⟩) (λl=>k (.exit 4) ⟨gp [(6,.fl 0)] 128,[.arr true 3 1 l],s⟩):=by
 induction n generalizing s0 at1 l2 with
 | zero=>rfl
 | succ n A=>rw[L5];exact(a8 (by kernel_rfl) (A0 ((At3 L Q Y s (E1 6 (E0 (K4 L) Q Y (cd [1,1,1,1,1,1,1,1,1,1,1,0,0,0,1,0,1,1] Z9) (E1 5 (lpK 1 ((K4 L).keep 23) (bd (K4 L) Q Y (cd [1,1,1,1,1,1,1,1,1,1,1,0,0,0] Z9)) n k)))) L s0 at1 0 1 0 l2).trans (congr (congr rfl (by kernel_rfl)) (fx4 λi a m b=>(a8 (by kernel_rfl) (A4 λu=>(A4 λv=>(A0 (A0 (A0 (A4 λe=>(A4 λw=>(A0 (A4 λx=>(A4 λf=>(A4 λy=>(A0 (A0 rfl (A0 (A0 (A0 (A0 (A4 λo=>(A0 (A4 λc=>(A0 rfl (A4 λg=>((At2 L Q Y s k n i c a f g e b).trans (congr (congr (congr rfl (fx2 λz p=>rfl)) (fx2 λq r=>rfl)) (fx2 λj t=>rfl)))))) rfl)) rfl) rfl) rfl) rfl)) rfl)))) rfl))) rfl) rfl) rfl))))))) rfl))
noncomputable def B25{R:Type}(L:Nat)(A:By)(u:Int->LL->Option R)(v:Int->LL->Option R)(y:LL->LL->Option R)(z:LL->LL->Option R):Option R:=cond (ltI 1024 (A.length:Int)) (u 3 []) (Fe L L A 0 0 (λ_=>u 4 []) (λx e=>Ir L L x e 0 [] (λt a b=>cond (ltI 256 (b.length:Int)) (v 3 b) (cond (ltI 0 a) (vl (A1 (a+1)) λw=>L5 L L t w b (λq f=>v q f) (λg h=>y g h) (λc i=>z c i) (λj=>u 0 j)) (L5 L L t a b (λr l=>v r l) (λm n=>y m n) (λd o=>z d o) (λp=>u 0 p))))))
theorem C26(d:Nat)(s0):evC (K4 L) (d+1) W Y 118 [pS s0] [] s=B25 L s0 (λf c=>some (.tup [.fl 0,pI f],[.arr true 3 1 c],s)) (λf c=>some (.tup [.fl 1,pI f],[.arr true 3 1 c,.arr true 3 1 []],s)) (λl c=>some (.tup [.fl 2,pI (3:Int)],[.arr true 3 1 l,.arr false 3 1 c,.arr true 3 1 []],s)) (λf c=>some (.tup [.s (.sl false false 1 f),pI (0:Int)],[.arr true 3 1 c],s)):=by refine(evE (fn:=af4) (by kernel_rfl)).trans ?_;generalize evC (K4 L) d=Q;unfold B25;exact let j:=(E1 4 (E0 (K4 L) Q Y (cd [1,1,1,1,1,1,1,1,1,1,1,1] Z9) (F3 (K4 L) af4)));(a8 (by kernel_rfl) (A0 rfl ((As9 L Q Y s (E1 0 (E0 (K4 L) Q Y (cd [1,1,1,1] Z9) (F3 (K4 L) af4))) L s0 0 0).trans (congr (congr rfl (by kernel_rfl)) (fx2 λi a=>(a8 (by kernel_rfl) ((At0 L Q Y s (E1 2 (E0 (K4 L) Q Y (cd [1,1,1,1,1,1] Z9) (F3 (K4 L) af4))) L i a 0 []).trans (congr rfl (fx3 λg b e=>(a8 (by kernel_rfl) (A0 rfl (A0 (A4 λh=>((FP L Q Y s j L g h e).trans (by kernel_rfl))) ((FP L Q Y s j L g b e).trans (by kernel_rfl))))))))))))))
noncomputable abbrev An:Code:=C6 ai1
noncomputable def P8(L:Nat):Cfg:=B8 L [69] (A2 [(17,[0,1,0,0,0,1,0,0,0]),(3,[0,1,0,0,0])]) [(93,Wr)] (A2 [(27,[2,0]),(26,[0,3,0]),(25,[0,3,0,1]),(24,[2,0]),(23,[0,3,0,1,0,77]),(18,[0,3,0,1,0,0,0]),(22,[0,3,0,1,0,0,0]),(21,[2,0]),(20,[0,3,0,1,0,0,0,0,61]),(19,[0,3,0,1,0,0,0,0]),(17,[0,3,0,1,0,0,0,48]),(16,[0,3,0,1,0,0,0]),(15,[2,0]),(14,[0,3,0,1,0,0,46]),(9,[0,3,0,1,0,0]),(11,[0,3,0,1,0,0]),(13,[0,3,0,1,0,0]),(6,[2,0]),(12,[0,3,0,0,35]),(10,[0,3,0,0,26]),(8,[0,3,0,0,17]),(7,[0,3,0,0,0,0,0,11]),(5,[0,3,0,0,0,0,0]),(4,[0,3,0,0]),(3,[0,3,0,9]),(2,[0,3,0]),(1,[0,3]),(0,[0])]) [93] (A2 [(0,[4]),(1,[0,3,0]),(3,[0,3,0,1,0,0]),(4,[0,3,0,1,0,0,0]),(2,[0,3,0,1,0,0])]) (some [2,0]) [] [] []
noncomputable def Zo{R:Type}(L n:Nat)(d:By)(a e:Int)(c:LL)(b:By->Int->Int->LL->Option R):Option R:=match n with|0=>none|n+1=>b d a e c
theorem Bn2(n c a d b):D0 1 ((P8 L).keep 17) (bd (P8 L) Q Y (cd [1,1,0,1,0,0,1,0,1,1,1,1,0,1,0,0] An)) n ⟨gp [(0,pS c),(3,.fl 0),(0,pI a),(1,pI (1:Int)),(0,pI d),(0,pI (0:Int)),(0,pI (1:Int))] 84,[.arr true 3 1 b],s⟩ k =
 Zo L n c a d b (λc a d b=>k (.exit 3) ⟨gp [(0,pS c),(3,.fl 0),(0,pI a),(1,pI (1:Int)),(0,pI d),(0,pI (0:Int))] 85,[.arr true 3 1 b],s⟩):=by
 induction n generalizing c a d b with
 | zero=>rfl
 | succ n e=>rw[Zo];kernel_rfl
noncomputable def Zn{R:Type}(L:Nat)(i:By)(g j:Int)(h:LL)(d:LL->Option R)(l:By->Int->LL->Option R):Option R:=vl (A1 ((i.length:Int)-g)) λe=>cond (ltI e 1) (d h) (Zo L L i g j h (λf c b a=>cond (ltI b 0) (d a) (cond (not (ptI b)) (d a) (cond (G2 (a.length+1)) (l f (A1 (c+1)) (a++[[(SV.int .i64 b)]])) none))))
abbrev DW(b:Code):Prop:=∀(k:Out->St W->Option R) c a b2 b3 l4,B3 (P8 L) Q Y b ⟨gp [(0,pS c),(3,.fl 0),(0,pI a),(0,pI b2),(0,pI (1:Int)),(0,pI b2),(0,pI (0:Int)),(11,pB b3)] 73,[.arr true 3 1 l4],s⟩ k=Zn L c a b2 l4 (λd=>k .ret ⟨gp [(2,.fl 1),(0,pB false)] 91,[.arr true 3 1 d,.arr true 3 1 []],s⟩) (λc a e=>k .normal ⟨gp [(0,pS c),(3,.fl 0),(0,pI a)] 89,[.arr true 3 1 e],s⟩)
theorem Bm6:DW (R:=R) L Q Y s (cd [1,1,0,1,0,0,1,0,1,1,1] An):=by intro k e b a f c;unfold Zn;exact(a8 (by kernel_rfl) (A4 λd=>(A0 rfl ((Bn2 L Q Y s (E1 3 (E0 (P8 L) Q Y (cd [1,1,0,1,0,0,1,0,1,1,1,1,1] An) k)) L e b a c).trans (by kernel_rfl)))))
noncomputable def Oa{R:Type}(h:By)(e c:Int)(i:Bool)(d:LL)(f:By->Int->Int->Int->Int->LL->Option R)(g:LL->Option R):Option R:=cond i (vl (A1 (c-224)) λa=>f h e 3 a 2048 d) (cond (not (ltI c 240)) (cond (ltI c 245) (vl (A1 (c-240)) λb=>f h e 4 b 65536 d) (g d)) (g d))
abbrev TQ(b:Code):Prop:=∀(k:Out->St W->Option R) d c b2 b3 l4,B3 (P8 L) Q Y b ⟨gp [(0,pS d),(3,.fl 0),(0,pI c),(0,pI b2),(26,pB b3)] 61,[.arr true 3 1 l4],s⟩ k=Oa d c b2 b3 l4 (λd c g h a f=>k .normal ⟨gp [(0,pS d),(3,.fl 0),(0,pI c),(1,pI g),(0,pI h),(0,pI a)] 85,[.arr true 3 1 f],s⟩) (λe=>k .ret ⟨gp [(2,.fl 1),(0,pB false)] 91,[.arr true 3 1 e,.arr true 3 1 []],s⟩)
theorem Bm8:TQ (R:=R) L Q Y s (cd [1,1,0,1,0,0,1,0,1,1,0,0,1,1,1,1,1] An):=by intro k e c a b d;unfold Oa;kernel_rfl
noncomputable def Ob{R:Type}(v:By)(r c:Int)(x:Bool)(u:LL)(t:By->Int->Int->Int->Int->LL->Option R)(w:LL->Option R):Option R:=cond x (vl (A1 (c-192)) λj=>t v r 2 j 128 u) (cond (not (ltI c 224)) (Oa v r c (ltI c 240) u (λn d l p a f=>t n d l p a f) (λg=>w g)) (Oa v r c false u (λo e m q b h=>t o e m q b h) (λi=>w i)))
abbrev Ss(b:Code):Prop:=∀(k:Out->St W->Option R) d c b2 b3 l4,B3 (P8 L) Q Y b ⟨gp [(0,pS d),(3,.fl 0),(0,pI c),(0,pI b2),(17,pB b3)] 70,[.arr true 3 1 l4],s⟩ k=Ob d c b2 b3 l4 (λd c g h a f=>k .normal ⟨gp [(0,pS d),(3,.fl 0),(0,pI c),(1,pI g),(0,pI h),(0,pI a)] 85,[.arr true 3 1 f],s⟩) (λe=>k .ret ⟨gp [(2,.fl 1),(0,pB false)] 91,[.arr true 3 1 e,.arr true 3 1 []],s⟩)
theorem Bm9(a:Code)(b:TQ (R:=R) L Q Y s a):Ss (R:=R) L Q Y s (cd [1,1,0,1,0,0,1,0,1,1,0,0,1,1,1] (G6 [1,1,0,1,0,0,1,0,1,1,0,0,1,1,1,1,1] a An)):=by intro k g e c d f;unfold Ob;simp only[<-b k];kernel_rfl
theorem Bn0:Ss (R:=R) L Q Y s (cd [1,1,0,1,0,0,1,0,1,1,0,0,1,1,1] An):=by intro k e c a b d;exact a8 (by kernel_rfl) (Bm9 L Q Y s (cd [1,1,0,1,0,0,1,0,1,1,0,0,1,1,1,1,1] An) (Bm8 L Q Y s) k e c a b d)
noncomputable def Gp{R:Type}(L n:Nat)(h:By)(f j m a c:Int)(g:LL)(i:LL->Option R)(l:By->Int->Int->Int->Int->LL->Option R):Option R:=match n with|0=>none|n+1=>cond (ltI c j) (cond (inR (A1 (f+c)) h.length) (vl (bAt h (A1 (f+c))) λb=>cond (ltI (A1 b) (128:Int)) (i g) (cond (ltI 191 (A1 b)) (i g) (vl (A1 ((A1 (m*64))+(A1 b))) λd=>vl (A1 (d-128)) λe=>Gp L n h f j e a (A1 (c+1)) g i l))) none) (l h f j m a g)
theorem Bn4(n d b c e a kk5 l6):D0 1 ((P8 L).keep 17) (bd (P8 L) Q Y (cd [1,1,0,1,0,0,1,0,1,1,1,1,0,1,0,0] An)) n ⟨gp [(0,pS d),(3,.fl 0),(0,pI b),(1,pI c),(0,pI e),(0,pI a),(0,pI kk5)] 84,[.arr true 3 1 l6],s⟩ k =
 Gp L n d b c e a kk5 l6 (λg=>k .ret ⟨gp [(2,.fl 1),(0,pB false)] 91,[.arr true 3 1 g,.arr true 3 1 []],s⟩) (λd b c e a h=>k (.exit 3) ⟨gp [(0,pS d),(3,.fl 0),(0,pI b),(1,pI c),(0,pI e),(0,pI a)] 85,[.arr true 3 1 h],s⟩):=by
 induction n generalizing d b c e a kk5 l6 with
 | zero=>rfl
 | succ n f=>rw[Gp];simp only[<-f];kernel_rfl
noncomputable def Et{R:Type}(L:Nat)(o:By)(l n q d:Int)(m:LL)(j:LL->Option R)(p:By->Int->LL->Option R):Option R:=vl (A1 ((o.length:Int)-l)) λg=>cond (ltI g n) (j m) (Gp L L o l n q d 1 m (λf=>j f) (λi e h c b a=>cond (ltI c b) (j a) (cond (not (ptI c)) (j a) (cond (G2 (a.length+1)) (p i (A1 (e+h)) (a++[[(SV.int .i64 c)]])) none))))
abbrev DY(b:Code):Prop:=∀(k:Out->St W->Option R) c a n2 v3 least4 l5,B3 (P8 L) Q Y b ⟨gp [(0,pS c),(3,.fl 0),(0,pI a),(1,pI n2),(0,pI v3),(0,pI least4)] 85,[.arr true 3 1 l5],s⟩ k=Et L c a n2 v3 least4 l5 (λd=>k .ret ⟨gp [(2,.fl 1),(0,pB false)] 91,[.arr true 3 1 d,.arr true 3 1 []],s⟩) (λc a e=>k .normal ⟨gp [(0,pS c),(3,.fl 0),(0,pI a)] 89,[.arr true 3 1 e],s⟩)
theorem Bn1:DY (R:=R) L Q Y s (cd [1,1,0,1,0,0,1,0,1,1,1] An):=by intro k f c e g a d;unfold Et;exact(a8 (by kernel_rfl) (A4 λb=>(A0 rfl ((Bn4 L Q Y s (E1 3 (E0 (P8 L) Q Y (cd [1,1,0,1,0,0,1,0,1,1,1,1,1] An) k)) L f c e g a 1 d).trans (by kernel_rfl)))))
noncomputable def Ah{R:Type}(L n:Nat)(d:By)(c:Int)(D:LL)(e:LL->Option R)(C:LL->Option R):Option R:=match n with|0=>none|n+1=>cond (ltI c (d.length:Int)) (cond (inR c d.length) (cond (ltI (A1 (bAt d c)) (128:Int)) (Zn L d c (A1 (bAt d c)) D (λG=>e G) (λI F H=>Ah L n I F H e C)) (cond (not (ltI (A1 (bAt d c)) (194:Int))) (Ob d c (A1 (bAt d c)) (ltI (A1 (bAt d c)) (224:Int)) D (λw f u A a j=>Et L w f u A a j (λm=>e m) (λx g o=>Ah L n x g o e C)) (λl=>e l)) (Ob d c (A1 (bAt d c)) false D (λy h v B b p=>Et L y h v B b p (λr=>e r) (λz i t=>Ah L n z i t e C)) (λq=>e q)))) none) (C D)
theorem Bn5(a:Code)(e:DW (R:=R) L Q Y s a)(d:DY (R:=R) L Q Y s a)(b:Code)(c:Ss (R:=R) L Q Y s b)(n:Nat)(i:By)(h:Int)(j:LL):D0 1 ((P8 L).keep 3) (bd (P8 L) Q Y (cd [1,1,0,1,0,0] (G6 [1,1,0,1,0,0,1,0,1,1,0,0,1,1,1] b (G6 [1,1,0,1,0,0,1,0,1,1,1] a An)))) n ⟨gp [(0,pS i),(3,.fl 0),(0,pI h)] 89,[.arr true 3 1 j],s⟩ k =
 Ah L n i h j (λI=>k .ret ⟨gp [(2,.fl 1),(0,pB false)] 91,[.arr true 3 1 I,.arr true 3 1 []],s⟩) (λI=>k (.exit 0) ⟨gp [(4,.fl 0)] 90,[.arr true 3 1 I],s⟩):=by
 induction n generalizing i h j with
 | zero=>rfl
 | succ n G=>rw[Ah];exact let D:=(E1 1 (lpK 1 ((P8 L).keep 3) (bd (P8 L) Q Y (cd [1,1,0,1,0,0] (G6 [1,1,0,1,0,0,1,0,1,1,0,0,1,1,1] b (G6 [1,1,0,1,0,0,1,0,1,1,1] a An)))) n k));let K:=(E1 2 (E0 (P8 L) Q Y a D));(a8 (by kernel_rfl) (A0 (A0 (A0 ((e D i h (A1 (bAt i h)) (ltI (A1 (bAt i h)) (128:Int)) j).trans (congr (congr rfl (by kernel_rfl)) (fx3 λJ F H=>(a8 (by kernel_rfl) (G J F H))))) (A0 ((c K i h (A1 (bAt i h)) (ltI (A1 (bAt i h)) (224:Int)) j).trans (congr (congr rfl (fx6 λx l v B f q=>(a8 (by kernel_rfl) ((d D x l v B f q).trans (congr (congr rfl (by kernel_rfl)) (fx3 λy m r=>(a8 (by kernel_rfl) (G y m r)))))))) (by kernel_rfl))) ((c K i h (A1 (bAt i h)) false j).trans (congr (congr rfl (fx6 λz o w C g t=>(a8 (by kernel_rfl) ((d D z o w C g t).trans (congr (congr rfl (by kernel_rfl)) (fx3 λA p u=>(a8 (by kernel_rfl) (G A p u)))))))) (by kernel_rfl))))) rfl) rfl))
noncomputable def Dn8{R:Type}(L:Nat)(e:By)(c:LL->Option R)(d:LL->Option R):Option R:=Ah L L e 0 [] (λa=>c a) (λb=>d b)
theorem Dn9(b:Code)(c:DW (R:=PV × List Blk × W) L Q Y s b)(e:DY (R:=PV × List Blk × W) L Q Y s b)(a:Code)(d:Ss (R:=PV × List Blk × W) L Q Y s a)(g:By):B3 (P8 L) Q Y (cd [] (G6 [1,1,0,1,0,0,1,0,1,1,0,0,1,1,1] a (G6 [1,1,0,1,0,0,1,0,1,1,1] b An))) ⟨[pS g]++tps 94,[],s⟩ (F3 (P8 L) ai1)=Dn8 L g (λf=>some (.tup [.fl 1,pB false],[.arr true 3 1 f,.arr true 3 1 []],s)) (λf=>some (.tup [.fl 0,pB true],[.arr true 3 1 f],s)):=by unfold Dn8;exact(a8 (by kernel_rfl) ((Bn5 L Q Y s (E1 0 (E0 (P8 L) Q Y (cd [1,1,1] An) (F3 (P8 L) ai1))) b c e a d L g 0 []).trans (by kernel_rfl)))
theorem Do0(d:Nat)(s0):evC (P8 L) (d+1) W Y 69 [pS s0] [] s=Dn8 L s0 (λa=>some (.tup [.fl 1,pB false],[.arr true 3 1 a,.arr true 3 1 []],s)) (λa=>some (.tup [.fl 0,pB true],[.arr true 3 1 a],s)):=
 (evE (fn:=ai1) (by kernel_rfl)).trans (a8 (by kernel_rfl) (Dn9 L (evC (P8 L) d) Y s (cd [1,1,0,1,0,0,1,0,1,1,1] An) (Bm6 L (evC (P8 L) d) Y s) (Bn1 L (evC (P8 L) d) Y s) (cd [1,1,0,1,0,0,1,0,1,1,0,0,1,1,1] An) (Bn0 L (evC (P8 L) d) Y s) s0))
noncomputable abbrev Bx8:Code:=C6 aj6
noncomputable def Mz(L:Nat):Cfg:=B8 L [89] (A2 [(6,[0,1,0,1,0])]) [(118,Bv9),(70,A22)] (A2 [(12,[2]),(11,[0,4,1,0]),(7,[0,2,1,0]),(10,[2]),(9,[0,2,1,0,34]),(8,[0,2,1,0]),(6,[0,2,1,0,12]),(5,[0,2,1,0]),(4,[0,2,1]),(3,[2]),(2,[0,2,11]),(1,[0,2,0]),(0,[0])]) [70] (A2 [(0,[0,2,1]),(1,[0,2,1,0])]) (some [2]) [] [] []
noncomputable def Z5{R:Type}(L n:Nat)(a:By)(d:Bool)(b:LL)(e:Bool)(c:Int)(f:Unit->Option R)(g:By->Bool->LL->Bool->Option R):Option R:=match n with|0=>none|n+1=>cond (ltI c (b.length:Int)) (cond e (cond (inR c b.length) (cond (okE Mh b (j7 c) 0) (cond (not (ltI (gE b (j7 c) 0) (65:Int))) (cond (inR c b.length) (cond (okE Mh b (j7 c) 0) (cond (not (ltI 90 (gE b (j7 c) 0))) (f ()) (Z5 L n a d b true (A1 (c+1)) f g)) none) none) (Z5 L n a d b true (A1 (c+1)) f g)) none) none) (cond (inR c b.length) (cond (okE Mh b (j7 c) 0) (cond (inR c b.length) (cond (okE Mh b (j7 c) 0) (cond (not (ltI (gE b (j7 c) 0) (65:Int))) (cond (inR c b.length) (cond (okE Mh b (j7 c) 0) (cond (not (ltI 90 (gE b (j7 c) 0))) (f ()) (Z5 L n a d b (not (ltI (gE b (j7 c) 0) (128:Int))) (A1 (c+1)) f g)) none) none) (Z5 L n a d b (not (ltI (gE b (j7 c) 0) (128:Int))) (A1 (c+1)) f g)) none) none) none) none)) (g a d b e)
theorem At6(n c b d a i4):D0 0 ((Mz L).keep 6) (bd (Mz L) Q Y (cd [1,1,1,1,0,1,0,0] Bx8)) n ⟨gp [(0,pS c),(2,.s (.sl b b 1 d)),(1,pB a),(0,pI i4)] 50,[],s⟩ k =
 Z5 L n c b d a i4 (λ_=>k .ret ⟨gp [(2,pB false)] 54,[],s⟩) (λc b d a=>k (.exit 0) ⟨gp [(0,pS c),(2,.s (.sl b b 1 d)),(1,pB a)] 51,[],s⟩):=by
 induction n generalizing c b d a i4 with
 | zero=>rfl
 | succ n e=>rw[Z5];simp only[<-e];kernel_rfl
noncomputable def B27{R:Type}(L:Nat)(a:By)(e:Bool->Option R):Option R:=cond (A3 a.length) (vl (↑((O8 a)).2:Int) λf=>cond (f !=0) (e false) (Z5 L L a (ai9 ((O8 a)).1) (No ((O8 a)).1) false 0 (λ_=>e false) (λc h d b=>cond (ag1 d Pc) (vl ((X8 (ad7 elI d))).1 λi=>vl (↑((X8 (ad7 elI d))).2:Int) λg=>cond (g==0) (cond (i==c) (e b) (e false)) (e false)) none))) none
theorem C29(d:Nat)(rest0):evC (Mz L) (d+1) W Y 89 [pS rest0] [] s=B27 L rest0 (λb=>some (pB b,[],s)):=by refine(evE (fn:=aj6) (by kernel_rfl)).trans ?_;generalize evC (Mz L) d=Q;unfold B27;exact(a8 (by kernel_rfl) (A0 (A4 λa=>(A0 rfl ((At6 L Q Y s (E1 0 (E0 (Mz L) Q Y (cd [1,1,1,1,1] Bx8) (F3 (Mz L) aj6))) L rest0 (ai9 ((O8 rest0)).1) (No ((O8 rest0)).1) false 0).trans (by kernel_rfl)))) rfl))
noncomputable abbrev Bx6:Code:=C6 aj5
noncomputable def Mx(L:Nat):Cfg:=B8 L [61] (A2 [(4,[0,1,0])]) [(89,Bw1)] (A2 [(9,[2]),(5,[0,2]),(8,[2]),(7,[0,2,52]),(6,[0,2,0]),(4,[0,2,24]),(3,[0,2]),(2,[2]),(1,[0,23]),(0,[0])]) [89] (A2 [(0,[0]),(1,[0,2])]) (some [2]) [] [] []
noncomputable def P3{R:Type}(L n:Nat)(a:By)(b:Int)(c:Unit->Option R)(d:By->Option R):Option R:=match n with|0=>none|n+1=>cond (ltI b (a.length:Int)) (cond (inR b a.length) (cond (not (ltI (bAt a b) (97:Int))) (cond (not (ltI 122 (bAt a b))) (P3 L n a (A1 (b+1)) c d) (cond (not (ltI (bAt a b) (48:Int))) (cond (not (ltI 57 (bAt a b))) (P3 L n a (A1 (b+1)) c d) (cond ((bAt a b)==45) (P3 L n a (A1 (b+1)) c d) (cond (not ((bAt a b)==95)) (c ()) (P3 L n a (A1 (b+1)) c d)))) (cond ((bAt a b)==45) (P3 L n a (A1 (b+1)) c d) (cond (not ((bAt a b)==95)) (c ()) (P3 L n a (A1 (b+1)) c d))))) (cond (not (ltI (bAt a b) (48:Int))) (cond (not (ltI 57 (bAt a b))) (P3 L n a (A1 (b+1)) c d) (cond ((bAt a b)==45) (P3 L n a (A1 (b+1)) c d) (cond (not ((bAt a b)==95)) (c ()) (P3 L n a (A1 (b+1)) c d)))) (cond ((bAt a b)==45) (P3 L n a (A1 (b+1)) c d) (cond (not ((bAt a b)==95)) (c ()) (P3 L n a (A1 (b+1)) c d))))) none) (d a)
theorem As5(n a i1):D0 0 ((Mx L).keep 4) (bd (Mx L) Q Y (cd [1,1,0,1,0,0] Bx6)) n ⟨gp [(0,pS a),(2,pI i1)] 66,[],s⟩ k =
 P3 L n a i1 (λ_=>k .ret ⟨gp [(2,pB false)] 67,[],s⟩) (λa=>k (.exit 0) ⟨gp [(0,pS a)] 69,[],s⟩):=by
 induction n generalizing a i1 with
 | zero=>rfl
 | succ n b=>rw[P3];simp only[<-b];kernel_rfl
noncomputable def B23{R:Type}(L:Nat)(c:By)(b:Bool->Option R):Option R:=cond (c==[]) (b false) (cond (ltI 63 (c.length:Int)) (b false) (cond (inR 0 c.length) (cond ((bAt c (0:Int))==45) (b false) (vl (A1 ((c.length:Int)-1)) λd=>cond (inR d c.length) (cond ((bAt c d)==45) (b false) (P3 L L c 0 (λ_=>b false) (λa=>cond (ltI (a.length:Int) (4:Int)) (b true) (cond (I9 0 (4:Int) a.length) (vl (cut a 0 (4:Int)) λf=>cond (not (f==[120,110,45,45])) (b true) (cond (I9 4 (a.length:Int) a.length) (vl (cut a 4 (a.length:Int)) λe=>cond (A3 e.length) (b (Er e)) none) none)) none)))) none)) none))
theorem C23(d:Nat)(s0):evC (Mx L) (d+1) W Y 61 [pS s0] [] s=B23 L s0 (λb=>some (pB b,[],s)):=by refine(evE (fn:=aj5) (by kernel_rfl)).trans ?_;generalize evC (Mx L) d=Q;unfold B23;exact(a8 (by kernel_rfl) (A0 rfl (A0 rfl (A0 (A0 rfl (A4 λa=>(A0 (A0 rfl ((As5 L Q Y s (E1 0 (E0 (Mx L) Q Y (cd [1,1,1] Bx6) (F3 (Mx L) aj5))) L s0 0).trans (by kernel_rfl))) rfl))) rfl))))
noncomputable def YL(L:Nat):Cfg:=B8 L [45] (A2 []) [(69,Co6),(39,A25),(70,A22),(61,WI)] (A2 [(15,[2,0]),(14,[2,0]),(13,[6,37]),(12,[6]),(11,[2,0]),(10,[9,29]),(9,[9,0]),(8,[7]),(7,[6,20]),(6,[0,3,1]),(5,[2,0]),(4,[0,3,15]),(3,[2,0]),(2,[0,3,12]),(1,[0,3,0]),(0,[0])]) [39,70,61] (A2 []) (some [2,0]) [] [] []
noncomputable def B22{R:Type}(L:Nat)(a:By)(b:By->Int->Option R):Option R:=cond (A3 a.length) (cond (not (ab9 (Dc a))) (b ([]:List UInt8) 4) (cond (ltI 256 (↑(j4 (No (Tb a))):Int)) (b ([]:List UInt8) 3) (cond (A3 a.length) (cond (ltI (↑(j4 (No (Tb a))):Int) (a.length:Int)) (cond (A3 (j4 (B6 a))) (cond (ag1 (No (Tb (B6 a))) Pc) (vl ((X8 (ad7 elI (No (Tb (B6 a)))))).1 λd=>vl (↑((X8 (ad7 elI (No (Tb (B6 a)))))).2:Int) λe=>cond (e !=0) (b ([]:List UInt8) 14) (cond (E8 4 d.length) (vl (([120,110,45,45]:List UInt8)++d) λc=>cond (A3 c.length) (cond (not (K6 c)) (b ([]:List UInt8) 14) (b c 0)) none) none)) none) none) (cond (A3 (j4 (B6 a))) (cond (not (K6 (B6 a))) (b ([]:List UInt8) 14) (b (B6 a) 0)) none)) none))) none
theorem C22(d:Nat)(s0):evC (YL L) (d+1) W Y 45 [pS s0] [] s=B22 L s0 (λa b=>some (.tup [pS a,pI b],[],s)):=by refine(evE (fn:=Tryz.f45) (by kernel_rfl)).trans ?_;generalize evC (YL L) d=Q;unfold B22;kernel_rfl
end
theorem At5{R:Type}{a:Bool->Option R}(n:Int):Ac6 LF n a=a (ptI n):=by
 unfold Ac6;by_cases h:n<0
 ·rw[B9 h];have:ptI n=false:=by
   cases n with
   | ofNat m=>exact absurd h (by simp)
   | negSucc m=>rfl
  grind
 ·obtain⟨m,rfl⟩:=w6 (show 0<=n by omega);rw[A6,Nt];unfold W4;by_cases b:1114111<m
  ·rw[A9];have:w8 m 1114111=false:=by rw[o8,ne_eq,p4];omega
   grind
  ·rw[A6];have:w8 m 1114111=true:=by rw[p4];omega
   rw[this];by_cases c:m<55296
   ·rw[A9];have:Nat.blt m 55296=true:=by rw[af7];omega
    grind
   ·rw[A6];have e:Nat.blt m 55296=false:=by rw[o8,ne_eq,af7];omega
    rw[e];simp only[j2,cond_true,cond_false,ad3,x6]
    congr 1
theorem Ar2{R:Type}{k0:Int->Int->Option R}:∀(d n k:Nat),d<2305843009213693952->d<n->k+d<=4611686018427387904->
  ∃a b,a<=455/\b<=k+d/\BQ d k=b+36*a / (a+38)/\Hj LF n (d:Int) (k:Int) k0=k0 (a:Int) (b:Int):=by
 intro d
 induction d using ae6 with
 | _ d l=>
  intro n k p r q;obtain⟨n,rfl⟩:∃m,n=m+1:=⟨n-1,by omega⟩
  rw[Hj];by_cases h:455<d
  ·obtain⟨a,b,g,o,i,j⟩:=l (d / 35) (by omega) n (k+36) (by omega) (by omega) (by omega);refine⟨a,b,g,by omega,by rw[KI h];exact i,?_⟩;have e:x5 (d:Int) 35=((d / 35:Nat):Int):=N4 d 35;have c:A1 ((d / 35:Nat):Int)=((d / 35:Nat):Int):=A7;have f:A1 ((k:Int)+36)=((k+36:Nat):Int):=by rw[A7];rfl
   rw[A9];simp only[cond_true,vl,e,c,f];exact j
  ·refine⟨d,k,by omega,by omega,Uh h,?_⟩;rw[A6];rfl
theorem Ar3{R:Type}{k0:Int->Option R}(d c:Int)(f:Bool)(z:ltN d 1152921504606846976=true)(A:ltN c 1000000=true)(B:ltI 0 c=true):NQ LF d c f k0=k0 (R5 d.toNat c.toNat f:Nat):=by
 obtain⟨k,F⟩:=E2.1 z;obtain⟨j,D⟩:=E2.1 A;obtain⟨d,rfl⟩:=w6 k;obtain⟨c,rfl⟩:=w6 j;have J:=Nm.1 B;have C:=C5;have key:∀x:Nat,x<1152921504606846976->Hi LF (x:Int) (c:Int) k0=k0 ((BQ (x+x / c) 0:Nat):Int):=by
  intro x L;have G:x / c<=x:=aa3 _ _;unfold Hi;have g:x5 (x:Int) (c:Int)=((x / c:Nat):Int):=N4 x c;generalize x / c=q at *;have h:A1 (q:Int)=(q:Int):=A7;have o:A1 ((x:Int)+(q:Int))=((x+q:Nat):Int):=by rw[A7];rfl
  rw[show((c:Int)!=0)=true by simp;omega];simp only[cond_true,vl,g,h,o];obtain⟨a,n,H,I,w,y⟩:=Ar2 (R:=R) (k0:=λb l=>vl (A1 ((36)*b)) λm=>vl (A1 (b+(38))) λe=>cond (e !=(0)) (vl (A1 (x5 m e)) λi=>k0 (A1 (l+i))) none) (x+q) LF 0 (by omega) (by omega) (by omega);refine a8 y ?_;have K:36*a / (a+38)<=36*a:=aa3 _ _;have p:A1 (36*(a:Int))=((36*a:Nat):Int):=by rw[A7];rfl
  have r:A1 ((a:Int)+38)=((a+38:Nat):Int):=by rw[A7];rfl
  have t:x5 ((36*a:Nat):Int) ((a+38:Nat):Int)=((36*a / (a+38):Nat):Int):=N4 _ _;have u:A1 ((36*a / (a+38):Nat):Int)=((36*a / (a+38):Nat):Int):=A7;have v:A1 ((n:Int)+((36*a / (a+38):Nat):Int))=((n+36*a / (a+38):Nat):Int):=by rw[A7];rfl
  simp only[vl,p,r,t,u,v];rw[show(((a+38:Nat):Int)!=0)=true by simp;omega,w];rfl
 unfold NQ R5;rw[b8,b8];cases f with
 | true=>
  have g:x5 (d:Int) 700=((d / 700:Nat):Int):=N4 d 700;have h:A1 ((d / 700:Nat):Int)=((d / 700:Nat):Int):=A7;simp only[cond_true,vl,g,h,if_true];exact key _ (by omega)
 | false=>
  have g:x5 (d:Int) 2=((d / 2:Nat):Int):=N4 d 2;have h:A1 ((d / 2:Nat):Int)=((d / 2:Nat):Int):=A7;simp only[cond_false,vl,g,h,aa4,if_false];exact key _ (by omega)
theorem Bg6{R:Type}{b:Int->Option R}(d:Int)(c:ltN d 36=true):B18 LF d b=b ((Ba d.toNat).toNat:Nat):=by
 obtain⟨a,e⟩:=E2.1 c;obtain⟨d,rfl⟩:=w6 a;unfold B18;rw[b8,RO (by omega)];by_cases h:d<26
 ·rw[A9,if_pos h];simp only[cond_true,vl]
  congr 1
  rw[A7,N6];rfl
 ·rw[A6,if_neg h];simp only[cond_false,vl]
  congr 1
  rw[D1 (n:=48+(d:Int)) (by omega) (by omega),A7,N6];omega
theorem Ci0{R:Type}{g:Int->Option R}(b:Int)(h:inR b 256=true):C43 LF b g=g (E5 (u8n b)):=by
 simp only[inR,o6,decide_eq_true_eq] at h;have j:b=((u8n b).toNat:Int):=by
  unfold u8n;simp;omega
 generalize u8n b=c at *;subst j;have i:=c.toNat_lt;unfold C43 E5;simp only[Zt,Zs,vl];rcases GG c with⟨d,f,e⟩|⟨d,f,e⟩|⟨d,f,e⟩|⟨d,f,o,e⟩
 ·have a:A1 (wu8 ((c.toNat:Int)-97))=((c.toNat-97:Nat):Int):=by
   rw[N6,A7];omega
  simp (disch:=omega) only[B9,E6,b9,j2,cond_false,cond_true,a,e]
 ·have a:A1 (wu8 ((c.toNat:Int)-65))=((c.toNat-65:Nat):Int):=by
   rw[N6,A7];omega
  simp (disch:=omega) only[B9,E6,b9,j2,cond_false,cond_true,a,e]
 ·have a:A1 (A1 (wu8 ((c.toNat:Int)-48))+26)=((c.toNat-22:Nat):Int):=by
   rw[N6,D1 (n:=(c.toNat:Int)-48) (by omega) (by omega),A7];omega
  simp (disch:=omega) only[B9,E6,b9,j2,cond_false,cond_true,a,e]
 ·rw[e];by_cases k:c.toNat<48
  ·simp (disch:=omega) only[B9,E6,b9,j2,cond_false,cond_true]
  ·by_cases l:c.toNat<65
   ·simp (disch:=omega) only[B9,E6,b9,j2,cond_false,cond_true]
   ·by_cases m:c.toNat<97
    ·simp (disch:=omega) only[B9,E6,b9,j2,cond_false,cond_true]
    ·simp (disch:=omega) only[B9,E6,b9,j2,cond_false,cond_true]
theorem Cg7{R:Type}{a:Int->Option R}(k b:Int)(c:ltN k 10000000000=true)(d:ltN b 1000000=true):Do2 LF k b a=a (M0 (ad0 36 k) b):=by obtain⟨j,l⟩:=E2.1 c;obtain⟨e,f⟩:=E2.1 d;unfold Do2 M0;have g:A1 (k+1)=k+1:=A7;have h:A1 ((36:Int)*(k+1))=36*(k+1):=A7;have i:A1 (36*(k+1)-b)=36*(k+1)-b:=A7;grind
theorem C06(z t:Bool)(c:LL)(done a u delta i:Int)(b:Nat)(T:b<1000000):∀(r q k n:Nat) (l:LL),q<10 ^ r->q<1152921504606846976->k+r<=1000->r<n->l.length+r<=200000->
  ∃(d:Nat) (pre:By),d<36/\Q7 q k b=pre++[Ba d]/\∀(R:Type) (g:Bool->Bool->LL->Int->Int->Int->Int->Int->Int->LL->Option R),Gj LF n z t c done a u delta (b:Int) i (q:Int) (k:Int) l g=g z t c done a u delta i (d:Int) (l++pre.map E4):=by
 have f:∀k:Nat,M0 (ad0 36 (k:Int)) (b:Int)=(thr k b:Int):=λk=>by
  rw[show ad0 36 (k:Int)=((36*k:Nat):Int) from rfl,AE]
 have j:∀(q k n:Nat) (l:LL),q<thr k b->k<=1000->∃(d:Nat) (pre:By),d<36/\Q7 q k b=pre++[Ba d]/\∀(R:Type) (g:Bool->Bool->LL->Int->Int->Int->Int->Int->Int->LL->Option R),Gj LF (n+1) z t c done a u delta (b:Int) i (q:Int) (k:Int) l g=g z t c done a u delta i (d:Int) (l++pre.map E4):=by
  intro q k n l p v;have x:=X4 k b;refine⟨q,[],by omega,by rw[Sb p];rfl,λR g=>?_⟩;rw[Gj];have o:ltI (q:Int) (thr k b:Int)=true:=A9;rw[N0,N0,f];grind
 intro r
 induction r with
 | zero=>
  intro q k n l h _ v P N;have x:=X4 k b;obtain⟨n,rfl⟩:∃m,n=m+1:=⟨n-1,by omega⟩
  exact j q k n l (by simp at h;omega) (by omega)
 | succ r Q=>
  intro q k n l h w v P N;have x:=X4 k b;obtain⟨n,rfl⟩:∃m,n=m+1:=⟨n-1,by omega⟩
  by_cases p:q<thr k b
  ·exact j q k n l p (by omega)
  ·have L:(q-thr k b) / (36-thr k b)<10 ^ r:=YX (by omega) (by rw[Nat.pow_succ] at h;omega);have M:(q-thr k b) / (36-thr k b)<=q:=Nat.le_trans (aa3 _ _) (by omega);have O:(q-thr k b) % (36-thr k b)<36-thr k b:=ah5 _ (by omega);obtain⟨d,pre,e0,K,e⟩:=Q ((q-thr k b) / (36-thr k b)) (k+1) n (l++[E4 (Ba (thr k b+(q-thr k b) % (36-thr k b)))]) L (by omega) (by omega) (by omega) (by rw[j6,x3];omega);refine⟨d,Ba (thr k b+(q-thr k b) % (36-thr k b))::pre,e0,by rw[CO p,K];rfl,λR g=>?_⟩;rw[Gj];have y:A1 ((q:Int)-(thr k b:Int))=((q-thr k b:Nat):Int):=by rw[A7];omega
   have C:A1 ((36:Int)-(thr k b:Int))=((36-thr k b:Nat):Int):=by rw[A7];omega
   have D:w9 ((q-thr k b:Nat):Int) ((36-thr k b:Nat):Int)=(((q-thr k b) % (36-thr k b):Nat):Int):=Cx _ _;have F:x5 ((q-thr k b:Nat):Int) ((36-thr k b:Nat):Int)=(((q-thr k b) / (36-thr k b):Nat):Int):=N4 _ _;have I:((((36-thr k b:Nat):Int))!=0)=true:=by rw[bne_iff_ne];omega
   have J:A1 ((k:Int)+1)=((k+1:Nat):Int):=by rw[A7];rfl
   have o:ltI (q:Int) (thr k b:Int)=false:=A6;rw[N0,N0,f];simp only[vl,o,y,C,D,F,I,J,cond_true,cond_false,j2];generalize hA:(q-thr k b) / (36-thr k b)=A at *;generalize S:(q-thr k b) % (36-thr k b)=B at *;have G:A1 ((thr k b:Int)+(B:Int))=((thr k b+B:Nat):Int):=by rw[A7];rfl
   have H:A1 (A:Int)=(A:Int):=A7;rw[G,H,N0,F9 (by omega),b8];refine a8 (e R g) ?_;simp[x4,E4]
theorem Dm7(z t:Bool)(c:List Nat)(a m:Nat)(Z:m<=1114112)(Y:c.length<=256):∀(r i n:Nat) (s:UI),i+r=c.length->r<n->s.delta+r<=1000000000000->s.bias<=500->s.out.length+20*r<=90000->s.done+r<=1000->a<=256->
  (∀(R:Type) (d:Bool->Bool->LL->Int->Int->Int->Int->Int->LL->Option R),Bh LF n z t (B7 c) (s.done:Int) (a:Int) (m:Int) (s.delta:Int) (s.bias:Int) (i:Int) (s.out.map E4) d =
   d z t (B7 c) ((I5 m a (c.drop i) s).done:Int) (a:Int) (m:Int) ((I5 m a (c.drop i) s).delta:Int) ((I5 m a (c.drop i) s).bias:Int) ((I5 m a (c.drop i) s).out.map E4))/\
  (I5 m a (c.drop i) s).bias<=500/\(I5 m a (c.drop i) s).out.length<=s.out.length+20*(c.drop i).countP (· == m)/\(I5 m a (c.drop i) s).done=s.done+(c.drop i).countP (· == m)/\
  (I5 m a (c.drop i) s).delta<=(if 0<(c.drop i).countP (· == m) then r else s.delta+r):=by
 have S:=C5;intro r
 induction r with
 | zero=>
  intro i n s T U O B P Q C;obtain⟨n,rfl⟩:∃m,n=m+1:=⟨n-1,by omega⟩
  rw[j5 (by omega)];refine⟨λR d=>?_,B,by simp[I5],by simp[I5],by simp[I5]⟩;rw[Bh];rw[D5,A6];rfl
 | succ r H=>
  intro i n s T U O B P Q C;obtain⟨n,rfl⟩:∃m,n=m+1:=⟨n-1,by omega⟩
  rw[Xi c i (by omega)];have F:=CV c i (by omega);have ok:=Si (l:=c) (i:=i) (by omega);have e:inR (i:Int) (B7 c).length=true:=K7 (by omega) (by rw[D5];omega);have f:ltI (i:Int) ((B7 c).length:Int)=true:=B9 (by rw[D5];omega);generalize c.getD i 0=p at *;have A:A1 ((i:Int)+1)=((i+1:Nat):Int):=by rw[A7];rfl
  have M:A1 ((s.delta:Int)+1)=((s.delta+1:Nat):Int):=by rw[A7];rfl
  have I:A1 ((s.done:Int)+1)=((s.done+1:Nat):Int):=by rw[A7];rfl
  by_cases G:p<m
  ·have g:(p==m)=false:=by rw[beq_eq_false_iff_ne];omega
   have u:I5 m a (p::c.drop (i+1)) s=I5 m a (c.drop (i+1)) { s with delta:=s.delta+1 }:=by rw[I5,if_pos G]
   obtain⟨v,w,x,y,h⟩:=H (i+1) n { s with delta:=s.delta+1 } (by omega) (by omega) (by simp only;omega) B (by simp only;omega) (by simp only;omega) C;rw[u,ad5 (by rw[g];simp)];refine⟨λR d=>?_,w,x,y,?_⟩
   ·rw[Bh];rw[b8];simp only[e,f,ok,cond_true,vl,F,A,M];rw[A9,cond_true,show((p:Int)!=(m:Int))=true by rw[bne_iff_ne];omega,cond_true];exact v R d
   ·simp only at h;split at h<;>split<;>omega
  ·by_cases L:p=m
   ·subst L;have K:=RT (q:=s.delta) (k:=0) (b:=s.bias) (by omega);have D:=Pu s.delta (s.done+1) (s.done==a) (by omega);have u:I5 p a (p::c.drop (i+1)) s=I5 p a (c.drop (i+1)) { delta:=0,bias:=R5 s.delta (s.done+1) (s.done==a),done:=s.done+1,out:=s.out++Q7 s.delta 0 s.bias }:=by rw[I5,if_neg G,if_pos rfl]
    obtain⟨v,w,x,y,h⟩:=H (i+1) n { delta:=0,bias:=R5 s.delta (s.done+1) (s.done==a),done:=s.done+1,out:=s.out++Q7 s.delta 0 s.bias } (by omega) (by omega) (by simp only;omega) D (by simp only[j6];omega) (by simp only;omega) C;obtain⟨W,pre,X,J,N⟩:=C06 z t (B7 c) (s.done:Int) (a:Int) (p:Int) (s.delta:Int) (i:Int) s.bias (by omega) 19 s.delta 0 LF (s.out.map E4) (by omega) (by omega) (by omega) (by omega) (by rw[v8];omega);rw[u,List.countP_cons_of_pos (by simp)];refine⟨λR d=>?_,w,?_,?_,?_⟩
    ·rw[Bh];have j:((s.done:Int)==(a:Int))=(s.done==a):=by
      rw[p5,beq_iff_eq,beq_iff_eq];omega
     rw[b8];simp only[e,f,ok,cond_true,vl,F,A,I];rw[A6,cond_false,bne_self_eq_false,cond_false];refine a8 (N R _) ?_;have V:pre.length+1=(Q7 s.delta 0 s.bias).length:=by rw[J];simp
     rw[N0,b8,F9 (by rw[j6,v8,v8];omega)];simp only[vl,cond_true,A,I];rw[N0,N0,A9,j];simp only[cond_true,b8];have o:s.out.map E4++pre.map E4++[[SV.int .u8 (((Ba W).toNat:Nat):Int)]]=(s.out++Q7 s.delta 0 s.bias).map E4:=by
      rw[J,ac4,ac4,x4];rfl
     rw[o];exact v R d
    ·simp only[j6] at x;omega
    ·simp only at y;omega
    ·simp only at h;rw[R0];split at h<;>omega
   ·have g:(p==m)=false:=by rw[beq_eq_false_iff_ne];omega
    have u:I5 m a (p::c.drop (i+1)) s=I5 m a (c.drop (i+1)) s:=by rw[I5,if_neg G,if_neg L]
    obtain⟨v,w,x,y,h⟩:=H (i+1) n s (by omega) (by omega) (by omega) B (by omega) (by omega) C;rw[u,ad5 (by rw[g];simp)];refine⟨λR d=>?_,w,x,y,?_⟩
    ·rw[Bh];rw[b8];simp only[e,f,ok,cond_true,vl,F,A];rw[A6,cond_false,show((p:Int)!=(m:Int))=true by rw[bne_iff_ne];omega,cond_true];exact v R d
    ·split at h<;>split<;>omega
theorem Bi2{R:Type}{k0:Bool->Bool->LL->Int->Int->Int->Int->Int->Int->LL->Option R}(z t:Bool)(a:List Nat)(q:a.length<=256)(n0:Nat)(b delta c done:Int)(l:LL):∀(r i n m:Nat),i+r=a.length->r<n->
  Jz LF n z t (B7 a) done b (n0:Int) delta c (m:Int) (i:Int) l k0=k0 z t (B7 a) done b (n0:Int) delta c ((I3 n0 (a.drop i) m:Nat):Int) l:=by
 intro r
 induction r with
 | zero=>
  intro i n m k o;obtain⟨n,rfl⟩:∃m,n=m+1:=⟨n-1,by omega⟩
  rw[Jz];rw[D5,A6,j5 (by omega)];rfl
 | succ r f=>
  intro i n m k o;obtain⟨n,rfl⟩:∃m,n=m+1:=⟨n-1,by omega⟩
  have j:=CV a i (by omega);have ok:=Si (l:=a) (i:=i) (by omega);have d:inR (i:Int) (B7 a).length=true:=K7 (by omega) (by rw[D5];omega);have e:ltI (i:Int) ((B7 a).length:Int)=true:=B9 (by rw[D5];omega);rw[Jz,Xi a i (by omega)];generalize a.getD i 0=p at *;have g:A1 ((i:Int)+1)=((i+1:Nat):Int):=by rw[A7];rfl
  rw[b8];simp only[d,e,ok,cond_true,vl,j,g,I3];by_cases h:n0<=p
  ·rw[if_pos h,A6,j2,cond_true];have:(if (p:Int)<(m:Int) then (p:Int) else (m:Int))=((min m p:Nat):Int):=by split<;>omega
   rw[this];exact f (i+1) n (min m p) (by omega) (by omega)
  ·rw[if_neg h,A9,b9,cond_false];exact f (i+1) n m (by omega) (by omega)
theorem C07(z t:Bool)(a:List Nat)(b:Nat)(B:a.length<=256)(T:b<=256)(i:∀p∈a,p<=1114111):∀(f n d:Nat) (s:UI),s.done=a.countP (λp=>decide (p<n))->a.length<=s.done+f->f<d->s.delta<=300->s.bias<=500->s.out.length+20*(a.length-s.done)<=80000->n<=1114112->
  ∀(R:Type) (k0:LL->Option R),Gk LF d z t (B7 a) (s.done:Int) (b:Int) (n:Int) (s.delta:Int) (s.bias:Int) (s.out.map E4) k0=k0 ((T0 a b f n s).out.map E4):=by
 intro f;have S:=C5
 induction f with
 | zero=>
  intro n d s V X Y O y P Q R k0;obtain⟨d,rfl⟩:∃m,d=m+1:=⟨d-1,by omega⟩
  rw[Gk];rw[D5,A6];rfl
 | succ f Z=>
  intro n d s V X Y O y P Q R k0;obtain⟨d,rfl⟩:∃m,d=m+1:=⟨d-1,by omega⟩
  rw[Gk];rw[D5];have U:a.countP (λp=>decide (p<n))<=a.length:=ab0;by_cases o:s.done<a.length
  ·obtain⟨v,g,q⟩:=A71 (n:=n) (l:=a) (by omega);obtain⟨g1,g2,x⟩:=Fc n a 1114112;obtain⟨D,F,w⟩:=Fc n a 1073741824;have g4:=x v g q;have G:=w v g q;have g5:=i v g;have e:I3 n a 1114112∈a/\n<=I3 n a 1114112:=by grind
   have h:I3 n a 1073741824∈a/\n<=I3 n a 1073741824:=by grind
   have heq:I3 n a 1073741824=I3 n a 1114112:=by grind
   have W:T0 a b (f+1) n s=T0 a b f (I3 n a 1114112+1) { I5 (I3 n a 1114112) b a { s with delta:=s.delta+(I3 n a 1114112-n)*(s.done+1) } with delta:=(I5 (I3 n a 1114112) b a { s with delta:=s.delta+(I3 n a 1114112-n)*(s.done+1) }).delta+1 }:=by
    rw[T0,if_pos o]
   rw[W,A9,cond_true];have c:=λ(K:Bool->Bool->LL->Int->Int->Int->Int->Int->Int->LL->Option R)=>Bi2 (k0:=K) z t a B n (b:Int) (s.delta:Int) (s.bias:Int) (s.done:Int) (s.out.map E4) a.length 0 LF 1073741824 (by omega) (by omega)
   rw[o9,heq] at c;refine a8 (c _) ?_;clear c heq D F w G h;generalize I3 n a 1114112=m at *;have C:(m-n)*(s.done+1)<=1114112*256:=ah6 (by omega) (by omega);have H:A1 ((s.done:Int)+1)=((s.done+1:Nat):Int):=by rw[A7];rfl
   have I:A1 ((m:Int)-(n:Int))=((m-n:Nat):Int):=by rw[A7];omega
   have J:A1 (((m-n:Nat):Int)*((s.done+1:Nat):Int))=(((m-n)*(s.done+1):Nat):Int):=by
    rw[<-Int.natCast_mul];exact A7
   have L:A1 ((s.delta:Int)+(((m-n)*(s.done+1):Nat):Int))=((s.delta+(m-n)*(s.done+1):Nat):Int):=by
    rw[A7];rfl
   simp only[vl,H,I,J,L];have k:=Dm7 z t a b m (by omega) B a.length 0 LF { s with delta:=s.delta+(m-n)*(s.done+1) } (by omega) (by omega) (by simp only;omega) y (by simp only;omega) (by simp only;omega) T;rw[o9] at k;obtain⟨q1,q2,q3,q4,q5⟩:=k;refine a8 (q1 R _) ?_;have j:0<a.countP (· == m):=List.countP_pos_iff.2 ⟨m,e.1,by simp⟩;rw[if_pos j] at q5;have u:=Xb e.2 a x;generalize I5 m b a { s with delta:=s.delta+(m-n)*(s.done+1) } = r at *;simp only at q3 q4;have M:A1 ((r.delta:Int)+1)=((r.delta+1:Nat):Int):=by rw[A7];rfl
   have N:A1 ((m:Int)+1)=((m+1:Nat):Int):=by rw[A7];rfl
   have A:a.countP (λp=>decide (p<m+1))<=a.length:=ab0;simp only[M,N];exact Z (m+1) d { r with delta:=r.delta+1 } (by simp only;omega) (by simp only;omega) (by omega) (by simp only;omega) q2 (by simp only;omega) (by omega) R k0
  ·rw[A6];rw[T0,if_neg o];rfl
theorem Bh7(z t:Bool)(P:List Int)(C:P.length<=256):∀(r i n:Nat) (out:By),i+r=P.length->r<n->out.length+r<=1000->
  ((P.drop i).all ptI=true->∀(R:Type) (a:LL->Option R) (b:Bool->Bool->LL->LL->Option R),V9 LF n z t (Bk P) (i:Int) (out.map E4) a b=b z t (Bk P) ((out++X6 (P.drop i)).map E4))/\
  ((P.drop i).all ptI=false->∃l,∀(R:Type) (a:LL->Option R) (b:Bool->Bool->LL->LL->Option R),V9 LF n z t (Bk P) (i:Int) (out.map E4) a b=a l):=by
 intro r
 induction r with
 | zero=>
  intro i n out w y A;obtain⟨n,rfl⟩:∃m,n=m+1:=⟨n-1,by omega⟩
  rw[j5 (by omega)];refine⟨λ_ R a b=>?_,λh=>(by cases h)⟩;rw[V9];rw[W0,A6];simp[X6]
 | succ r v=>
  intro i n out w y A;obtain⟨n,rfl⟩:∃m,n=m+1:=⟨n-1,by omega⟩
  have o:=A90 P i (by omega);have ok:=Aa0 (l:=P) (i:=i) (by omega);have f:inR (i:Int) (Bk P).length=true:=K7 (by omega) (by rw[W0];omega);have g:ltI (i:Int) ((Bk P).length:Int)=true:=B9 (by rw[W0];omega);rw[Al0 P i (by omega)];generalize P.getD i 0=x at *;have u:A1 ((i:Int)+1)=((i+1:Nat):Int):=by rw[A7];rfl
  cases j:ptI x with
  | false=>
   refine⟨λh=>?_,λ_=>⟨out.map E4,λR a b=>?_⟩⟩
   ·rw[ab6,j] at h;cases h
   ·rw[V9];rw[b8];simp only[f,g,ok,cond_true,vl,o,j,j2]
  | true=>
   obtain⟨B,D⟩:=Vq j;rw[ab6,j,x6];by_cases c:x<128
   ·have d:X6 (x::P.drop (i+1))=x9 x.toNat::X6 (P.drop (i+1)):=by
     unfold X6;rw[List.filter_cons_of_pos (by simpa using c)];rfl
    have k:out.map E4++[[SV.int .u8 (wu8 x)]]=(out++[x9 x.toNat]).map E4:=by rw[C67 x B c];simp
    obtain⟨p,q⟩:=v (i+1) n (out++[x9 x.toNat]) (by omega) (by omega) (by simp;omega);have step:∀(R:Type) (a:LL->Option R) (b:Bool->Bool->LL->LL->Option R),V9 LF (n+1) z t (Bk P) (i:Int) (out.map E4) a b=V9 LF n z t (Bk P) ((i+1:Nat):Int) ((out++[x9 x.toNat]).map E4) a b:=by
     intro R a b;rw[V9];rw[b8];simp only[f,g,ok,cond_true,vl,o,j,b9,cond_false,u];rw[B9 c,v8,F9 (by omega),k];rfl
    refine⟨λh R a b=>?_,λh=>?_⟩
    ·rw[step,p h,d];simp
    ·obtain⟨l,e⟩:=q h;exact⟨l,λR a b=>by rw[step];exact e R a b⟩
   ·have d:X6 (x::P.drop (i+1))=X6 (P.drop (i+1)):=by
     unfold X6;rw[List.filter_cons_of_neg (by simpa using c)]
    obtain⟨p,q⟩:=v (i+1) n out (by omega) (by omega) (by omega);have step:∀(R:Type) (a:LL->Option R) (b:Bool->Bool->LL->LL->Option R),V9 LF (n+1) z t (Bk P) (i:Int) (out.map E4) a b=V9 LF n z t (Bk P) ((i+1:Nat):Int) (out.map E4) a b:=by
     intro R a b;rw[V9];rw[b8];simp only[f,g,ok,cond_true,vl,o,j,b9,cond_false,u];rw[A6];rfl
    refine⟨λh R a b=>?_,λh=>?_⟩
    ·rw[step,p h,d]
    ·obtain⟨l,e⟩:=q h;exact⟨l,λR a b=>by rw[step];exact e R a b⟩
theorem Bh8(z t:Bool)(P:List Int):(X8 P=([],3)/\∀(R:Type) (b:Unit->Option R) (f:By->Int->LL->Option R),Ar7 LF z t (Bk P) b f=b ())\/
  (∃l,∀(R:Type) (b:Unit->Option R) (f:By->Int->LL->Option R),Ar7 LF z t (Bk P) b f=f (X8 P).1 ((X8 P).2:Nat) l):=by
 have x:=C5;by_cases i:256<P.length
 ·refine .inl ⟨by unfold X8;rw[if_pos i],λR b f=>?_⟩;unfold Ar7;rw[W0,A9];rfl
 ·right
  obtain⟨v,w⟩:=Bh7 z t P (by omega) P.length 0 LF [] (by omega) (by omega) (by simp;omega);rw[o9] at v w;cases g:P.all ptI with
  | false=>
   obtain⟨l,e⟩:=w g;refine⟨l,λR b f=>?_⟩;unfold Ar7;rw[W0,A6,cond_false];refine a8 (e R _ _) ?_;unfold X8;rw[if_neg i,g];rfl
  | true=>
   obtain⟨a,rfl,A,m⟩:=B16 g;rw[v8] at i;have k:X8 (a.map λn:Nat=>(n:Int))=Dr a:=by
    unfold X8;rw[v8,if_neg i,g];simp[Function.comp_def]
   have j:=Ur a;have y:a.countP (λp=>decide (p<128))<=a.length:=ab0;have main:∀(o:By),o.length<=300->∀(R:Type) (b:LL->Option R),Gk LF LF z t (B7 a) ((J0 a).length:Int) ((J0 a).length:Int) 128 0 72 (o.map E4) b=b ((T0 a (J0 a).length 256 128 { delta:=0,bias:=72,done:=(J0 a).length,out:=o }).out.map E4):=by
    intro o B R b;exact C07 z t a (J0 a).length (by omega) (by omega) m 256 128 LF { delta:=0,bias:=72,done:=(J0 a).length,out:=o } j (by simp only;omega) (by omega) (by simp) (by simp) (by simp only;omega) (by omega) R b
   have d:Dr a=((T0 a (J0 a).length 256 128 { delta:=0,bias:=72,done:=(J0 a).length,out:=if (J0 a).isEmpty then [] else J0 a++[45] }).out,0):=by
    unfold Dr;grind
   refine⟨(Dr a).1.map E4,λR b f=>?_⟩;unfold Ar7;rw[W0,v8,A6,cond_false,k];have r:=v g R;refine a8 (r _ _) ?_;rw[y8,KO,Sf];simp only[vl,v8];by_cases c:J0 a=[]
   ·rw[c,p6,A6,cond_false];have q:=main [] (by simp) R;rw[c,p6] at q;rw[List.map_nil] at q;refine a8 (q _) ?_;rw[c] at d;rw[d];simp only[List.isEmpty_nil,if_true,p6];rw[Y4,Z3];rfl
   ·have u:0<(J0 a).length:=aa2.2 c;rw[A9,cond_true,F9 (by omega),cond_true];have h:(J0 a).map E4++[[SV.int .u8 (45:Int)]]=(J0 a++[45]).map E4:=by rw[ac4];rfl
    rw[h];refine a8 (main (J0 a++[45]) (by simp;omega) R _) ?_;rw[d,if_neg (by simpa using c)];rw[Y4,Z3];rfl
theorem Dm8(z t:Bool)(p:LL)(b:p.all Pc=true):∃r H,Ar7 LF z t p (λ_=>rv (.tup [.s (.str []),.s (.int .i64 3)]) []) (λd e l=>rv (.tup [.s (.str d),.s (.int .i64 e)]) [.arr true 5 1 l])=rv r H/\
  r.stab [0,0] H = .tup [.s (.str (X8 (p.map elI)).1),.s (.int .i64 ((X8 (p.map elI)).2:Nat))]:=by
 obtain⟨P,rfl⟩:=Bz2 b;rw[Al2];rcases Bh8 z t P with⟨c,a⟩|⟨l,a⟩
 ·exact⟨_,_,a _ _ _,by rw[c];rfl⟩
 ·exact⟨_,_,a _ _ _,rfl⟩
theorem Bm1{R:Type}{k0:Unit->Option R}{k1:By->Int->Option R}(s:By)(k:s.length<=1000000):∀(r i n cut:Nat),i+r=s.length->r<n->
  Fe LF n s (cut:Int) (i:Int) k0 k1=if (s.drop i).any (λb=>w8 128 b.toNat) then k0 () else k1 s ((if 45∈s.drop i then i+H5 (s.drop i) else cut:Nat):Int):=by
 intro r
 induction r with
 | zero=>
  intro i n cut g j;obtain⟨n,rfl⟩:∃m,n=m+1:=⟨n-1,by omega⟩
  rw[Fe];rw[A6,j5 (by omega)];rfl
 | succ r d=>
  intro i n cut g j;obtain⟨n,rfl⟩:∃m,n=m+1:=⟨n-1,by omega⟩
  rw[Fe];have e:A1 ((i:Int)+1)=((i+1:Nat):Int):=by rw[A7];rfl
  rw[A9,F2,D4,D6 s i (by omega),e,ab7];simp only[cond_true];generalize s.getD i 0=b;by_cases h:128<=b.toNat
  ·rw[A6,ab1 h];rfl
  ·have:w8 128 b.toNat=false:=by rw[o8,ne_eq,p4];exact h
   rw[A9,this,ad3,b9,cond_false];have f:((b.toNat:Int)==45)=(b==45):=S6 b 45 (by omega);rw[f];by_cases a:b=45
   ·subst a;rw[show((45:UInt8)==45)=true from rfl,cond_true];refine(d (i+1) n i (by omega) (by omega)).trans ?_;have c:(45:UInt8)∈45::s.drop (i+1):=by simp
    rw[if_pos c];have:(if (45:UInt8)∈s.drop (i+1) then i+1+H5 (s.drop (i+1)) else i)=i+H5 (45::s.drop (i+1)):=by
     rw[H5];grind
    rw[this]
   ·rw[show(b==45)=false from beq_eq_false_iff_ne.2 a,cond_false];refine(d (i+1) n cut (by omega) (by omega)).trans ?_;have c:((45:UInt8)∈b::s.drop (i+1))↔((45:UInt8)∈s.drop (i+1)):=by simp[ah2 a]
    have:(if (45:UInt8)∈s.drop (i+1) then i+1+H5 (s.drop (i+1)) else cut)=(if (45:UInt8)∈b::s.drop (i+1) then i+H5 (b::s.drop (i+1)) else cut):=by
     by_cases q:(45:UInt8)∈s.drop (i+1)
     ·rw[if_pos q,if_pos (c.2 q),H5,if_pos q];omega
     grind
    rw[this]
theorem Bl6{R:Type}{k0:By->Int->LL->Option R}(s:By)(q:s.length<=1000000)(k:Nat)(p:k<=s.length):∀(r i n:Nat) (l:List Nat),i+r=k->r<n->l.length=i->
  Ir LF n s (k:Int) (i:Int) (B7 l) k0=k0 s (k:Int) (B7 (l++((s.take k).drop i).map (·.toNat))):=by
 intro r
 induction r with
 | zero=>
  intro i n l f h g;obtain⟨n,rfl⟩:∃m,n=m+1:=⟨n-1,by omega⟩
  rw[Ir];rw[A6,j5 (by rw[o7];omega)];simp
 | succ r j=>
  intro i n l f h g;obtain⟨n,rfl⟩:∃m,n=m+1:=⟨n-1,by omega⟩
  rw[Ir];have c:A1 ((i:Int)+1)=((i+1:Nat):Int):=by rw[A7];rfl
  have e:(s.take k).drop i=s.getD i 0::(s.take k).drop (i+1):=by
   rw[D6 (s.take k) i (by rw[o7];omega)]
   congr 1
   rw[o5,o5,List.getElem?_take_of_lt (by omega)]
  rw[A9,F2,D4,e,D5,F9 (by omega),c];simp only[cond_true];generalize s.getD i 0=b;have o:=b.toNat_lt;have d:A1 (b.toNat:Int)=(b.toNat:Int):=A7;have a:B7 l++[[SV.int .i64 (A1 (b.toNat:Int))]]=B7 (l++[b.toNat]):=by rw[d,Lr];rfl
  rw[a];refine(j (i+1) n _ (by omega) (by omega) (by simp;omega)).trans ?_;simp
theorem Bl9(s:By)(hs:s.length<=1000000)(out:LL)(f b e:Int)(l:LL)(P:0<=b)(Q:b<1000000):∀(r p n k:Nat) (i w:Int),p+r=s.length->r<n->0<=i->i<=1099511627776->0<=w->w<=1099511627776->k+r<=10000000->
  ((V0 b (s.drop p) i w ((36*k:Nat):Int)).1=0->∃o,p<o/\o<=s.length/\(V0 b (s.drop p) i w ((36*k:Nat):Int)).2.1=s.drop o/\∀(R:Type) (a:Int->LL->Option R) (d:By->LL->Int->Int->Int->Int->LL->Option R),W6 LF n s out (p:Int) f i b e w (k:Int) l a d=d s out (o:Int) f (V0 b (s.drop p) i w ((36*k:Nat):Int)).2.2 e l)/\
  ((V0 b (s.drop p) i w ((36*k:Nat):Int)).1≠0->∀(R:Type) (a:Int->LL->Option R) (d:By->LL->Int->Int->Int->Int->LL->Option R),W6 LF n s out (p:Int) f i b e w (k:Int) l a d=a (V0 b (s.drop p) i w ((36*k:Nat):Int)).1 l):=by
 intro r
 induction r with
 | zero=>
  intro p n k i w X W U D G g V;obtain⟨n,rfl⟩:∃m,n=m+1:=⟨n-1,by omega⟩
  rw[j5 (by omega)];refine⟨λh=>by simp[V0] at h,λ_ R a d=>?_⟩;rw[W6];rw[A6];rfl
 | succ r Z=>
  intro p n k i w X W U D G g V;obtain⟨n,rfl⟩:∃m,n=m+1:=⟨n-1,by omega⟩
  have S:=D6 s p (by omega);have C:=D4 s p;rw[S];generalize s.getD p 0=c at *;have Y:=Gu c;have ht:=Om ((36*k:Nat):Int) b;have e0:ad0 36 (k:Int)=((36*k:Nat):Int):=rfl;have J:A1 ((p:Int)+1)=((p+1:Nat):Int):=by rw[A7];rfl
  have K:A1 ((k:Int)+1)=((k+1:Nat):Int):=by rw[A7];rfl
  have start:∀(R:Type) (a:Int->LL->Option R) (d:By->LL->Int->Int->Int->Int->LL->Option R),W6 LF (n+1) s out (p:Int) f i b e w (k:Int) l a d =
    cond (ltI (E5 c) 0) (a 4 l)
     (vl (A1 (i+(A1 (E5 c*w)))) λj=>cond (ltI 1099511627776 j) (a 19 l)
      (cond (ltI (E5 c) (M0 ((36*k:Nat):Int) b)) (d s out ((p+1:Nat):Int) f j e l)
       (vl (A1 (36-(M0 ((36*k:Nat):Int) b))) λq=>cond (ltI 1099511627776 (A1 (w*q))) (a 19 l) (W6 LF n s out ((p+1:Nat):Int) f j b e (A1 (w*q)) ((k+1:Nat):Int) l a d)))):=by
   intro R a d;rw[W6];have T:=c.toNat_lt;rw[A9,F2,C,F2,Kf,N0,N0,e0,J,K];rfl
  unfold V0;by_cases y:E5 c<0
  ·rw[if_pos y];refine⟨λh=>by simp at h,λ_ R a d=>?_⟩;rw[start,B9 y];rfl
  ·rw[if_neg y];have hm:=Eb (by omega) Y.2 G g;have u:A1 (E5 c*w)=E5 c*w:=A7;have v:A1 (i+E5 c*w)=i+E5 c*w:=A7;by_cases z:1099511627776<i+E5 c*w
   ·rw[if_pos z];refine⟨λh=>by simp at h,λ_ R a d=>?_⟩;rw[start,A6,u,v];simp only[vl,cond_false];rw[B9 z];rfl
   ·rw[if_neg z];by_cases A:E5 c<M0 ((36*k:Nat):Int) b
    ·rw[if_pos A];refine⟨λ_=>⟨p+1,by omega,by omega,rfl,λR a d=>?_⟩,λh=>absurd rfl h⟩;rw[start,A6,u,v];simp only[vl,cond_false];rw[A6,B9 A];rfl
    ·rw[if_neg A];have H:A1 (36-M0 ((36*k:Nat):Int) b)=36-M0 ((36*k:Nat):Int) b:=A7;have F:=Eb (x:=36-M0 ((36*k:Nat):Int) b) (by omega) (by omega) G g;rw[ai7] at F;have I:A1 (w*(36-M0 ((36*k:Nat):Int) b))=w*(36-M0 ((36*k:Nat):Int) b):=A7;by_cases B:1099511627776<w*(36-M0 ((36*k:Nat):Int) b)
     ·rw[if_pos B];refine⟨λh=>by simp at h,λ_ R a d=>?_⟩;rw[start,A6,u,v];simp only[vl,cond_false];rw[A6,A6,H,I,B9 B];rfl
     ·rw[if_neg B];have L:((36*k:Nat):Int)+36=((36*(k+1):Nat):Int):=by omega
      rw[L];obtain⟨q1,q2⟩:=Z (p+1) n (k+1) (i+E5 c*w) (w*(36-M0 ((36*k:Nat):Int) b)) (by omega) (by omega) (by omega) (by omega) (by omega) (by omega) (by omega);have t:∀(R:Type) (a:Int->LL->Option R) (d:By->LL->Int->Int->Int->Int->LL->Option R),W6 LF (n+1) s out (p:Int) f i b e w (k:Int) l a d=W6 LF n s out ((p+1:Nat):Int) f (i+E5 c*w) b e (w*(36-M0 ((36*k:Nat):Int) b)) ((k+1:Nat):Int) l a d:=by simp_all
      refine⟨λh=>?_,λh R a d=>by rw[t];exact q2 h R a d⟩;obtain⟨o,g1,M,N,O⟩:=q1 h;exact⟨o,by omega,M,N,λR a d=>by rw[t];exact O R a d⟩
theorem Bm0(s:By)(Z:s.length<=1000000)(l:LL):∀(r p n k:Nat) (i w:Int),p+r=s.length->r<n->0<=i->i<=1099511627776->0<=w->w<=1099511627776->k+r<=10000000->
  ((V0 72 (s.drop p) i w ((36*k:Nat):Int)).1=0->∃f,p<f/\f<=s.length/\(V0 72 (s.drop p) i w ((36*k:Nat):Int)).2.1=s.drop f/\∀(R:Type) (a:Int->LL->Option R) (b:By->Int->Int->LL->Option R),W7 LF n s (p:Int) i w (k:Int) l a b=b s (f:Int) (V0 72 (s.drop p) i w ((36*k:Nat):Int)).2.2 l)/\
  ((V0 72 (s.drop p) i w ((36*k:Nat):Int)).1≠0->∀(R:Type) (a:Int->LL->Option R) (b:By->Int->Int->LL->Option R),W7 LF n s (p:Int) i w (k:Int) l a b=a (V0 72 (s.drop p) i w ((36*k:Nat):Int)).1 l):=by
 intro r
 induction r with
 | zero=>
  intro p n k i w S Q O A C d P;obtain⟨n,rfl⟩:∃m,n=m+1:=⟨n-1,by omega⟩
  rw[j5 (by omega)];refine⟨λh=>by simp[V0] at h,λ_ R a b=>?_⟩;rw[W7];rw[A6];rfl
 | succ r U=>
  intro p n k i w S Q O A C d P;obtain⟨n,rfl⟩:∃m,n=m+1:=⟨n-1,by omega⟩
  have M:=D6 s p (by omega);have z:=D4 s p;rw[M];generalize s.getD p 0=c at *;have T:=Gu c;have ht:=Om ((36*k:Nat):Int) 72;have e0:ad0 36 (k:Int)=((36*k:Nat):Int):=rfl;have G:A1 ((p:Int)+1)=((p+1:Nat):Int):=by rw[A7];rfl
  have H:A1 ((k:Int)+1)=((k+1:Nat):Int):=by rw[A7];rfl
  have start:∀(R:Type) (a:Int->LL->Option R) (b:By->Int->Int->LL->Option R),W7 LF (n+1) s (p:Int) i w (k:Int) l a b =
    cond (ltI (E5 c) 0) (a 4 l)
     (vl (A1 (i+(A1 (E5 c*w)))) λe=>cond (ltI 1099511627776 e) (a 19 l)
      (cond (ltI (E5 c) (M0 ((36*k:Nat):Int) 72)) (b s ((p+1:Nat):Int) e l)
       (vl (A1 (36-(M0 ((36*k:Nat):Int) 72))) λg=>cond (ltI 1099511627776 (A1 (w*g))) (a 19 l) (W7 LF n s ((p+1:Nat):Int) e (A1 (w*g)) ((k+1:Nat):Int) l a b)))):=by
   intro R a b;rw[W7];have N:=c.toNat_lt;rw[A9,F2,z,F2,Kf,N0,N0,e0,G,H];rfl
  unfold V0;by_cases t:E5 c<0
  ·rw[if_pos t];refine⟨λh=>by simp at h,λ_ R a b=>?_⟩;rw[start,B9 t];rfl
  ·rw[if_neg t];have Y:=Eb (by omega) T.2 C d;have o:A1 (E5 c*w)=E5 c*w:=A7;have q:A1 (i+E5 c*w)=i+E5 c*w:=A7;by_cases u:1099511627776<i+E5 c*w
   ·rw[if_pos u];refine⟨λh=>by simp at h,λ_ R a b=>?_⟩;rw[start,A6,o,q];simp only[vl,cond_false];rw[B9 u];rfl
   ·rw[if_neg u];by_cases v:E5 c<M0 ((36*k:Nat):Int) 72
    ·rw[if_pos v];refine⟨λ_=>⟨p+1,by omega,by omega,rfl,λR a b=>?_⟩,λh=>absurd rfl h⟩;rw[start,A6,o,q];simp only[vl,cond_false];rw[A6,B9 v];rfl
    ·rw[if_neg v];have D:A1 (36-M0 ((36*k:Nat):Int) 72)=36-M0 ((36*k:Nat):Int) 72:=A7;have B:=Eb (x:=36-M0 ((36*k:Nat):Int) 72) (by omega) (by omega) C d;rw[ai7] at B;have F:A1 (w*(36-M0 ((36*k:Nat):Int) 72))=w*(36-M0 ((36*k:Nat):Int) 72):=A7;by_cases y:1099511627776<w*(36-M0 ((36*k:Nat):Int) 72)
     ·rw[if_pos y];refine⟨λh=>by simp at h,λ_ R a b=>?_⟩;rw[start,A6,o,q];simp only[vl,cond_false];rw[A6,A6,D,F,B9 y];rfl
     ·rw[if_neg y];have I:((36*k:Nat):Int)+36=((36*(k+1):Nat):Int):=by omega
      rw[I];obtain⟨V,W⟩:=U (p+1) n (k+1) (i+E5 c*w) (w*(36-M0 ((36*k:Nat):Int) 72)) (by omega) (by omega) (by omega) (by omega) (by omega) (by omega) (by omega);have j:∀(R:Type) (a:Int->LL->Option R) (b:By->Int->Int->LL->Option R),W7 LF (n+1) s (p:Int) i w (k:Int) l a b=W7 LF n s ((p+1:Nat):Int) (i+E5 c*w) (w*(36-M0 ((36*k:Nat):Int) 72)) ((k+1:Nat):Int) l a b:=by simp_all
      refine⟨λh=>?_,λh R a b=>by rw[j];exact W h R a b⟩;obtain⟨f,X,J,K,L⟩:=V h;exact⟨f,by omega,J,K,λR a b=>by rw[j];exact L R a b⟩
theorem SW(l:List Nat)(k:Nat):(B7 l).take k=B7 (l.take k):=by unfold B7;rw[List.map_take]
theorem SU(l:List Nat)(k:Nat):(B7 l).drop k=B7 (l.drop k):=by unfold B7;rw[List.map_drop]
theorem Bl8(s:By)(hs:s.length<=1000000)(l:LL):∀(r p f:Nat) (a:List Nat) (n i b:Nat),p+r=s.length->r<f->a.length<=256->n<=1114111->i<=1000->b<=500->
  ((I2 (s.drop p) a n i b false).2=0->∀(R:Type) (c:Int->LL->Option R) (d e:LL->LL->Option R),Q4 LF f s (B7 a) (p:Int) (n:Int) (i:Int) (b:Int) l c d e=e (B7 (I2 (s.drop p) a n i b false).1) l)/\
  ((I2 (s.drop p) a n i b false).2≠0->(I2 (s.drop p) a n i b false).1=[]/\((∀(R:Type) (c:Int->LL->Option R) (d e:LL->LL->Option R),Q4 LF f s (B7 a) (p:Int) (n:Int) (i:Int) (b:Int) l c d e=c ((I2 (s.drop p) a n i b false).2:Nat) l)\/
   ((I2 (s.drop p) a n i b false).2=3/\∃D,∀(R:Type) (c:Int->LL->Option R) (d e:LL->LL->Option R),Q4 LF f s (B7 a) (p:Int) (n:Int) (i:Int) (b:Int) l c d e=d l D))):=by
 have a0:=C5;intro r
 induction r using ae6 with
 | _ r ih=>
  intro p f a n i b hp hf h2 h3 h4 h5;obtain⟨f,rfl⟩:∃m,f=m+1:=⟨f-1,by omega⟩
  by_cases hr:r=0
  ·rw[j5 (by omega),Dp];refine⟨λ_ R c d e=>?_,λh=>absurd rfl h⟩;rw[Q4];rw[A6];rfl
  ·have q:s.drop p≠[]:=λh=>by
    have:=congrArg j4 h;rw[j9] at this;simp at this;omega
   obtain⟨z,H⟩:=Bl9 s hs (B7 a) (n:Int) (b:Int) (i:Int) l (by omega) (by omega) r p LF 0 (i:Int) 1 hp (by omega) (by omega) (by omega) (by omega) (by omega) (by omega);obtain⟨F,G⟩:=Xh b (s.drop p) i 1 0;have y:V0 (b:Int) (s.drop p) (i:Int) 1 ((36*0:Nat):Int)=V0 (b:Int) (s.drop p) (i:Int) ((1:Nat):Int) ((36*0:Nat):Int):=rfl;rw[y] at z H;by_cases o:(D9 b (s.drop p) i 1 0).2.2=0
   ·rw[Ex q a n i b false o];have T:=G o;have K:(V0 (b:Int) (s.drop p) (i:Int) ((1:Nat):Int) ((36*0:Nat):Int)).1=0:=by rw[F,o];rfl
    obtain⟨v,a1,a2,w,x⟩:=z K;obtain⟨L,O,_⟩:=Xg (b:Int) (s.drop p) (i:Int) ((1:Nat):Int) ((36*0:Nat):Int) (by omega) (by omega) (by omega) K;rw[T] at L O w x;simp only at L O w x;rw[w];generalize (D9 b (s.drop p) i 1 0).1=X at *;have el:A1 (((B7 a).length:Int)+1)=((a.length+1:Nat):Int):=by rw[D5,A7];rfl
    have U:A1 ((X:Int)-(i:Int))=((X-i:Nat):Int):=by rw[A7];omega
    have Z:x5 (X:Int) ((a.length+1:Nat):Int)=((X / (a.length+1):Nat):Int):=N4 _ _;have em:w9 (X:Int) ((a.length+1:Nat):Int)=((X % (a.length+1):Nat):Int):=Cx _ _;have a5:X / (a.length+1)<=X:=aa3 _ _;have J:=ah5 X (show 0<a.length+1 by omega);have A:=Pu (X-i) (a.length+1) false (by omega);generalize hQ:X / (a.length+1)=Q at *;generalize hM:X % (a.length+1)=M at *;have V:A1 (Q:Int)=(Q:Int):=A7;have W:A1 ((n:Int)+(Q:Int))=((n+Q:Nat):Int):=by rw[A7];rfl
    have Y:A1 ((M:Int)+1)=((M+1:Nat):Int):=by rw[A7];rfl
    have C:(((a.length+1:Nat):Int)!=0)=true:=by rw[bne_iff_ne];omega
    have P:cut (B7 a) 0 (M:Int)=B7 (a.take M):=by rw[L2,b8,SW]
    have S:cut (B7 a) (M:Int) ((B7 a).length:Int)=B7 (a.drop M):=by rw[Q6,b8,SU]
    have t:∀N:Nat,B7 (a.take M)++[[SV.int .i64 (N:Int)]]++B7 (a.drop M)=B7 (W3 a M N):=λN=>by
     unfold W3;rw[Lr,x4];rfl
    have start:∀(R:Type) (c:Int->LL->Option R) (d e:LL->LL->Option R),Q4 LF (f+1) s (B7 a) (p:Int) (n:Int) (i:Int) (b:Int) l c d e =
      cond (not (W4 (n+Q))) (c 2 l) (cond (ltI 256 ((a.length+1:Nat):Int)) (d l (B7 (W3 a M (n+Q))))
       (Q4 LF f s (B7 (W3 a M (n+Q))) (v:Int) ((n+Q:Nat):Int) ((M+1:Nat):Int) ((R5 (X-i) (a.length+1) false:Nat):Int) l c d e)):=by
     intro R c d e;rw[Q4];rw[A9,cond_true];refine(x R _ _).trans ?_;have s1:I9 (0:Int) (M:Int) (B7 a).length=true:=Aw (by omega) (by omega) (by rw[D5];omega);have s2:I9 (M:Int) ((B7 a).length:Int) (B7 a).length=true:=Aw (by omega) (by rw[D5];omega) (by omega);have t1:ltN ((X-i:Nat):Int) 1152921504606846976=true:=N0;have t2:ltN ((a.length+1:Nat):Int) 1000000=true:=N0;have t3:ltI 0 ((a.length+1:Nat):Int)=true:=A9;have l1:(B7 (a.take M)).length=M:=by rw[D5,o7];omega
     have l2:(B7 (a.drop M)).length=a.length-M:=by rw[D5,j9]
     have r1:G2 (0+(B7 (a.take M)).length)=true:=F9 (by omega);have r2:G2 ((B7 (a.take M)).length+1)=true:=F9 (by omega);have r3:G2 ((B7 (a.take M)++[[SV.int .i64 ((n+Q:Nat):Int)]]).length+(B7 (a.drop M)).length)=true:=F9 (by rw[j6,x3];omega);have l3:(B7 (W3 a M (n+Q))).length=a.length+1:=by rw[D5,Bu]
     simp only[vl,el,U,Z,em,V,W,Y,C,s1,s2,t1,t2,t3,P,S,r1,r2,r3,t,l3,cond_true,b8,Nt]
    cases g:W4 (n+Q) with
    | false=>
     rw[if_neg (by simp)];refine⟨λh=>by simp at h,λ_=>⟨rfl,.inl λR c d e=>?_⟩⟩;rw[start,g];rfl
    | true=>
     rw[if_pos rfl];by_cases I:256<a.length+1
     ·rw[if_pos I];refine⟨λh=>by simp at h,λ_=>⟨rfl,.inr ⟨rfl,B7 (W3 a M (n+Q)),λR c d e=>?_⟩⟩⟩;rw[start,g,A9];rfl
     ·rw[if_neg I];have B:n+Q<=1114111:=by
       unfold W4 at g;simp only[o6,p4] at g;exact g.1
      have k:∀(R:Type) (c:Int->LL->Option R) (d e:LL->LL->Option R),Q4 LF (f+1) s (B7 a) (p:Int) (n:Int) (i:Int) (b:Int) l c d e=Q4 LF f s (B7 (W3 a M (n+Q))) (v:Int) ((n+Q:Nat):Int) ((M+1:Nat):Int) ((R5 (X-i) (a.length+1) false:Nat):Int) l c d e:=by
       intro R c d e;rw[start,g,A6];rfl
      obtain⟨z1,z2⟩:=ih (s.length-v) (by omega) v f (W3 a M (n+Q)) (n+Q) (M+1) (R5 (X-i) (a.length+1) false) (by omega) (by omega) (by rw[Bu];omega) B (by omega) A;refine⟨λh R c d e=>by rw[k];exact z1 h R c d e,λh=>?_⟩;obtain⟨y1,u⟩:=z2 h;refine⟨y1,?_⟩;rcases u with u|⟨u,D,y3⟩
      ·exact .inl λR c d e=>by rw[k];exact u R c d e
      ·exact .inr ⟨u,D,λR c d e=>by rw[k];exact y3 R c d e⟩
   ·rw[Hy q a n i b false o];clear z G;refine⟨λh=>absurd h o,λ_=>⟨rfl,.inl λR c d e=>?_⟩⟩;rw[Q4];rw[A9,cond_true];have j:=congrArg Prod.fst F;simp only at j;refine(H (by rw[j];omega) R _ _).trans ?_;rw[j]
theorem B62:∀(r:Nat) (s:By) (a:List Nat) (n i b:Nat) (f:Bool),s.length<=r->0<a.length->(I2 s a n i b f).2=0->(I2 s a n i b f).1≠[]:=by
 intro r
 induction r with
 | zero=>
  intro s a n i b f d l h;obtain rfl:=aa6.1 (Nat.le_zero.1 d);rw[Dp];grind
 | succ r m=>
  intro s a n i b f d l h;by_cases e:s=[]
  ·grind
  ·by_cases c:(D9 b s i 1 0).2.2=0
   ·rw[Ex e a n i b f c] at h ⊢;split at h
    ·rename_i g;rw[if_pos g];split at h
     ·omega
     ·rename_i j;rw[if_neg j];have k:=Rz b s i 1 0 c;exact m _ _ _ _ _ _ (by omega) (by rw[Bu];omega) h
    omega
   ·rw[Hy e a n i b f c] at h;omega
theorem Bl7(s:By)(K:s.length<=1000000)(p:Nat)(a:List Nat)(h2:a.length<=256)(hp:p<=s.length) :
  (s.drop p=[]/\∀(R:Type) (b:Int->LL->Option R) (c d:LL->LL->Option R) (g:LL->Option R),L5 LF LF s (p:Int) (B7 a) b c d g=g (B7 a))\/
  ((I2 (s.drop p) a 128 0 72 true).2=0/\(I2 (s.drop p) a 128 0 72 true).1≠[]/\∀(R:Type) (b:Int->LL->Option R) (c d:LL->LL->Option R) (g:LL->Option R),L5 LF LF s (p:Int) (B7 a) b c d g=d (B7 (I2 (s.drop p) a 128 0 72 true).1) (B7 a))\/
  ((I2 (s.drop p) a 128 0 72 true).1=[]/\((∀(R:Type) (b:Int->LL->Option R) (c d:LL->LL->Option R) (g:LL->Option R),L5 LF LF s (p:Int) (B7 a) b c d g=b ((I2 (s.drop p) a 128 0 72 true).2:Nat) (B7 a))\/
   ((I2 (s.drop p) a 128 0 72 true).2=3/\∃F,∀(R:Type) (b:Int->LL->Option R) (c d:LL->LL->Option R) (g:LL->Option R),L5 LF LF s (p:Int) (B7 a) b c d g=c (B7 a) F))):=by
 have a0:=C5;obtain⟨f,B⟩:∃m,LF=m+1:=⟨LF-1,by omega⟩
 by_cases hr:s.length<=p
 ·refine .inl ⟨j5 hr,λR b c d g=>?_⟩;have e:L5 LF LF s (p:Int) (B7 a) b c d g=L5 LF (f+1) s (p:Int) (B7 a) b c d g:=by rw[<-B]
  rw[e,L5];rw[A6];rfl
 ·right
  have o:s.drop p≠[]:=λh=>by
   have:=congrArg j4 h;grind
  obtain⟨u,y⟩:=Bm0 s K (B7 a) (s.length-p) p LF 0 0 1 (by omega) (by omega) (by omega) (by omega) (by omega) (by omega) (by omega);obtain⟨G,x⟩:=Xh 72 (s.drop p) 0 1 0;have n:V0 72 (s.drop p) 0 1 ((36*0:Nat):Int)=V0 ((72:Nat):Int) (s.drop p) ((0:Nat):Int) ((1:Nat):Int) ((36*0:Nat):Int):=rfl;rw[n] at u y;by_cases A:(D9 72 (s.drop p) 0 1 0).2.2=0
  ·rw[Ex o a 128 0 72 true A];have H:=x A;have k:(V0 ((72:Nat):Int) (s.drop p) ((0:Nat):Int) ((1:Nat):Int) ((36*0:Nat):Int)).1=0:=by grind
   obtain⟨r,a1,a2,v,w⟩:=u k;obtain⟨L,O,_⟩:=Xg ((72:Nat):Int) (s.drop p) ((0:Nat):Int) ((1:Nat):Int) ((36*0:Nat):Int) (by omega) (by omega) (by omega) k;rw[H] at L O v w;simp only at L O v w;clear u y G x H k n;rw[v];generalize (D9 72 (s.drop p) 0 1 0).1=X at *;have Z:A1 (((B7 a).length:Int)+1)=((a.length+1:Nat):Int):=by rw[D5,A7];rfl
   have T:A1 ((X:Int)-0)=(X:Int):=by rw[A7];omega
   have Y:x5 (X:Int) ((a.length+1:Nat):Int)=((X / (a.length+1):Nat):Int):=N4 _ _;have em:w9 (X:Int) ((a.length+1:Nat):Int)=((X % (a.length+1):Nat):Int):=Cx _ _;have a5:X / (a.length+1)<=X:=aa3 _ _;have J:=ah5 X (show 0<a.length+1 by omega);have z:=Pu X (a.length+1) true (by omega);generalize hQ:X / (a.length+1)=Q at *;generalize hM:X % (a.length+1)=M at *;have U:A1 (Q:Int)=(Q:Int):=A7;have V:A1 ((128:Int)+(Q:Int))=((128+Q:Nat):Int):=by rw[A7];rfl
   have W:A1 ((M:Int)+1)=((M+1:Nat):Int):=by rw[A7];rfl
   have D:(((a.length+1:Nat):Int)!=0)=true:=by rw[bne_iff_ne];omega
   have P:ab3 (M-0) (ac7 0 (B7 a))=B7 (a.take M):=by rw[aj0,o9,SW]
   have S:ab3 ((B7 a).length-M) (ac7 M (B7 a))=B7 (a.drop M):=by
    rw[List.take_of_length_le (by rw[j9];omega),SU]
   have q:∀N:Nat,B7 (a.take M)++[[SV.int .i64 (N:Int)]]++B7 (a.drop M)=B7 (W3 a M N):=λN=>by
    unfold W3;rw[Lr,x4];rfl
   have start:∀(R:Type) (b:Int->LL->Option R) (c d:LL->LL->Option R) (g:LL->Option R),L5 LF LF s (p:Int) (B7 a) b c d g =
     cond (not (W4 (128+Q))) (b 2 (B7 a)) (cond (ltI 256 ((a.length+1:Nat):Int)) (c (B7 a) (B7 (W3 a M (128+Q))))
      (Q4 LF f s (B7 (W3 a M (128+Q))) (r:Int) ((128+Q:Nat):Int) ((M+1:Nat):Int) ((R5 X (a.length+1) true:Nat):Int) (B7 a) b c d)):=by
    intro R b c d g;have e:L5 LF LF s (p:Int) (B7 a) b c d g=L5 LF (f+1) s (p:Int) (B7 a) b c d g:=by rw[<-B]
    rw[e,L5];rw[A9,cond_true];refine(w R _ _).trans ?_;have s1:I9 (0:Int) (M:Int) (B7 a).length=true:=Aw (by omega) (by omega) (by rw[D5];omega);have s2:I9 (M:Int) ((B7 a).length:Int) (B7 a).length=true:=Aw (by omega) (by rw[D5];omega) (by omega);have t1:ltN (X:Int) 1152921504606846976=true:=N0;have t2:ltN ((a.length+1:Nat):Int) 1000000=true:=N0;have t3:ltI 0 ((a.length+1:Nat):Int)=true:=A9;have l1:(B7 (a.take M)).length=M:=by rw[D5,o7];omega
    have l2:(B7 (a.drop M)).length=a.length-M:=by rw[D5,j9]
    have r1:G2 (0+(B7 (a.take M)).length)=true:=F9 (by omega);have r2:G2 ((B7 (a.take M)).length+1)=true:=F9 (by omega);have r3:G2 ((B7 (a.take M)++[[SV.int .i64 ((128+Q:Nat):Int)]]).length+(B7 (a.drop M)).length)=true:=F9 (by rw[j6,x3];omega);have l3:(B7 (W3 a M (128+Q))).length=a.length+1:=by rw[D5,Bu]
    simp only[vl,Z,T,Y,em,U,V,W,D,s1,s2,t1,t2,t3,b8,P,S,r1,r2,r3,q,l3,cond_true,Nt]
   cases j:W4 (128+Q) with
   | false=>
    rw[if_neg (by simp)];refine .inr ⟨rfl,.inl λR b c d g=>?_⟩;rw[start,j];rfl
   | true=>
    rw[if_pos rfl];by_cases I:256<a.length+1
    ·rw[if_pos I];refine .inr ⟨rfl,.inr ⟨rfl,B7 (W3 a M (128+Q)),λR b c d g=>?_⟩⟩;rw[start,j,A9];rfl
    ·rw[if_neg I];have C:128+Q<=1114111:=by
      unfold W4 at j;simp_all
     have l:∀(R:Type) (b:Int->LL->Option R) (c d:LL->LL->Option R) (g:LL->Option R),L5 LF LF s (p:Int) (B7 a) b c d g=Q4 LF f s (B7 (W3 a M (128+Q))) (r:Int) ((128+Q:Nat):Int) ((M+1:Nat):Int) ((R5 X (a.length+1) true:Nat):Int) (B7 a) b c d:=by
      intro R b c d g;rw[start,j,A6];rfl
     obtain⟨z1,z2⟩:=Bl8 s K (B7 a) (s.length-r) r f (W3 a M (128+Q)) (128+Q) (M+1) (R5 X (a.length+1) true) (by omega) (by omega) (by rw[Bu];omega) C (by omega) z;have hX:X-0=X:=aj0 X;rw[hX];by_cases k:(I2 (s.drop r) (W3 a M (128+Q)) (128+Q) (M+1) (R5 X (a.length+1) true) false).2=0
     ·refine .inl ⟨k,?_,λR b c d g=>by rw[l];exact z1 k R b c d⟩;exact B62 _ _ _ _ _ _ _ (x7 _) (by rw[Bu];omega) k
     ·obtain⟨y1,t⟩:=z2 k;refine .inr ⟨y1,?_⟩;rcases t with t|⟨t,F,y3⟩
      ·exact .inl λR b c d g=>by rw[l];exact t R b c d
      ·exact .inr ⟨t,F,λR b c d g=>by rw[l];exact y3 R b c d⟩
  ·rw[Hy o a 128 0 72 true A];clear u x;refine .inr ⟨rfl,.inl λR b c d g=>?_⟩;have e:L5 LF LF s (p:Int) (B7 a) b c d g=L5 LF (f+1) s (p:Int) (B7 a) b c d g:=by rw[<-B]
   rw[e,L5];rw[A9,cond_true];have i:=congrArg Prod.fst G;simp only at i;refine(y (by rw[i];omega) R _ _).trans ?_;rw[i]
theorem C27(s:By)(M:A3 s.length=true):∃r H,B25 LF s (λi f=>rv (.tup [.fl 0,.s (.int .i64 i)]) [.arr true 3 1 f]) (λi f=>rv (.tup [.fl 1,.s (.int .i64 i)]) [.arr true 3 1 f,.arr true 3 1 []]) (λx f=>rv (.tup [.fl 2,.s (.int .i64 (3:Int))]) [.arr true 3 1 x,.arr false 3 1 f,.arr true 3 1 []]) (λi f=>rv (.tup [.s (.sl false false 1 i),.s (.int .i64 (0:Int))]) [.arr true 3 1 f])=rv r H/\
  r.stab [1,0] H = .tup [.s (.sl (O8 s).1.isEmpty (O8 s).1.isEmpty 1 (No (O8 s).1)),.s (.int .i64 ((O8 s).2:Nat))]:=by
 have G:=C5;unfold B25 O8;by_cases z:1024<s.length
 ·rw[if_pos z,A9];exact⟨_,_,rfl,rfl⟩
 ·rw[if_neg z,A6,cond_false];have e:=λ(R:Type) (C:Unit->Option R) (D:By->Int->Option R)=>Bm1 (k0:=C) (k1:=D) s (by omega) s.length 0 LF 0 (by omega) (by omega)
  rw[o9] at e;cases y:s.any (λb=>w8 128 b.toNat) with
  | true=>
   rw[if_pos rfl];refine⟨.tup [.fl 0,.s (.int .i64 4)],[.arr true 3 1 []],(e _ _ _).trans ?_,rfl⟩;rw[y,if_pos rfl]
  | false=>
   rw[if_neg (by simp)];obtain⟨L,F⟩:=Qq s;have I:=Qr s;have q:(if (45:UInt8)∈s then 0+H5 s else 0)=H5 s:=by
    split
    ·omega
    ·rename_i h;exact(F h).2.symm
   rw[y,q] at e;have c:=λ(R:Type) (K:By->Int->LL->Option R)=>Bl6 (k0:=K) s (by omega) (H5 s) (by omega) (H5 s) 0 LF [] (by omega) (by omega) rfl
   rw[o9] at c;have g:((s.take (H5 s)).map (·.toNat)).length=H5 s:=by rw[v8,o7];omega
   generalize N:H5 s=m at *;generalize A:(s.take m).map (·.toNat)=d at *;by_cases k:256<m
   ·rw[if_pos k];refine⟨.tup [.fl 1,.s (.int .i64 3)],[.arr true 3 1 (B7 d),.arr true 3 1 []],(e _ _ _).trans ?_,rfl⟩;rw[if_neg (by simp)];refine(c _ _).trans ?_;rw[y8,D5,g,A9];rfl
   ·rw[if_neg k];have o:∀p:Nat,p<=s.length->∀(X:Option (PV × List Blk × Unit)),X=L5 LF LF s (p:Int) (B7 d) (λi f=>rv (.tup [.fl 1,.s (.int .i64 i)]) [.arr true 3 1 f,.arr true 3 1 []]) (λx f=>rv (.tup [.fl 2,.s (.int .i64 (3:Int))]) [.arr true 3 1 x,.arr false 3 1 f,.arr true 3 1 []]) (λi f=>rv (.tup [.s (.sl false false 1 i),.s (.int .i64 (0:Int))]) [.arr true 3 1 f]) (λl=>rv (.tup [.fl 0,.s (.int .i64 0)]) [.arr true 3 1 l])->
      ∃r H,X=rv r H/\r.stab [1,0] H = .tup [.s (.sl (I2 (s.drop p) d 128 0 72 true).1.isEmpty (I2 (s.drop p) d 128 0 72 true).1.isEmpty 1 (No (I2 (s.drop p) d 128 0 72 true).1)),.s (.int .i64 ((I2 (s.drop p) d 128 0 72 true).2:Nat))]:=by
     intro p J X t;rcases Bl7 s (by omega) p d (by omega) J with⟨j,n⟩|⟨j,u,n⟩|⟨j,n|⟨u,O,n⟩⟩
     ·refine⟨_,_,t.trans (n _ _ _ _ _),?_⟩;rw[j,Dp,Ec];simp[PV.stab,Qi,Sz,PV.snap,N5,Yp]
     ·refine⟨_,_,t.trans (n _ _ _ _ _),?_⟩;rw[j,Ec];have:(I2 (s.drop p) d 128 0 72 true).1.isEmpty=false:=by
       cases h:(I2 (s.drop p) d 128 0 72 true).1 with
       | nil=>exact absurd h u
       | cons a r=>rfl
      rw[this];rfl
     ·refine⟨_,_,t.trans (n _ _ _ _ _),?_⟩;rw[j];rfl
     ·refine⟨_,_,t.trans (n _ _ _ _ _),?_⟩;rw[j,u];rfl
    by_cases B:m=0
    ·subst B;rw[if_pos rfl];have:=o 0 (by omega) _ rfl;rw[o9] at this;obtain⟨r,H,v,w⟩:=this;refine⟨r,H,(e _ _ _).trans ?_,w⟩;rw[if_neg (by simp)];refine(c _ _).trans ?_;rw[y8,D5,g,A6,cond_false,A6,cond_false];exact v
    ·rw[if_neg B];obtain⟨r,H,v,w⟩:=o (m+1) (by omega) _ rfl;refine⟨r,H,(e _ _ _).trans ?_,w⟩;rw[if_neg (by simp)];refine(c _ _).trans ?_;have j:A1 ((m:Int)+1)=((m+1:Nat):Int):=by rw[A7];rfl
     rw[y8,D5,g,A6,cond_false,A9,cond_true,j];exact v
theorem Ag{R:Type}{d:LL->Option R}{e:By->Int->Int->Int->Int->LL->Option R}(s:By)(u:s.length<=1000000000)(n i m v c a:Nat)(l:LL)(q:a<m)(r:m<=4)(p:i+a<s.length)(w:v<=100000)(t:0<n) :
  Gp LF n s i m v c a l d e=if 128<=(s.getD (i+a) 0).toNat/\(s.getD (i+a) 0).toNat<=191 then Gp LF (n-1) s i m ((v*64+(s.getD (i+a) 0).toNat-128:Nat):Int) c ((a+1:Nat):Int) l d e else d l:=by
 have o:=(s.getD (i+a) 0).toNat_lt;obtain⟨n,rfl⟩:∃m,n=m+1:=⟨n-1,by omega⟩
 rw[Gp];have f:A1 ((i:Int)+a)=((i+a:Nat):Int):=by rw[A7];rfl
 have g:A1 ((a:Int)+1)=((a+1:Nat):Int):=by rw[A7];rfl
 rw[A9,f,g,F2,D4];generalize (s.getD (i+a) 0).toNat=b at *;simp only[cond_true,vl];rw[D1 (n:=(b:Int)) (by omega) (by omega),Nat.add_sub_cancel];by_cases j:b<128
 ·rw[A9,G1];rfl
 ·rw[A6,cond_false];by_cases k:191<b
  ·rw[A9,G1];rfl
  ·rw[A6,cond_false,R0];have h:A1 (A1 (A1 ((v:Int)*64)+(b:Int))-128)=((v*64+b-128:Nat):Int):=by
    rw[D1 (n:=(v:Int)*64) (by omega) (by omega),D1 (n:=(v:Int)*64+b) (by omega) (by omega),A7];omega
   rw[h]
theorem Ra{R:Type}{c:LL->Option R}{b:By->Int->Int->Int->Int->LL->Option R}(s:By)(n i m v a:Nat)(l:LL)(d:0<n) :
  Gp LF n s i m v a m l c b=b s i m v a l:=by
 obtain⟨n,rfl⟩:∃m,n=m+1:=⟨n-1,by omega⟩
 rw[Gp];rw[A6];rfl
theorem Su{R:Type}{b:LL->Option R}{c:By->Int->LL->Option R}(s:By)(k:s.length<=1000000000)(i m v a:Nat)(P:List Nat)(e:P.length<=1000000000)(f:i+m<=s.length)(l:v<=10000000)(g:m<=4) :
  cond (ltI (v:Int) (a:Int)) (b (B7 P)) (cond (not (ptI v)) (b (B7 P)) (cond (G2 ((B7 P).length+1)) (c s (A1 ((i:Int)+m)) (B7 P++[[SV.int .i64 (v:Int)]])) none)) =
   if a<=v/\W4 v=true then c s ((i+m:Nat):Int) (B7 (P++[v])) else b (B7 P):=by
 have d:A1 ((i:Int)+m)=((i+m:Nat):Int):=by rw[A7];rfl
 rw[d,D5,F9 (by omega),Lr,show ptI (v:Int)=W4 v from rfl];by_cases h:v<a
 ·rw[A9,G1];rfl
 ·rw[A6,cond_false];cases j:W4 v with
  | false=>rw[if_neg (by simp)];rfl
  | true=>rw[if_pos ⟨by omega,rfl⟩];rfl
theorem Cg2{R:Type}{d:LL->Option R}{f:By->Int->LL->Option R}(s:By)(e:s.length<=1000000000)(i v a:Nat)(P:List Nat)(k:P.length<=1000000000)(m:i<s.length)(n:v<=32) :
  Et LF s i 2 v a (B7 P) d f=if 2<=s.length-i/\128<=(s.getD (i+1) 0).toNat/\(s.getD (i+1) 0).toNat<=191 then
   (if a<=v*64+(s.getD (i+1) 0).toNat-128/\W4 (v*64+(s.getD (i+1) 0).toNat-128)=true then f s ((i+2:Nat):Int) (B7 (P++[v*64+(s.getD (i+1) 0).toNat-128])) else d (B7 P)) else d (B7 P):=by
 have l:=(s.getD (i+1) 0).toNat_lt;have j:=C5;unfold Et;have g:A1 ((s.length:Int)-i)=((s.length-i:Nat):Int):=by rw[A7];omega
 rw[g];simp only[vl];by_cases h:s.length-i<2
 ·rw[A9,G1];rfl
 ·rw[A6,cond_false];refine a8 (Ag s e LF i 2 v a 1 (B7 P) (by omega) (by omega) (by omega) (by omega) (by omega)) ?_;generalize (s.getD (i+1) 0).toNat=b at *;by_cases c:128<=b/\b<=191
  ·rw[if_pos c,if_pos ⟨by omega,c⟩];refine a8 (Ra s (LF-1) i 2 _ a (B7 P) (by omega)) ?_;exact Su s e i 2 _ a P k (by omega) (by omega) (by omega)
  ·rw[if_neg c,if_neg (λh=>c h.2)]
theorem Cg3{R:Type}{e:LL->Option R}{f:By->Int->LL->Option R}(s:By)(d:s.length<=1000000000)(i v a:Nat)(P:List Nat)(k:P.length<=1000000000)(n:i<s.length)(o:v<=32) :
  Et LF s i 3 v a (B7 P) e f=if 3<=s.length-i/\(128<=(s.getD (i+1) 0).toNat/\(s.getD (i+1) 0).toNat<=191)/\(128<=(s.getD (i+2) 0).toNat/\(s.getD (i+2) 0).toNat<=191) then
   (if a<=(v*64+(s.getD (i+1) 0).toNat-128)*64+(s.getD (i+2) 0).toNat-128/\W4 ((v*64+(s.getD (i+1) 0).toNat-128)*64+(s.getD (i+2) 0).toNat-128)=true then f s ((i+3:Nat):Int) (B7 (P++[(v*64+(s.getD (i+1) 0).toNat-128)*64+(s.getD (i+2) 0).toNat-128])) else e (B7 P)) else e (B7 P):=by
 have m:=(s.getD (i+1) 0).toNat_lt;have l:=(s.getD (i+2) 0).toNat_lt;have j:=C5;unfold Et;have g:A1 ((s.length:Int)-i)=((s.length-i:Nat):Int):=by rw[A7];omega
 rw[g];simp only[vl];by_cases h:s.length-i<3
 ·rw[A9,G1];rfl
 ·rw[A6,cond_false];refine a8 (Ag s d LF i 3 v a 1 (B7 P) (by omega) (by omega) (by omega) (by omega) (by omega)) ?_;by_cases b:128<=(s.getD (i+1) 0).toNat/\(s.getD (i+1) 0).toNat<=191
  ·rw[if_pos b];refine a8 (Ag s d (LF-1) i 3 _ a 2 (B7 P) (by omega) (by omega) (by omega) (by omega) (by omega)) ?_;by_cases c:128<=(s.getD (i+2) 0).toNat/\(s.getD (i+2) 0).toNat<=191
   ·rw[if_pos c,if_pos ⟨by omega,b,c⟩];refine a8 (Ra s (LF-2) i 3 _ a (B7 P) (by omega)) ?_;exact Su s d i 3 _ a P k (by omega) (by omega) (by omega)
   ·rw[if_neg c,if_neg (λh=>c h.2.2)]
  ·rw[if_neg b,if_neg (λh=>b h.2.1)]
theorem Cg4{R:Type}{f:LL->Option R}{g:By->Int->LL->Option R}(s:By)(e:s.length<=1000000000)(i v a:Nat)(P:List Nat)(l:P.length<=1000000000)(p:i<s.length)(q:v<=20) :
  Et LF s i 4 v a (B7 P) f g=if 4<=s.length-i/\(128<=(s.getD (i+1) 0).toNat/\(s.getD (i+1) 0).toNat<=191)/\(128<=(s.getD (i+2) 0).toNat/\(s.getD (i+2) 0).toNat<=191)/\(128<=(s.getD (i+3) 0).toNat/\(s.getD (i+3) 0).toNat<=191) then
   (if a<=((v*64+(s.getD (i+1) 0).toNat-128)*64+(s.getD (i+2) 0).toNat-128)*64+(s.getD (i+3) 0).toNat-128/\W4 (((v*64+(s.getD (i+1) 0).toNat-128)*64+(s.getD (i+2) 0).toNat-128)*64+(s.getD (i+3) 0).toNat-128)=true then g s ((i+4:Nat):Int) (B7 (P++[((v*64+(s.getD (i+1) 0).toNat-128)*64+(s.getD (i+2) 0).toNat-128)*64+(s.getD (i+3) 0).toNat-128])) else f (B7 P)) else f (B7 P):=by
 have o:=(s.getD (i+1) 0).toNat_lt;have m:=(s.getD (i+2) 0).toNat_lt;have n:=(s.getD (i+3) 0).toNat_lt;have k:=C5;unfold Et;have j:A1 ((s.length:Int)-i)=((s.length-i:Nat):Int):=by rw[A7];omega
 rw[j];simp only[vl];by_cases h:s.length-i<4
 ·rw[A9,G1];rfl
 ·rw[A6,cond_false];refine a8 (Ag s e LF i 4 v a 1 (B7 P) (by omega) (by omega) (by omega) (by omega) (by omega)) ?_;by_cases b:128<=(s.getD (i+1) 0).toNat/\(s.getD (i+1) 0).toNat<=191
  ·rw[if_pos b];refine a8 (Ag s e (LF-1) i 4 _ a 2 (B7 P) (by omega) (by omega) (by omega) (by omega) (by omega)) ?_;by_cases c:128<=(s.getD (i+2) 0).toNat/\(s.getD (i+2) 0).toNat<=191
   ·rw[if_pos c];refine a8 (Ag s e (LF-2) i 4 _ a 3 (B7 P) (by omega) (by omega) (by omega) (by omega) (by omega)) ?_;by_cases d:128<=(s.getD (i+3) 0).toNat/\(s.getD (i+3) 0).toNat<=191
    ·rw[if_pos d,if_pos ⟨by omega,b,c,d⟩];refine a8 (Ra s (LF-3) i 4 _ a (B7 P) (by omega)) ?_;exact Su s e i 4 _ a P l (by omega) (by omega) (by omega)
    ·rw[if_neg d,if_neg (λh=>d h.2.2.2)]
   ·rw[if_neg c,if_neg (λh=>c h.2.2.1)]
  ·rw[if_neg b,if_neg (λh=>b h.2.1)]
theorem Bn3{R:Type}{a:By->Int->Int->LL->Option R}(n:Nat)(b:0<n)(s:By)(i v:Int)(l:LL):Zo LF n s i v l a=a s i v l:=by
 obtain⟨n,rfl⟩:∃m,n=m+1:=⟨n-1,by omega⟩
 rw[Zo]
theorem Bm7{R:Type}{a:LL->Option R}{b:By->Int->LL->Option R}(s:By)(e:s.length<=1000000000)(i v:Nat)(P:List Nat)(d:P.length<=1000000000)(f:i<s.length)(g:v<128) :
  Zn LF s i v (B7 P) a b=b s ((i+1:Nat):Int) (B7 (P++[v])):=by
 unfold Zn;have c:A1 ((s.length:Int)-i)=((s.length-i:Nat):Int):=by rw[A7];omega
 rw[c];simp only[vl];rw[A6,cond_false];refine a8 (show _=cond (ltI (v:Int) ((0:Nat):Int)) (a (B7 P)) (cond (not (ptI v)) (a (B7 P)) (cond (G2 ((B7 P).length+1)) (b s (A1 ((i:Int)+(1:Nat))) (B7 P++[[SV.int .i64 (v:Int)]])) none)) from Bn3 LF (by have:=C5;omega) _ _ _ _) ?_;rw[Su s e i 1 v 0 P d (by omega) (by omega) (by omega),if_pos];refine⟨ag9 _,?_⟩;simp only[W4,o6,ac2,p4,af7];omega
theorem Cv6{v:Nat}(h:v<2048):W4 v=true:=by simp only[W4,o6,ac2,p4,af7];omega
theorem Bn6{R:Type}{k0 k1:LL->Option R}(s:By)(h:s.length<=1000000000)(n i:Nat)(P:List Nat)(d:P.length<=1000000000)(f:i<s.length) :
  Ah LF (n+1) s i (B7 P) k0 k1=if (p9 (s.drop i)).1=65533/\(p9 (s.drop i)).2=1 then k0 (B7 P) else Ah LF n s ((i+(p9 (s.drop i)).2:Nat):Int) (B7 (P++[(p9 (s.drop i)).1])) k0 k1:=by
 have g:∀k,(s.drop i).getD k 0=s.getD (i+k) 0:=λk=>by grind
 have r:p9 (s.drop i)=aa5 (s.length-i) (s.getD i 0).toNat (s.getD (i+1) 0).toNat (s.getD (i+2) 0).toNat (s.getD (i+3) 0).toNat:=by
  rw[Lib.decodeL_N,g,g,g,g,j9];rfl
 have v:=(s.getD i 0).toNat_lt;have j:=(s.getD (i+1) 0).toNat_lt;have m:=(s.getD (i+2) 0).toNat_lt;have t:=(s.getD (i+3) 0).toNat_lt;rw[r];rw[Ah,A9,F2,D4,D1 (n:=((s.getD i 0).toNat:Int)) (by omega) (by omega)];simp only[cond_true];generalize (s.getD i 0).toNat=b at *;by_cases l:b<128
 ·rw[A9,cond_true];have e:aa5 (s.length-i) b (s.getD (i+1) 0).toNat (s.getD (i+2) 0).toNat (s.getD (i+3) 0).toNat=(b,1):=by unfold aa5;rw[if_pos l]
  rw[e];simp only;rw[G1];exact Bm7 s h i b P d f l
 ·rw[E6 (show(128:Int)<=b by omega),cond_false];by_cases u:b<194
  ·rw[B9 (show(b:Int)<194 by omega)];have e:aa5 (s.length-i) b (s.getD (i+1) 0).toNat (s.getD (i+2) 0).toNat (s.getD (i+3) 0).toNat=(65533,1):=by
    unfold aa5;grind
   rw[e,if_pos ⟨rfl,rfl⟩];simp only[b9,cond_false];unfold Ob;unfold Oa;rw[cond_false,B9 (show(b:Int)<224 by omega),B9 (show(b:Int)<240 by omega)];rfl
  ·rw[E6 (show(194:Int)<=b by omega)];simp only[j2,cond_true];by_cases o:b<224
   ·rw[B9 (show(b:Int)<224 by omega)];unfold Ob;have c:A1 ((b:Int)-192)=((b-192:Nat):Int):=by rw[A7];omega
    rw[cond_true,c,Ec1 _ _ _ _ _ ⟨by omega,o⟩ j];simp only[vl];refine a8 (Cg2 s h i (b-192) 128 P d f (by omega)) ?_;by_cases a:2<=s.length-i/\128<=(s.getD (i+1) 0).toNat/\(s.getD (i+1) 0).toNat<=191
    ·rw[if_pos a,if_pos a];simp only;rw[if_pos ⟨by omega,Cv6 (by omega)⟩,G1]
    ·rw[if_neg a,if_neg a,if_pos ⟨rfl,rfl⟩]
   ·rw[E6 (show(224:Int)<=b by omega)];unfold Ob;rw[cond_false,E6 (show(224:Int)<=b by omega)];simp only[j2,cond_true];by_cases p:b<240
    ·rw[B9 (show(b:Int)<240 by omega)];unfold Oa;have c:A1 ((b:Int)-224)=((b-224:Nat):Int):=by rw[A7];omega
     rw[cond_true,c,Ec2 _ _ _ _ _ ⟨by omega,p⟩ j m];simp only[vl];refine a8 (Cg3 s h i (b-224) 2048 P d f (by omega)) ?_;by_cases a:3<=s.length-i/\(128<=(s.getD (i+1) 0).toNat/\(s.getD (i+1) 0).toNat<=191)/\(128<=(s.getD (i+2) 0).toNat/\(s.getD (i+2) 0).toNat<=191)
     ·rw[if_pos a,if_pos a];split
      ·simp only;rw[G1]
      ·rw[if_pos ⟨rfl,rfl⟩]
     ·rw[if_neg a,if_neg a,if_pos ⟨rfl,rfl⟩]
    ·rw[E6 (show(240:Int)<=b by omega)];unfold Oa;rw[cond_false,E6 (show(240:Int)<=b by omega)];simp only[j2,cond_true];by_cases q:b<245
     ·rw[B9 (show(b:Int)<245 by omega),cond_true];have c:A1 ((b:Int)-240)=((b-240:Nat):Int):=by rw[A7];omega
      rw[c,Ec3 _ _ _ _ _ ⟨by omega,q⟩ j m t];simp only[vl];refine a8 (Cg4 s h i (b-240) 65536 P d f (by omega)) ?_;by_cases a:4<=s.length-i/\(128<=(s.getD (i+1) 0).toNat/\(s.getD (i+1) 0).toNat<=191)/\(128<=(s.getD (i+2) 0).toNat/\(s.getD (i+2) 0).toNat<=191)/\(128<=(s.getD (i+3) 0).toNat/\(s.getD (i+3) 0).toNat<=191)
      ·rw[if_pos a,if_pos a];split
       ·simp only;rw[G1]
       ·rw[if_pos ⟨rfl,rfl⟩]
      ·rw[if_neg a,if_neg a,if_pos ⟨rfl,rfl⟩]
     ·rw[E6 (show(245:Int)<=b by omega),cond_false];have e:aa5 (s.length-i) b (s.getD (i+1) 0).toNat (s.getD (i+2) 0).toNat (s.getD (i+3) 0).toNat=(65533,1):=by
       unfold aa5;grind
      rw[e,if_pos ⟨rfl,rfl⟩]
theorem Cg5(s:By)(k:s.length<=1000000000):∀(r i n:Nat) (P:List Nat),i+r=s.length->r<n->P.length<=i->
  (Dc (s.drop i)=none->∃l,∀(R:Type) (k0 k1:LL->Option R),Ah LF n s i (B7 P) k0 k1=k0 l)/\
  (∀q,Dc (s.drop i)=some q->∀(R:Type) (k0 k1:LL->Option R),Ah LF n s i (B7 P) k0 k1=k1 (B7 (P++q))):=by
 intro r
 induction r using ae6 with
 | _ r o=>
  intro i n P v w u;obtain⟨n,rfl⟩:∃m,n=m+1:=⟨n-1,by omega⟩
  by_cases j:i<s.length
  ·have d:s.drop i≠[]:=by rw[ne_eq,<-aa6,j9];omega
   have c:=λ(R:Type) (k0 k1:LL->Option R)=>Bn6 (k0:=k0) (k1:=k1) s k n i P (by omega) j
   have x:=Lib.decodeL_width (s.drop i);have g:=Lib.decodeL_le (s.drop i) d;rw[j9] at g;rw[Cd6 _ d];by_cases a:(p9 (s.drop i)).1=65533/\(p9 (s.drop i)).2=1
   ·rw[if_pos a];refine⟨λ_=>⟨B7 P,λR k0 k1=>?_⟩,λq b=>by cases b⟩;refine(c R k0 k1).trans ?_;rw[if_pos a]
   ·rw[if_neg a,aa7];obtain⟨w1,t⟩:=o (r-(p9 (s.drop i)).2) (by omega) (i+(p9 (s.drop i)).2) n (P++[(p9 (s.drop i)).1]) (by omega) (by omega) (by rw[j6,x3];omega);constructor
    ·intro h;cases b:Dc (s.drop (i+(p9 (s.drop i)).2)) with
     | some q=>rw[b] at h;cases h
     | none=>
      obtain⟨l,e⟩:=w1 b;refine⟨l,λR k0 k1=>?_⟩;refine(c R k0 k1).trans ?_;rw[if_neg a];exact e R k0 k1
    ·intro q h R k0 k1;cases b:Dc (s.drop (i+(p9 (s.drop i)).2)) with
     | none=>rw[b] at h;cases h
     | some p=>
      rw[b] at h;simp only[ae7,v7] at h;subst h;refine(c R k0 k1).trans ?_;rw[if_neg a];refine(t p b R k0 k1).trans ?_;rw[x4];rfl
  ·have f:s.drop i=[]:=by rw[<-aa6,j9];omega
   have e:∀(R:Type) (k0 k1:LL->Option R),Ah LF (n+1) s i (B7 P) k0 k1=k1 (B7 P):=λR k0 k1=>by
    rw[Ah];rw[A6];rfl
   rw[f,show Dc []=some [] from rfl];refine⟨λh=>(by cases h),λq b R k0 k1=>?_⟩;simp only[v7] at b;subst b;rw[ac3];exact e R k0 k1
theorem Do1(s:By)(d:A3 s.length=true):∃r H,Dn8 LF s (λa=>rv (.tup [.fl 1,.s (.bool false)]) [.arr true 3 1 a,.arr true 3 1 []]) (λa=>rv (.tup [.fl 0,.s (.bool true)]) [.arr true 3 1 a])=rv r H/\
  r.stab [1,0] H = .tup [.s (.sl (Tb s).isEmpty (Tb s).isEmpty 1 (No (Tb s))),.s (.bool (Dc s).isSome)]:=by
 have f:=L4 d;obtain⟨w1,c⟩:=Cg5 s f s.length 0 LF [] (by omega) (by have:=C5;omega) (ag9 _);rw[o9] at w1 c;unfold Tb;cases b:Dc s with
 | none=>
  obtain⟨l,e⟩:=w1 b;exact⟨_,_,e _ _ _,rfl⟩
 | some q=>
  refine⟨_,_,c q b _ _ _,?_⟩;cases q<;>rfl
theorem Bm4{R:Type}{a:Unit->Option R}{d:By->Bool->LL->Bool->Option R}(s:By)(z:Bool)(p:List Nat)(t:p.length<=1000000000):∀(r i n:Nat) (b:Bool),i+r=p.length->r<n->
  Z5 LF n s z (B7 p) b (i:Int) a d=if (p.drop i).any (λp=>w8 65 p&&w8 p 90) then a () else d s z (B7 p) (b||((p.drop i).any λp=>w8 128 p)):=by
 intro r
 induction r with
 | zero=>
  intro i n b h j;obtain⟨n,rfl⟩:∃m,n=m+1:=⟨n-1,by omega⟩
  rw[Z5];rw[D5,A6,j5 (by omega)];simp
 | succ r k=>
  intro i n b h j;obtain⟨n,rfl⟩:∃m,n=m+1:=⟨n-1,by omega⟩
  rw[Z5];have f:A1 ((i:Int)+1)=((i+1:Nat):Int):=by rw[A7];rfl
  have g:p.drop i=p.getD i 0::p.drop (i+1):=by
   rw[o5,p7 (by omega),aa1,ad9]
  rw[D5,A9,F2,b8,Si (by omega),CV _ _ (by omega),g,ab7,ab7,f];simp only[cond_true];generalize p.getD i 0=q;have go:∀c:Bool,Z5 LF n s z (B7 p) c ((i+1:Nat):Int) a d=_:=λc=>k (i+1) n c (by omega) (by omega)
  simp only[go];by_cases l:q<65
  ·rw[show ltI (q:Int) (65:Int)=true from A9,show w8 65 q=false by rw[o8,ne_eq,p4];omega];have e:w8 128 q=false:=by rw[o8,ne_eq,p4];omega
   rw[show ltI (q:Int) (128:Int)=true from A9,e];cases b<;>simp
  ·rw[show ltI (q:Int) (65:Int)=false from A6,show w8 65 q=true by rw[p4];omega];by_cases e:90<q
   ·rw[show ltI (90:Int) (q:Int)=true from A9,show w8 q 90=false by rw[o8,ne_eq,p4];omega];by_cases o:q<128
    ·rw[show ltI (q:Int) (128:Int)=true from A9,show w8 128 q=false by rw[o8,ne_eq,p4];omega];cases b<;>simp
    ·rw[show ltI (q:Int) (128:Int)=false from A6,show w8 128 q=true by rw[p4];omega];cases b<;>simp
   ·rw[show ltI (90:Int) (q:Int)=false from A6,show w8 q 90=true by rw[p4];omega];cases b<;>simp
theorem Bm5{R:Type}{a:Bool->Option R}(s:By)(b:A3 s.length=true):B27 LF s a=a (Er s):=by
 have c:=C5;unfold B27 Er;rw[b,cond_true];simp only[vl];by_cases h:(O8 s).2=0
 ·have e:(((O8 s).2:Int)!=(0:Int))=false:=by rw[h];rfl
  rw[e,cond_false,Ec,h];have g:=Ak4 s;refine a8 (Bm4 s _ (O8 s).1 (by omega) (O8 s).1.length 0 LF false (by omega) (by omega)) ?_;rw[o9];cases d:(O8 s).1.any (λp=>w8 65 p&&w8 p 90) with
  | true=>simp
  | false=>
   rw[if_neg (by simp),Eo,Xj,Xl];simp only[cond_true,vl,ad3,j2];by_cases f:(Dr (O8 s).1).2=0;all_goals grind
 grind
theorem Bk2{R:Type}{g:Unit->Option R}{j:By->Option R}(s:By)(v:s.length<=1000000000):∀(r i n:Nat),i+r=s.length->r<n->
  P3 LF n s (i:Int) g j=if (s.drop i).all L7 then j s else g ():=by
 intro r
 induction r with
 | zero=>
  intro i n l c;obtain⟨n,rfl⟩:∃m,n=m+1:=⟨n-1,by omega⟩
  rw[P3];rw[A6,j5 (by omega)];rfl
 | succ r o=>
  intro i n l c;obtain⟨n,rfl⟩:∃m,n=m+1:=⟨n-1,by omega⟩
  rw[P3];have k:A1 ((i:Int)+1)=((i+1:Nat):Int):=by rw[A7];rfl
  rw[A9,F2,D4,D6 s i (by omega),k,ab6];simp only[cond_true];rw[o (i+1) n (by omega) (by omega)];generalize s.getD i 0=b;have f:=Bx b;have t:((b.toNat:Int)==45)=(b==45):=S6 b 45 (by omega);have u:((b.toNat:Int)==95)=(b==95):=S6 b 95 (by omega);rw[t,u];cases a:L7 b with
  | true=>
   rw[f] at a;simp only[x6];by_cases d:b=45
   ·subst d;simp (disch:=decide) [ltI]
   ·by_cases e:b=95
    ·subst e;simp (disch:=decide) [ltI]
    ·rcases a with a|a|a|a
     ·rw[show ltI (b.toNat:Int) 97=false from A6,show ltI (122:Int) b.toNat=false from A6];rfl
     ·rw[show ltI (b.toNat:Int) 97=true from A9,show ltI (b.toNat:Int) 48=false from A6,show ltI (57:Int) b.toNat=false from A6];rfl
     ·exact absurd a d
     ·exact absurd a e
  | false=>
   have c:¬((97<=b.toNat/\b.toNat<=122)\/(48<=b.toNat/\b.toNat<=57)\/b=45\/b=95):=λh=>by rw[f.2 h] at a;cases a
   have p:(b==45)=false:=by simpa using λh=>c (.inr (.inr (.inl h)))
   have q:(b==95)=false:=by simpa using λh=>c (.inr (.inr (.inr h)))
   rw[p,q];simp only[j2,cond_true,cond_false,Bool.false_and,aa4,if_false];by_cases d:b.toNat<48
   ·rw[show ltI (b.toNat:Int) 97=true from A9,show ltI (b.toNat:Int) 48=true from A9];rfl
   ·by_cases e:b.toNat<97
    ·rw[show ltI (b.toNat:Int) 97=true from A9,show ltI (b.toNat:Int) 48=false from A6,show ltI (57:Int) b.toNat=true from A9];rfl
    ·rw[show ltI (b.toNat:Int) 97=false from A6,show ltI (122:Int) b.toNat=true from A9,show ltI (b.toNat:Int) 48=false from A6,show ltI (57:Int) b.toNat=true from A9];rfl
theorem C56(s:By)(h:4<=s.length):(s.take 4==([120,110,45,45]:List UInt8))=xnB.isPrefixOf s:=by
 match s,h with
 | a::b::c::d::t,_=>
  simp only[List.take_succ_cons,List.take_zero,xnB,ae5,ad2];rw[show((a::b::c::d::[])==([120,110,45,45]:List UInt8))=(a==120&&(b==110&&(c==45&&(d==45&&true)))) from rfl,ad2];rw[p5];simp only[o6,beq_iff_eq];exact⟨λh=>⟨h.1.symm,h.2.1.symm,h.2.2.1.symm,h.2.2.2.symm⟩,λh=>⟨h.1.symm,h.2.1.symm,h.2.2.1.symm,h.2.2.2.symm⟩⟩
theorem Bk3{R:Type}{c:Bool->Option R}(s:By)(e:A3 s.length=true):B23 LF s c=c (K6 s):=by
 have k:=L4 e;have i:=C5;unfold B23 K6;by_cases a:s=[]
 ·grind
 ·have r:0<s.length:=aa2.2 a;have j:s.isEmpty=false:=by simpa using a
  have b:(s==([]:List UInt8))=false:=by simpa using a
  rw[b,cond_false,j];by_cases n:63<s.length
  ·rw[A9,show w8 s.length 63=false by rw[o8,ne_eq,p4];omega];rfl
  ·rw[A6,cond_false,show w8 s.length 63=true by rw[p4];omega,F2];have m:(bAt s 0==(45:Int))=(s.getD 0 0==45):=by rw[Ay];exact S6 _ 45 (by omega)
   have d:A1 ((s.length:Int)-1)=((s.length-1:Nat):Int):=by rw[A7];omega
   rw[m,d];simp only[cond_true,vl];rw[F2,D4,show((((s.getD (s.length-1) 0).toNat:Nat):Int)==45)=(s.getD (s.length-1) 0==45) from S6 _ 45 (by omega)];cases f:(s.getD 0 0==45) with
   | true=>
    grind
   | false=>
    rw[show(s.getD 0 0 !=45)=true by unfold bne;rw[f];rfl];simp only[cond_true,cond_false];cases g:(s.getD (s.length-1) 0==45) with
    | true=>
     grind
    | false=>
     rw[show(s.getD (s.length-1) 0 !=45)=true by unfold bne;rw[g];rfl];simp only[cond_false];refine a8 (Bk2 s k s.length 0 LF (by omega) (by omega)) ?_;rw[o9];cases o:s.all L7 with
     | false=>simp
     | true=>
      rw[if_pos rfl];simp only[j2,x6,ad2];by_cases p:s.length<4
      ·rw[A9];have:xnB.isPrefixOf s=false:=by
        rw[o8,ne_eq,ac9];intro h;have:=h.length_le;simp only[xnB,j8,p6] at this;omega
       grind
      ·rw[A6,cond_false,I4,cond_true,L2];have l:(ab3 (j7 4) s==([120,110,45,45]:List UInt8))=xnB.isPrefixOf s:=C56 s (by omega);rw[l];cases q:xnB.isPrefixOf s with
       | false=>rfl
       | true=>
        rw[I4,Q6];simp only[b9,cond_false,cond_true];rw[E7 (by rw[j9];omega)];rfl
theorem Bk0{R:Type}{h:By->Int->Option R}(s:By)(c:A3 s.length=true):B22 LF s h=h (I6 s).1 ((I6 s).2:Nat):=by
 have m:=L4 c;have j:=C5;unfold B22 I6;rw[c,cond_true];cases f:Dc s with
 | none=>rfl
 | some p=>
  have hN:(Tb s)=p:=by unfold Tb;rw[f];rfl
  rw[hN,Ec,D5];simp only[af8,b9,cond_false,cond_true];by_cases d:256<p.length
  ·rw[if_pos d,A9];rfl
  ·rw[if_neg d,A6,cond_false,E7 (by rw[Ad];exact m)];by_cases e:p.length<s.length
   ·rw[if_pos e,A9];have a:=Ar0 (l:=s) (by rw[f];rfl);cases g:Dc (B6 s) with
    | none=>rw[g] at a;cases a
    | some q=>
     have b:Tb (B6 s)=q:=by unfold Tb;rw[g];rfl
     have k:=Al4 q;rw[b,Ec,Eo,Xj,Xl];simp only[cond_true,vl];rw[G3 (by omega),cond_true,E7 (by rw[j6];simp only[j8,p6];omega),cond_true];by_cases i:(Dr q).2=0
     ·rw[i,if_pos rfl];show cond (not (K6 (xnB++(Dr q).1))) _ _=_;cases n:K6 (xnB++(Dr q).1) with
      | true=>rfl
      | false=>rfl
     grind
   ·rw[if_neg e,A6];grind
section
variable {W R : Type} (L : Nat) (Q : F6) (Y : Yh W) (s : W) (k : Out -> St W -> Option R)
noncomputable abbrev KN:Code:=C6 ai0
noncomputable def Tg(L:Nat):Cfg:=B8 L [65] (A2 []) [] (A2 [(7,[2]),(2,[2]),(4,[2]),(6,[2]),(5,[0,23]),(3,[0,12]),(1,[0,2]),(0,[0])]) [] (A2 [(0,[])]) (some [2]) [] [] []
noncomputable def NU{R:Type}(a:Int)(h:Bool)(f:Int->Option R)(g:Int->Bool->Option R):Option R:=cond h (vl (A1 (wu8 (a-97))) λb=>vl (A1 (b+10)) λc=>f c) (cond (not (ltI a 65)) (cond (not (ltI 70 a)) (vl (A1 (wu8 (a-65))) λd=>vl (A1 (d+10)) λe=>f e) (g a (not (ltI 70 a)))) (g a false))
abbrev As4(b:Code):Prop:=∀(k:Out->St W->Option R) a c,B3 (Tg L) Q Y b ⟨gp [(0,p8 a),(12,pB c)] 21,[],s⟩ k=NU a c (λn0=>k .ret ⟨gp [(2,pI n0)] 32,[],s⟩) (λa c=>k .normal ⟨gp [(0,p8 a),(23,pB c)] 10,[],s⟩)
theorem Cf0:As4 (R:=R) L Q Y s (cd [1,0,0,1,1,1] KN):=by intro k a b;unfold NU;kernel_rfl
noncomputable def NV{R:Type}(b:Int)(l:Bool)(f:Int->Option R)(j:Int->Bool->Option R):Option R:=cond l (vl (A1 (wu8 (b-48))) λg=>f g) (cond (not (ltI b 97)) (NU b (not (ltI 102 b)) (λh=>f h) (λc d=>j c d)) (NU b false (λi=>f i) (λe a=>j e a)))
abbrev NW(b:Code):Prop:=∀(k:Out->St W->Option R) a c,B3 (Tg L) Q Y b ⟨gp [(0,p8 a),(2,pB c)] 31,[],s⟩ k=NV a c (λn0=>k .ret ⟨gp [(2,pI n0)] 32,[],s⟩) (λa c=>k .normal ⟨gp [(0,p8 a),(23,pB c)] 10,[],s⟩)
theorem Cf1(a:Code)(b:As4 (R:=R) L Q Y s a):NW (R:=R) L Q Y s (cd [1,0,0,1] (G6 [1,0,0,1,1,1] a KN)):=by intro k c d;unfold NV;simp only[<-b k];kernel_rfl
theorem Cf2:NW (R:=R) L Q Y s (cd [1,0,0,1] KN):=by intro k a b;exact a8 (by kernel_rfl) (Cf1 L Q Y s (cd [1,0,0,1,1,1] KN) (Cf0 L Q Y s) k a b)
noncomputable def rhx{R:Type}(L:Nat)(c:Int)(d:Int->Option R):Option R:=cond (not (ltI c 48)) (NV c (not (ltI 57 c)) (λa=>d a) (λe f=>d (-1))) (NV c false (λb=>d b) (λg h=>d (-1)))
theorem D24(b:Code)(a:NW (R:=PV × List Blk × W) L Q Y s b)(c:Int):B3 (Tg L) Q Y (cd [] (G6 [1,0,0,1] b KN)) ⟨[p8 c]++tps 34,[],s⟩ (F3 (Tg L) ai0)=rhx L c (λe=>some (pI e,[],s)):=by unfold rhx;exact let d:=(E1 0 (E0 (Tg L) Q Y (cd [1,1] KN) (F3 (Tg L) ai0)));(a8 (by kernel_rfl) (A0 ((a d c (not (ltI 57 c))).trans (by kernel_rfl)) ((a d c false).trans (by kernel_rfl))))
theorem D25(d:Nat)(b0):evC (Tg L) (d+1) W Y 65 [p8 b0] [] s=rhx L b0 (λa=>some (pI a,[],s)):=
 (evE (fn:=ai0) (by kernel_rfl)).trans (a8 (by kernel_rfl) (D24 L (evC (Tg L) d) Y s (cd [1,0,0,1] KN) (Cf2 L (evC (Tg L) d) Y s) b0))
noncomputable abbrev Bx4:Code:=C6 aj4
noncomputable def Mv(L:Nat):Cfg:=B8 L [41] (A2 [(3,[0,1,0,0,0])]) [(65,Dw0)] (A2 [(11,[2,0]),(4,[0,3,0]),(10,[0,3,0]),(9,[0,3,0]),(8,[2,0]),(7,[0,3,0,36]),(6,[0,3,0]),(5,[0,3,0,9]),(3,[0,3,0,3]),(2,[0,3,0]),(1,[0,3]),(0,[0])]) [65] (A2 [(0,[4]),(1,[0,3,0])]) (some [2,0]) [] [] []
noncomputable def Q3{R:Type}(L n:Nat)(b:By)(a:Int)(c:LL)(d:LL->Option R)(j:LL->Option R):Option R:=match n with|0=>none|n+1=>cond (ltI a (b.length:Int)) (cond (inR a b.length) (cond ((bAt b a)!=37) (cond (inR a b.length) (cond (G2 (c.length+1)) (Q3 L n b (A1 (a+1)) (c++[[(SV.int .u8 (bAt b a))]]) d j) none) none) (vl (A1 ((b.length:Int)-a)) λl=>cond (ltI l 3) (d c) (cond (inR (A1 (a+1)) b.length) (vl (bAt b (A1 (a+1))) λf=>cond (inR f 256) (cond (ltI (Ga (u8n f)) (0:Int)) (d c) (cond (inR (A1 (a+2)) b.length) (vl (bAt b (A1 (a+2))) λg=>cond (inR g 256) (cond (ltI (Ga (u8n g)) (0:Int)) (d c) (cond (inR (A1 (a+1)) b.length) (vl (bAt b (A1 (a+1))) λh=>cond (inR h 256) (vl (A1 ((16:Int)*(Ga (u8n h)))) λm=>cond (inR (A1 (a+2)) b.length) (vl (bAt b (A1 (a+2))) λi=>cond (inR i 256) (vl (A1 (m+(Ga (u8n i)))) λo=>cond (G2 (c.length+1)) (vl (A1 ((A1 (a+2))+1)) λe=>Q3 L n b e (c++[[(SV.int .u8 (wu8 o))]]) d j) none) none) none) none) none)) none) none)) none) none))) none) (j c)
theorem As2(n s0 i1 l2):D0 1 ((Mv L).keep 3) (bd (Mv L) Q Y (cd [1,1,0,1,0,0] Bx4)) n ⟨gp [(0,pS s0),(3,.fl 0),(0,pI i1)] 57,[.arr true 5 1 l2],s⟩ k =
 Q3 L n s0 i1 l2 (λa=>k .ret ⟨gp [(2,pS ([]:List UInt8)),(0,pB false)] 59,[.arr true 5 1 a],s⟩) (λa=>k (.exit 0) ⟨gp [(4,.fl 0)] 58,[.arr true 5 1 a],s⟩):=by
 induction n generalizing s0 i1 l2 with
 | zero=>rfl
 | succ n b=>rw[Q3];simp only[<-b];kernel_rfl
noncomputable def B20{R:Type}(L:Nat)(d:By)(c:By->Bool->LL->Option R):Option R:=Q3 L L d 0 [] (λb=>c ([]:List UInt8) false b) (λa=>cond (ag1 a Pk) (c (ad7 Nb a) true a) none)
theorem C12(d:Nat)(s0):evC (Mv L) (d+1) W Y 41 [pS s0] [] s=B20 L s0 (λb c a=>some (.tup [pS b,pB c],[.arr true 5 1 a],s)):=by refine(evE (fn:=aj4) (by kernel_rfl)).trans ?_;generalize evC (Mv L) d=Q;unfold B20;exact(a8 (by kernel_rfl) ((As2 L Q Y s (E1 0 (E0 (Mv L) Q Y (cd [1,1,1] Bx4) (F3 (Mv L) aj4))) L s0 0 []).trans (by kernel_rfl)))
noncomputable abbrev Cr0:Code:=C6 aj3
noncomputable def Uy(L:Nat):Cfg:=B8 L [36] (A2 [(5,[2,0,0])]) [(42,Ub),(44,Kz),(61,WI)] (A2 [(9,[2]),(6,[3,0]),(8,[2]),(7,[3,0,24]),(5,[3,0,16]),(4,[3,0]),(3,[3]),(2,[2]),(1,[0,14]),(0,[0])]) [42,61] (A2 [(0,[]),(1,[3,0])]) (some [2]) [] [] []
noncomputable def Ny{R:Type}(L n:Nat)(b:LL)(a:Int)(c:Unit->Option R)(d:Unit->Option R):Option R:=match n with|0=>none|n+1=>cond (ltI a (b.length:Int)) (cond (inR a b.length) (cond (okE Ol b (j7 a) 0) (cond (A3 (j4 (gX b (j7 a) 0))) (cond (not (K6 (gX b (j7 a) 0))) (c ()) (Ny L n b (A1 (a+1)) c d)) none) none) none) (d ())
theorem Bj9(n p0 i1):D0 0 ((Uy L).keep 5) (bd (Uy L) Q Y (cd [1,1,1,0,1,0,0] Cr0)) n ⟨gp [(3,.s (.sl false false 1 p0)),(0,pI i1)] 25,[],s⟩ k =
 Ny L n p0 i1 (λ_=>k .ret ⟨gp [(2,pB false)] 27,[],s⟩) (λ_=>k (.exit 0) ⟨gp [] 30,[],s⟩):=by
 induction n generalizing p0 i1 with
 | zero=>rfl
 | succ n a=>rw[Ny];simp only[<-a];kernel_rfl
noncomputable def Dn1{R:Type}(L:Nat)(a:By)(b:Bool->Option R):Option R:=cond (a==[]) (b false) (cond (ltI 253 (a.length:Int)) (b false) (cond (A3 a.length) (cond (F0 a) (b false) (cond (A3 a.length) (vl (D2 (pcs (u8n (46:Int)) a)) λc=>Ny L L c 0 (λ_=>b false) (λ_=>b true)) none)) none))
theorem Dn2(d:Nat)(name0):evC (Uy L) (d+1) W Y 36 [pS name0] [] s=Dn1 L name0 (λb=>some (pB b,[],s)):=by refine(evE (fn:=aj3) (by kernel_rfl)).trans ?_;generalize evC (Uy L) d=Q;unfold Dn1;exact(a8 (by kernel_rfl) (A0 rfl (A0 rfl (A0 (A0 rfl (A0 (A4 λa=>((Bj9 L Q Y s (E1 0 (E0 (Uy L) Q Y (cd [1,1,1,1] Cr0) (F3 (Uy L) aj3))) L a 0).trans (by kernel_rfl))) rfl)) rfl))))
noncomputable def YK(L:Nat):Cfg:=B8 L [19] (A2 []) [(36,A23)] (A2 [(9,[2]),(4,[2]),(6,[2]),(8,[2]),(7,[1,32]),(5,[1,1,2,16]),(3,[1,1,2,0]),(2,[1,1,2]),(1,[1,1]),(0,[1])]) [36] (A2 [(0,[])]) (some [2]) [] [] []
noncomputable def C18{R:Type}(L:Nat)(c:Int)(b:By)(d e f g h i j l a:Int)(m:Bool->Int->By->Int->Int->Int->Int->Int->Int->Int->Int->Int->LL->Option R):Option R:=cond (c==1) (cond (A3 b.length) (cond (U9 b) (cond (d==0) (m ((e==0)&&((f==0)&&((g==0)&&((h==0)&&((i==0)&&((j==0)&&((l==0)&&((a==0)&&true)))))))) c b d e f g h i j l a (x8 8 [(SV.int .u16 (0:Int))])) (m false c b d e f g h i j l a (x8 8 [(SV.int .u16 (0:Int))]))) (m false c b d e f g h i j l a (x8 8 [(SV.int .u16 (0:Int))]))) none) (cond (c==2) (cond (b==[]) (m ((e==0)&&((f==0)&&((g==0)&&((h==0)&&((i==0)&&((j==0)&&((l==0)&&((a==0)&&true)))))))) c b d e f g h i j l a (x8 8 [(SV.int .u16 (0:Int))])) (m false c b d e f g h i j l a (x8 8 [(SV.int .u16 (0:Int))]))) (cond (c==3) (cond (b==[]) (m (d==0) c b d e f g h i j l a (x8 8 [(SV.int .u16 (0:Int))])) (m false c b d e f g h i j l a (x8 8 [(SV.int .u16 (0:Int))]))) (m false c b d e f g h i j l a (x8 8 [(SV.int .u16 (0:Int))]))))
theorem C19(d:Nat)(h0 h1 h2 h3 h4 h5 h6 h7 h8 h9 h10):evC (YK L) (d+1) W Y 19 [.agg [pI h0,pS h1,p32 h2,p16 h3,p16 h4,p16 h5,p16 h6,p16 h7,p16 h8,p16 h9,p16 h10]] [] s=C18 L h0 h1 h2 h3 h4 h5 h6 h7 h8 h9 h10 (λn f o g h i j l e m b c a=>some (pB n,[.box [pI f,pS o,p32 g,p16 h,p16 i,p16 j,p16 l,p16 e,p16 m,p16 b,p16 c],.arr false 32 1 a],s)):=by refine(evE (fn:=Tryz.f19) (by kernel_rfl)).trans ?_;generalize evC (YK L) d=Q;unfold C18;kernel_rfl
noncomputable def YJ(L:Nat):Cfg:=B8 L [20] (A2 []) [(19,GP),(37,Co7),(38,Co9)] (A2 [(8,[2]),(5,[2]),(7,[2]),(6,[1,10]),(4,[1,5,0]),(3,[1,5]),(2,[2]),(1,[1,3]),(0,[1])]) [19,37,38] (A2 [(0,[1])]) (some [2]) [] [] []
noncomputable def C15{R:Type}(L:Nat)(j:Int)(l:By)(b c d e f g h i a:Int)(o:By->Int->By->Int->Int->Int->Int->Int->Int->Int->Int->Int->Option R):Option R:=cond (A3 l.length) (cond (ltN b 4294967296) (cond (ok8 c d e f g h i a) (cond (not (J7 (mkH j l b (n8 c d e f g h i a)))) (o ([]:List UInt8) j l b c d e f g h i a) (cond (j==1) (o l j l b c d e f g h i a) (cond (j==2) (cond (ltN b 4294967296) (o (V3 (j7 b)) j l b c d e f g h i a) none) (cond (ok8 c d e f g h i a) (vl (Am (n8 c d e f g h i a)) λm=>cond (E8 1 m.length) (vl (([91]:List UInt8)++m) λn=>cond (E8 n.length 1) (vl (n++[93]) λp=>o p j l b c d e f g h i a) none) none) none)))) none) none) none
theorem C16(d:Nat)(h0 h1 h2 h3 h4 h5 h6 h7 h8 h9 h10):evC (YJ L) (d+1) W Y 20 [.agg [pI h0,pS h1,p32 h2,p16 h3,p16 h4,p16 h5,p16 h6,p16 h7,p16 h8,p16 h9,p16 h10]] [] s=C15 L h0 h1 h2 h3 h4 h5 h6 h7 h8 h9 h10 (λm e n f g h i j c l a b=>some (pS m,[.box [pI e,pS n,p32 f,p16 g,p16 h,p16 i,p16 j,p16 c,p16 l,p16 a,p16 b]],s)):=by refine(evE (fn:=Tryz.f20) (by kernel_rfl)).trans ?_;generalize evC (YJ L) d=Q;unfold C15;kernel_rfl
noncomputable def YI(L:Nat):Cfg:=B8 L [35] (A2 []) [(36,A23)] (A2 [(3,[4]),(2,[4]),(1,[0,0,10]),(0,[0,0])]) [36] (A2 []) (some [4]) [] [] []
noncomputable def B19{R:Type}(L:Nat)(b a:By)(c:Bool->Option R):Option R:=cond (A3 b.length) (cond (not (U9 b)) (c false) (cond (A3 a.length) (cond (not (U9 a)) (c false) (cond (b==a) (c true) (cond (ltI (b.length:Int) (a.length:Int)) (vl (A1 ((a.length:Int)-(b.length:Int))) λd=>cond (I9 (A1 (d-1)) (a.length:Int) a.length) (vl (cut a (A1 (d-1)) (a.length:Int)) λe=>cond (E8 1 b.length) (vl (([46]:List UInt8)++b) λf=>c (e==f)) none) none) (c false)))) none)) none
theorem C11(d:Nat)(super0 name1):evC (YI L) (d+1) W Y 35 [pS super0,pS name1] [] s=B19 L super0 name1 (λa=>some (pB a,[],s)):=by refine(evE (fn:=Tryz.f35) (by kernel_rfl)).trans ?_;generalize evC (YI L) d=Q;unfold B19;kernel_rfl
end
section
variable {W R : Type} (L : Nat) (Q : F6) (Y : Yh W) (s : W) (k : Out -> St W -> Option R)
noncomputable abbrev T2:Code:=C6 ah9
noncomputable def L1(L:Nat):Cfg:=B8 L [24] (A2 [(23,[2,0,6,0,0])]) [(40,Cp0),(41,Bv6),(42,Ub),(43,Bw0),(44,Kz),(45,Bv8)] (A2 [(35,[2,0]),(34,[2,0]),(33,[2,7,108]),(32,[2,0]),(31,[2,7,105]),(24,[2,7,0,0]),(30,[2,7,0,0]),(29,[2,7,0,0,0]),(28,[2,7,0,0,0,94]),(27,[2,0]),(26,[2,7,0,0,0,0,89]),(25,[2,7,0,0,0,0]),(23,[2,7,0,0,79]),(22,[2,7,0,0]),(21,[2,7,0]),(20,[2,3,3]),(19,[2,0]),(18,[2,0]),(17,[2,5,74]),(16,[2,5,0]),(15,[2,3,69]),(14,[2,3]),(13,[2,3,62]),(12,[2,0]),(11,[2,3,51]),(10,[2,3,0]),(9,[2,0]),(8,[2,0]),(7,[2,1,43]),(6,[2,1,0]),(5,[2,0]),(4,[0,1,33]),(3,[0,1,22]),(2,[2,0]),(1,[0,1,14]),(0,[0,1])]) [41,42,43,45] (A2 [(0,[2,7]),(1,[2,7,0,0])]) (some [2,0]) [] [] []
noncomputable def Im{R:Type}(b:By)(e:Bool)(f:Unit->Option R)(g:Int->Int->Int->Int->Int->Int->Int->Int->Int->Int->LL->Option R)(h:By->Bool->Option R):Option R:=cond e (vl (A1 ((b.length:Int)-1)) λd=>cond (inR d b.length) (cond ((bAt b d)!=93) (f ()) (cond (ltI (b.length:Int) (2:Int)) (f ()) (vl (A1 ((b.length:Int)-1)) λc=>cond (I9 1 c b.length) (vl (cut b 1 c) λa=>cond (A3 a.length) (cond (not (ab9 (v6B a))) (g 14 0 0 0 0 0 0 0 0 0 [[(SV.int .u16 (↑(v6c 0 a):Int))],[(SV.int .u16 (↑(v6c 1 a):Int))],[(SV.int .u16 (↑(v6c 2 a):Int))],[(SV.int .u16 (↑(v6c 3 a):Int))],[(SV.int .u16 (↑(v6c 4 a):Int))],[(SV.int .u16 (↑(v6c 5 a):Int))],[(SV.int .u16 (↑(v6c 6 a):Int))],[(SV.int .u16 (↑(v6c 7 a):Int))]]) (g 0 3 (↑(v6c 0 a):Int) (↑(v6c 1 a):Int) (↑(v6c 2 a):Int) (↑(v6c 3 a):Int) (↑(v6c 4 a):Int) (↑(v6c 5 a):Int) (↑(v6c 6 a):Int) (↑(v6c 7 a):Int) [[(SV.int .u16 (↑(v6c 0 a):Int))],[(SV.int .u16 (↑(v6c 1 a):Int))],[(SV.int .u16 (↑(v6c 2 a):Int))],[(SV.int .u16 (↑(v6c 3 a):Int))],[(SV.int .u16 (↑(v6c 4 a):Int))],[(SV.int .u16 (↑(v6c 5 a):Int))],[(SV.int .u16 (↑(v6c 6 a):Int))],[(SV.int .u16 (↑(v6c 7 a):Int))]])) none) none))) none) (h b e)
abbrev Zg(b:Code):Prop:=∀(k:Out->St W->Option R) a c,B3 (L1 L) Q Y b ⟨gp [(0,pS a),(1,.ptr 0 0 0),(22,pB c)] 97,[.box [pI (0:Int),pS ([]:List UInt8),p32 (0:Int),p16 (0:Int),p16 (0:Int),p16 (0:Int),p16 (0:Int),p16 (0:Int),p16 (0:Int),p16 (0:Int),p16 (0:Int)]],s⟩ k=Im a c (λ_=>k .ret ⟨gp [(2,.ptr 0 0 0),(0,pI (14:Int))] 119,[.box [pI (0:Int),pS ([]:List UInt8),p32 (0:Int),p16 (0:Int),p16 (0:Int),p16 (0:Int),p16 (0:Int),p16 (0:Int),p16 (0:Int),p16 (0:Int),p16 (0:Int)]],s⟩) (λn0 e f g h i j l d m l10=>k .ret ⟨gp [(2,.ptr 0 0 0),(0,pI n0)] 119,[.box [pI e,pS ([]:List UInt8),p32 (0:Int),p16 f,p16 g,p16 h,p16 i,p16 j,p16 l,p16 d,p16 m],.arr false 32 1 l10],s⟩) (λa c=>k .normal ⟨gp [(0,pS a),(1,.ptr 0 0 0),(22,pB c)] 97,[.box [pI (0:Int),pS ([]:List UInt8),p32 (0:Int),p16 (0:Int),p16 (0:Int),p16 (0:Int),p16 (0:Int),p16 (0:Int),p16 (0:Int),p16 (0:Int),p16 (0:Int)]],s⟩)
theorem PU:Zg (R:=R) L Q Y s (cd [1,1,0,1] T2):=by intro k a b;unfold Im;kernel_rfl
noncomputable def K2{R:Type}(L n:Nat)(a:By)(e:LL)(c:Int)(g:Int->Option R)(h:By->Option R):Option R:=match n with|0=>none|n+1=>cond (ltI c (e.length:Int)) (cond (inR c e.length) (cond (okE Ol e (j7 c) 0) (cond (A3 (j4 (gX e (j7 c) 0))) (vl ((I6 (gX e (j7 c) 0))).1 λb=>vl (↑((I6 (gX e (j7 c) 0))).2:Int) λd=>cond (d !=0) (g d) (cond (ltI 0 c) (cond (E8 a.length 1) (vl (a++[46]) λf=>cond (E8 f.length b.length) (K2 L n (f++b) e (A1 (c+1)) g h) none) none) (cond (E8 a.length b.length) (K2 L n (a++b) e (A1 (c+1)) g h) none))) none) none) none) (h a)
theorem Tn(n a p1 i2):D0 1 ((L1 L).keep 23) (bd (L1 L) Q Y (cd [1,1,1,1,1,1,1,1,1,0,1,0,0] T2)) n ⟨gp [(2,.ptr 0 0 0),(7,pS a),(0,.s (.sl false false 1 p1)),(0,pI i2)] 110,[.box [pI (0:Int),pS ([]:List UInt8),p32 (0:Int),p16 (0:Int),p16 (0:Int),p16 (0:Int),p16 (0:Int),p16 (0:Int),p16 (0:Int),p16 (0:Int),p16 (0:Int)]],s⟩ k =
 K2 L n a p1 i2 (λn0=>k .ret ⟨gp [(2,.ptr 0 0 0),(0,pI n0)] 119,[.box [pI (0:Int),pS ([]:List UInt8),p32 (0:Int),p16 (0:Int),p16 (0:Int),p16 (0:Int),p16 (0:Int),p16 (0:Int),p16 (0:Int),p16 (0:Int),p16 (0:Int)]],s⟩) (λa=>k (.exit 0) ⟨gp [(2,.ptr 0 0 0),(7,pS a)] 112,[.box [pI (0:Int),pS ([]:List UInt8),p32 (0:Int),p16 (0:Int),p16 (0:Int),p16 (0:Int),p16 (0:Int),p16 (0:Int),p16 (0:Int),p16 (0:Int),p16 (0:Int)]],s⟩):=by
 induction n generalizing a p1 i2 with
 | zero=>rfl
 | succ n b=>rw[K2];simp only[<-b];kernel_rfl
noncomputable def Ef{R:Type}(L:Nat)(b:By)(c:Int->Int->By->Int->Option R):Option R:=cond (A3 b.length) (cond (F0 b) (cond (A3 b.length) (cond (not (ab9 (pnB b))) (c 14 0 ([]:List UInt8) 0) (c 0 2 ([]:List UInt8) (↑(O4 (pnB b)):Int))) none) (cond (A3 b.length) (vl (D2 (pcs (u8n (46:Int)) b)) λd=>K2 L L ([]:List UInt8) d 0 (λe=>c e 0 ([]:List UInt8) 0) (λa=>cond (ltI 253 (a.length:Int)) (c 3 0 ([]:List UInt8) 0) (cond (A3 a.length) (cond (F0 a) (c 14 0 ([]:List UInt8) 0) (c 0 1 a 0)) none))) none)) none
abbrev Zh(b:Code):Prop:=∀(k:Out->St W->Option R) s0,B3 (L1 L) Q Y b ⟨gp [(2,.ptr 0 0 0),(3,pS s0)] 116,[.box [pI (0:Int),pS ([]:List UInt8),p32 (0:Int),p16 (0:Int),p16 (0:Int),p16 (0:Int),p16 (0:Int),p16 (0:Int),p16 (0:Int),p16 (0:Int),p16 (0:Int)]],s⟩ k=Ef L s0 (λn0 a d c=>k .ret ⟨gp [(2,.ptr 0 0 0),(0,pI n0)] 119,[.box [pI a,pS d,p32 c,p16 (0:Int),p16 (0:Int),p16 (0:Int),p16 (0:Int),p16 (0:Int),p16 (0:Int),p16 (0:Int),p16 (0:Int)]],s⟩)
theorem PW:Zh (R:=R) L Q Y s (cd [1,1,1,1,1,1] T2):=by intro k b;unfold Ef;exact(a8 (by kernel_rfl) (A0 (A0 (A0 (A0 rfl rfl) rfl) (A0 (A4 λa=>((Tn L Q Y s (E1 0 (E0 (L1 L) Q Y (cd [1,1,1,1,1,1,1,1,1,1] T2) k)) L ([]:List UInt8) a 0).trans (by kernel_rfl))) rfl)) rfl))
noncomputable def Nw{R:Type}(L:Nat)(b:By)(c:Int->Int->By->Int->Option R):Option R:=cond (A3 b.length) (cond (F0 b) (cond (A3 b.length) (cond (not (ab9 (pnB b))) (c 14 0 ([]:List UInt8) 0) (c 0 2 ([]:List UInt8) (↑(O4 (pnB b)):Int))) none) (cond (A3 b.length) (vl (D2 (pcs (u8n (46:Int)) b)) λd=>K2 L L ([]:List UInt8) d 0 (λe=>c e 0 ([]:List UInt8) 0) (λa=>cond (ltI 253 (a.length:Int)) (c 3 0 ([]:List UInt8) 0) (cond (A3 a.length) (cond (F0 a) (c 14 0 ([]:List UInt8) 0) (c 0 1 a 0)) none))) none)) none
abbrev Zi(b:Code):Prop:=∀(k:Out->St W->Option R) s0 b1,B3 (L1 L) Q Y b ⟨gp [(2,.ptr 0 0 0),(3,pS s0),(62,pB b1)] 53,[.box [pI (0:Int),pS ([]:List UInt8),p32 (0:Int),p16 (0:Int),p16 (0:Int),p16 (0:Int),p16 (0:Int),p16 (0:Int),p16 (0:Int),p16 (0:Int),p16 (0:Int)]],s⟩ k=Nw L s0 (λn0 a d c=>k .ret ⟨gp [(2,.ptr 0 0 0),(0,pI n0)] 119,[.box [pI a,pS d,p32 c,p16 (0:Int),p16 (0:Int),p16 (0:Int),p16 (0:Int),p16 (0:Int),p16 (0:Int),p16 (0:Int),p16 (0:Int)]],s⟩)
theorem PY:Zi (R:=R) L Q Y s (cd [1,1,1,1,1,1] T2):=by intro k c b;unfold Nw;exact(a8 (by kernel_rfl) (A0 (A0 (A0 (A0 rfl rfl) rfl) (A0 (A4 λa=>((Tn L Q Y s (E1 0 (E0 (L1 L) Q Y (cd [1,1,1,1,1,1,1,1,1,1] T2) k)) L ([]:List UInt8) a 0).trans (by kernel_rfl))) rfl)) rfl))
noncomputable def Eg{R:Type}(L:Nat)(a:By)(r:Int->Int->By->Int->Option R):Option R:=cond (A3 a.length) (cond (not (ab9 (R8 a))) (r 14 0 ([]:List UInt8) 0) (cond (not ((Gh a)==[])) (vl (A1 ((↑(j4 (Gh a)):Int)-1)) λb=>cond (inR b (j4 (Gh a))) (cond ((bAt (Gh a) b)==46) (vl (A1 ((↑(j4 (Gh a)):Int)-1)) λc=>cond (I9 0 c (j4 (Gh a))) (vl (cut (Gh a) (0:Int) c) λn=>Ef L n (λd e o f=>r d e o f)) none) (Nw L (Gh a) (λg h p i=>r g h p i))) none) (Nw L (Gh a) (λj l q m=>r j l q m)))) none
abbrev Nx(b:Code):Prop:=∀(k:Out->St W->Option R) raw0 b1,B3 (L1 L) Q Y b ⟨gp [(0,pS raw0),(1,.ptr 0 0 0),(22,pB b1)] 97,[.box [pI (0:Int),pS ([]:List UInt8),p32 (0:Int),p16 (0:Int),p16 (0:Int),p16 (0:Int),p16 (0:Int),p16 (0:Int),p16 (0:Int),p16 (0:Int),p16 (0:Int)]],s⟩ k=Eg L raw0 (λn0 a d c=>k .ret ⟨gp [(2,.ptr 0 0 0),(0,pI n0)] 119,[.box [pI a,pS d,p32 c,p16 (0:Int),p16 (0:Int),p16 (0:Int),p16 (0:Int),p16 (0:Int),p16 (0:Int),p16 (0:Int),p16 (0:Int)]],s⟩)
theorem PZ(b:Code)(c:Zh (R:=R) L Q Y s b)(a:Zi (R:=R) L Q Y s b):Nx (R:=R) L Q Y s (cd [1,1,1] (G6 [1,1,1,1,1,1] b T2)):=by intro k d h;unfold Eg;exact(a8 (by kernel_rfl) (A0 (A0 rfl (A0 (A4 λe=>(A0 (A0 (A4 λg=>(A0 (A4 λf=>((c k f).trans (by kernel_rfl))) rfl)) ((a k (Gh d) ((bAt (Gh d) e)==46)).trans (by kernel_rfl))) rfl)) ((a k (Gh d) false).trans (by kernel_rfl)))) rfl))
theorem QA:Nx (R:=R) L Q Y s (cd [1,1,1] T2):=by intro k a b;exact a8 (by kernel_rfl) (PZ L Q Y s (cd [1,1,1,1,1,1] T2) (PW L Q Y s) (PY L Q Y s) k a b)
noncomputable def Zf{R:Type}(L:Nat)(a:By)(j:Int->By->Int->Int->Int->By->Int->Option R)(O:Int->Int->Int->Int->Int->Int->Int->Int->Int->Int->LL->Option R):Option R:=cond (ltI 1024 (a.length:Int)) (j 0 ([]:List UInt8) 0 3 0 ([]:List UInt8) 0) (cond (not (a==[])) (cond (inR 0 a.length) (Im a ((bAt a (0:Int))==91) (λ_=>j 0 ([]:List UInt8) 0 14 0 ([]:List UInt8) 0) (λn o p q r t u v w x l=>O o p q r t u v w x n l) (λb M=>Eg L b (λy d h e=>j d h e y d h e))) none) (Im a false (λ_=>j 0 ([]:List UInt8) 0 14 0 ([]:List UInt8) 0) (λz A B C D F G H I J m=>O A B C D F G H I J z m) (λc N=>Eg L c (λK f i g=>j f i g K f i g))))
theorem Bj6(e:Code)(a:Zg (R:=PV × List Blk × W) L Q Y s e)(d:Code)(b:Nx (R:=PV × List Blk × W) L Q Y s d)(c:By):B3 (L1 L) Q Y (cd [] (G6 [1,1,1] d (G6 [1,1,0,1] e T2))) ⟨[pS c]++tps 122,[],s⟩ (F3 (L1 L) ah9)=Zf L c (λj l m n v y w=>some (.tup [.agg [pI j,pS l,p32 m,p16 (0:Int),p16 (0:Int),p16 (0:Int),p16 (0:Int),p16 (0:Int),p16 (0:Int),p16 (0:Int),p16 (0:Int)],pI n],[.box [pI v,pS y,p32 w,p16 (0:Int),p16 (0:Int),p16 (0:Int),p16 (0:Int),p16 (0:Int),p16 (0:Int),p16 (0:Int),p16 (0:Int)]],s)) (λj l m n q r t u r8 x l10=>some (.tup [.agg [pI j,pS ([]:List UInt8),p32 (0:Int),p16 l,p16 m,p16 n,p16 q,p16 r,p16 t,p16 u,p16 r8],pI x],[.box [pI j,pS ([]:List UInt8),p32 (0:Int),p16 l,p16 m,p16 n,p16 q,p16 r,p16 t,p16 u,p16 r8],.arr false 32 1 l10],s)):=by unfold Zf;exact let o:=(F3 (L1 L) ah9);let p:=(E0 (L1 L) Q Y d o);(a8 (by kernel_rfl) (A0 rfl (A0 (A0 ((a p c ((bAt c (0:Int))==91)).trans (congr (congr (congr rfl (by kernel_rfl)) (by kernel_rfl)) (fx2 λf h=>(a8 (by kernel_rfl) ((b o f h).trans (by kernel_rfl)))))) rfl) ((a p c false).trans (congr (congr (congr rfl (by kernel_rfl)) (by kernel_rfl)) (fx2 λg i=>(a8 (by kernel_rfl) ((b o g i).trans (by kernel_rfl)))))))))
theorem Bj7(d:Nat)(raw0):evC (L1 L) (d+1) W Y 24 [pS raw0] [] s=Zf L raw0 (λa b c e j n l=>some (.tup [.agg [pI a,pS b,p32 c,p16 (0:Int),p16 (0:Int),p16 (0:Int),p16 (0:Int),p16 (0:Int),p16 (0:Int),p16 (0:Int),p16 (0:Int)],pI e],[.box [pI j,pS n,p32 l,p16 (0:Int),p16 (0:Int),p16 (0:Int),p16 (0:Int),p16 (0:Int),p16 (0:Int),p16 (0:Int),p16 (0:Int)]],s)) (λa b c e f g h i r8 m l10=>some (.tup [.agg [pI a,pS ([]:List UInt8),p32 (0:Int),p16 b,p16 c,p16 e,p16 f,p16 g,p16 h,p16 i,p16 r8],pI m],[.box [pI a,pS ([]:List UInt8),p32 (0:Int),p16 b,p16 c,p16 e,p16 f,p16 g,p16 h,p16 i,p16 r8],.arr false 32 1 l10],s)):=
 (evE (fn:=ah9) (by kernel_rfl)).trans (a8 (by kernel_rfl) (Bj6 L (evC (L1 L) d) Y s (cd [1,1,0,1] T2) (PU L (evC (L1 L) d) Y s) (cd [1,1,1] T2) (QA L (evC (L1 L) d) Y s) raw0))
end
theorem C21{R:Type}{g:Int->Option R}(b:Int)(h:inR b 256=true):rhx LF b g=g (Ga (u8n b)):=by
 simp only[inR,o6,decide_eq_true_eq] at h;have j:b=((u8n b).toNat:Int):=by
  unfold u8n;simp;omega
 generalize u8n b=c at *;subst j;have i:=c.toNat_lt;unfold rhx;simp only[NV,NU,vl,Ga];rcases Dq c with⟨d,f,e⟩|⟨d,f,e⟩|⟨d,f,e⟩|⟨d,f,o,e⟩
 ·have a:A1 (wu8 ((c.toNat:Int)-48))=((dig c:Nat):Int):=by
   rw[N6,A7];omega
  rw[R0];simp (disch:=omega) only[B9,E6,b9,j2,cond_false,cond_true,a]
 ·have a:A1 (A1 (wu8 ((c.toNat:Int)-97))+10)=((dig c:Nat):Int):=by
   rw[N6,D1 (n:=(c.toNat:Int)-97) (by omega) (by omega),A7];omega
  rw[R0];simp (disch:=omega) only[B9,E6,b9,j2,cond_false,cond_true,a]
 ·have a:A1 (A1 (wu8 ((c.toNat:Int)-65))+10)=((dig c:Nat):Int):=by
   rw[N6,D1 (n:=(c.toNat:Int)-65) (by omega) (by omega),A7];omega
  rw[R0];simp (disch:=omega) only[B9,E6,b9,j2,cond_false,cond_true,a]
 ·rw[e,if_neg (by decide)];by_cases k:c.toNat<48
  ·simp (disch:=omega) only[B9,E6,b9,j2,cond_false,cond_true]
  ·by_cases l:c.toNat<65
   ·simp (disch:=omega) only[B9,E6,b9,j2,cond_false,cond_true]
   ·by_cases m:c.toNat<97
    ·simp (disch:=omega) only[B9,E6,b9,j2,cond_false,cond_true]
    ·simp (disch:=omega) only[B9,E6,b9,j2,cond_false,cond_true]
theorem Bj3(s:By)(Q:s.length<=1000000000):∀(m i n:Nat) (a:By),i<=s.length->s.length-i<=m->m<n->a.length<=i->
  (∀t,R8 (s.drop i)=some t->∀(R:Type) (c:LL->Option R) (d:LL->Option R),Q3 LF n s (i:Int) (a.map E4) c d=d ((a++t).map E4))/\
  (R8 (s.drop i)=none->∃l,∀(R:Type) (c:LL->Option R) (d:LL->Option R),Q3 LF n s (i:Int) (a.map E4) c d=c l):=by
 intro m
 induction m with
 | zero=>
  intro i n a K L M J;obtain⟨n,rfl⟩:∃m,n=m+1:=⟨n-1,by omega⟩
  rw[j5 (by omega)];refine⟨λt f R c d=>?_,λh=>(by cases h)⟩;simp only[R8,v7] at f;subst f;rw[Q3];rw[A6,ac3];rfl
 | succ m G=>
  intro i n a K L M J;obtain⟨n,rfl⟩:∃m,n=m+1:=⟨n-1,by omega⟩
  by_cases z:i<s.length
  ·have D:A1 ((i:Int)+1)=((i+1:Nat):Int):=by rw[A7];rfl
   have H:A1 ((i:Int)+2)=((i+2:Nat):Int):=by rw[A7];rfl
   have I:A1 (((i+2:Nat):Int)+1)=((i+3:Nat):Int):=by rw[A7];omega
   have F:A1 ((s.length:Int)-i)=((s.length-i:Nat):Int):=by rw[A7];omega
   have p:(a.map E4).length=a.length:=v8 _;have v:∀b:UInt8,a.map E4++[[SV.int .u8 (b.toNat:Int)]]=(a++[b]).map E4:=λb=>by rw[ac4];rfl
   have C:(((s.getD i 0).toNat:Int)!=37) = !(s.getD i 0==37):=congrArg _ (S6 _ 37 (by omega));rw[D6 s i z];by_cases g:s.getD i 0=37
   ·by_cases P:i+2<s.length
    ·rw[D6 s (i+1) (by omega),D6 s (i+1+1) (by omega),g,NL];obtain⟨A,B⟩:=G (i+3) n (a++[x9 (16*dig (s.getD (i+1) 0)+dig (s.getD (i+2) 0))]) (by omega) (by omega) (by omega) (by simp;omega);have top:∀(R:Type) (c:LL->Option R) (d:LL->Option R),Q3 LF (n+1) s (i:Int) (a.map E4) c d=cond (decide (dig (s.getD (i+1) 0)<16)&&decide (dig (s.getD (i+2) 0)<16)) (Q3 LF n s ((i+3:Nat):Int) ((a++[x9 (16*dig (s.getD (i+1) 0)+dig (s.getD (i+2) 0))]).map E4) c d) (c (a.map E4)):=by
      intro R c d;rw[Q3];rw[A9,F2,D4,C,g,p,H,F,D,F2,F2,D4,D4];simp only[vl];rw[E6 (show(3:Int)<=((s.length-i:Nat):Int) by omega)];simp only[cond_true,b9,cond_false,beq_self_eq_true,Ae8,Kf,Ak7,F9 (show a.length+1<=68719476736 by omega),I];generalize s.getD (i+1) 0=x at *;generalize s.getD (i+2) 0=y at *;by_cases N:dig x<16
      ·by_cases O:dig y<16
       ·have w1:Ga x=(dig x:Int):=by unfold Ga;rw[if_pos N]
        have T:Ga y=(dig y:Int):=by unfold Ga;rw[if_pos O]
        have U:A1 ((16:Int)*(dig x:Int))=((16*dig x:Nat):Int):=by rw[A7];omega
        have V:A1 (((16*dig x:Nat):Int)+(dig y:Int))=((16*dig x+dig y:Nat):Int):=by rw[A7];omega
        have W:wu8 ((16*dig x+dig y:Nat):Int)=((x9 (16*dig x+dig y)).toNat:Int):=by
         rw[N6];simp;omega
        grind
       grind
      grind
     by_cases o:dig (s.getD (i+1) 0)<16/\dig (s.getD (i+2) 0)<16
     ·rw[if_pos o];have w:(decide (dig (s.getD (i+1) 0)<16)&&decide (dig (s.getD (i+2) 0)<16))=true:=by rw[decide_eq_true o.1,decide_eq_true o.2];rfl
      refine⟨λt f R c d=>?_,λh=>?_⟩
      ·cases j:R8 (s.drop (i+3)) with
       | none=>rw[j] at f;cases f
       | some q=>
        rw[j] at f;simp only[ae7,v7] at f;subst f;rw[top,w,cond_true,A q j,x4];rfl
      ·cases j:R8 (s.drop (i+3)) with
       | some q=>rw[j] at h;cases h
       | none=>
        obtain⟨l,e⟩:=B j;exact⟨l,λR c d=>by rw[top,w,cond_true,e]⟩
     ·rw[if_neg o];have w:(decide (dig (s.getD (i+1) 0)<16)&&decide (dig (s.getD (i+2) 0)<16))=false:=by grind
      exact⟨λt h=>(by cases h),λ_=>⟨_,λR c d=>by rw[top,w,cond_false]⟩⟩
    ·have k:R8 (s.getD i 0::s.drop (i+1))=none:=by
      rw[g];cases o:s.drop (i+1) with
      | nil=>rfl
      | cons x r=>
       cases r with
       | nil=>rfl
       | cons y S=>
        exfalso;have:=congrArg j4 o;rw[j9,j8,j8] at this;omega
     rw[k];refine⟨λt h=>(by cases h),λ_=>⟨a.map E4,λR c d=>?_⟩⟩;rw[Q3];rw[A9,F2,D4,C,g,F];simp only[vl];rw[B9 (show((s.length-i:Nat):Int)<3 by omega)];rfl
   ·rw[Aa9 _ g];obtain⟨A,B⟩:=G (i+1) n (a++[s.getD i 0]) (by omega) (by omega) (by omega) (by simp;omega);have u:(s.getD i 0==37)=false:=by simpa using g
    have top:∀(R:Type) (c:LL->Option R) (d:LL->Option R),Q3 LF (n+1) s (i:Int) (a.map E4) c d=Q3 LF n s ((i+1:Nat):Int) ((a++[s.getD i 0]).map E4) c d:=by
     intro R c d;rw[Q3];rw[A9,F2,D4,C,u,p,F9 (by omega),D,v];rfl
    refine⟨λt f R c d=>?_,λh=>?_⟩
    ·cases j:R8 (s.drop (i+1)) with
     | none=>rw[j] at f;cases f
     | some q=>
      rw[j] at f;simp only[ae7,v7] at f;subst f;rw[top,A q j,x4];rfl
    ·cases j:R8 (s.drop (i+1)) with
     | some q=>rw[j] at h;cases h
     | none=>
      obtain⟨l,e⟩:=B j;exact⟨l,λR c d=>by rw[top,e]⟩
  ·rw[j5 (by omega)];refine⟨λt f R c d=>?_,λh=>(by cases h)⟩;simp only[R8,v7] at f;subst f;rw[Q3];rw[A6,ac3];rfl
theorem C13(s:By)(d:A3 s.length=true):∃r H,B20 LF s (λi j h=>rv (.tup [.s (.str i),.s (.bool j)]) [.arr true 5 1 h])=rv r H/\
  r.stab [0,0] H = .tup [.s (.str (Gh s)),.s (.bool (R8 s).isSome)]:=by
 have g:=L4 d;have f:=C5;obtain⟨b,c⟩:=Bj3 s g s.length 0 LF [] (by omega) (by omega) (by omega) (by simp);rw[o9] at b c;unfold Gh;cases a:R8 s with
 | none=>
  obtain⟨l,e⟩:=c a;exact⟨.tup [.s (.str []),.s (.bool false)],[.arr true 5 1 l],e _ _ _,rfl⟩
 | some t=>
  refine⟨.tup [.s (.str t),.s (.bool true)],[.arr true 5 1 (t.map E4)],?_,rfl⟩;unfold B20;refine a8 (b t a _ _ _) ?_;rw[y8,Y4,Z3];rfl
theorem Ce8{R:Type}{a b:Unit->Option R}(l:List By)(k:l.length<=1000000001)(h:∀x∈l,x.length<=1000000000):∀(r i n:Nat),i+r=l.length->r<n->
  Ny LF n (D2 l) (i:Int) a b=if (l.drop i).all K6 then b () else a ():=by
 intro r
 induction r with
 | zero=>
  intro i n e f;obtain⟨n,rfl⟩:∃m,n=m+1:=⟨n-1,by omega⟩
  rw[Ny];rw[E3,A6,j5 (by omega)];rfl
 | succ r j=>
  intro i n e f;obtain⟨n,rfl⟩:∃m,n=m+1:=⟨n-1,by omega⟩
  rw[Ny];have c:A1 ((i:Int)+1)=((i+1:Nat):Int):=by rw[A7];rfl
  have d:l.drop i=l.getD i []::l.drop (i+1):=by
   rw[o5,p7 (by omega),aa1,ad9]
  have g:(l.getD i []).length<=1000000000:=h _ (by
   rw[o5,p7 (by omega),aa1];exact ab2 _)
  rw[E3,A9,F2,b8,Q2 (by omega),U1,E7 g,d,ab6,c];simp only[cond_true];rw[j (i+1) n (by omega) (by omega)];cases K6 (l.getD i []) with
  | true=>rw[x6];rfl
  | false=>rfl
theorem Ce9{R:Type}{c:Bool->Option R}(s:By)(b:A3 s.length=true):Dn1 LF s c=c (U9 s):=by
 have k:=L4 b;have d:=C5;unfold Dn1;by_cases a:s=[]
 ·subst a;rfl
 ·have f:(s==([]:By))=false:=by simpa using a
  rw[f,cond_false];unfold U9;by_cases i:253<s.length
  ·rw[A9,show w8 s.length 253=false by rw[o8,ne_eq,p4];omega];rfl
  ·rw[A6,cond_false,b,cond_true,show w8 s.length 253=true by rw[p4];omega];cases j:F0 s with
   | true=>rfl
   | false=>
    rw[cond_false,cond_true];have g:=Jv 46 s;have e:=Hw 46 s;refine a8 (Ce8 (pcs 46 s) (by omega) (λx h=>by have:=(Cr h).2;omega) (pcs 46 s).length 0 LF (by omega) (by omega)) ?_;grind
theorem C20(j:Int)(i:By)(v4 a b c d e f g h:Int)(n:A3 i.length=true)(o:ltN v4 4294967296=true)(p:ok8 a b c d e f g h=true) :
  ∃r H,C18 LF j i v4 a b c d e f g h (λz q A t u v w x n8 y l m k=>rv (.s (.bool z)) [.box (Sy q A t u v w x n8 y l m),.arr false 32 1 k])=rv r H/\
   r.stab [] H = .s (.bool (J7 (mkH j i v4 (n8 a b c d e f g h)))):=Bz1 j i v4 a b c d e f g h n o p
theorem C17(j:Int)(i:By)(v4 a b c d e f g h:Int)(m:A3 i.length=true)(n:ltN v4 4294967296=true)(o:ok8 a b c d e f g h=true) :
  ∃r H,C15 LF j i v4 a b c d e f g h (λy p z q t u v w n8 x k l=>rv (.s (.str y)) [.box (Sy p z q t u v w n8 x k l)])=rv r H/\
   r.stab [] H = .s (.str (P0 (mkH j i v4 (n8 a b c d e f g h)))):=Bz0 j i v4 a b c d e f g h m n o
theorem Dp8(p s:By):p.isSuffixOf s=(w8 p.length s.length&&s.drop (s.length-p.length)==p):=by
 rw[p5,List.isSuffixOf_iff_suffix,o6,p4,beq_iff_eq];constructor
 ·rintro⟨t,rfl⟩;simp_all
 ·rintro⟨b,a⟩;rw[<-a];exact List.drop_suffix _ _
theorem Bj2{R:Type}{c:Bool->Option R}(p s:By)(a:A3 p.length=true)(b:A3 s.length=true):B19 LF p s c=c (Cm p s):=by
 have e:=L4 a;have f:=L4 b;unfold B19 Cm;rw[a,b,G3 (by omega)];cases U9 p with
 | false=>rfl
 | true=>
  cases U9 s with
  | false=>rfl
  | true=>
   simp only[b9,cond_false,cond_true,x6];cases (p==s) with
   | true=>rfl
   | false=>
    rw[Dp8,j8];by_cases h:p.length<s.length
    ·have d:A1 (A1 ((s.length:Int)-p.length)-1)=((s.length-(p.length+1):Nat):Int):=by
      rw[D1 (n:=(s.length:Int)-p.length) (by omega) (by omega),A7];omega
     rw[A9];simp only[vl,cond_true,cond_false];rw[d,I4,Q6,b8,show w8 (p.length+1) s.length=true by rw[p4];omega];rfl
    ·rw[A6,show w8 (p.length+1) s.length=false by rw[o8,ne_eq,p4];omega];rfl
def jn:Nat->By->List By->By
 | _,name,[]=>name
 | 0,name,x::r=>jn 1 (name++x) r
 | i+1,name,x::r=>jn (i+2) (name++[46]++x) r
theorem Bz5:∀(l:List By) (i:Nat) (name:By),jn (i+1) name l=name++ag0 [46] l
 | [],i,name=>by simp[jn,ag0]
 | x::r,i,name=>by
  rw[jn,Bz5 r];simp[ag0]
theorem Dh9(l:List By):jn 0 [] l=ae9 l [46]:=by
 cases l with
 | nil=>rfl
 | cons x r=>rw[jn,Bz5,Lib.join_cons,y8]
theorem C59{x:By}(h:(I6 x).2=0):(I6 x).1.length<=63:=by
 have a:F7 [x]=([(I6 x).1],0):=by simp[F7,h]
 have:=(Lc [x] (by rw[a])).1 (I6 x).1 (by rw[a];simp);exact(Cf this).le
theorem Ac2(e:List By)(C:e.length<=1000000)(D:∀x∈e,x.length<=1000000000):∀(c:List By) (i n:Nat) (name:By),e.drop i=c->i+c.length=e.length->c.length<n->name.length<=64*i->
  ((F7 c).2=0->∀(R:Type) (a:Int->Option R) (b:By->Option R),K2 LF n name (D2 e) (i:Int) a b=b (jn i name (F7 c).1))/\
  ((F7 c).2≠0->∀(R:Type) (a:Int->Option R) (b:By->Option R),K2 LF n name (D2 e) (i:Int) a b=a ((F7 c).2:Nat)):=by
 intro c
 induction c with
 | nil=>
  intro i n name p q y t;obtain⟨n,rfl⟩:∃m,n=m+1:=⟨n-1,by omega⟩
  simp only[p6] at q;refine⟨λ_ R a b=>?_,λh=>absurd rfl h⟩;rw[K2];rw[E3,A6];simp only[F7,jn];rfl
 | cons x r z=>
  intro i n name p q y t;simp only[j8] at q y;obtain⟨n,rfl⟩:∃m,n=m+1:=⟨n-1,by omega⟩
  have A:A1 ((i:Int)+1)=((i+1:Nat):Int):=by rw[A7];rfl
  have k:e.getD i []=x:=by
   have:=congrArg (λl=>l.getD 0 []) p;simpa[o5,List.getElem?_drop] using this
  have g:e.drop (i+1)=r:=by
   rw[<-aa7,p];rfl
  have u:x.length<=1000000000:=D x (by
   rw[<-k,o5,p7 (by omega),aa1];exact ab2 _)
  have top:∀(R:Type) (a:Int->Option R) (b:By->Option R),K2 LF (n+1) name (D2 e) (i:Int) a b=cond (((I6 x).2:Int)!=0) (a ((I6 x).2:Nat)) (cond (ltI 0 (i:Int)) (cond (E8 name.length 1) (cond (E8 (name++[46]).length (I6 x).1.length) (K2 LF n (name++[46]++(I6 x).1) (D2 e) ((i+1:Nat):Int) a b) none) none) (cond (E8 name.length (I6 x).1.length) (K2 LF n (name++(I6 x).1) (D2 e) ((i+1:Nat):Int) a b) none)):=by
   intro R a b;rw[K2];rw[E3,A9,F2,b8,Q2 (by omega),U1,k,E7 u,A];rfl
  unfold F7;by_cases h:(I6 x).2=0
  ·rw[if_pos h];have B:=C59 h;have o:(((I6 x).2:Int)!=0)=false:=by rw[h];rfl
   cases i with
   | zero=>
    obtain⟨v,w⟩:=z 1 n (name++(I6 x).1) g (by omega) (by omega) (by rw[j6];omega);have d:∀(R:Type) (a:Int->Option R) (b:By->Option R),K2 LF (n+1) name (D2 e) ((0:Nat):Int) a b=K2 LF n (name++(I6 x).1) (D2 e) ((1:Nat):Int) a b:=by
     intro R a b;rw[top,o,A6,G3 (m:=name.length) (n:=(I6 x).1.length) (by omega)];rfl
    exact⟨λf R a b=>(d R a b).trans (v f R a b),λf R a b=>(d R a b).trans (w f R a b)⟩
   | succ j=>
    obtain⟨v,w⟩:=z (j+2) n (name++[46]++(I6 x).1) g (by omega) (by omega) (by rw[j6,j6,x3];omega);have d:∀(R:Type) (a:Int->Option R) (b:By->Option R),K2 LF (n+1) name (D2 e) ((j+1:Nat):Int) a b=K2 LF n (name++[46]++(I6 x).1) (D2 e) ((j+2:Nat):Int) a b:=by
     intro R a b;rw[top,o,A9,G3 (by omega),G3 (by rw[j6,x3];omega)];rfl
    exact⟨λf R a b=>(d R a b).trans (v f R a b),λf R a b=>(d R a b).trans (w f R a b)⟩
  ·rw[if_neg h];have o:(((I6 x).2:Int)!=0)=true:=by simpa using h
   exact⟨λf=>absurd f h,λ_ R a b=>by rw[top,o,cond_true]⟩
theorem PX{R:Type}{b:Int->Int->By->Int->Option R}(u:By)(q:u.length<=1024):Ef LF u b =
  if F0 u then (match pnB u with
   | some v=>b 0 2 [] (v:Nat)
   | none=>b 14 0 [] 0)
  else if (F7 (pcs 46 u)).2=0 then (
   if 253<(ae9 (F7 (pcs 46 u)).1 [46]).length then b 3 0 [] 0 else if F0 (ae9 (F7 (pcs 46 u)).1 [46]) then b 14 0 [] 0 else b 0 1 (ae9 (F7 (pcs 46 u)).1 [46]) 0)
  else b ((F7 (pcs 46 u)).2:Nat) 0 [] 0:=by
 have h:=C5;unfold Ef;rw[J9,cond_true];cases o:F0 u with
 | true=>
  rw[if_pos rfl,cond_true,cond_true];cases p:pnB u with
  | none=>rfl
  | some v=>rfl
 | false=>
  rw[if_neg (by simp),cond_false,cond_true];have l:=Jv 46 u;have i:=Hw 46 u;obtain⟨f,m⟩:=Ac2 (pcs 46 u) (by omega) (λx d=>by have:=(Cr d).2;omega) (pcs 46 u) 0 LF [] (o9) (by omega) (by omega) (by simp);rw[Dh9] at f;by_cases c:(F7 (pcs 46 u)).2=0
  ·rw[if_pos c];refine a8 (f c _ _ _) ?_;obtain⟨g,n⟩:=Lc _ c;have j:=ZM [46] 63 (F7 (pcs 46 u)).1 (λx d=>(Cf (g x d)).le);have e:(63+([46]:By).length)*(F7 (pcs 46 u)).1.length<=64*1025:=ah6 (by simp) (by omega);generalize ae9 (F7 (pcs 46 u)).1 [46]=name at *;by_cases a:253<name.length
   ·rw[if_pos a,A9,cond_true]
   ·rw[if_neg a,A6,cond_false,J9,cond_true];cases k:F0 name with
    | true=>rfl
    | false=>rfl
  ·rw[if_neg c];exact m c _ _ _
abbrev D26:Int->By->Int->Int->Int->By->Int->Option (PV × List Blk × Unit):=λc d e f a g b=>rv (.tup [.agg (Sy c d e 0 0 0 0 0 0 0 0),.s (.int .i64 f)]) [.box (Sy a g b 0 0 0 0 0 0 0 0)]
abbrev Ec6:Int->Int->Int->Int->Int->Int->Int->Int->Int->Int->LL->Option (PV × List Blk × Unit):=λa b c d e f g h r8 i l10=>rv (.tup [.agg (Sy a [] 0 b c d e f g h r8),.s (.int .i64 i)]) [.box (Sy a [] 0 b c d e f g h r8),.arr false 32 1 l10]
theorem Ae4{t:By}(h:t≠[])(a:t.getD (t.length-1) 0=46):G8 t=t.take (t.length-1):=by unfold G8;rw[if_pos ((HD t 46 h).2 a),List.dropLast_eq_take]
theorem Ay9{t:By}(h:t≠[])(a:¬t.getD (t.length-1) 0=46):G8 t=t:=by unfold G8;grind
theorem Tm(s:By)(x:s.length<=1024)(j:s.head?≠some 91):∃r H,Eg LF s (λh b d c=>D26 b d c h b d c)=rv r H/\r.stab [0,0] H = .tup [EY (C4 s).1,.s (.int .i64 ((C4 s).2:Nat))]:=by
 have l:=C5;unfold Eg;rw[J9,cond_true];cases i:R8 s with
 | none=>
  have e:C4 s=(L9,14):=by unfold C4;rw[G1,if_neg j,i]
  rw[e];exact⟨_,_,rfl,rfl⟩
 | some t=>
  have p:t.length<=s.length:=HL s t i;have q:Gh s=t:=by unfold Gh;rw[i];rfl
  have o:(G8 t).length<=t.length:=by unfold G8;split<;>simp
  have m:C4 s=if F0 (G8 t) then (match pnB (G8 t) with
      | some v=>(⟨2,[],v,z8⟩,0)
      | none=>(L9,14))
     else if (F7 (pcs 46 (G8 t))).2=0 then (
      let name:=ae9 (F7 (pcs 46 (G8 t))).1 [46]
      if 253<name.length then (L9,3) else if F0 name then (L9,14) else (⟨1,name,0,z8⟩,0))
     else (L9,(F7 (pcs 46 (G8 t))).2):=by
   unfold C4;rw[G1,if_neg j,i];rfl
  have f:∃r H,Ef LF (G8 t) (λh b d c=>D26 b d c h b d c)=rv r H/\r.stab [0,0] H = .tup [EY (C4 s).1,.s (.int .i64 ((C4 s).2:Nat))]:=by
   rw[PX _ (by omega),m];split
   ·split<;>exact⟨_,_,rfl,rfl⟩
   ·split
    ·simp only;split
     ·exact⟨_,_,rfl,rfl⟩
     ·split<;>exact⟨_,_,rfl,rfl⟩
    ·exact⟨_,_,rfl,rfl⟩
  rw[q];simp only[af8,b9,cond_false];by_cases a:t=[]
  ·subst a;exact f
  ·have w:0<t.length:=aa2.2 a;have n:(t==([]:By))=false:=by simpa using a
   have k:A1 ((t.length:Int)-1)=((t.length-1:Nat):Int):=by rw[A7];omega
   have u:(((t.getD (t.length-1) 0).toNat:Int)==46)=(t.getD (t.length-1) 0==46):=S6 _ 46 (by omega);rw[n,k];simp only[j2,cond_true,vl];rw[F2,D4,u,cond_true];by_cases g:t.getD (t.length-1) 0=46
   ·rw[g,beq_self_eq_true,cond_true,I4,cond_true,L2,b8,<-Ae4 a g];exact f
   ·rw[show(t.getD (t.length-1) 0==46)=false by simpa using g,cond_false];rw[Ay9 a g] at f;exact f
theorem Bj8(s:By)(k:A3 s.length=true):∃r H,Zf LF s D26 Ec6=rv r H/\r.stab [0,0] H = .tup [EY (C4 s).1,.s (.int .i64 ((C4 s).2:Nat))]:=by
 have u:=L4 k;have l:=C5;unfold Zf;by_cases i:1024<s.length
 ·have e:C4 s=(L9,3):=by unfold C4;rw[if_pos i]
  rw[e,A9,cond_true];exact⟨_,_,rfl,rfl⟩
 ·rw[A6,cond_false];by_cases c:s=[]
  ·subst c;exact Tm [] (by simp) (by simp)
  ·have q:0<s.length:=aa2.2 c;have m:(s==([]:By))=false:=by simpa using c
   have o:(bAt s 0==(91:Int))=(s.getD 0 0==91):=by rw[Ay];exact S6 _ 91 (by omega)
   have g:s.head? = some (s.getD 0 0):=by
    cases s with
    | nil=>exact absurd rfl c
    | cons b t=>rfl
   rw[m,j2,cond_true,F2,cond_true,o];by_cases f:s.getD 0 0=91
   ·have e:C4 s=Q9 s:=by unfold C4 Q9;rw[if_neg i,if_pos (by rw[g,f])]<;>rfl
    have j:A1 ((s.length:Int)-1)=((s.length-1:Nat):Int):=by rw[A7];omega
    have p:(((s.getD (s.length-1) 0).toNat:Int)!=93) = !(s.getD (s.length-1) 0==93):=congrArg _ (S6 _ 93 (by omega));rw[e,f,beq_self_eq_true];unfold Im Q9;simp only[vl,j,cond_true];rw[F2,D4,p,cond_true];by_cases d:s.getD (s.length-1) 0=93
    ·have f:2<=s.length:=by grind
     rw[if_pos ⟨(HD s 93 c).2 d,f⟩,d,beq_self_eq_true,b9,cond_false,A6,cond_false,show(1:Int)=((1:Nat):Int) from rfl,I4,cond_true,Fz];have n:((s.take (s.length-1)).drop 1).length<=s.length:=by rw[j9,o7];omega
     rw[J9,cond_true];unfold v6c;cases v:v6B ((s.take (s.length-1)).drop 1) with
     | none=>exact⟨_,_,rfl,rfl⟩
     | some a=>exact⟨_,_,rfl,rfl⟩
    ·rw[if_neg (λh=>d ((HD s 93 c).1 h.1)),show(s.getD (s.length-1) 0==93)=false by simpa using d];exact⟨_,_,rfl,rfl⟩
   ·rw[show(s.getD 0 0==91)=false by simpa using f];exact Tm s (by omega) (by rw[g];simpa using f)
end
end Go.Proofs.YtkegcjamihlmmaaGreatDoor.E
