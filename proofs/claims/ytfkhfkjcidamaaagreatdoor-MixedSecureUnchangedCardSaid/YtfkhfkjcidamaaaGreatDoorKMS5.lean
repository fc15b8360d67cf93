/-
  Parts of the proof, merged by a program of the prover's own; no condition.
-/
import Derived.Test.YtfkhfkjcidamaaaGreatDoorKMS4
import Derived.BigQuiet
import Derived.Deep.QuietTactic
import Derived.LaidMore
import Derived.LaidSub
import Derived.Laws.Runes
import Derived.Lay
import Derived.Lib.IndexAny
import Derived.Lib.MapLaws
import Derived.OpenShut
import Derived.ProofKit
import Derived.Shelf.Abstract
import Derived.Shelf.Vars
import Derived.Test.YtfkhfkjcidamaaaGreatDoorChecked
import Derived.Test.YtfkhfkjcidamaaaGreatDoorProg
import Derived.Test.YtfkhfkjcidamaaaGreatDoorRows
import Derived.WalkKit
import Derived.WideMake
open Go.Proofs.Tryz renaming prog->a8,underlying125->ab5,func124->ac7,underlying9->ad1,ntmps124->ae8,checked->ah7,underlying55->ah8,f115->ai4,f119->ai5,f121->ai6,f159->ai7,f196->ai8,f165->ak2,f82->al2,func84->al3
open List renaming length->b8,getD->b9,length_cons->j0,length_append->j2,length_drop->j4,length_take->j7,length_singleton->j9,mem_cons->p4,drop_of_length_le->p5,size_toArray->p7,isPrefixOf->p9,length_nil->v7,getElem?_append_right->w8,toArray->w9,mem_of_mem_drop->x5,mem_append->x8,getElem?_take_of_lt->aa0,getElem?_cons_zero->aa1,getElem?_take->aa3,getElem?_toArray->aa4,drop_zero->aa6,take_left->aa7,getElem?_append_left->aa9,getD_cons_zero->ab0,nil_append->ab3,mem_singleton->ab4,getElem?_cons_succ->ab7,length_eq_zero_iff->ab8,append_assoc->ac4,take_of_length_le->ac5,not_mem_nil->ac9,mem_of_mem_take->ad2,append_nil->ad3,drop_succ_cons->ad5,takeWhile_cons->ad6,getElem?_eq_some_iff->ae3,getElem?_eq_getElem->ae7,cons_append->af0,isEmpty_iff->af1,drop_left'->af5,getElem?_eq_none->af6,drop_left->ag0,getD_cons_succ->ag3,getElem?_range->ag4,length_pos_iff->ag5,map_cons->ag8,getElem?_drop->ag9,getElem?_map->ah3,all_eq_true->ai2,length_map->aj1,all_cons->aj7,drop->ak1,all_map->ak6,map_map->ak7,map_nil->ak8
open Bool renaming not_true->j1,not_false->o0,false_eq_true->o6,and_eq_true->o8,eq_iff_iff->p6,eq_false_iff->y8,or_eq_true->ab2,not_eq_true'->ac1,and_true->ag6,not_eq_true->ai0,false_or->aj6,or_self->ak3
open Int renaming toNat_natCast->j5,eq_ofNat_of_zero_le->x7
open Option.some renaming injEq->j6,inj->j8
open Go.Value renaming int->k9
open Go.Lib renaming indexByte->o5,cut->x4,decodeL->aa5,indexAny->aa8,tabData->ab6,VarReads->ac2,decDigits->ae6,acceptData->af8,join->af9,deBruijn64tab->ah2,indexByte_ge->ai1,size_eq->ai9,firstTab->ak4,pow10Tab->ak5
open Eq renaming trans->o7
open Exists renaming intro->o9
open Nat renaming le_refl->v8,ble->y5,eq_of_beq_eq_true->y7,mul_one->y9,zero_le->aa2,le_of_ble_eq_true->ac8,ble_eq->ad0,zero_add->ad9,ble_eq_true_of_le->af7,sub_self->ah4,strongRecOn->aj2,add_zero->ak9,beq->al0
open UInt8 renaming ofNat->w6,toNat_inj->ad4
open Option renaming map_some->x3,bind_some->af2,getD_some->ai3,isSome->aj9
open Go.Utf8 renaming decode->x6,encode->ab9
open Array renaming length_toList->x9,getElem?_eq_none->ac0,getElem?_append_left->ae0,getElem?_eq_some_iff->ae1,getElem?_eq_getElem->ae2,size_append->ah0,toList_push->ah1,toList_inj->ah9,size_push->aj0
open Go.World renaming laidAll->ab1,cell?->ae5,frozen?->ae9,shape?->af3
open Go.Lib.laidMet renaming reads->ac3
open Go.MapKept renaming run_getObj_map->ac6,run_findKey->ad7,run_checkKey->ag1,IsKey->aj8
open Go.Instr renaming lookup->ad8,mapUpdate->af4,findNow->ag7,checkKey->aj4
open Go.MakeChecks renaming laidMetH_plain->ae4
open Go.Result renaming andThen->ag2
open Ne renaming symm->ah5
open Go.RowKit.Below renaming refl->ah6
open Go.DataW renaming trod->aj3
open Prod.mk renaming injEq->ak0
namespace Go.Proofs.YtfkhfkjcidamaaaGreatDoor.E
set_option linter.all false
section
open Go Go.Proofs
theorem B25{R:Type}{g:Int->Option R}(b:Int)(h:inR b 256=true):Co9 LF b g=g (Fq (u8n b)):=by
 simp only[inR,o8,decide_eq_true_eq] at h;have j:b=((u8n b).toNat:Int):=by
  unfold u8n;simp;omega
 generalize u8n b=c at *;subst j;have i:=c.toNat_lt;unfold Co9;simp only[Xg,Xf,vl,Fq];rcases Dm c with⟨d,f,e⟩|⟨d,f,e⟩|⟨d,f,e⟩|⟨d,f,o,e⟩
 ·have a:A1 (wu8 ((c.toNat:Int)-48))=((dig c:Nat):Int):=by
   rw[N1,A7];omega
  rw[Q5];simp (disch:=omega) only[B9,E6,j1,o0,cond_false,cond_true,a]
 ·have a:A1 (A1 (wu8 ((c.toNat:Int)-97))+10)=((dig c:Nat):Int):=by
   rw[N1,D1 (n:=(c.toNat:Int)-97) (by omega) (by omega),A7];omega
  rw[Q5];simp (disch:=omega) only[B9,E6,j1,o0,cond_false,cond_true,a]
 ·have a:A1 (A1 (wu8 ((c.toNat:Int)-65))+10)=((dig c:Nat):Int):=by
   rw[N1,D1 (n:=(c.toNat:Int)-65) (by omega) (by omega),A7];omega
  rw[Q5];simp (disch:=omega) only[B9,E6,j1,o0,cond_false,cond_true,a]
 ·rw[e,if_neg (by decide)];by_cases k:c.toNat<48
  ·simp (disch:=omega) only[B9,E6,j1,o0,cond_false,cond_true]
  ·by_cases l:c.toNat<65
   ·simp (disch:=omega) only[B9,E6,j1,o0,cond_false,cond_true]
   ·by_cases m:c.toNat<97
    ·simp (disch:=omega) only[B9,E6,j1,o0,cond_false,cond_true]
    ·simp (disch:=omega) only[B9,E6,j1,o0,cond_false,cond_true]
theorem YV{b:UInt8}(r:By)(h:b≠37):R2 (b::r)=(R2 r).map (b::·):=by
 conv=>lhs;unfold R2
 grind
theorem MH(x y:UInt8)(r:By):R2 (37::x::y::r)=if dig x<16/\dig y<16 then (R2 r).map (w6 (16*dig x+dig y)::·) else none:=by
 conv=>lhs;unfold R2
 grind
theorem Ag2(x:UInt8):ltI (Fq x) 0 = !(decide (dig x<16)):=by
 unfold Fq;by_cases h:dig x<16
 ·simp_all
 ·rw[if_neg h,A8,decide_eq_false h];rfl
theorem GM:∀(s t:By),R2 s=some t->t.length<=s.length
 | [],t,h=>by simp only[R2,j6] at h;subst h;exact v8 _
 | b::r,t,h=>by
  by_cases c:b=37
  ·subst c
   match r,h with
   | [],h=>cases h
   | [x],h=>cases h
   | x::y::d,h=>
    rw[MH] at h;split at h
    ·cases a:R2 d with
     | none=>rw[a] at h;cases h
     | some q=>
      rw[a] at h;simp only[x3,j6] at h;subst h;have:=GM d q a;simp only[j0];omega
    ·cases h
  ·rw[YV _ c] at h;cases a:R2 r with
   | none=>rw[a] at h;cases h
   | some q=>
    rw[a] at h;simp only[x3,j6] at h;subst h;have:=GM r q a;grind
theorem B24(s:By)(P:s.length<=1000000000):∀(m i n:Nat) (a:By),i<=s.length->s.length-i<=m->m<n->a.length<=i->
  (∀t,R2 (s.drop i)=some t->∀(R:Type) (c:LL->Option R) (d:LL->Option R),U0 LF n s (i:Int) (a.map E2) c d=d ((a++t).map E2))/\
  (R2 (s.drop i)=none->∃l,∀(R:Type) (c:LL->Option R) (d:LL->Option R),U0 LF n s (i:Int) (a.map E2) c d=c l):=by
 intro m
 induction m with
 | zero=>
  intro i n a J K L I;obtain⟨n,rfl⟩:∃m,n=m+1:=⟨n-1,by omega⟩
  rw[p5 (by omega)];refine⟨λt f R c d=>?_,λh=>(by cases h)⟩;simp only[R2,j6] at f;subst f;rw[U0];rw[A6,ad3];rfl
 | succ m G=>
  intro i n a J K L I;obtain⟨n,rfl⟩:∃m,n=m+1:=⟨n-1,by omega⟩
  by_cases z:i<s.length
  ·have D:A1 ((i:Int)+1)=((i+1:Nat):Int):=by rw[A7];rfl
   have F:A1 ((i:Int)+2)=((i+2:Nat):Int):=by rw[A7];rfl
   have H:A1 (((i+2:Nat):Int)+1)=((i+3:Nat):Int):=by rw[A7];omega
   have p:(a.map E2).length=a.length:=aj1 _;have v:∀b:UInt8,a.map E2++[[SV.int .u8 (b.toNat:Int)]]=(a++[b]).map E2:=λb=>by rw[List.map_append];rfl
   have C:(((s.getD i 0).toNat:Int)!=37) = !(s.getD i 0==37):=congrArg _ (R4 _ 37 (by omega));rw[D6 s i z];by_cases g:s.getD i 0=37
   ·by_cases O:i+2<s.length
    ·rw[D6 s (i+1) (by omega),D6 s (i+1+1) (by omega),g,MH];obtain⟨A,B⟩:=G (i+3) n (a++[w6 (16*dig (s.getD (i+1) 0)+dig (s.getD (i+2) 0))]) (by omega) (by omega) (by omega) (by simp;omega);have top:∀(R:Type) (c:LL->Option R) (d:LL->Option R),U0 LF (n+1) s (i:Int) (a.map E2) c d=cond (decide (dig (s.getD (i+1) 0)<16)&&decide (dig (s.getD (i+2) 0)<16)) (U0 LF n s ((i+3:Nat):Int) ((a++[w6 (16*dig (s.getD (i+1) 0)+dig (s.getD (i+2) 0))]).map E2) c d) (c (a.map E2)):=by
      intro R c d;rw[U0];rw[A8,F1,D3,C,g,p,F,A8,D,F1,F1,D3,D3];simp only[cond_true,vl,j1,cond_false,beq_self_eq_true,Aa8,Jr,Ag2,F7 (show a.length+1<=68719476736 by omega),H];generalize s.getD (i+1) 0=x at *;generalize s.getD (i+2) 0=y at *;by_cases M:dig x<16
      ·by_cases N:dig y<16
       ·have w1:Fq x=(dig x:Int):=by unfold Fq;rw[if_pos M]
        have S:Fq y=(dig y:Int):=by unfold Fq;rw[if_pos N]
        have T:A1 ((16:Int)*(dig x:Int))=((16*dig x:Nat):Int):=by rw[A7];omega
        have U:A1 (((16*dig x:Nat):Int)+(dig y:Int))=((16*dig x+dig y:Nat):Int):=by rw[A7];omega
        have V:wu8 ((16*dig x+dig y:Nat):Int)=((w6 (16*dig x+dig y)).toNat:Int):=by
         rw[N1];simp;omega
        grind
       grind
      grind
     by_cases o:dig (s.getD (i+1) 0)<16/\dig (s.getD (i+2) 0)<16
     ·rw[if_pos o];have w:(decide (dig (s.getD (i+1) 0)<16)&&decide (dig (s.getD (i+2) 0)<16))=true:=by rw[decide_eq_true o.1,decide_eq_true o.2];rfl
      refine⟨λt f R c d=>?_,λh=>?_⟩
      ·cases j:R2 (s.drop (i+3)) with
       | none=>rw[show i+1+1+1=i+3 from rfl,j] at f;cases f
       | some q=>
        rw[show i+1+1+1=i+3 from rfl,j] at f;simp only[x3,j6] at f;subst f;rw[top,w,cond_true,A q j,ac4];rfl
      ·cases j:R2 (s.drop (i+3)) with
       | some q=>rw[show i+1+1+1=i+3 from rfl,j] at h;cases h
       | none=>
        obtain⟨l,e⟩:=B j;exact⟨l,λR c d=>by rw[top,w,cond_true,e]⟩
     ·rw[if_neg o];have w:(decide (dig (s.getD (i+1) 0)<16)&&decide (dig (s.getD (i+2) 0)<16))=false:=by grind
      exact⟨λt h=>(by cases h),λ_=>⟨_,λR c d=>by rw[top,w,cond_false]⟩⟩
    ·have k:R2 (s.getD i 0::s.drop (i+1))=none:=by
      rw[g];cases o:s.drop (i+1) with
      | nil=>rfl
      | cons x r=>
       cases r with
       | nil=>rfl
       | cons y Q=>
        exfalso;have:=congrArg b8 o;rw[j4,j0,j0] at this;omega
     rw[k];refine⟨λt h=>(by cases h),λ_=>⟨a.map E2,λR c d=>?_⟩⟩;rw[U0];rw[A8,F1,D3,C,g,F,A6];rfl
   ·rw[YV _ g];obtain⟨A,B⟩:=G (i+1) n (a++[s.getD i 0]) (by omega) (by omega) (by omega) (by simp;omega);have u:(s.getD i 0==37)=false:=by simpa using g
    have top:∀(R:Type) (c:LL->Option R) (d:LL->Option R),U0 LF (n+1) s (i:Int) (a.map E2) c d=U0 LF n s ((i+1:Nat):Int) ((a++[s.getD i 0]).map E2) c d:=by
     intro R c d;rw[U0];rw[A8,F1,D3,C,u,p,F7 (by omega),D,v];rfl
    refine⟨λt f R c d=>?_,λh=>?_⟩
    ·cases j:R2 (s.drop (i+1)) with
     | none=>rw[j] at f;cases f
     | some q=>
      rw[j] at f;simp only[x3,j6] at f;subst f;rw[top,A q j,ac4];rfl
    ·cases j:R2 (s.drop (i+1)) with
     | some q=>rw[j] at h;cases h
     | none=>
      obtain⟨l,e⟩:=B j;exact⟨l,λR c d=>by rw[top,e]⟩
  ·rw[p5 (by omega)];refine⟨λt f R c d=>?_,λh=>(by cases h)⟩;simp only[R2,j6] at f;subst f;rw[U0];rw[A6,ad3];rfl
theorem Da6(s:By)(f:A3 s.length=true):∃r H,Co8 LF s (λj k i=>rv (.tup [.s (.str j),.s (.bool k)]) [.arr false 5 1 i])=rv r H/\
  r.stab [0,0] H = .tup [.s (.str (Fx s)),.s (.bool (R2 s).isSome)]:=by
 have h:=M5 f;have g:=C5;have a:((decide ((0:Int)<=(s.length:Int)))&&(G1 (Int.toNat (s.length:Int))))=true:=by
  rw[j5,F7 (by omega),decide_eq_true (by omega)];rfl
 obtain⟨c,d⟩:=B24 s h s.length 0 LF [] (by omega) (by omega) (by omega) (by simp);rw[aa6] at c d;unfold Fx;cases b:R2 s with
 | none=>
  obtain⟨l,e⟩:=d b;refine⟨.tup [.s (.str []),.s (.bool false)],[.arr false 5 1 l],?_,rfl⟩;unfold Co8;rw[a,cond_true];exact e _ _ _
 | some t=>
  refine⟨.tup [.s (.str t),.s (.bool true)],[.arr false 5 1 (t.map E2)],?_,rfl⟩;unfold Co8;rw[a,cond_true];refine o7 (c t b _ _ _) ?_;rw[ab3,Y2,Z1];rfl
abbrev Sj(i:Int)(j:By)(v4 a b c d e f g h:Int):List PV:=[.s (.int .i64 i),.s (.str j),.s (.int .u32 v4),.s (.int .u16 a),.s (.int .u16 b),.s (.int .u16 c),.s (.int .u16 d),.s (.int .u16 e),.s (.int .u16 f),.s (.int .u16 g),.s (.int .u16 h)]
def ED(h:B4):PV:=.agg [.s (.int .i64 (h.kind:Nat)),.s (.str h.name),.s (.int .u32 (h.v4:Nat)),.s (.int .u16 (h.v6.getD 0 0:Nat)),.s (.int .u16 (h.v6.getD 1 0:Nat)),.s (.int .u16 (h.v6.getD 2 0:Nat)),.s (.int .u16 (h.v6.getD 3 0:Nat)),.s (.int .u16 (h.v6.getD 4 0:Nat)),.s (.int .u16 (h.v6.getD 5 0:Nat)),.s (.int .u16 (h.v6.getD 6 0:Nat)),.s (.int .u16 (h.v6.getD 7 0:Nat))]
abbrev D64:Int->Int->Int->Int->Int->Int->Int->Int->Int->Int->Int->LL->Option (PV × List Blk × Unit):=λj c d e f g h i r8 k b a=>rv (.tup [.agg (Sj j [] 0 c d e f g h i r8),.s (.int .i64 k)]) [.box (Sj b [] 0 c d e f g h i r8),.arr false 26 1 a]
abbrev D33:Unit->Option (PV × List Blk × Unit):=λ_=>rv (.tup [.agg (Sj 0 [] 0 0 0 0 0 0 0 0 0),.s (.int .i64 14)]) [.box (Sj 0 [] 0 0 0 0 0 0 0 0 0)]
theorem GG(s:By)(c:UInt8)(h:s≠[]):(s.getLast? = some c)↔s.getD (s.length-1) 0=c:=by have:0<s.length:=ag5.2 h;grind
theorem Co7(s:By)(g:A3 s.length=true)(e:Cp7 s=true):∃r H,Bt6 LF s D64 D33=rv r H/\r.stab [0,0] H = .tup [ED (Q4 s).1,.s (.int .i64 ((Q4 s).2:Nat))]:=by
 have m:=M5 g;have c:s≠[]:=by rintro rfl;cases e
 have l:0<s.length:=ag5.2 c;have i:s.getD 0 0=91:=by
  cases s with
  | nil=>exact absurd rfl c
  | cons b t=>
   simp only[Cp7,p9,ag6,beq_iff_eq] at e;grind
 have f:A1 ((s.length:Int)-1)=((s.length-1:Nat):Int):=by rw[A7];omega
 have k:(((s.getD (s.length-1) 0).toNat:Int)==93)=(s.getD (s.length-1) 0==93):=R4 _ 93 (by omega);have bad:∃r H,D33 ()=rv r H/\r.stab [0,0] H = .tup [ED L7,.s (.int .i64 14)]:=⟨_,_,rfl,rfl⟩
 unfold Bt6 Q4;simp only[vl,f];rw[F1,D3,k,cond_true];by_cases d:s.getD (s.length-1) 0=93
 ·have h:2<=s.length:=by grind
  rw[if_pos ⟨(GG s 93 c).2 d,h⟩,d,beq_self_eq_true,cond_true,show(1:Int)=((1:Nat):Int) from rfl,I8,cond_true,Fp];have j:((s.take (s.length-1)).drop 1).length<=s.length:=by rw[j4,j7];omega
  rw[J8,cond_true];unfold v6c;cases n:v6B ((s.take (s.length-1)).drop 1) with
  | none=>exact⟨_,_,rfl,rfl⟩
  | some a=>exact⟨_,_,rfl,rfl⟩
 grind
theorem Cz3(l:List By)(i:Nat)(y:By)(h:i<l.length):List.set (D5 l) i (G3 ((D5 l).getD i []) 0 [SV.str y])=D5 (l.set i y):=by
 have e:(D5 l).getD i []=[SV.str (l.getD i [])]:=by
  unfold D5;grind
 rw[e];unfold D5;rw[List.map_set];rfl
theorem Ai5(N:Nat)(hN:N<=1000000001):∀(a:List By) (done:List By) (n:Nat),done.length+a.length=N->a.length<n->(∀x∈a,x.length<=1000000000)->
  ((F5 a).2=0->∀(R:Type) (b:Int->LL->Option R) (c:Nat->LL->Option R),U6 LF n N (N:Int) (done.length:Int) (D5 (done++a)) b c=c N (D5 (done++(F5 a).1)))/\
  ((F5 a).2≠0->∃l,∀(R:Type) (b:Int->LL->Option R) (c:Nat->LL->Option R),U6 LF n N (N:Int) (done.length:Int) (D5 (done++a)) b c=b ((F5 a).2:Nat) l):=by
 intro a
 induction a with
 | nil=>
  intro done n i o p;obtain⟨n,rfl⟩:∃m,n=m+1:=⟨n-1,by simp at o;omega⟩
  simp only[v7] at i;refine⟨λ_ R b c=>?_,λh=>absurd rfl h⟩;rw[U6];rw[A6];rfl
 | cons x r z=>
  intro done n i o p;simp only[j0] at i o;obtain⟨n,rfl⟩:∃m,n=m+1:=⟨n-1,by omega⟩
  have v:A1 ((done.length:Int)+1)=((done.length+1:Nat):Int):=by rw[A7];rfl
  have q:(done++x::r).length=N:=by rw[j2,j0];omega
  have k:(done++x::r).getD done.length []=x:=by grind
  have f:∀y,(done++x::r).set done.length y=(done++[y])++r:=λy=>by grind
  have top:∀(R:Type) (b:Int->LL->Option R) (c:Nat->LL->Option R),U6 LF (n+1) N (N:Int) (done.length:Int) (D5 (done++x::r)) b c=cond (((I5 x).2:Int)!=0) (b ((I5 x).2:Nat) (D5 (done++x::r))) (U6 LF n N (N:Int) ((done.length+1:Nat):Int) (D5 ((done++[(I5 x).1])++r)) b c):=by
   intro R b c;rw[U6];rw[A8,F1,j5,ad9,R1 (by omega),V3,k];simp only[vl,cond_true];rw[E5 (p x (by simp)),F2,decide_eq_true (show done.length<(done++x::r).length by omega),Cz3 _ _ _ (by omega),f,v];rfl
  unfold F5;obtain⟨t,u⟩:=z (done++[(I5 x).1]) n (by simp;omega) (by omega) (λy w=>p y (by simp[w]));have j:(done++[(I5 x).1]).length=done.length+1:=by simp
  rw[j] at t u;by_cases h:(I5 x).2=0
  ·rw[if_pos h];have g:(((I5 x).2:Int)!=0)=false:=by rw[h];rfl
   refine⟨λd R b c=>?_,λd=>?_⟩
   ·rw[top,g,cond_false,t d,ac4];rfl
   ·obtain⟨l,e⟩:=u d;exact⟨l,λR b c=>by rw[top,g,cond_false,e]⟩
  ·rw[if_neg h];have g:(((I5 x).2:Int)!=0)=true:=by simpa using h
   exact⟨λd=>absurd d h,λ_=>⟨_,λR b c=>by rw[top,g,cond_true]⟩⟩
theorem XX(p:By)(m:Nat):∀l:List By,(∀x∈l,x.length<=m)->(af9 l p).length<=(m+p.length)*l.length
 | [],_=>by simp[af9]
 | [x],h=>by
  have:=h x (by simp);rw[show af9 [x] p=x by simp[af9,Lib.joinTail]];grind
 | x::y::r,h=>by
  have b:=h x (by simp);have c:=XX p m (y::r) (λz a=>h z (by simp[a]));rw[V4,j2,j2,j0,Nat.mul_add,y9];omega
theorem VX(l:List By):(D5 l).all isS=true:=by unfold D5;rw[ak6,ai2];intro x _;rfl
theorem C03(s:By):Aa5 s [46]=G8 s:=by
 unfold Aa5 G8;by_cases h:s.getLast? = some 46
 ·obtain⟨t,rfl⟩:=List.getLast?_eq_some_iff.1 h;grind
 ·rw[if_neg h,if_neg];rw[List.isSuffixOf_iff_suffix];rintro⟨t,a⟩;grind
abbrev D35:Int->By->Int->Int->Int->Int->Int->Int->Int->Int->Int->Int->Int->By->Int->Int->Int->Int->Int->Int->Int->Int->Int->Option (PV × List Blk × Unit):=λn o p q r t u v r8 w k l a m b c d e f g h i j=>rv (.tup [.agg (Sj n o p q r t u v r8 w k),.s (.int .i64 l)]) [.box (Sj a m b c d e f g h i j)]
abbrev D36:Int->By->Int->Int->By->LL->Option (PV × List Blk × Unit):=λc d e b f a=>rv (.tup [.agg (Sj c d 0 0 0 0 0 0 0 0 0),.s (.int .i64 e)]) [.box (Sj b f 0 0 0 0 0 0 0 0 0),.arr false 9 1 a]
theorem B29(s:By)(n:A3 s.length=true):∃r H,BY LF s D35 D36=rv r H/\r.stab [0,0] H = .tup [ED (C3 s).1,.s (.int .i64 ((C3 s).2:Nat))]:=by
 have Q:=M5 n;have A:=C5;have bad:∀e:Nat,∃r H,D35 0 [] 0 0 0 0 0 0 0 0 0 (e:Int) 0 [] 0 0 0 0 0 0 0 0 0=rv r H/\r.stab [0,0] H = .tup [ED L7,.s (.int .i64 (e:Nat))]:=λe=>⟨_,_,rfl,rfl⟩
 have a:∀(e:Nat) (l:LL),∃r H,D36 0 [] (e:Int) 0 [] l=rv r H/\r.stab [0,0] H = .tup [ED L7,.s (.int .i64 (e:Nat))]:=λe l=>⟨_,_,rfl,rfl⟩
 by_cases i:1024<s.length
 ·have e:C3 s=(L7,3):=by unfold C3;rw[if_pos i]
  rw[e];unfold BY;rw[A8,cond_true];exact bad 3
 ·have f:([91]:By).isPrefixOf s=decide (s.head? = some 91):=by
   cases s with
   | nil=>rfl
   | cons b t=>
    grind
  by_cases d:s.head? = some 91
  ·have j:([91]:By).isPrefixOf s=true:=by rw[f,decide_eq_true d]
   have e:C3 s=Q4 s:=by unfold C3 Q4;rw[if_neg i,if_pos d]<;>rfl
   rw[e];unfold BY;rw[A6,cond_false,n,cond_true,j,cond_true,cond_true,show Cp7 s=true from j,cond_true];exact⟨_,_,rfl,rfl⟩
  ·have j:([91]:By).isPrefixOf s=false:=by rw[f,decide_eq_false d]
   unfold BY;rw[A6,cond_false,n,cond_true,j,cond_false,cond_true];cases k:R2 s with
   | none=>
    have e:C3 s=(L7,14):=by unfold C3;rw[if_neg i,if_neg d,k]
    rw[e];exact bad 14
   | some t=>
    have L:t.length<=s.length:=GM s t k;have M:Fx s=t:=by unfold Fx;rw[k];rfl
    rw[M,J8];simp only[Option.isSome_some,j1,cond_false,cond_true,vl];rw[C03];have K:(G8 t).length<=t.length:=by unfold G8;split<;>simp
    have B:C3 s=if E9 (G8 t) then (match pnB (G8 t) with
      | some v=>(⟨2,[],v,z8⟩,0)
      | none=>(L7,14))
     else if (F5 (pcs 46 (G8 t))).2=0 then (
      let name:=af9 (F5 (pcs 46 (G8 t))).1 [46]
      if 253<name.length then (L7,3) else if E9 name then (L7,14) else (⟨1,name,0,z8⟩,0))
     else (L7,(F5 (pcs 46 (G8 t))).2):=by
     unfold C3;rw[if_neg i,if_neg d,k];rfl
    rw[B];generalize G8 t=u at *;rw[J8,cond_true];cases O:E9 u with
    | true=>
     rw[if_pos rfl,cond_true,cond_true];cases P:pnB u with
     | none=>exact bad 14
     | some v=>exact⟨_,_,rfl,rfl⟩
    | false=>
     rw[if_neg (by simp),cond_false,cond_true,show((1:Nat)==1)=true from rfl,cond_true];have C:([46]:By).getD 0 0=46:=rfl;rw[C];have J:=Jf 46 u;have D:=Hk 46 u;obtain⟨w,y⟩:=Ai5 (pcs 46 u).length (by omega) (pcs 46 u) [] LF (by simp) (by omega) (λx p=>by have:=(Cr p).2;omega);rw[ab3,v7] at w y;by_cases g:(F5 (pcs 46 u)).2=0
     ·rw[if_pos g];obtain⟨z,N⟩:=Ko _ g;have G:=XX [46] 63 (F5 (pcs 46 u)).1 (λx p=>(Cf (z x p)).le);have F:∀{R:Type} (m:Int->LL->Option R) (h:Nat->LL->Option R),U6 LF LF (pcs 46 u).length ((pcs 46 u).length:Int) 0 (D5 (pcs 46 u)) m h=h (pcs 46 u).length (D5 (F5 (pcs 46 u)).1):=λm h=>w g _ m h
      rw[F];have hA:(F5 (pcs 46 u)).1.length<=1025:=by omega
      have o:List.take (pcs 46 u).length (ak1 0 (D5 (F5 (pcs 46 u)).1))=D5 (F5 (pcs 46 u)).1:=by
       rw[aa6,ac5 (by rw[F2];omega)]
      have q:(63+([46]:By).length)*(F5 (pcs 46 u)).1.length<=64*1025:=Nat.mul_le_mul (by simp) hA;rw[o,VX,Ag8,F2,J8,J8];simp only[cond_true];generalize af9 (F5 (pcs 46 u)).1 [46]=name at *;by_cases c:253<name.length
      ·rw[if_pos c,A8,cond_true];exact a 3 _
      ·rw[if_neg c,A6,cond_false];cases I:E9 name with
       | true=>exact a 14 _
       | false=>exact⟨_,_,rfl,rfl⟩
     ·rw[if_neg g];obtain⟨l,e⟩:=y g;simp_all
theorem Ai8{R:Type}{k0 k1:Unit->Option R}:∀l:List By,(∀x∈l,x.length<=1000000000)->LC LF l k0 k1=if l.all K5 then k0 () else k1 ()
 | [],_=>rfl
 | x::r,h=>by
  rw[Ai7];unfold GF;rw[E5 (h x (by simp)),cond_true,aj7];have b:=Ai8 (k0:=k0) (k1:=k1) r (λy a=>h y (by simp[a]));grind
theorem Du1(s:By)(a:A3 s.length=true):∃r H,hvn LF s (λ_=>rv (.s (.bool false)) [.box [.s (.bool false)]]) (λd b=>rv (.s (.bool d)) [.box [.s (.bool b)],.box [.bad],.box [.bad],.box [.bad]])=rv r H/\r.stab [] H = .s (.bool (Av s)):=by
 have h:=M5 a;unfold hvn XQ Av;by_cases e:253<s.length
 ·rw[A8,show y5 s.length 253=false by rw[y8,ne_eq,ad0];omega];exact⟨_,_,rfl,rfl⟩
 ·rw[A6,cond_false,a,cond_true,show y5 s.length 253=true by rw[ad0];omega];cases f:E9 s with
  | true=>exact⟨_,_,rfl,rfl⟩
  | false=>
   rw[cond_false,show((1:Nat)==1&&(0:Int)==(0:Int))=true from rfl,show([46]:By).getD 0 0=46 from rfl,ag6,cond_true,Ai8 _ (λx c=>by have:=(Cr c).2;omega)];cases g:(pcs 46 s).all K5 with
   | true=>exact⟨_,_,rfl,rfl⟩
   | false=>exact⟨_,_,rfl,rfl⟩
theorem D40(a c d f g h i j:Nat):(n8 (a:Int) c d f g h i j==z8)=(((a:Int)==0)&&(((c:Int)==0)&&(((d:Int)==0)&&(((f:Int)==0)&&(((g:Int)==0)&&(((h:Int)==0)&&(((i:Int)==0)&&(((j:Int)==0)&&true)))))))):=by
 have e:n8 (a:Int) c d f g h i j=[a,c,d,f,g,h,i,j]:=rfl;have q:∀b:Nat,((b:Int)==0)=(b==0):=λb=>by grind
 rw[e];simp only[q,z8];rfl
theorem Bt9(a:Int)(b:By)(v4 l m n o p q t u:Int)(D:A3 b.length=true)(F:ltN v4 4294967296=true)(G:ok8 l m n o p q t u=true) :
  ∃r H,Ot LF a b v4 l m n o p q t u (λV M W N O P Q R n8 S y z x=>rv (.s (.bool V)) [.box (Sj M W N O P Q R n8 S y z),.arr false 26 1 x])=rv r H/\
   r.stab [] H = .s (.bool (K8 (mkH a b v4 (n8 l m n o p q t u)))):=by
 obtain⟨c,d,e,f,g,i,j,k,rfl,rfl,rfl,rfl,rfl,rfl,rfl,rfl,X⟩:=Rt G;obtain⟨v0,v1⟩:=E0.1 F;obtain⟨v,rfl⟩:=x7 v0;have U:((v:Int)==0)=(v==0):=by
  rw[p6,beq_iff_eq,beq_iff_eq];omega
 have T:(b==([]:By))=b.isEmpty:=by cases b<;>rfl
 have J:(mkH a b (v:Int) (n8 (c:Int) d e f g i j k)).kind=if ltN a 4 then a.toNat else 0:=rfl
 have K:(mkH a b (v:Int) (n8 (c:Int) d e f g i j k)).name=b:=rfl;have L:(mkH a b (v:Int) (n8 (c:Int) d e f g i j k)).v4=v:=j5 v;have I:(mkH a b (v:Int) (n8 (c:Int) d e f g i j k)).v6=n8 (c:Int) d e f g i j k:=rfl;unfold Ot K8;rw[J,K,L,I,D40,U,T];by_cases A:a=1
 ·subst A;rw[show((1:Int)==1)=true from rfl,cond_true,D,cond_true,if_pos (by decide)];cases Av b with
  | false=>exact⟨_,_,rfl,rfl⟩
  | true=>
   cases (v==0) with
   | false=>exact⟨_,_,rfl,rfl⟩
   | true=>exact⟨_,_,rfl,rfl⟩
 ·rw[show(a==(1:Int))=false by simpa using A,cond_false];by_cases B:a=2
  ·subst B;rw[show((2:Int)==2)=true from rfl,cond_true,if_neg (by decide),if_pos (by decide)];cases b.isEmpty with
   | false=>exact⟨_,_,rfl,rfl⟩
   | true=>exact⟨_,_,rfl,rfl⟩
  ·rw[show(a==(2:Int))=false by simpa using B,cond_false];by_cases C:a=3
   ·subst C;rw[show((3:Int)==3)=true from rfl,cond_true,if_neg (by decide),if_neg (by decide),if_pos (by decide)];cases b.isEmpty with
    | false=>exact⟨_,_,rfl,rfl⟩
    | true=>exact⟨_,_,rfl,rfl⟩
   ·rw[show(a==(3:Int))=false by simpa using C,cond_false];have w:(if ltN a 4 then a.toNat else 0)=0:=by
     split
     ·rename_i h;have:=E0.1 h;omega
     ·rfl
    rw[w];exact⟨_,_,rfl,rfl⟩
theorem Dr6{a b c d e f g i:Int}(h:ok8 a b c d e f g i=true):(n8 a b c d e f g i).length=8/\∀x∈n8 a b c d e f g i,x<65536:=by obtain⟨k,l,m,n,o,p,q,r,rfl,rfl,rfl,rfl,rfl,rfl,rfl,rfl,t⟩:=Rt h;refine⟨rfl,λx j=>?_⟩;simp only[n8,j5,p4,ac9,or_false] at j;omega
theorem Bt8(a:Int)(j:By)(v4 b c d e f g h i:Int)(q:A3 j.length=true)(t:ltN v4 4294967296=true)(n:ok8 b c d e f g h i=true) :
  ∃r H,Db1 LF a j v4 b c d e f g h i (λI k J y z A B C n8 D l m=>rv (.s (.str I)) [.box (Sj k J y z A B C n8 D l m)])=rv r H/\
   r.stab [] H = .s (.str (R9 (mkH a j v4 (n8 b c d e f g h i)))):=by
 obtain⟨F,G⟩:=Dr6 n;have v:=Bn5 _ F G;unfold Db1 R9;rw[q,t,n];simp only[cond_true,vl];have u:(mkH a j v4 (n8 b c d e f g h i)).kind=if ltN a 4 then a.toNat else 0:=rfl
 cases w:K8 (mkH a j v4 (n8 b c d e f g h i)) with
 | false=>exact⟨_,_,rfl,rfl⟩
 | true=>
  rw[if_pos rfl,j1,cond_false,u];by_cases o:a=1
  ·subst o;rw[if_pos (by decide)];exact⟨_,_,rfl,rfl⟩
  ·rw[show(a==(1:Int))=false by simpa using o,cond_false];have k:¬(if ltN a 4 then a.toNat else 0)=1:=by grind
   rw[if_neg k];by_cases p:a=2
   ·subst p;rw[if_pos (by decide)];exact⟨_,_,rfl,rfl⟩
   ·rw[show(a==(2:Int))=false by simpa using p,cond_false];have x:¬(if ltN a 4 then a.toNat else 0)=2:=by grind
    rw[if_neg x,G5 (by omega),cond_true,G5 (by rw[j2,j9];omega),cond_true];exact⟨_,_,rfl,rfl⟩
theorem B23{R:Type}{b:Bool->Option R}(p s:By)(a:A3 p.length=true)(c:A3 s.length=true):Da3 LF p s b=b (Mj p s):=by have d:=M5 a;unfold Da3 Mj;rw[a,c,G5 (by omega)];grind
theorem A78{R:Type}{a:By->By->Int->Option R}(t p:By)(n:Int):Cq8 LF t p n a=a t p n:=rfl
theorem Cc9{R:Type}{a:By->By->Option R}(t p:By):Dw7 LF t p a=a t p:=rfl
theorem Bl0{Z R:Type}(g:Yh Z)(c:UInt8):∀(m:Nat) (t:By) (n:Nat) (s i:Z),t.length<=m->t.length<=1000000000->m<n->Ed g ((pcs c t).map λx=>([.s (.str x)]:List PV)) s=some i->
  ∃o , (∃v:Z,∃b:Bool,g [.s (.str o)] v=some (b,i)/\∀(a d:By->By->Int->Z->Option R),U7 g LF n [c] t 0 s a d=a [c] o 0 v)\/(∀(a d:By->By->Int->Z->Option R),U7 g LF n [c] t 0 s a d=d [c] o 0 i):=by
 intro m
 induction m with
 | zero=>
  intro t n s i y l D h;obtain rfl:=ab8.1 (Nat.le_zero.1 y);obtain⟨n,rfl⟩:∃m,n=m+1:=⟨n-1,by omega⟩
  rw[Lf (by simp)] at h;simp only[ag8,ak8,Ed] at h;refine⟨[],.inl ⟨s,?_⟩⟩;have e:∀(a d:By->By->Int->Z->Option R),U7 g LF (n+1) [c] [] 0 s a d=a [c] [] 0 s:=λa d=>by
   rw[U7];rw[Uq (by simp)];rfl
  cases k:g [.s (.str [])] s with
  | none=>rw[k] at h;cases h
  | some q=>
   obtain⟨b,j⟩:=q;rw[k] at h;have:j=i:=by cases b<;>simpa using h
   subst this;exact⟨b,rfl,e⟩
 | succ m F=>
  intro t n s i y l D h;obtain⟨n,rfl⟩:∃m,n=m+1:=⟨n-1,by omega⟩
  rcases Q7 c t with u|⟨p,r,rfl,u⟩
  ·rw[Lf u] at h;simp only[ag8,ak8,Ed] at h;refine⟨t,.inl ⟨s,?_⟩⟩;have e:∀(a d:By->By->Int->Z->Option R),U7 g LF (n+1) [c] t 0 s a d=a [c] t 0 s:=λa d=>by
    rw[U7];rw[Uq u,E5 l];rfl
   cases k:g [.s (.str t)] s with
   | none=>rw[k] at h;cases h
   | some q=>
    obtain⟨b,j⟩:=q;rw[k] at h;have:j=i:=by cases b<;>simpa using h
    subst this;exact⟨b,rfl,e⟩
  ·rw[GL u] at h;simp only[ag8,Ed] at h;have w:(p++c::r).length=p.length+r.length+1:=by rw[j2,j0];omega
   have z:A1 ((p.length:Int)+0)=((p.length:Nat):Int):=by rw[A7];omega
   have A:A1 ((p.length:Int)+(([c]:By).length:Int))=((p.length+1:Nat):Int):=by
    rw[D1 (by simp;omega) (by simp;omega)];simp
   have B:cut (p++c::r) 0 (p.length:Int)=p:=by rw[L1,j5,aa7]
   have C:cut (p++c::r) ((p.length+1:Nat):Int) ((p++c::r).length:Int)=r:=by
    rw[R6,j5,show p++c::r=(p++[c])++r by simp,af5 (by simp)]
   have top:∀(a d:By->By->Int->Z->Option R),U7 g LF (n+1) [c] (p++c::r) 0 s a d=ydK (g [.s (.str p)] s) λb j=>cond (not b) (d [c] (p++c::r) 0 j) (U7 g LF n [c] r 0 j a d):=λa d=>by
    rw[U7];rw[CC u,E5 l,cond_true,A6,cond_false];simp only[vl,z,A,B,C];rw[I8,cond_true,I8];rfl
   cases k:g [.s (.str p)] s with
   | none=>rw[k] at h;cases h
   | some q=>
    obtain⟨b,j⟩:=q;rw[k] at h top;cases b with
    | false=>
     have:j=i:=by simpa using h
     subst this;exact⟨p++c::r,.inr λa d=>by rw[top];rfl⟩
    | true=>
     simp only at h;obtain⟨o,⟨v,b,e,f⟩|f⟩:=F r n j i (by omega) (by omega) (by omega) h
     ·exact⟨o,.inl ⟨v,b,e,λa d=>by rw[top];exact f a d⟩⟩
     ·exact⟨o,.inr λa d=>by rw[top];exact f a d⟩
theorem Bl1{Z R:Type}(i:Yh Z)(p t:By)(n:Int)(s g:Z)(h:(A3 t.length&&(p.length==1&&n==0))=true)(m:Ed i ((pcs (p.getD 0 0) t).map λx=>([.s (.str x)]:List PV)) s=some g) :
  ∃d,∀(a:By->By->Int->Z->Option R),At3 i LF p t n s a=a p d n g:=by
 have l:=C5;simp only[o8,beq_iff_eq] at h;obtain⟨j,k,rfl⟩:=h;obtain⟨c,rfl⟩:=List.length_eq_one_iff.1 k;have o:=M5 j;obtain⟨d,⟨q,b,e,f⟩|f⟩:=Bl0 (R:=R) i c t.length t LF s g (v8 _) o (by omega) m
 ·refine⟨d,λa=>?_⟩;unfold At3;rw[show(((([c]:By).length:Nat):Int)==0)=false from rfl,cond_false];refine o7 (f _ _) ?_;rw[e];rfl
 ·refine⟨d,λa=>?_⟩;unfold At3;rw[show(((([c]:By).length:Nat):Int)==0)=false from rfl,cond_false];exact f _ _
end
section
open Go Go.ChangeAt Go.ChangeShapes Go.Proofs Go.RowKit Go.WideShapes
set_option maxRecDepth 100000
theorem own:ownKnob a8.godebug=none:=by kernel_rfl
theorem Dc2:laidOutB a8=true:=by kernel_rfl
noncomputable def gTy(g:Nat):Nat:=match a8.globals[g]? with|some x=>x.type|none=>0
noncomputable def dbT:Nat:=gTy 5
noncomputable def Df7:Nat:=gTy 3
noncomputable def VV:Nat:=gTy 2
noncomputable def C93:Nat:=gTy 1
noncomputable def VU:Nat:=match a8.underlying VV with|some (.array _ e)=>e|_=>0
noncomputable def AQ:Array Field:=match a8.underlying VU with|some (.struct a)=>a|_=>#[]
noncomputable def PE:Field:=match AQ.toList with|a::_=>a|_=>default
noncomputable def PG:Field:=match AQ.toList with|_::a::_=>a|_=>default
theorem Ds3:AQ[0]? = some PE:=by unfold PE AQ VU VV gTy;kernel_rfl
theorem Ds4:AQ[1]? = some PG:=by unfold PG AQ VU VV gTy;kernel_rfl
def Fj:List (String × DataW Unit):=[("math/bits.deBruijn32tab", Rows.laid_math_bits_deBruijn32tab), ("math/bits.deBruijn64tab", Rows.laid_math_bits_deBruijn64tab), ("internal/strconv.uint64pow10", Rows.laid_internal_strconv_uint64pow10), ("unicode/utf8.acceptRanges", Rows.laid_unicode_utf8_acceptRanges), ("unicode/utf8.first", Rows.laid_unicode_utf8_first)]
theorem SP{W:World}{n:String}{g:Nat}{a:Array Value}(b:a8.globalNamed n=some g)(h:W.var? a8 n=some a):∃e x,W.heap[g]? = some (.cells a e x):=by
 unfold World.var? at h;rw[b,af2] at h;split at h
 ·rename_i c e x d;simp only[j6] at h;subst h;exact⟨e,x,d⟩
 ·cases h
theorem DF{W:World}{n:String}{g t e m:Nat}{k:IntKind}{f:List Int}(l:a8.globalNamed n=some g)(d:(a8.globals[g]?).map (·.type)=some t)(w:a8.underlying t=some (.array m e))(v:a8.underlying e=some (.int k))(a:a8.cellsOf e=1)(c:a8.cellsOf t=m)
  (h:ac2 a8 W n (ab6 k f)):∃e x,W.heap[g]? = some (.cells (f.map λz=>k9 k z).toArray e x):=by
 obtain⟨y,A,o,i,p,q,r,j,u⟩:=h;obtain rfl:=j8 (l.symm.trans q);obtain rfl:=j8 (d.symm.trans r);have b:=Lib.cells_of_tab w v a c u;have:o=(f.map λz=>k9 k z).toArray:=by rw[<-b]
 rw[this] at j;exact SP l j
theorem NN{H:Type}{enc:TypeId × Value->H}{P:Program}{w:World}{base:Nat}{sp:Nat->Bool}{held:Bool}{a:Nat}{t e:TypeId}{n:Nat}{b:List Value}{d:DataW H}{p:List MemPlace}(f:P.underlying t=some (.array n e))
  (h:aj3 enc P w base sp held a t b=some (d,p)):b.length=P.cellsOf t:=by
 cases a with
 | zero=>simp[aj3] at h
 | succ a=>
  simp only[aj3,f] at h;split at h
  ·rename_i c;simpa using c
  ·cases h
theorem B00{W:World}(C : a8.globalNamed "unicode/utf8.acceptRanges" = some 2)(h:ac2 a8 W "unicode/utf8.acceptRanges" af8) :
  ∃e x,W.heap[2]? = some (.cells (Ha.map λz=>k9 .u8 z).toArray e x):=by
 obtain⟨M,t,v,w,p,H,a,y,A⟩:=h;obtain rfl:=j8 (C.symm.trans H);have n:(a8.globals[2]?).map (·.type)=some VV:=by unfold VV;kernel_rfl
 obtain rfl:=j8 (n.symm.trans a);have F:a8.underlying VV=some (.array 16 VU):=by unfold VV VU;kernel_rfl
 have N:=NN F A;have I:a8.cellsOf VV=32:=by unfold VV;kernel_rfl
 have b:a8.cellsOf VU=2:=by unfold VU;kernel_rfl
 have K:∃j,a8.underlying VU=some (.struct j)/\j.size=2/\∀(i:Nat) (f:Field),j[i]? = some f->a8.underlying f.type=some (.int .u8)/\f.offset=i/\a8.cellsOf f.type=1:=by
  refine⟨AQ,by unfold VU AQ;kernel_rfl,by unfold AQ;kernel_rfl,λi f m=>?_⟩;have:i<2:=by
   have:=(ae1.1 m).1;rwa [show AQ.size=2 by unfold AQ;kernel_rfl] at this
  match i,this with
  | 0,_=>
   obtain rfl:=j8 (m.symm.trans (show AQ[0]? = some PE from Ds3));exact⟨by unfold PE;kernel_rfl,by unfold PE;kernel_rfl,by unfold PE;kernel_rfl⟩
  | 1,_=>
   obtain rfl:=j8 (m.symm.trans (show AQ[1]? = some PG from Ds4));exact⟨by unfold PG;kernel_rfl,by unfold PG;kernel_rfl,by unfold PG;kernel_rfl⟩
 obtain⟨j,o,r,u⟩:=K;have l:v.toList=Ha.map λz=>k9 .u8 z:=by
  have D:(Ha.map λz=>k9 .u8 z).length=32:=by rw[aj1];rfl
  apply List.ext_getElem?;intro q;by_cases J:q<32
  ·obtain⟨k,d,O,c,B⟩:=Lib.array_elem F A (q / 2) (by omega);simp only[ah3,ag4 (show q / 2<16 by omega),x3,j6] at c;subst c;rw[b] at B;have L:=Lib.ints_of_struct o u (by rw[b,r]) B;have e0:=congrArg (·[q % 2]?) L;simp only[aa3,ag9] at e0;rw[Q5,show q / 2*2+q % 2=q by omega] at e0;rw[e0];unfold Ha;have G:∀g:Nat->Value,(List.map g (List.range 32))[q]? = some (g q):=λg=>by
    rw[ah3,ag4 J];rfl
   rw[ak7,G];rcases Nat.mod_two_eq_zero_or_one q with a|a
   ·simp[a]
   ·simp[a]
  ·rw[af6 (by omega),af6 (by omega)]
 have:v=(Ha.map λz=>k9 .u8 z).toArray:=by rw[<-l]
 rw[this] at y;exact SP C y
theorem A54{C:Cfg}(r:C.G=GX){W:World}(b:laidMet a8 Fj W)(p:W.ShapedOpen a8):GOK C (· < W.heap.size) W:=by
 have lt:∀{g:Nat} {o:Obj},W.heap[g]? = some o->g<W.heap.size:=λh=>(ae1.1 h).1
 have I:ac2 a8 W "math/bits.deBruijn64tab" (ab6 .u8 (ah2.map λn:Nat=>(n:Int))):=ac3 b (by rw [show (ab6 .u8 (ah2.map λn:Nat=>(n:Int)):DataW Unit)=Rows.laid_math_bits_deBruijn64tab by kernel_rfl];simp [Fj])
 have J:ac2 a8 W "internal/strconv.uint64pow10" (ab6 .u64 ak5):=ac3 b (by rw [show (ab6 .u64 ak5:DataW Unit)=Rows.laid_internal_strconv_uint64pow10 by kernel_rfl];simp [Fj])
 have K:ac2 a8 W "unicode/utf8.acceptRanges" af8:=ac3 b (by rw [show af8=Rows.laid_unicode_utf8_acceptRanges by kernel_rfl];simp [Fj])
 have L:ac2 a8 W "unicode/utf8.first" (ab6 .u8 ak4):=ac3 b (by rw [show (ab6 .u8 ak4:DataW Unit)=Rows.laid_unicode_utf8_first by kernel_rfl];simp [Fj])
 have y:=DF (g:=5) (t:=dbT) (e:=5) (m:=64) (by kernel_rfl) (by unfold dbT;kernel_rfl) (by unfold dbT;kernel_rfl) (by kernel_rfl) (by kernel_rfl) (by unfold dbT;kernel_rfl) I;have A:=DF (g:=3) (t:=Df7) (e:=167) (m:=20) (by kernel_rfl) (by unfold Df7;kernel_rfl) (by unfold Df7;kernel_rfl) (by kernel_rfl) (by kernel_rfl) (by unfold Df7;kernel_rfl) J;have B:=B00 (by kernel_rfl) K;have D:=DF (g:=1) (t:=C93) (e:=5) (m:=256) (by kernel_rfl) (by unfold C93;kernel_rfl) (by unfold C93;kernel_rfl) (by kernel_rfl) (by kernel_rfl) (by unfold C93;kernel_rfl) L;have F:=cell_of_shapedOpen_int (k:=.i64) (g:=0) (t:=3) (zero:=#[.int .i64 0]) p (of_decide_eq_true (by kernel_rfl)) (by kernel_rfl) rfl (by kernel_rfl) (by kernel_rfl) (by kernel_rfl);refine⟨λg k w h=>?_,λg h=>?_⟩
 ·rw[r] at h;simp only[GX] at h;have key:∀{q:Nat} {v:IntKind} {a:List Int},(∃e x,W.heap[q]? = some (.cells (a.map λz=>k9 v z).toArray e x))->g=q->(v,a)=(k,w)->g<W.heap.size/\∃e x,W.heap[g]? = some (.cells (w.map λz=>k9 k z).toArray e x):=λc G H=>by
   subst G;cases H;obtain⟨e,x,c⟩:=c;exact⟨lt c,e,x,c⟩
  cases d:al0 g 1 with
  | true=>rw[d,cond_true] at h;exact key D (y7 d) (j8 h)
  | false=>
   rw[d,cond_false] at h;cases f:al0 g 2 with
   | true=>rw[f,cond_true] at h;exact key B (y7 f) (j8 h)
   | false=>
    rw[f,cond_false] at h;cases i:al0 g 3 with
    | true=>rw[i,cond_true] at h;exact key A (y7 i) (j8 h)
    | false=>
     rw[i,cond_false] at h;cases j:al0 g 5 with
     | true=>rw[j,cond_true] at h;exact key y (y7 j) (j8 h)
     | false=>rw[j,cond_false] at h;cases h
 ·rw[r] at h;have e:=y7 h;subst e;obtain⟨m,u⟩:=F;refine⟨?_,m,u⟩;apply Classical.byContradiction;intro l;simp[ae5,ac0 (Nat.le_of_not_lt l)] at u
theorem CG(os:Os)(args:Array Value):((ab1 a8 os Fj).forCall (λ_ _=>0) ⟨#[],args,[]⟩).Shaped a8:=
 World.shaped_of_ZipB (by kernel_rfl) (by kernel_rfl)
theorem OB(os:Os)(args:Array Value):laidMetH a8 Fj ((ab1 a8 os Fj).forCall (λ_ _=>0) ⟨#[],args,[]⟩).memory:=by rw[ae4 _ _ _ (by kernel_rfl)];exact laidMet_laidAll _ (by kernel_rfl) (by kernel_rfl)
theorem A67{H:Type}{enc:TypeId × Value->H}{os:Os}(j:os.Started){C:Cfg}(u:C.P=a8)(r:C.G=GX)(Z:XOK C)(W:Ow C){f tb:Nat}{fn:Func}{c:Code}{s:ChangeSpec}{g:List PathCond}{apart fresh handsOn again:Bool}(l:a8.inits.idxOf? f=none)(x:a8.funcs[f]? = some fn)(hb:fn.body=some c)(n:(fn.name == "runtime.NumGoroutine")=false)
  (F:∀t∈fn.params.toList,(a8.readableRec t=true/\t<a8.types.size)/\(Fd a8 20 t).isSome=true) (z:fn.resultTypes = #[tb]) (m:a8.underlying tb=some .bool) (q:s.vars=[])
  (p:∀ds:List (DataW H),ds.length=fn.params.toList.length->s.fn H ds = { results:=[.lit (.bool true)],args:=ds })
  (a:Array Value) (h:Nat) (o:Input.okWideB a8 ((ab1 a8 os Fj).forCall (λ_ _=>0) ⟨#[],a,[]⟩) f ⟨#[],a,[]⟩=true)
  (Px:s.preB enc a8 fn g apart ((ab1 a8 os Fj).forCall (λ_ _=>0) ⟨#[],a,[]⟩).memory a h=true)
  (J:s.sizedB enc a8 fn apart ((ab1 a8 os Fj).forCall (λ_ _=>0) ⟨#[],a,[]⟩).memory a h=true)
  (D:∀args,Lt a8 fn.params.toList args->∃d T,evC C d Unit noY f args [] ()=some (.s (.bool true),T,())) :
  ReturnsInHanded {} ah7 os f .any (λw args=>(s.pre enc a8 fn g apart w args/\laidMetH a8 Fj w)/\sizedMet enc a8 fn (OpenSpec.ofChange s) apart w args) (s.post enc a8 fn apart fresh handsOn again):=by
 obtain⟨P,G,X,R,a0,lf,Q,M,xp,L,N,Y,S,nt,a1⟩:=C;simp only at u r;subst u;refine returnsInHanded_of_calls (C:=ah7) own j l
  (ChangeSpec.witness_shaped (enc:=enc) (C:=ah7) (os:=os) (X:=λw _=>laidMetH a8 Fj w) false (ab1 a8 os Fj) a h (World.laidAll_os _ _ _) (CG os a) o Px J (OB os a)) ?_
 intro w b i _ I _ o Px A;obtain⟨_,_,_,B,y,_,_,_,_,Ot⟩:=o;have e:B=fn:=j8 (y.symm.trans x);subst e;obtain⟨⟨⟨ds,U,k,hw,hc⟩,O⟩,hz⟩:=Px;have K:=DataW.Whole.of_heap (w':=w.forCall b i) (by rfl) hw;have V:laidMet a8 Fj (w.forCall b i):=by
  rw[ae4 _ _ _ (by kernel_rfl)] at O;exact laidMet.of_heap (w':=w.forCall b i) (by rfl) O
 refine(Cm6 (apart:=apart) (fresh:=fresh) (handsOn:=handsOn) (again:=again) Z W follows Dc2 x hb n F z m q p D (w.forCall b i) (A54 r V I) w.heap.size i.args ds U k Ot K).mono λe W' ⟨v,he,F⟩=>?_
 subst he;exact ChangeSpec.post_blind F
end
section
open Go Go.Proofs
set_option maxRecDepth 100000
section
theorem SQ:B3 a8 GX 234 Kl:=λargs ret a h=>by
 have:M9 (Kl args)=none:=by unfold Kl HG;split<;>rfl
 rw[this] at h;cases h
theorem Bo3:B3 a8 GX 163 TW:=xf [] (A12 LF) TX rfl trivial rfl (by kernel_rfl) follows λargs=>by
 unfold TX;split
 ·rename_i s p;exact λa=>⟨rfl,rfl,rfl,_,_,(Dd2 LF noY () 0 s p).trans (B53 s p a),rfl⟩
 ·trivial
theorem Ab7:B3 a8 GX 120 HM:=xf [] (A09 LF) TN rfl ⟨Bo3,trivial⟩ rfl (by kernel_rfl) follows λargs=>by
 unfold TN;split
 ·rename_i s p;exact λa=>⟨rfl,rfl,rfl,_,_,(Db3 LF noY () 0 s p).trans (B30 s p a),rfl⟩
 ·trivial
theorem C36:B3 a8 GX 232 Ax1:=xf [] (A13 LF) TZ rfl trivial rfl (by kernel_rfl) follows λargs=>by
 unfold TZ;split
 ·rename_i s p;exact λa=>⟨rfl,rfl,rfl,_,_,(Dd4 LF noY () 0 s p).trans (B54 s p a),rfl⟩
 ·trivial
theorem Dz4:B3 a8 GX 207 Ch5:=xf [] (A10 LF) TO rfl ⟨C36,trivial⟩ rfl (by kernel_rfl) follows λargs=>by
 unfold TO;split
 ·rename_i s p;exact λa=>⟨rfl,rfl,rfl,_,_,(Db5 LF noY () 0 s p).trans (B31 s p a),rfl⟩
 ·trivial
theorem Dn5:B3 a8 GX 221 Bp7:=xf [] (WO LF) HX rfl ⟨C36,trivial⟩ rfl (by kernel_rfl) follows λargs=>by
 unfold HX;split
 ·rename_i s p;exact λa=>⟨rfl,rfl,rfl,_,_,(Cr1 LF noY () 0 s p).trans (A80 s p a),rfl⟩
 ·trivial
theorem Dp5:B3 a8 GX 199 Br5:=xf [] (XB LF) JD rfl ⟨Dn5,trivial⟩ rfl (by kernel_rfl) follows λargs=>by
 unfold JD;split
 ·rename_i s p;exact λa=>⟨rfl,rfl,rfl,_,_,(C04 LF noY () 0 s p).trans (Bl8 s p a),rfl⟩
 ·trivial
theorem Dn0:B3 a8 GX 158 Bp4:=xf [0,0] (WK LF) HS rfl ⟨Bo3,trivial⟩ rfl (by kernel_rfl) follows λargs=>by
 unfold HS;split
 ·rename_i s p;exact λa=>⟨rfl,rfl,rfl,_,_,(Cq3 LF noY () 0 s p).trans (A69 s p a),rfl⟩
 ·trivial
theorem C27:B3 a8 GX 118 Aw4:=xf [0,0] (A03 LF) SZ rfl ⟨Dn0,trivial⟩ rfl (by kernel_rfl) follows λargs=>by
 unfold SZ;split
 ·rename_i s p;exact λa=>⟨rfl,rfl,rfl,_,_,(C78 LF noY () 0 s p).trans (B04 s p a),rfl⟩
 ·trivial
theorem C28:B3 a8 GX 210 Ac8:=xf [1] (Eo LF) Zu rfl ⟨SQ,C46,Bo5,trivial⟩ rfl (by kernel_rfl) follows λargs=>by
 unfold Zu;split
 ·rename_i s p v n;exact λa=>λb=>λc=>λd=>(let⟨r,H,e,q⟩:=Ai2 s p v n a b c d;⟨rfl,rfl,rfl,r,H,(QM LF noY () 0 s p v n).trans e,q⟩)
 ·trivial
theorem NV:B3 a8 GX 176 Wc:=xf [1] (JZ LF) AL rfl ⟨C28,trivial⟩ rfl (by kernel_rfl) follows λargs=>by
 unfold AL;split
 ·rename_i s p;exact λa=>λb=>⟨rfl,rfl,rfl,_,_,(Cd0 LF noY () 0 s p).trans (At7 s p a b),rfl⟩
 ·trivial
theorem C35:B3 a8 GX 116 Ax0:=xf [] (Uc LF) TV rfl trivial rfl (by kernel_rfl) follows λargs=>by
 unfold TV;split
 ·rename_i s;exact λa=>⟨rfl,rfl,rfl,_,_,(Dd0 LF noY () 0 s).trans (B51 s a),rfl⟩
 ·trivial
theorem C29:B3 a8 GX 137 Aw6:=xf [] (A07 LF) TL rfl ⟨Ab7,trivial⟩ rfl (by kernel_rfl) follows λargs=>by
 unfold TL;split
 ·rename_i s;exact λa=>⟨rfl,rfl,rfl,_,_,(Db0 LF noY () 0 s).trans (B27 s a),rfl⟩
 ·trivial
theorem Bo0:B3 a8 GX 139 TB:=xf [0,0] (X7 LF) TC rfl trivial rfl (by kernel_rfl) follows λargs=>by
 unfold TC;split
 ·rename_i s base;exact λa=>λb=>⟨rfl,rfl,rfl,_,_,(C89 LF noY () 0 s base).trans (B10 s base a b),rfl⟩
 ·trivial
theorem Ds0:B3 a8 GX 138 Ch8:=xf [0,0] (Cm2 LF) Ax2 rfl ⟨C29,Bo0,trivial⟩ rfl (by kernel_rfl) follows λargs=>by
 unfold Ax2;split
 ·rename_i s;exact λa=>⟨rfl,rfl,rfl,_,_,(Dv3 LF noY () 0 s).trans (Cs5 s a),rfl⟩
 ·trivial
theorem Bz1:B3 a8 GX 136 UE:=xf [1] (WR LF) IA rfl ⟨NV,trivial⟩ rfl (by kernel_rfl) follows λargs=>by
 unfold IA;split
 ·rename_i s;exact λa=>⟨rfl,rfl,rfl,_,_,(Ct3 LF noY () 0 s).trans (A95 s a),rfl⟩
 ·trivial
theorem SU:B3 a8 GX 102 Rb:=xf [] (AZ LF) Tg rfl ⟨Bz1,C29,Ds0,Bo0,trivial⟩ rfl (by kernel_rfl) follows λargs=>by
 unfold Tg;split
 ·rename_i s;exact λa=>⟨rfl,rfl,rfl,_,_,(A87 LF noY () 0 s).trans (YK s a),rfl⟩
 ·trivial
theorem Dz8:B3 a8 GX 200 Ci0:=xf [0,0] (Ue LF) UI rfl ⟨Bz1,Ds0,trivial⟩ rfl (by kernel_rfl) follows λargs=>by
 unfold UI;split
 ·rename_i s;exact λa=>⟨rfl,rfl,rfl,_,_,(Df5 LF noY () 0 s).trans (B74 s a),rfl⟩
 ·trivial
theorem D55:B3 a8 GX 255 Dq2:=xf [0,0] (KB LF) Ay6 rfl ⟨NV,Bo0,C33,trivial⟩ rfl (by kernel_rfl) follows λargs=>by
 unfold Ay6;split
 ·rename_i s;exact λa=>⟨rfl,rfl,rfl,_,_,(Dx5 LF noY () 0 s).trans (C19 s a),rfl⟩
 ·trivial
theorem D54:B3 a8 GX 167 Dq1:=xf [] (KA LF) Ay5 rfl ⟨C33,trivial⟩ rfl (by kernel_rfl) follows λargs=>by
 unfold Ay5;split
 ·rename_i v;exact λa=>⟨rfl,rfl,rfl,_,_,(Dx4 LF noY () 0 v).trans (C17 v a),rfl⟩
 ·trivial
theorem Cf8:B3 a8 GX 111 OZ:=xf [] (Dj LF) Th rfl trivial rfl (by kernel_rfl) follows λargs=>by
 unfold Th;split
 ·rename_i s;exact λa=>⟨rfl,rfl,rfl,_,_,(Bc2 LF noY () 0 s).trans (ZB s a),rfl⟩
 ·trivial
theorem C43:B3 a8 GX 127 Ax8:=xf [] (Uh LF) UQ rfl trivial rfl (by kernel_rfl) follows λargs=>by
 unfold UQ;split
 ·rename_i s;exact λa=>⟨rfl,rfl,rfl,_,_,(Dh5 LF noY () 0 s).trans (B96 s a),rfl⟩
 ·trivial
theorem Qx:B3 a8 GX 76 Km:=xf [1] (Hf LF) AG rfl trivial rfl (by kernel_rfl) follows λargs=>by
 unfold AG;split
 ·rename_i s c;exact λa=>λb=>(let⟨r,H,e,q⟩:=Ap1 s c a b;⟨rfl,rfl,rfl,r,H,(Ca6 LF noY () 0 s c).trans e,q⟩)
 ·trivial
theorem D01:B3 a8 GX 153 Ci2:=xf [] (Jv LF) UM rfl trivial rfl (by kernel_rfl) follows λargs=>by
 unfold UM;split
 ·rename_i b;exact λa=>⟨rfl,rfl,rfl,_,_,(Dg5 LF noY () 0 b).trans (B85 b a),rfl⟩
 ·trivial
theorem C44:B3 a8 GX 112 Ax9:=xf [0,0] (P9 LF) US rfl ⟨D01,trivial⟩ rfl (by kernel_rfl) follows λargs=>by
 unfold US;split
 ·rename_i s;exact λa=>⟨rfl,rfl,rfl,_,_,(Dh7 LF noY () 0 s).trans (B97 s a),rfl⟩
 ·trivial
theorem Av8:B3 a8 GX 110 IL:=xf [1] (JV LF) AE rfl ⟨Qx,trivial⟩ rfl (by kernel_rfl) follows λargs=>by
 unfold AE;split
 ·rename_i s;exact λa=>⟨rfl,rfl,rfl,_,_,(Ca0 LF noY () 0 s).trans (Ao1 s a),rfl⟩
 ·trivial
theorem NT:B3 a8 GX 75 Tl:=xf [] (Ui LF) Pb rfl ⟨Av8,Cf8,C44,trivial⟩ rfl (by kernel_rfl) follows λargs=>by
 unfold Pb;split
 ·rename_i s;exact λa=>⟨rfl,rfl,rfl,_,_,(Ao0 LF noY () 0 s).trans (OR s a),rfl⟩
 ·trivial
theorem Do6:B3 a8 GX 130 Bq8:=xf [0,0] (Mg LF) IN rfl ⟨Av8,C44,trivial⟩ rfl (by kernel_rfl) follows λargs=>by
 unfold IN;split
 ·rename_i s;exact λa=>⟨rfl,rfl,rfl,_,_,(Cw8 LF noY () 0 s).trans (Bh1 s a),rfl⟩
 ·trivial
theorem D00:B3 a8 GX 233 Ci1:=xf [0,0] (Uf LF) UL rfl ⟨ST,trivial⟩ rfl (by kernel_rfl) follows λargs=>by
 unfold UL;split
 ·rename_i s;exact λa=>⟨rfl,rfl,rfl,_,_,(Dg3 LF noY () 0 s).trans (B84 s a),rfl⟩
 ·trivial
theorem D06:B3 a8 GX 208 Ci9:=xf [0,0] (Uk LF) UY rfl ⟨Qx,D00,trivial⟩ rfl (by kernel_rfl) follows λargs=>by
 unfold UY;split
 ·rename_i s;exact λa=>⟨rfl,rfl,rfl,_,_,(Di8 LF noY () 0 s).trans (Cb5 s a),rfl⟩
 ·trivial
theorem D05:B3 a8 GX 96 Ci8:=xf [] (A18 LF) UX rfl ⟨ST,trivial⟩ rfl (by kernel_rfl) follows λargs=>by
 unfold UX;split
 ·rename_i v;exact λa=>⟨rfl,rfl,rfl,_,_,(Di6 LF noY () 0 v).trans (Cb3 v a),rfl⟩
 ·trivial
theorem Cf7:B3 a8 GX 210 Zv:=by
 refine B3.fix (pf:=Tf) _ (Cz (C₀:=Eo LF) (N2.ok (l:=[(234,Kl),(235,Ay1),(179,IX)]) rfl ⟨SQ,C46,Bo5,trivial⟩) (J1 rfl (by kernel_rfl)) follows ?_);intro args ret f h;unfold Tf at h;split at h
 ·rename_i s p v n;obtain⟨a,h⟩:=C4 h;obtain⟨b,h⟩:=C4 h;obtain⟨c,h⟩:=C4 h;obtain⟨d,h⟩:=C4 h;obtain⟨rfl,rfl⟩:=J6 h;have e:=(QM LF noY () 0 s p v n).trans (KZ s p v n a b c d);exact⟨rfl,1,_,[],e,rfl,rfl⟩
 ·cases h
theorem Cg3:B3 a8 GX 176 PD:=by
 refine B3.fix (pf:=To) _ (Cz (C₀:=BE LF) (N2.ok (l:=[(210,Zv)]) rfl ⟨Cf7,trivial⟩) (J1 rfl (by kernel_rfl)) follows ?_);intro args ret c h;unfold To at h;split at h
 ·rename_i s p;obtain⟨a,h⟩:=C4 h;obtain⟨b,h⟩:=C4 h;obtain⟨rfl,rfl⟩:=J6 h;have e:=(Bl5 LF noY () 0 s p).trans (Aa0 s p a b);exact⟨rfl,1,_,[],e,rfl,rfl⟩
 ·cases h
end
section
theorem Dz0:B3 a8 GX 254 Ch1:=xf [0,0] (Am LF) TG rfl trivial rfl (by kernel_rfl) follows λargs=>by
 unfold TG;split
 ·rename_i s;exact λa=>⟨rfl,rfl,rfl,_,_,(Da2 LF noY () 0 s).trans (B21 s a),rfl⟩
 ·trivial
theorem Dm5:B3 a8 GX 240 Bp1:=xf [1,0] (Ma LF) HK rfl ⟨NV,Dz0,D55,trivial⟩ rfl (by kernel_rfl) follows λargs=>by
 unfold HK;split
 ·rename_i s last;exact λa=>(let⟨r,H,e,q⟩:=A53 s last a;⟨rfl,rfl,rfl,r,H,(Co5 LF noY () 0 s last).trans e,q⟩)
 ·trivial
theorem D58:B3 a8 GX 219 Dq5:=xf [0,0] (DR LF) Ay9 rfl ⟨C47,Dm5,trivial⟩ rfl (by kernel_rfl) follows λargs=>by
 unfold Ay9;split
 ·rename_i s;exact λa=>(let⟨r,H,e,q⟩:=Dy3 s a;⟨rfl,rfl,rfl,r,H,(Dy2 LF noY () 0 s).trans e,q⟩)
 ·trivial
theorem Dp6:B3 a8 GX 204 Br6:=xf [0,0] (Z8 LF) JI rfl trivial rfl (by kernel_rfl) follows λargs=>by
 unfold JI;split
 ·rename_i a b c d e f g h;exact λi=>⟨rfl,rfl,rfl,_,_,(C58 LF noY () 0 a b c d e f g h).trans (Bo9 a b c d e f g h i),rfl⟩
 ·trivial
theorem D57:B3 a8 GX 205 Dq4:=xf [] (KC LF) Ay8 rfl ⟨Dy9,Bz4,trivial⟩ rfl (by kernel_rfl) follows λargs=>by
 unfold Ay8;split
 ·rename_i b a l;exact λc=>λd=>(let⟨r,H,e,q⟩:=Dy0 b a l c d;⟨rfl,rfl,rfl,r,H,(Dx9 LF noY () 0 b a l).trans e,q⟩)
 ·trivial
theorem D56:B3 a8 GX 168 Dq3:=xf [] (Cm3 LF) Ay7 rfl ⟨Dp6,D57,trivial⟩ rfl (by kernel_rfl) follows λargs=>by
 unfold Ay7;split
 ·rename_i a b c d f g h i;exact λj=>(let⟨r,H,e,q⟩:=Dx8 a b c d f g h i j;⟨rfl,rfl,rfl,r,H,(Dx7 LF noY () 0 a b c d f g h i).trans e,q⟩)
 ·trivial
theorem D02:B3 a8 GX 209 Ci3:=xf [0,0] (Ao LF) UO rfl trivial rfl (by kernel_rfl) follows λargs=>by
 unfold UO;split
 ·rename_i s;exact λa=>⟨rfl,rfl,rfl,_,_,(Dh1 LF noY () 0 s).trans (B89 s a),rfl⟩
 ·trivial
theorem Dn9:B3 a8 GX 173 Bq1:=xf [1,0] (T3 LF) IE rfl ⟨Qx,D06,D02,trivial⟩ rfl (by kernel_rfl) follows λargs=>by
 unfold IE;split
 ·rename_i s last;exact λa=>(let⟨r,H,e,q⟩:=Be3 s last a;⟨rfl,rfl,rfl,r,H,(Cv1 LF noY () 0 s last).trans e,q⟩)
 ·trivial
theorem Cf9:B3 a8 GX 172 PA:=xf [] (Dk LF) Ti rfl trivial rfl (by kernel_rfl) follows λargs=>by
 unfold Ti;split
 ·rename_i s;exact λa=>⟨rfl,rfl,rfl,_,_,(Bc3 LF noY () 0 s).trans (ZD s a),rfl⟩
 ·trivial
theorem D08:B3 a8 GX 128 Cj1:=xf [0,0] (Ap LF) VA rfl ⟨Cf9,Dn9,trivial⟩ rfl (by kernel_rfl) follows λargs=>by
 unfold VA;split
 ·rename_i s;exact λa=>(let⟨r,H,e,q⟩:=Dj3 s a;⟨rfl,rfl,rfl,r,H,(Dj2 LF noY () 0 s).trans e,q⟩)
 ·trivial
theorem Do1:B3 a8 GX 132 Bq3:=xf [] (Md LF) IG rfl trivial rfl (by kernel_rfl) follows λargs=>by
 unfold IG;split
 ·rename_i v;exact λa=>⟨rfl,rfl,rfl,_,_,(Cv4 LF noY () 0 v).trans (Be6 v a),rfl⟩
 ·trivial
theorem D07:B3 a8 GX 97 Cj0:=xf [] (Y6 LF) UZ rfl ⟨Do1,trivial⟩ rfl (by kernel_rfl) follows λargs=>by
 unfold UZ;split
 ·rename_i a b c d e f g h;exact λi=>⟨rfl,rfl,rfl,_,_,(Dj0 LF noY () 0 a b c d e f g h).trans (Cb6 a b c d e f g h i),rfl⟩
 ·trivial
theorem Av6:B3 a8 GX 213 Pa:=xf [] (JU LF) AC rfl trivial rfl (by kernel_rfl) follows λargs=>by
 unfold AC;split
 ·rename_i n;exact⟨rfl,rfl,rfl,_,_,(B76 LF noY () 0 n).trans (Am3 n ),rfl⟩
 ·trivial
theorem Av5:B3 a8 GX 215 Oz:=xf [] (Y4 LF) AB rfl trivial rfl (by kernel_rfl) follows λargs=>by
 unfold AB;split
 ·rename_i d c f;exact λa=>λb=>λe=>⟨rfl,rfl,rfl,_,_,(B63 LF noY () 0 d c f).trans (Al4 d c f a b e),rfl⟩
 ·trivial
theorem Dz7:B3 a8 GX 239 Ax3:=xf [] (A15 LF) UG rfl trivial rfl (by kernel_rfl) follows λargs=>by
 unfold UG;split
 ·rename_i d;exact λa=>⟨rfl,rfl,rfl,_,_,(Df0 LF noY () 0 d).trans (B71 d a),rfl⟩
 ·trivial
theorem Dz9:B3 a8 GX 250 Ax5:=xf [] (Ju LF) UK rfl trivial rfl (by kernel_rfl) follows λargs=>by
 unfold UK;split
 ·rename_i b;exact λa=>⟨rfl,rfl,rfl,_,_,(Dg1 LF noY () 0 b).trans (B79 b a),rfl⟩
 ·trivial
end
section
theorem C41:B3 a8 GX 238 IB:=by
 refine B3.fix (pf:=UJ) _ (Cz (C₀:=A16 LF) (N2.ok (l:=[]) rfl trivial) (J1 rfl (by kernel_rfl)) follows ?_);intro args ret a h;unfold UJ at h;split at h
 ·rename_i b;obtain⟨rfl,rfl⟩:=J6 h;have e:=(Df8 LF noY () 0 b).trans (B77 b );exact⟨rfl,1,_,[],e,rfl,rfl⟩
 ·cases h
theorem Bz6:DO a8 GX 253 Rc:=by
 refine Gi (C₀:=WS LF) (N2.ok (l:=[]) rfl trivial) (J1 rfl (by kernel_rfl)) follows ?_;intro args H ret f h;unfold Rc at h;split at h
 ·rename_i k b;obtain⟨a,h⟩:=C4 h;obtain⟨c,h⟩:=C4 h;obtain⟨rfl,rfl⟩:=J6 h;refine⟨rfl,rfl,λZ d s=>?_⟩;have e:=(Ct8 LF d s 0 k b).trans (Ba8 k b a c);exact⟨1,_,e,rfl⟩
 ·cases h
theorem D19:DO a8 GX 214 UD:=by
 refine Gi (C₀:=BA LF) (Vx (lx:=[(238,IB),(239,Ax3)]) (ly:=[(253,Rc)]) (ls:=[]) rfl rfl rfl ⟨C41,Dz7,trivial⟩ ⟨Bz6,trivial⟩ trivial) (J1 rfl (by kernel_rfl)) follows ?_;intro args H ret f h;unfold UD at h;split at h
 ·rename_i q b z l;obtain⟨a,h⟩:=C4 h;obtain⟨c,h⟩:=C4 h;obtain⟨d,h⟩:=C4 h;obtain⟨rfl,rfl⟩:=J6 h;obtain⟨g,i,e0⟩:=B65 q b z l a c d;exact⟨rfl,rfl,λZ e s=>⟨1,_,(De6 LF e s 0 q b z l).trans (e0 _ _),rfl⟩⟩
 ·cases h
theorem C40:B3 a8 GX 181 Ax4:=by
 refine B3.fix (pf:=UH) _ (J3 [0,0] (C₀:=R0 LF) (Vx (lx:=[(213,Pa),(215,Oz)]) (ly:=[(214,UD)]) (ls:=[]) rfl rfl rfl ⟨Av6,Av5,trivial⟩ ⟨D19,trivial⟩ trivial) (J1 rfl (by kernel_rfl)) follows ?_);intro args ret f h;unfold UH at h;split at h
 ·rename_i b a p;obtain⟨c,h⟩:=C4 h;obtain⟨rfl,rfl⟩:=J6 h;obtain⟨r,H,e,d⟩:=Df2 b a p c;exact⟨rfl,rfl,rfl,1,r,H,(Df1 LF noY () 0 b a p).trans e,d⟩
 ·cases h
end
section
theorem D18:DO a8 GX 236 TD:=by
 refine Gi (C₀:=AX LF) (Vx (lx:=[(238,IB),(250,Ax5)]) (ly:=[(253,Rc)]) (ls:=[]) rfl rfl rfl ⟨C41,Dz9,trivial⟩ ⟨Bz6,trivial⟩ trivial) (J1 rfl (by kernel_rfl)) follows ?_;intro args H ret j h;unfold TD at h;split at h
 ·rename_i a n i b c z l;obtain⟨d,h⟩:=C4 h;obtain⟨e,h⟩:=C4 h;obtain⟨f,h⟩:=C4 h;obtain⟨rfl,rfl⟩:=J6 h;obtain⟨k,e0⟩:=B12 a n i b c z l d e f;exact⟨rfl,rfl,λZ g s=>⟨1,_,(C90 LF g s 0 a n i b c z l).trans (e0 _ _),rfl⟩⟩
 ·cases h
theorem C32:B3 a8 GX 133 Ad0:=xf [] (Hd LF) Zx rfl trivial rfl (by kernel_rfl) follows λargs=>by
 unfold Zx;split
 ·rename_i s c;exact λa=>λb=>⟨rfl,rfl,rfl,_,_,(B36 LF noY () 0 s c).trans (Aj0 s c a b),rfl⟩
 ·trivial
theorem Bz0:B3 a8 GX 98 FS:=xf [] (WJ LF) HQ rfl ⟨C32,trivial⟩ rfl (by kernel_rfl) follows λargs=>by
 unfold HQ;split
 ·rename_i s c;exact λa=>λb=>⟨rfl,rfl,rfl,_,_,(Cq2 LF noY () 0 s c).trans (A66 s c a b),rfl⟩
 ·trivial
end
end
section
open Go Go.Proofs Go.Sort
set_option maxRecDepth 100000
theorem NH{C:Cfg}{Z:Type}{I:Z->(Nat->Prop)->(Nat->Prop)->World->Prop}(J:HI I){f:Ctx}{u:Nat->Prop}{w w':World}{z v1:Bool}{E o r:Nat}{l l' m:LL}{s:Z}(g cap:Nat)(H:List Value)(i:Array Value)
  (P:Pu C E=false) (j:HR f [.arr z E 1 l,.arr v1 o r m] w) (K:I s f.St u w) (M:∀b g,f.nm b=some g->¬u g)
  (d:f.nm 0=some g\/g=w.heap.size) (O:g<w'.heap.size) (e:∀k,k<w.heap.size->f.nm 0≠some k->w'.heap[k]? = w.heap[k]?) (p:w.heap.size<=w'.heap.size) (R:w'.os=w.os) (S:w'.tape=w.tape) (T:w'.output=w.output)
  (n:w'.heap[g]? = some (.cells i E (0,0))) (X:Els f.St w' 1 l' H) (D:l'≠[]) (t:∀q,q<H.length->i[q]? = H[q]?) (Y:H.length<=i.size) (B:l'.length<=cap) (hm:cap<=maxLen) (L:i.size=cap) :
  En C I f [.arr z E 1 l,.arr v1 o r m] w u (.fl 0) [.arr z E 1 l',.arr v1 o r m] s (.slice (some ⟨g,0,none⟩) l'.length cap) w':=by
 have x:0<[Blk.arr z E 1 l,.arr v1 o r m].length:=by simp
 have G:(f.re 0 (some g)).nm 0=some g:=by simp[Ctx.re]
 have F:¬Mm C (A5 [Blk.arr z E 1 l,.arr v1 o r m] 0):=by simp[A5,Blk.shp,Mm,P]
 have a:([Blk.arr z E 1 l,.arr v1 o r m].map (Blk.kill 0)).set 0 (.arr z E 1 l')=[.arr z E 1 l',.arr v1 o r m]:=rfl;have N:¬f.St g:=by
  rcases d with h|h
  ·exact(j.lt 0 g h).2.2
  ·intro hs;have:=j.stlt g hs;omega
 obtain⟨U,V,q3⟩:=ZG (C:=C) (y:=.arr z E 1 l') (ng:=some g) (w':=w') j x F (λk a=>by
   simp only[j6] at a;subst a;refine⟨O,N,λc t A=>?_⟩;rcases d with h|h
   ·exact t (j.inj c 0 _ A h)
   ·have:=(j.lt c _ A).2.1;omega)
  (λk a=>by
   simp only[j6] at a;subst a;rcases d with h|h
   ·exact .inl h
   ·exact .inr (by omega)) e p R S T
  (BR.els G n X (by rintro⟨_,h⟩;exact D h) t Y) rfl
 rw[a] at U V;refine⟨_,u,U.lift u,V,?_,λc t=>?_,?_,λb W v=>?_⟩
 ·refine .fl 0 g z E 1 l'.length cap rfl (λ_ h=>D (ab8.1 h)) G B hm ?_;simp only[af3,n,L,y9]
 ·simp only[PV.nms,ab4] at t;subst t;simp
 ·refine J.mono s f.St u w f.St w' K (λ_ h=>h) (λk a Q=>(J.foot _ _ _ _ K k Q).2 a) (λk a=>Nat.lt_of_lt_of_le (j.stlt k a) p) (λk a=>?_) p R S T;rcases a with a|a
  ·exact e k (j.stlt k a) (λh=>(j.lt 0 k h).2.2 a)
  ·exact e k (J.foot _ _ _ _ K k a).1 (λh=>M 0 k h a)
 ·simp only[Ctx.re] at v;split at v
  ·simp only[j6] at v;subst v;rcases d with h|h
   ·exact M 0 _ h
   ·intro Q;have:=(J.foot _ _ _ _ K _ Q).1;omega
  ·exact M b W v
theorem Cw{w:World}{g o e:Nat}{vs:List Value}{a:Array Value}(c:w.heap[g]? = some (.cells a e (0,0)))(f:o+vs.length<=a.size)(l:∀v∈vs,v.oneCell'=true) :
  (w.setCells g o vs).heap[g]? = some (.cells (G3 a.toList o vs).toArray e (0,0))/\(∀k,k≠g->(w.setCells g o vs).heap[k]? = w.heap[k]?)/\(w.setCells g o vs).heap.size=w.heap.size/\(w.setCells g o vs).os=w.os/\(w.setCells g o vs).tape=w.tape/\(w.setCells g o vs).output=w.output:=by
 obtain⟨w',i,m,n,p,q,t,u,_⟩:=N9 (P:=a8) (o:=o) c f l;have b:∀j,j<vs.length->∃v,w.cell? ⟨g,o+0+j,none⟩=some v:=λj d=>by
  refine⟨a[o+j]'(by omega),?_⟩;simp[ae5,c,ae2 (show o+j<a.size by omega)]
 have r:=run_storeCells_cells (P:=a8) g o vs 0 w (λj d=>by obtain⟨v,h⟩:=b j d;rw[h];rfl) (λj d=>by simp[ae9,c]) l;rw[r] at i;simp only[ak9,Result.ok.injEq,true_and] at i;rw[i];exact⟨m,n,p,q,t,u⟩
theorem LE{St:Nat->Prop}{w:World}{l:LL}{d:List Value}{i:Nat}{n:Int}(h:Els St w 1 l d)(q:i<=l.length):Els St w 1 (Mr l i n) (d.take i++k9 .i64 n::d.drop i):=by
 have c:=h.1;rw[y9] at c;have m:Els St w 1 (l.take i) (d.take i):=by
  refine⟨by rw[j7,j7,c,y9],λj f=>?_⟩;rw[j7] at f;rw[List.getElem_take];obtain⟨a,b⟩:=h.2 j (by omega);refine⟨a,λk g=>?_⟩;obtain⟨U,e,v⟩:=b k g;exact⟨U,by rw[aa0 (by omega)];exact e,v⟩
 have o:Els St w 1 [[SV.int .i64 n]] [k9 .i64 n]:=by
  refine⟨rfl,λj f=>?_⟩;have:j=0:=by simpa using f
  subst this;refine⟨rfl,λk g=>?_⟩;have:k=0:=by simpa using g
  subst this;exact⟨_,rfl,.int _ _⟩
 have p:Els St w 1 (l.drop i) (d.drop i):=by
  refine⟨by rw[j4,j4,c,y9],λj f=>?_⟩;rw[j4] at f;rw[List.getElem_drop];obtain⟨a,b⟩:=h.2 (i+j) (by omega);refine⟨a,λk g=>?_⟩;obtain⟨U,e,v⟩:=b k g;exact⟨U,by rw[ag9];rw[show i+(j*1+k)=(i+j)*1+k by omega];exact e,v⟩
 have:=(m.append o).append p;unfold Mr;simpa using this
theorem LG(l:LL)(i:Nat)(n:Int)(h:i<=l.length):(Mr l i n).length=l.length+1:=by unfold Mr;rw[j2,j0,j7,j4];omega
theorem XW(l:LL)(i:Nat)(n:Int):Mr l i n≠[]:=by unfold Mr;simp
theorem D20:DO a8 GX 237 VG:=by
 intro C hP hG Z I yh yv hI hy args H s ret Hc G Γ Φ w Vs g0 hH hg hi hd hc hn;unfold VG at G;split at G
 ·rename_i i z l d;obtain⟨h0,G⟩:=C4 G;obtain⟨h1,G⟩:=C4 G;obtain⟨rfl,rfl⟩:=J6 G;obtain⟨i0,i1⟩:=E0.1 h0;obtain⟨i,rfl⟩:=x7 i0;have hl:=ac8 h1;have X:i<=l.length:=by
   have:(i:Int)<((l.length+1:Nat):Int):=i1;omega
  obtain⟨S,X0,V,rfl,hs,hx,hv⟩:=hc.arr3;obtain rfl:=hx.inv_int;have c0:Pu C 3=false:=by
   unfold Pu Cfg.sh;rw[hP];kernel_rfl
  obtain⟨g1,c9,n1,n2,n3,n4,n5⟩:=hH.arr' (b:=1) rfl (by simp);have f4:∃cap,V = .slice (some ⟨g1,0,none⟩) 1 cap:=by
   cases hv with
   | flv _ e sz h=>simp[A5,Blk.shp] at h
   | fl _ g v e sz n cap h e7 y R hm e5=>
    rw[n1] at y;simp only[j6] at y;subst y;simp only[A5,ab7,aa1,x3,Blk.shp,j6,Shp.arr.injEq] at h;obtain⟨_,_,_,h4⟩:=h;subst h4;exact⟨cap,rfl⟩
  obtain⟨A,rfl⟩:=f4;obtain⟨V1,p1,p2⟩:=n5 0 (by simp) 0 (by simp);have p3:V1 = .int .i64 d:=by cases p2;rfl
  subst p3;have t:∀j v,[k9 .i64 d][j]? = some v->w.cell? ⟨g1,0+j,none⟩=some v:=by
   intro j v x;have:j=0:=by
    have:=(ae3.1 x).1;simpa using this
   subst this;simp only[aa1,j6] at x;subst x;simpa[ae5,n2] using p1
  have M:∀v∈[k9 .i64 d],v.oneCell'=true:=by simp[Value.oneCell']
  rw[j5];refine Tb (fn:=Tryz.f237) (by kernel_rfl) (by kernel_rfl) (by kernel_rfl) ?_;have B:∀(base:Option Addr) (c:Nat) (f:List Value),l.length<=c->c<l.length+1->f.length=l.length->(base=none->l.length=0)->(∀a,base=some a->∀j v,f[j]? = some v->w.cell? (a.add j)=some v)->Els Γ.St w 1 l f->
    Calls a8 237 #[.slice base l.length c,.int .i64 (l.length:Int),.slice (some ⟨g1,0,none⟩) 1 A] w λe w'=>∃V,e = .returned V/\En C I Γ [.arr z 3 1 l,.arr false 3 1 [[SV.int .i64 d]]] w Φ (.fl 0) [.arr z 3 1 (Mr l l.length d),.arr false 3 1 [[SV.int .i64 d]]] s V w':=by
   intro base c f a1 a2 a3 a4 a5 a6;refine(Any2.slices_Insert_int_end_grow Tryz.lays2_21 base l.length c g1 0 1 A f [.int .i64 d] w (by omega) a1 a2 (by omega) a3 rfl a4 a5 t M).mono ?_;rintro e w' ⟨rfl,rfl⟩;refine⟨_,rfl,?_⟩;obtain⟨T,b7⟩:=Jb (w:=w) (need:=l.length+1) (cap:=c) (e:=3) (by omega);have hE:=LE (n:=d) a6 (v8 l.length);have d7:f.take l.length++k9 .i64 d::f.drop l.length=f++[k9 .i64 d]:=by
    rw[ac5 (by omega),p5 (by omega)]
   rw[d7] at hE;have r:=LG l l.length d (v8 _);obtain⟨r1,r2⟩:=BU (olds:=f) (Vs:=[k9 .i64 d]) (z:=(k9 .i64 0).cells) (k:=grownCap w (l.length+1) c 3) (n:=l.length) (m:=1) (size:=1) rfl (by omega) rfl T;have c7:(f.toArray++[k9 .i64 d].toArray)=(f++[k9 .i64 d]).toArray:=by simp
   rw[c7] at r1 r2;have key:∀(row:Array Value) (O:Nat),row.size=O->(∀q,q<(f++[k9 .i64 d]).length->row[q]? = (f++[k9 .i64 d])[q]?)->l.length+1<=O->O<=maxLen->
     En C I Γ [.arr z 3 1 l,.arr false 3 1 [[SV.int .i64 d]]] w Φ (.fl 0) [.arr z 3 1 (Mr l l.length d),.arr false 3 1 [[SV.int .i64 d]]] s (.slice (some ⟨w.heap.size,0,none⟩) (l.length+1) O) (w.drew.alloc (.cells row 3)):=by
    intro row O b1 b2 b3 b4;have D:(w.drew.alloc (.cells row 3)).heap=w.heap.push (.cells row 3):=rfl;have:=NH (C:=C) (w':=w.drew.alloc (.cells row 3)) (l':=Mr l l.length d) hI w.heap.size O (f++[k9 .i64 d]) row c0 hH hi hd (.inr rfl) (by rw[D];simp) (λk N _=>I7 D N) (by rw[D];simp) rfl rfl rfl (I6 D) (hE.mono (λg hg=>I7 D (hH.stlt g hg)) (λ_ h=>h)) (XW _ _ _) b2 (by rw[b1,j2,j9];omega) (by rw[r];exact b3) b4 b1;rw[r] at this;exact this
   exact key _ _ (r1.trans (y9 _)) r2 T b7
  have f8:∀(row:Array Value) (f:List Value),f.length=l.length->i<l.length->l.length+1<=row.size->(∀q,q<i->row[q]? = f[q]?)->
    ∀q,q<(f.take i++k9 .i64 d::f.drop i).length->(G3 (G3 row.toList i [k9 .i64 d]) (i+1) (f.drop i)).toArray[q]? = (f.take i++k9 .i64 d::f.drop i)[q]?:=by
   intro row f a1 a2 a3 a4 q hq;have f2:q<l.length+1:=by
    rw[j2,j0,j7,j4] at hq;omega
   have ht:(f.take i).length=i:=by rw[j7];omega
   have Y:row.toList.length=row.size:=x9;simp only[aa4];rw[N8 _ _ _ (by rw[D8,j4,Y];omega),N8 _ _ _ (by rw[j9,Y];omega)];by_cases h1:q<i
   ·rw[G0,G0,aa9 (by omega),aa0 h1];simpa using a4 q h1
   ·by_cases h2:q=i
    ·subst h2;rw[G0,if_pos (by rw[j9];omega),w8 (by omega),ht,ah4];rfl
    ·rw[if_pos (by rw[j4];omega),w8 (by omega),ht,show q-i=(q-(i+1))+1 by omega,ab7]
  have P:∀(g c:Nat) (f:List Value),i<l.length->l.length<=c->c<l.length+1->f.length=l.length->(∀j v,f[j]? = some v->w.cell? ⟨g,0+j,none⟩=some v)->(∀v∈f,v.oneCell'=true)->Els Γ.St w 1 l f->
    Calls a8 237 #[.slice (some ⟨g,0,none⟩) l.length c,.int .i64 (i:Int),.slice (some ⟨g1,0,none⟩) 1 A] w λe w'=>∃V,e = .returned V/\En C I Γ [.arr z 3 1 l,.arr false 3 1 [[SV.int .i64 d]]] w Φ (.fl 0) [.arr z 3 1 (Mr l i d),.arr false 3 1 [[SV.int .i64 d]]] s V w':=by
   intro g c f W a1 a2 a3 a4 a5 a6;refine(Any2.slices_Insert_int_grow Tryz.lays2_21 g 0 l.length c i g1 0 1 A f [.int .i64 d] w W (by omega) a1 a2 (by omega) a3 rfl a4 t a5 M).mono ?_;rintro e w' ⟨rfl,rfl⟩;refine⟨_,rfl,?_⟩;obtain⟨T,b7⟩:=Jb (w:=w) (need:=l.length+1) (cap:=c) (e:=3) (by omega);have hE:=LE (n:=d) a6 X;have r:=LG l i d X;have key:∀(row:Array Value) (O:Nat),row.size=O->(∀q,q<i->row[q]? = f[q]?)->l.length+1<=O->O<=maxLen->
     En C I Γ [.arr z 3 1 l,.arr false 3 1 [[SV.int .i64 d]]] w Φ (.fl 0) [.arr z 3 1 (Mr l i d),.arr false 3 1 [[SV.int .i64 d]]] s (.slice (some ⟨w.heap.size,0,none⟩) (l.length+1) O) (((w.alloc (.cells row 3)).drew.setCells w.heap.size i [k9 .i64 d]).drew.setCells w.heap.size (i+1) (f.drop i)):=by
    intro row O b1 b2 b3 b4;have D:(w.alloc (.cells row 3)).drew.heap=w.heap.push (.cells row 3):=rfl;obtain⟨c1,c2,c3,c4,c5,c6⟩:=Cw (w:=(w.alloc (.cells row 3)).drew) (o:=i) (vs:=[k9 .i64 d]) (I6 D) (by rw[j9];omega) M;generalize f5:(w.alloc (.cells row 3)).drew.setCells w.heap.size i [k9 .i64 d]=w1 at *;have Q:(G3 row.toList i [k9 .i64 d]).toArray.size=O:=by rw[p7,D8];simpa using b1
    obtain⟨d1,d2,d3,d4,d5,d6⟩:=Cw (w:=w1.drew) (o:=i+1) (vs:=f.drop i) c1 (by rw[Q,j4];omega) (λv hv=>a5 v (x5 hv));have b0:∀k,k<w.heap.size->(w1.drew.setCells w.heap.size (i+1) (f.drop i)).heap[k]? = w.heap[k]?:=λk N=>by
     rw[d2 k (by omega)];exact(c2 k (by omega)).trans (I7 D N)
    have e6:(w1.drew.setCells w.heap.size (i+1) (f.drop i)).heap.size=w.heap.size+1:=by
     rw[d3];show w1.heap.size=_;rw[c3,D];simp
    have:=NH (C:=C) (w':=w1.drew.setCells w.heap.size (i+1) (f.drop i)) (l':=Mr l i d) hI w.heap.size O (f.take i++k9 .i64 d::f.drop i) _ c0 hH hi hd (.inr rfl) (by rw[e6];omega) (λk N _=>b0 k N) (by rw[e6];omega) (d4.trans c4) (d5.trans c5) (d6.trans c6) d1 (hE.mono (λg hg=>b0 g (hH.stlt g hg)) (λ_ h=>h)) (XW _ _ _) (f8 row f a3 W (by omega) b2) (by rw[p7,D8,j2,j0,j7,j4];simp only[p7,D8] at Q ⊢;omega) (by rw[r];exact b3) b4 (by rw[p7,D8];simpa using Q);rw[r] at this;exact this
   have f6:(k9 .i64 0).cells.size=1:=rfl;have ht:(f.take i).length=i:=by rw[j7];omega
   refine key _ _ ?_ (λq hq=>?_) T b7
   ·simp only[ah0,p7,size_zeroCells,f6,y9,ht];have:l.length+1<=grownCap w (l.length+1) c 3:=T;show i+(l.length+1-i)+(grownCap w (l.length+1) c 3-(l.length+1))=grownCap w (l.length+1) c 3;omega
   ·rw[ae0 (by simp only[ah0,p7,ht];omega),ae0 (by simp only[p7,ht];omega),aa4,aa0 hq]
  have e8:∀(row:Array Value) (f:List Value),f.length=l.length->i<l.length->l.length+1<=row.size->(∀q,q<i->row[q]? = f[q]?)->
    ∀q,q<(f.take i++k9 .i64 d::f.drop i).length->(G3 (G3 row.toList (i+1) (f.drop i)) i [k9 .i64 d]).toArray[q]? = (f.take i++k9 .i64 d::f.drop i)[q]?:=by
   intro row f a1 a2 a3 a4 q hq;have f2:q<l.length+1:=by
    rw[j2,j0,j7,j4] at hq;omega
   have ht:(f.take i).length=i:=by rw[j7];omega
   have Y:row.toList.length=row.size:=x9;simp only[aa4];rw[N8 _ _ _ (by rw[D8,j9,Y];omega),N8 _ _ _ (by rw[j4,Y];omega)];by_cases h1:q<i
   ·rw[G0,G0,aa9 (by omega),aa0 h1];simpa using a4 q h1
   ·by_cases h2:q=i
    ·subst h2;rw[if_pos (by rw[j9];omega),w8 (by omega),ht,ah4];rfl
    ·rw[if_neg (by rw[j9];omega),if_pos (by rw[j4];omega),w8 (by omega),ht,show q-i=(q-(i+1))+1 by omega,ab7]
  cases hs with
  | flv _ e2 f7 h'=>
   simp only[A5,aa1,x3,Blk.shp,j6,Shp.arr.injEq] at h';obtain⟨q1,q2,q3,h4⟩:=h';obtain rfl:=ab8.1 h4;obtain rfl:i=0:=by simpa using X
   exact B none 0 [] (by simp) (by simp) rfl (λ_=>rfl) (λa h=>by cases h) ⟨rfl,λj x=>by simp at x⟩
  | fl _ g z' e2 f7 n' cap h' e7 y R hm e5=>
   simp only[A5,aa1,x3,Blk.shp,j6,Shp.arr.injEq] at h';obtain⟨rfl,rfl,rfl,rfl⟩:=h';have f1:¬(z=true/\l=[]):=by rintro⟨q1,q2⟩;exact e7 q1 (by rw[q2];rfl)
   obtain⟨g',p,d9,hh,c8,K,d8⟩:=hH.arr' (b:=0) rfl f1;obtain rfl:g=g':=by
    rw[y] at d9;exact j8 d9
   have d0:p.size=cap:=by
    have:=e5;simp only[af3,hh,j6,ak0,true_and,y9] at this;exact this
   rw[y9] at c8;have hO:Els Γ.St w 1 l (p.toList.take l.length):=by
    refine⟨by rw[j7,x9 (xs:=p)];omega,λj x=>⟨K j x,λk N=>?_⟩⟩;obtain⟨U,e1,u⟩:=d8 j x k N;refine⟨U,?_,u⟩;have f9:k<1:=by rw[<-K j x];exact N
    rw[aa3,Q5];simpa using e1
   have F:(p.toList.take l.length).length=l.length:=by rw[j7,x9 (xs:=p)];omega
   have J:∀j v,(p.toList.take l.length)[j]? = some v->w.cell? ⟨g,0+j,none⟩=some v:=by
    intro j v x;have a7:j<l.length:=by
     have:=(ae3.1 x).1;omega
    rw[aa3,if_pos a7] at x;simpa[ae5,hh] using x
   have b5:∀v∈p.toList.take l.length,v.oneCell'=true:=by
    intro v hv;obtain⟨j,x,rfl⟩:=List.getElem_of_mem hv;have a7:j<l.length:=by omega
    obtain⟨_,u⟩:=hO.2 j a7;obtain⟨U,e1,u2⟩:=u 0 (by rw[K j a7];exact Nat.one_pos);rw[y9,ak9,ae7 x] at e1;cases e1;exact u2.oneCell
   have r:=LG l i d X;have hE:=LE (n:=d) hO X;have a0:∀j,j<cap->(w.cell? ⟨g,j,none⟩).isSome=true:=by
    intro j x;simp only[ae5,hh];rw[ae2 (by omega)];rfl
   have a9:∀j,w.frozen? ⟨g,j,none⟩=false:=λj=>by simp[ae9,hh]
   have e4:g1≠g:=λe=>by
    have:=hH.inj 1 0 g (by rw[<-e];exact n1) y;omega
   have e3:cap<=9223372036854775807:=by
    simp only[maxLen] at hm;omega
   by_cases L:l.length+1<=cap
   ·have key:∀(w':World) (row:List Value),w'.heap[g]? = some (.cells row.toArray 3 (0,0))->(∀k,k≠g->w'.heap[k]? = w.heap[k]?)->w'.heap.size=w.heap.size->w'.os=w.os->w'.tape=w.tape->w'.output=w.output->row.length=cap->
      (∀q,q<((p.toList.take l.length).take i++k9 .i64 d::(p.toList.take l.length).drop i).length->row.toArray[q]? = ((p.toList.take l.length).take i++k9 .i64 d::(p.toList.take l.length).drop i)[q]?)->
      En C I Γ [.arr z 3 1 l,.arr false 3 1 [[SV.int .i64 d]]] w Φ (.fl 0) [.arr z 3 1 (Mr l i d),.arr false 3 1 [[SV.int .i64 d]]] s (.slice (some ⟨g,0,none⟩) (l.length+1) cap) w':=by
     intro w' row k1 k2 k3 k4 k5 k6 k7 k8;have e9:¬ Γ.St g:=(hH.lt 0 g y).2.2;have:=NH (C:=C) (w':=w') (l':=Mr l i d) hI g cap ((p.toList.take l.length).take i++k9 .i64 d::(p.toList.take l.length).drop i) row.toArray c0 hH hi hd (.inl y) (by rw[k3];exact(hH.lt 0 g y).2.1) (λk N f0=>k2 k (λe=>f0 (e▸y))) (by omega) k4 k5 k6 k1
      (hE.mono (λk N=>k2 k (λe=>e9 (e▸N))) (λ_ h=>h)) (XW _ _ _) k8
      (by rw[p7,k7,j2,j0,j7,j4,F];omega) (by rw[r];exact L) hm (by rw[p7,k7])
     rw[r] at this;exact this
    by_cases b6:i=l.length
    ·subst b6;refine(Any2.slices_Insert_int_end_room Tryz.lays2_21 g 0 l.length cap g1 0 1 A [.int .i64 d] w (by omega) L e3 rfl (λj x=>a0 _ (by omega)) (λj x=>a9 _) t M).mono ?_;rintro e w' ⟨rfl,rfl⟩;refine⟨_,rfl,?_⟩;obtain⟨c1,c2,c3,c4,c5,c6⟩:=Cw (w:=w) (o:=0+l.length) (vs:=[k9 .i64 d]) hh (by rw[j9];omega) M;refine key _ _ c1 c2 c3 c4 c5 c6 (by rw[D8];simpa using d0) (λq hq=>?_);rw[ac5 (by omega),p5 (by omega)] at hq ⊢;rw[j2,F,j9] at hq;simp only[aa4];rw[N8 _ _ _ (by rw[j9,x9 (xs:=p)];omega)];by_cases f3:q<l.length
     ·rw[G0,aa9 (by omega),aa3,if_pos f3]
     ·obtain rfl:q=l.length:=by omega
      rw[if_pos (by rw[j9];omega),w8 (by omega),F];simp
    ·have W:i<l.length:=by omega
     refine(Any2.slices_Insert_int_shift Tryz.lays2_21 g 0 l.length cap i g1 0 1 A (p.toList.take l.length) [.int .i64 d] w W (by omega) L e3 e4 F rfl J (λj x=>a0 _ (by omega)) (λj x=>a9 _) t b5 M 3 3 c9.size p.size (by simp[af3,n2]) (by simp[af3,hh]) (by omega) (by simp[ae9,n2]) (by simp[ae9,n2])).mono ?_;rintro e w' ⟨rfl,rfl⟩;refine⟨_,rfl,?_⟩;obtain⟨c1,c2,c3,c4,c5,c6⟩:=Cw (w:=w.drew) (o:=0+(i+1)) (vs:=(p.toList.take l.length).drop i) hh (by rw[j4,F];omega) (λv hv=>b5 v (x5 hv));generalize f5:w.drew.setCells g (0+(i+1)) ((p.toList.take l.length).drop i)=w1 at *;have Q:(G3 p.toList (0+(i+1)) ((p.toList.take l.length).drop i)).toArray.size=cap:=by rw[p7,D8];simpa using d0
     obtain⟨d1,d2,d3,d4,d5,d6⟩:=Cw (w:=w1) (o:=0+i) (vs:=[k9 .i64 d]) c1 (by rw[Q,j9];omega) M;refine key _ _ d1 (λk N=>(d2 k N).trans (c2 k N)) (d3.trans c3) (d4.trans c4) (d5.trans c5) (d6.trans c6) (by rw[D8];simpa using Q) ?_;rw[ad9,ad9];exact e8 p _ F W (by omega) (λq hq=>by rw[aa3,Q5];simp)
   ·by_cases b6:i=l.length
    ·subst b6;exact B (some ⟨g,0,none⟩) cap (p.toList.take l.length) R (by omega) F (λh=>by cases h) (λa h j v x=>by
      obtain rfl:=j8 h;rw[N4];exact J j v x) hO
    ·exact P g cap _ (by omega) R (by omega) F J b5 hO
 ·cases G
end
section
open Go Go.Proofs
set_option maxRecDepth 100000
section
theorem Dp7:DO a8 GX 212 FR:=by
 refine Gi (C₀:=WF LF) (Vx (lx:=[(215,Oz),(213,Pa)]) (ly:=[(236,TD),(237,VG)]) (ls:=[]) rfl rfl rfl ⟨Av5,Av6,trivial⟩ ⟨D18,D20,trivial⟩ trivial) (J1 rfl (by kernel_rfl)) follows ?_;intro args H ret o h;unfold FR at h;split at h
 ·rename_i a n i b c z l;obtain⟨d,h⟩:=C4 h;obtain⟨f,h⟩:=C4 h;obtain⟨g,h⟩:=C4 h;obtain⟨j,h⟩:=C4 h;obtain⟨k,h⟩:=C4 h;obtain⟨rfl,rfl⟩:=J6 h;refine⟨rfl,rfl,λZ m s=>?_⟩;have e:=(Cn2 LF m s 0 a n i b c z l).trans (A37 a n i b c z l d f g j k);exact⟨1,_,e,rfl⟩
 ·cases h
theorem Dz6:B3 a8 GX 180 Ch9:=by
 refine B3.fix (pf:=UF) _ (J3 [1,0] (C₀:=An LF) (Vx (lx:=[(98,FS)]) (ly:=[(212,FR)]) (ls:=[]) rfl rfl rfl ⟨Bz0,trivial⟩ ⟨Dp7,trivial⟩ trivial) (J1 rfl (by kernel_rfl)) follows ?_);intro args ret c h;unfold UF at h;split at h
 ·rename_i s;obtain⟨a,h⟩:=C4 h;obtain⟨rfl,rfl⟩:=J6 h;obtain⟨r,H,e,b⟩:=De8 s a;exact⟨rfl,rfl,rfl,1,r,H,(De7 LF noY () 0 s).trans e,b⟩
 ·cases h
end
end
section
open Go Go.Proofs Go.Sort
set_option maxRecDepth 100000
theorem C55:B3 a8 GX 222 Ad8:=by
 refine B3.fix (pf:=AO) _ (J2 (fn:=Tryz.f222) (by kernel_rfl) (by kernel_rfl) (by kernel_rfl) ?_);intro args ret l h;unfold AO at h;split at h
 ·rename_i s;obtain⟨b,h⟩:=C4 h;obtain⟨rfl,rfl⟩:=J6 h;refine⟨rfl,rfl,λC n a o w m c g f=>?_⟩;obtain⟨U,rfl,j⟩:=f.arr1;obtain⟨k,rfl,rfl⟩:=j.inv_str;have i:=M5 b;refine(Any.utf8_ValidString Tryz.lays196 k w (by simp at i;omega) (C99 c a)).mono ?_;rintro e w' ⟨rfl,d⟩;rw[<-Bn6];exact⟨_,rfl,d,VP.mk_bool _⟩
 ·cases h
theorem C52:B3 a8 GX 223 Ad6:=by
 refine B3.fix (pf:=AM) _ (J2 (fn:=Tryz.f223) (by kernel_rfl) (by kernel_rfl) (by kernel_rfl) ?_);intro args ret j h;unfold AM at h;split at h
 ·rename_i s;obtain⟨a,h⟩:=C4 h;obtain⟨rfl,rfl⟩:=J6 h;refine⟨rfl,rfl,λC m b n w k l d c=>?_⟩;obtain⟨U,rfl,g⟩:=c.arr1;obtain⟨i,rfl,rfl⟩:=g.inv_str;have f:=M5 a;refine(Any.utf8_RuneCountInString Tryz.lays195 i w (by simp at f;omega)).mono ?_;rintro e w' ⟨rfl,pos,rfl⟩;rw[Lib.runeCountL_eq];exact⟨_,rfl,Az7 _ _ _,VP.mk_int _ _⟩
 ·cases h
theorem Dm3:B3 a8 GX 178 Vz:=λargs ret a h=>by
 have:M9 (Vz args)=none:=by unfold Vz Ac6;split<;>rfl
 rw[this] at h;cases h
theorem Dp8:Bp0 a8 GX 177 FU:=by
 refine As2 (C₀:=Bd LF) ((N2.ok (l:=[(178,Vz),(179,IX)]) rfl ⟨Dm3,Bo5,trivial⟩)) (J1 rfl (by kernel_rfl)) follows ?_;intro args H L h Z a s d c;unfold FU at h;split at h
 ·rename_i p t n;simp only[j6,ak0] at h;obtain⟨b,rfl⟩:=h;obtain⟨e,f⟩:=Bl1 (R:=PV × List Blk × Z) a p t n s d b c;exact⟨1,_,(Cy9 LF a 0 p t n s).trans (f _)⟩
 ·cases h
end
section
open Go Go.Proofs
set_option maxRecDepth 100000
section
theorem Dn1:B3 a8 GX 141 Bp5:=xf [] (Mb LF) HT rfl ⟨Dz6,C40,trivial⟩ rfl (by kernel_rfl) follows λargs=>by
 unfold HT;split
 ·rename_i s;exact λa=>⟨rfl,rfl,rfl,_,_,(Cq5 LF noY () 0 s).trans (A77 s a),rfl⟩
 ·trivial
theorem C37:B3 a8 GX 104 UA:=xf [] (Ud LF) UB rfl ⟨C27,Dn1,trivial⟩ rfl (by kernel_rfl) follows λargs=>by
 unfold UB;split
 ·rename_i s;exact λa=>⟨rfl,rfl,rfl,_,_,(Dd6 LF noY () 0 s).trans (B56 s a),rfl⟩
 ·trivial
theorem Dz5:B3 a8 GX 201 Ch7:=xf [0,0] (Pp LF) TU rfl ⟨C55,C52,C35,C40,C37,trivial⟩ rfl (by kernel_rfl) follows λargs=>by
 unfold TU;split
 ·rename_i s;exact λa=>(let⟨r,H,e,q⟩:=Dc4 s a;⟨rfl,rfl,rfl,r,H,(Dc3 LF noY () 0 s).trans e,q⟩)
 ·trivial
theorem Dz3:B3 a8 GX 220 Ch4:=xf [] (Jt LF) TK rfl trivial rfl (by kernel_rfl) follows λargs=>by
 unfold TK;split
 ·rename_i b;exact λa=>⟨rfl,rfl,rfl,_,_,(Da8 LF noY () 0 b).trans (B25 b a),rfl⟩
 ·trivial
theorem Dz2:B3 a8 GX 198 Ch3:=xf [0,0] (Ub LF) TJ rfl ⟨Dz3,trivial⟩ rfl (by kernel_rfl) follows λargs=>by
 unfold TJ;split
 ·rename_i s;exact λa=>(let⟨r,H,e,q⟩:=Da6 s a;⟨rfl,rfl,rfl,r,H,(Da5 LF noY () 0 s).trans e,q⟩)
 ·trivial
theorem Dm6:B3 a8 GX 197 Bp2:=xf [0,0] (WG LF) HL rfl ⟨D58,trivial⟩ rfl (by kernel_rfl) follows λargs=>by
 unfold HL;split
 ·rename_i s;exact λa=>λb=>(let⟨r,H,e,q⟩:=Co7 s a b;⟨rfl,rfl,rfl,r,H,(Co6 LF noY () 0 s).trans e,q⟩)
 ·trivial
theorem C31:B3 a8 GX 164 Ac9:=xf [0,0] (Hb LF) Zw rfl ⟨Ab7,Dm6,Dz2,Dp5,SU,Dz8,Cg3,Dz5,Bz4,trivial⟩ rfl (by kernel_rfl) follows λargs=>by
 unfold Zw;split
 ·rename_i s;exact λa=>(let⟨r,H,e,q⟩:=B29 s a;⟨rfl,rfl,rfl,r,H,(B28 LF noY () 0 s).trans e,q⟩)
 ·trivial
theorem Dn3:B3 a8 GX 140 TY:=by
 refine B3.fix (pf:=HV) _ (Cz (C₀:=WM LF) (N2.ok (l:=[]) rfl trivial) (J1 rfl (by kernel_rfl)) follows ?_);intro args ret a h;unfold HV at h;split at h
 ·rename_i t p n;obtain⟨rfl,rfl⟩:=J6 h;have e:=(Cq9 LF noY () 0 t p n).trans (A78 t p n );exact⟨rfl,1,_,[],e,rfl,rfl⟩
 ·cases h
theorem D10:B3 a8 GX 103 Ay3:=by
 refine B3.fix (pf:=VI) _ (Cz (C₀:=A19 LF) (N2.ok (l:=[(140,TY)]) rfl ⟨Dn3,trivial⟩) (J1 rfl (by kernel_rfl)) follows ?_);intro args ret a h;unfold VI at h;split at h
 ·rename_i t p;obtain⟨rfl,rfl⟩:=J6 h;have e:=(Dj7 LF noY () 0 t p).trans (Cc9 t p );exact⟨rfl,1,_,[],e,rfl,rfl⟩
 ·cases h
theorem Dr9:B3 a8 GX 65 Ch6:=by
 refine B3.fix (pf:=Aw8) _ (J3 [] (C₀:=Po LF) (Vx (lx:=[(102,Rb),(103,Ay3),(104,UA)]) (ly:=[]) (ls:=[(177,FU)]) rfl rfl rfl ⟨SU,D10,C37,trivial⟩ trivial ⟨Dp8,trivial⟩) (J1 rfl (by kernel_rfl)) follows ?_);intro args ret c h;unfold Aw8 at h;split at h
 ·rename_i s;obtain⟨a,h⟩:=C4 h;obtain⟨rfl,rfl⟩:=J6 h;obtain⟨r,H,e,b⟩:=Du1 s a;exact⟨rfl,rfl,rfl,1,r,H,(Du0 LF noY () 0 s).trans e,b⟩
 ·cases h
theorem Bo2:B3 a8 GX 39 TP:=xf [] (A11 LF) TQ rfl ⟨Dr9,trivial⟩ rfl (by kernel_rfl) follows λargs=>by
 unfold TQ;split
 ·rename_i j k v4 a b c d f g h i;exact λl=>λm=>λn=>(let⟨r,H,e,q⟩:=Bt9 j k v4 a b c d f g h i l m n;⟨rfl,rfl,rfl,r,H,(Db6 LF noY () 0 j k v4 a b c d f g h i).trans e,q⟩)
 ·trivial
theorem C30:B3 a8 GX 122 Aw7:=xf [] (A08 LF) TM rfl ⟨Bo2,D54,D56,trivial⟩ rfl (by kernel_rfl) follows λargs=>by
 unfold TM;split
 ·rename_i j k v4 a b c d f g h i;exact λl=>λm=>λn=>(let⟨r,H,e,q⟩:=Bt8 j k v4 a b c d f g h i l m n;⟨rfl,rfl,rfl,r,H,(Db2 LF noY () 0 j k v4 a b c d f g h i).trans e,q⟩)
 ·trivial
theorem Dz1:B3 a8 GX 170 Ch2:=xf [] (A06 LF) TH rfl ⟨Dr9,Dz4,trivial⟩ rfl (by kernel_rfl) follows λargs=>by
 unfold TH;split
 ·rename_i p s;exact λa=>λb=>⟨rfl,rfl,rfl,_,_,(Da4 LF noY () 0 p s).trans (B23 p s a b),rfl⟩
 ·trivial
end
end
section
open Go
structure T2 where
 sch:By
 user:By
 host:B4
 port:Int
 rest:By
def Aj:T2:=⟨[],[],L7,0,[]⟩
def Of:By:=[104,116,116,112]
def Ci:By:=[104,116,116,112,115]
def bWs:By:=[119,115]
def Wf:By:=[119,115,115]
def P6(s:By):Int:=if s==Of||s==bWs then 80 else if s==Ci||s==Wf then 443 else -1
def H9(s:By):Bool:=s==Of||s==bWs||(s==Ci||s==Wf)
def S6(s:By):Bool:=s==Of||s==bWs
def ctl(b:UInt8):Bool:=y5 b.toNat 32||b==127
def Q2(b:UInt8):Bool:=(y5 97 b.toNat&&y5 b.toNat 122)||(y5 65 b.toNat&&y5 b.toNat 90)
def L6(b:UInt8):Bool:=Q2 b||(y5 48 b.toNat&&y5 b.toNat 57)||b==43||b==45||b==46
def T7:By->Bool
 | []=>false
 | b::r=>Q2 b&&r.all L6
def M6(b:UInt8):Bool:=b==47||b==63||b==35
def J4(s:By):Nat:=(s.takeWhile λb=>!M6 b).length
def Hq(c:UInt8):By->Option Nat
 | []=>none
 | b::r=>if b=c then some 0 else (Hq c r).map (· + 1)
def Ht:Int->By->Option Int
 | n,[]=>if n<65536 then some n else none
 | n,b::r=>if 48<=b.toNat/\b.toNat<=57 then Ht (min (10*max n 0+((b.toNat-48:Nat):Int)) 65536) r else none
def Ev(a:By):Option (By × By):=
 if a.head? = some 91 then (match Hq 93 a with
  | some k=>some (a.take (k+1),a.drop (k+1))
  | none=>none)
 else match Hq 58 a with
  | some k=>some (a.take k,a.drop k)
  | none=>some (a,[])
def N5(c user b:By)(a:By):T2 × Nat:=
 match Ev a with
 | none=>(Aj,4)
 | some (name,tail)=>
  if tail≠[]/\tail.head?≠some 58 then (Aj,4)
  else if (C3 name).2≠0 then (Aj,(C3 name).2)
  else match Ht (-1) (tail.drop 1) with
   | none=>(Aj,16)
   | some p=>(⟨c,user,(C3 name).1,if p=P6 c then -1 else p,b⟩,0)
def G4(c b a:By):T2 × Nat:=
 if 0<=L2 64 a then N5 c (a.take (L2 64 a).toNat) b (a.drop ((L2 64 a).toNat+1)) else N5 c [] b a
def R8(r:By):By:=if r.head? = some 47 then r else 47::r
def C1(s:By):T2 × Nat:=
 if s.any ctl then (Aj,4)
 else if !(x4 s [58]).2.2||!T7 (x4 s [58]).1 then (Aj,15)
 else if !H9 (B5 (x4 s [58]).1) then (⟨B5 (x4 s [58]).1,[],L7,-1,(x4 s [58]).2.1⟩,0)
 else if !([47,47]:By).isPrefixOf (x4 s [58]).2.1 then (Aj,4)
 else G4 (B5 (x4 s [58]).1) (R8 (((x4 s [58]).2.1.drop 2).drop (J4 ((x4 s [58]).2.1.drop 2)))) (((x4 s [58]).2.1.drop 2).take (J4 ((x4 s [58]).2.1.drop 2)))
def B8(s:By):T2 × Nat:=if 2048<s.length then (Aj,3) else C1 s
def U9(p:Int):By:=if p<0 then 45::ae6 (-p).toNat else ae6 p.toNat
def Oe(u:T2):By:=(if u.user=[] then [] else u.user++[64])++(R9 u.host++(if u.port=-1 then [] else 58::U9 u.port))
def W9(u:T2):By:=if H9 u.sch then u.sch++58::47::47::(Oe u++u.rest) else u.sch++58::u.rest
def Fm(u:T2):By:=if u.port < -1 then (if H9 u.sch then u.sch++58::47::47::(((if u.user=[] then [] else u.user++[64])++(R9 u.host++[58,120]))++u.rest) else u.sch++58::u.rest) else W9 u
def Cr5(b:Int)(c:By)(v4:Int)(a:List Nat):B4:=⟨if ltN b 4 then b.toNat else 4,c,v4.toNat,a⟩
def mkU(f g:By)(b:Int)(c:By)(v4:Int)(a:List Nat)(d:Int)(e:By):T2:=⟨f,g,Cr5 b c v4 a,d,e⟩
def smU(c d a b:By):Bool:=y5 c.length 100000000&&y5 d.length 100000000&&y5 a.length 100000000&&y5 b.length 100000000
def eqH(a b:B4):Bool:=a.kind==b.kind&&a.name==b.name&&a.v4==b.v4&&a.v6==b.v6
def eqU(a b:T2):Bool:=a.sch==b.sch&&a.user==b.user&&eqH a.host b.host&&a.port==b.port&&a.rest==b.rest
def R5(u:T2):Bool:=(C1 (W9 u)).2==0&&eqU (C1 (W9 u)).1 u
def Sl(u:T2):By:=if R5 u then W9 u else []
def prt(b:By)(a:Int):Int:=if a==-1 then P6 b else a
def upS(a:By):By:=if a==Of then Ci else if a==bWs then Wf else a
def upP(b:By)(a:Int):Int:=if S6 b&&a==443 then -1 else a
def FO:By->Int
 | s=>let rec go:Int->By->Int
   | n,[]=>n
   | n,b::r=>if 48<=b.toNat/\b.toNat<=57 then go (min (10*max n 0+((b.toNat-48:Nat):Int)) 65536) r else 0
  go (-1) s
def R7(s t:By):Nat:=(s.takeWhile λb=>!t.contains b).length
def Ec(s:By):By × By × Bool:=if (x4 s [58]).2.2&&T7 (x4 s [58]).1 then (B5 (x4 s [58]).1,(x4 s [58]).2.1,true) else ([],[],false)
def isl:By:=[47,63,35]
def CD(p:By):Bool:=p==isl
def NQ(r:Int):Bool:=ltN r 55296||(ltI 57343 r&&ltN r 1114112)
def irn(r:Int):Int:=if r=47 then 0 else if r=63 then 1 else if r=35 then 2 else -1
def S9(n:Int):Bool:=ltN (n+9223372036854775808) 18446744073709551616
abbrev uS(p:T2 × Nat):By:=p.1.sch
abbrev uU(p:T2 × Nat):By:=p.1.user
abbrev uK(p:T2 × Nat):Int:=p.1.host.kind
abbrev uN(p:T2 × Nat):By:=p.1.host.name
abbrev uV(p:T2 × Nat):Int:=p.1.host.v4
abbrev uA(p:T2 × Nat)(i:Nat):Int:=(p.1.host.v6.getD i 0:Nat)
abbrev uP(p:T2 × Nat):Int:=p.1.port
abbrev uR(p:T2 × Nat):By:=p.1.rest
abbrev uE(p:T2 × Nat):Int:=p.2
theorem NZ(s:By):decide (0<P6 s)=H9 s:=by
 unfold P6 H9;cases (s==Of||s==bWs) with
 | true=>rfl
 | false=>cases (s==Ci||s==Wf)<;>rfl
theorem OT{s:By}(h:H9 s=true):s=Of\/s=bWs\/s=Ci\/s=Wf:=by simp only[H9,ab2,beq_iff_eq] at h;rcases h with(h|h)|(h|h)<;>simp[h]
theorem QQ{c:UInt8}:∀{s:By},c∉s->Hq c s=none
 | [],_=>rfl
 | b::r,h=>by
  simp only[p4,not_or] at h;rw[Hq,if_neg (ah5 h.1),QQ h.2];rfl
theorem Xl{c:UInt8}:∀{p:By} (r:By),c∉p->Hq c (p++c::r)=some p.length
 | [],r,_=>by rw[ab3,Hq,if_pos rfl];rfl
 | b::p,r,h=>by
  simp only[p4,not_or] at h;rw[af0,Hq,if_neg (ah5 h.1),Xl r h.2];rfl
theorem Rp{c:UInt8}:∀{s:By} {k:Nat},Hq c s=some k->∃p r,s=p++c::r/\c∉p/\p.length=k
 | [],k,h=>by cases h
 | b::s,k,h=>by
  rw[Hq] at h;split at h
  ·rename_i a;obtain rfl:=j8 h;exact⟨[],s,by rw[a];rfl,by simp,rfl⟩
  ·rename_i a;cases d:Hq c s with
   | none=>rw[d] at h;cases h
   | some j=>
    rw[d] at h;obtain rfl:=j8 h;obtain⟨p,r,rfl,e,rfl⟩:=Rp d;exact⟨b::p,r,rfl,by simp only[p4,not_or];exact⟨ah5 a,e⟩,rfl⟩
theorem Mu{c:UInt8}:∀{s:By},c∉s->L2 c s=-1
 | [],_=>rfl
 | b::r,h=>by
  simp only[p4,not_or] at h;rw[L2,Mu h.2,if_pos (by decide),if_neg (ah5 h.1)]
theorem Rq{c:UInt8}:∀(p:By) {r:By},c∉r->L2 c (p++c::r)=(p.length:Int)
 | [],r,h=>by rw[ab3,L2,Mu h,if_pos (by decide),if_pos rfl];rfl
 | b::p,r,h=>by
  rw[af0,L2,Rq p h,G0,j0];omega
theorem CI{c:UInt8}:∀{s:By},c∈s->∃p r,s=p++c::r/\c∉r
 | [],h=>by cases h
 | b::s,h=>by
  by_cases a:c∈s
  ·obtain⟨p,r,rfl,d⟩:=CI a;exact⟨b::p,r,rfl,d⟩
  ·simp only[p4,a,or_false] at h;subst h;exact⟨[],s,rfl,a⟩
theorem LK{c:UInt8}{s:By}(h:0<=L2 c s):∃p r,s=p++c::r/\c∉r/\L2 c s=(p.length:Int):=by
 by_cases b:c∈s
 ·obtain⟨p,r,rfl,a⟩:=CI b;exact⟨p,r,rfl,a,Rq p a⟩
 ·rw[Mu b] at h;omega
theorem Cc7{p:By}{r:By}(h:∀b∈p,M6 b=false)(d:∀b,r.head? = some b->M6 b=true):J4 (p++r)=p.length:=by
 unfold J4;have a:r.takeWhile (λb=>!M6 b)=[]:=by
  cases r with
  | nil=>rfl
  | cons b t=>rw[ad6,d b rfl];rfl
 rw[List.takeWhile_append_of_pos (λb c=>by rw[h b c];rfl),a,ad3]
theorem Bk6(s:By):∀b∈s.take (J4 s),M6 b=false:=by
 intro b a;have h:s.take (J4 s)=s.takeWhile λb=>!M6 b:=by
  unfold J4;exact(List.prefix_iff_eq_take.1 (List.takeWhile_prefix _)).symm
 rw[h] at a;have:∀l:By,b∈l.takeWhile (λb=>!M6 b)->M6 b=false:=by
  intro l
  induction l with
  | nil=>intro h;cases h
  | cons x l d=>
   intro h;rw[ad6] at h;split at h
   ·rename_i c;rcases p4.1 h with rfl|h
    ·simpa using c
    ·exact d h
   ·cases h
 exact this s a
theorem V5{b:UInt8}:Q2 b=true↔(97<=b.toNat/\b.toNat<=122)\/(65<=b.toNat/\b.toNat<=90):=by simp[Q2,ad0]
theorem Wl{b:UInt8}:ctl b=true↔b.toNat<=32\/b.toNat=127:=by
 unfold ctl;rw[ab2,ad0,beq_iff_eq];have:b=127↔b.toNat=127:=⟨λh=>by rw[h];rfl,λh=>ad4.1 h⟩
 rw[this]
theorem Fa{b:UInt8}:L6 b=true↔(97<=b.toNat/\b.toNat<=122)\/(65<=b.toNat/\b.toNat<=90)\/(48<=b.toNat/\b.toNat<=57)\/b=43\/b=45\/b=46:=by simp only[L6,ab2,V5,o8,ad0,beq_iff_eq,or_assoc]
abbrev clU(a b:By)(k:Int)(n:By)(v c d e f g h i j p:Int)(r:By):List PV:=[.s (.str a),.s (.str b),.s (.int .i64 k),.s (.str n),.s (.int .u32 v),.s (.int .u16 c),.s (.int .u16 d),.s (.int .u16 e),.s (.int .u16 f),.s (.int .u16 g),.s (.int .u16 h),.s (.int .u16 i),.s (.int .u16 j),.s (.int .i64 p),.s (.str r)]
abbrev clH(k:Int)(n:By)(v c d e f g h i j:Int):List PV:=[.s (.int .i64 k),.s (.str n),.s (.int .u32 v),.s (.int .u16 c),.s (.int .u16 d),.s (.int .u16 e),.s (.int .u16 f),.s (.int .u16 g),.s (.int .u16 h),.s (.int .u16 i),.s (.int .u16 j)]
abbrev bU(a b:By)(k:Int)(n:By)(v c d e f g h i j p:Int)(r:By):Blk:=.box (clU a b k n v c d e f g h i j p r)
abbrev gU(a b:By)(k:Int)(n:By)(v c d e f g h i j p:Int)(r:By):PV:=.agg (clU a b k n v c d e f g h i j p r)
abbrev bH(k:Int)(n:By)(v c d e f g h i j:Int):Blk:=.box (clH k n v c d e f g h i j)
abbrev gH(k:Int)(n:By)(v c d e f g h i j:Int):PV:=.agg (clH k n v c d e f g h i j)
abbrev bCx(a b c d z t:Bool)(l:LL):Blk:=.box [.s (.bool a),.s (.bool b),.s (.bool c),.s (.bool d),.s (.sl z t 1 l)]
abbrev gCx(a b c d z t:Bool)(l:LL):PV:=.agg [.s (.bool a),.s (.bool b),.s (.bool c),.s (.bool d),.s (.sl z t 1 l)]
abbrev bCv(a:Int)(s:By)(b:Bool):Blk:=.box [.s (.int .i64 a),.s (.str s),.s (.bool b)]
abbrev gCv(a:Int)(s:By)(b:Bool):PV:=.agg [.s (.int .i64 a),.s (.str s),.s (.bool b)]
abbrev bU0:Blk:=bU [] [] 0 [] 0 0 0 0 0 0 0 0 0 0 []
abbrev bQ(p:T2 × Nat):Blk:=bU (uS p) (uU p) (uK p) (uN p) (uV p) (uA p 0) (uA p 1) (uA p 2) (uA p 3) (uA p 4) (uA p 5) (uA p 6) (uA p 7) (uP p) (uR p)
abbrev okQ(p:T2 × Nat):Bool:=ok8 (uA p 0) (uA p 1) (uA p 2) (uA p 3) (uA p 4) (uA p 5) (uA p 6) (uA p 7)
abbrev mkQ(b:By)(p:T2 × Nat)(a:Int):T2:=mkU b (uU p) (uK p) (uN p) (uV p) (n8 (uA p 0) (uA p 1) (uA p 2) (uA p 3) (uA p 4) (uA p 5) (uA p 6) (uA p 7)) a (uR p)
end
section
open Go Go.Proofs
set_option maxRecDepth 100000
section
def JE:List PV->Tr
 | [.s (.str s)]=>.ret (.s (.int .i64 (P6 s))) []
 | _=>.fail
def Wd(args:List PV):Tr:=JE (C2 [[0]] args)
def JF:List PV->Tr
 | [.s (.str s)]=>.ret (.s (.bool (H9 s))) []
 | _=>.fail
def FW(args:List PV):Tr:=JF (C2 [[0]] args)
def VM:List PV->Tr
 | [.agg [.s (.str a),.s (.str n),.s (.int .i64 j),.s (.str k),.s (.int .u32 v4),.s (.int .u16 b),.s (.int .u16 c),.s (.int .u16 d),.s (.int .u16 e),.s (.int .u16 f),.s (.int .u16 g),.s (.int .u16 h),.s (.int .u16 i),.s (.int .i64 l),.s (.str m)]]=>.ret (.s (.bool (S6 a))) []
 | _=>.fail
def Ay4(args:List PV):Tr:=VM (C2 [[0,0,0,0,0,0,0,0,0,0,0,0,0,0,0]] args)
def VR:List PV->Tr
 | [.s (.str s)]=>.need (A3 (b8 s)) (.ret (.s (.bool (T7 s))) [])
 | _=>.fail
def Cj8(args:List PV):Tr:=VR (C2 [[0]] args)
def VO:List PV->Tr
 | [.s (.str s)]=>.need (A3 (b8 s)) (.ret (.tup [.s (.int .i64 (FO s)),.s (.bool (aj9 (Ht ((-1):Int) s)))]) [])
 | _=>.fail
def Cj6(args:List PV):Tr:=VO (C2 [[0]] args)
def AN:List PV->Tr
 | [.agg [.s (.str c),.s (.str e),.s (.int .i64 n),.s (.str o),.s (.int .u32 v4),.s (.int .u16 f),.s (.int .u16 g),.s (.int .u16 h),.s (.int .u16 i),.s (.int .u16 j),.s (.int .u16 k),.s (.int .u16 l),.s (.int .u16 m),.s (.int .i64 d),.s (.str b)],.s (.str a)]=>.need (A3 (b8 c)) (.need (A3 (b8 b)) (.need (A3 (b8 a)) (.need (List.isEmpty e) (.need (d==((-1):Int)) (.ret (.tup [.agg [.s (.str (uS (G4 c b a))),.s (.str (uU (G4 c b a))),.s (.int .i64 (uK (G4 c b a))),.s (.str (uN (G4 c b a))),.s (.int .u32 (uV (G4 c b a))),.s (.int .u16 (uA (G4 c b a) 0)),.s (.int .u16 (uA (G4 c b a) 1)),.s (.int .u16 (uA (G4 c b a) 2)),.s (.int .u16 (uA (G4 c b a) 3)),.s (.int .u16 (uA (G4 c b a) 4)),.s (.int .u16 (uA (G4 c b a) 5)),.s (.int .u16 (uA (G4 c b a) 6)),.s (.int .u16 (uA (G4 c b a) 7)),.s (.int .i64 (uP (G4 c b a))),.s (.str (uR (G4 c b a)))],.s (.int .i64 (uE (G4 c b a)))]) [])))))
 | _=>.fail
def Ad7(args:List PV):Tr:=AN (C2 [[0,0,0,0,0,0,0,0,0,0,0,0,0,0,0],[0]] args)
def VQ:List PV->Tr
 | [.s (.str s)]=>.need (A3 (b8 s)) (.ret (.tup [.agg [.s (.str (uS (C1 s))),.s (.str (uU (C1 s))),.s (.int .i64 (uK (C1 s))),.s (.str (uN (C1 s))),.s (.int .u32 (uV (C1 s))),.s (.int .u16 (uA (C1 s) 0)),.s (.int .u16 (uA (C1 s) 1)),.s (.int .u16 (uA (C1 s) 2)),.s (.int .u16 (uA (C1 s) 3)),.s (.int .u16 (uA (C1 s) 4)),.s (.int .u16 (uA (C1 s) 5)),.s (.int .u16 (uA (C1 s) 6)),.s (.int .u16 (uA (C1 s) 7)),.s (.int .i64 (uP (C1 s))),.s (.str (uR (C1 s)))],.s (.int .i64 (uE (C1 s)))]) [])
 | _=>.fail
def Cj7(args:List PV):Tr:=VQ (C2 [[0]] args)
def JG:List PV->Tr
 | [.agg [.s (.str l),.s (.str m),.s (.int .i64 n),.s (.str i),.s (.int .u32 v4),.s (.int .u16 a),.s (.int .u16 b),.s (.int .u16 c),.s (.int .u16 d),.s (.int .u16 e),.s (.int .u16 f),.s (.int .u16 g),.s (.int .u16 h),.s (.int .i64 j),.s (.str k)]]=>.need (smU l m i k) (.need (ltN v4 4294967296) (.need (ok8 a b c d e f g h) (.need (S9 j) (.ret (.s (.str (W9 (mkU l m n i v4 (n8 a b c d e f g h) j k)))) []))))
 | _=>.fail
def VT(args:List PV):Tr:=JG (C2 [[0,0,0,0,0,0,0,0,0,0,0,0,0,0,0]] args)
def Tp:List PV->Tr
 | [.agg [.s (.str l),.s (.str m),.s (.int .i64 n),.s (.str i),.s (.int .u32 v4),.s (.int .u16 a),.s (.int .u16 b),.s (.int .u16 c),.s (.int .u16 d),.s (.int .u16 e),.s (.int .u16 f),.s (.int .u16 g),.s (.int .u16 h),.s (.int .i64 j),.s (.str k)]]=>.need (smU l m i k) (.need (ltN v4 4294967296) (.need (ok8 a b c d e f g h) (.need (S9 j) (.ret (.s (.bool (R5 (mkU l m n i v4 (n8 a b c d e f g h) j k)))) []))))
 | _=>.fail
def Rg(args:List PV):Tr:=Tp (C2 [[0,0,0,0,0,0,0,0,0,0,0,0,0,0,0]] args)
def VK:List PV->Tr
 | [.agg [.s (.str l),.s (.str m),.s (.int .i64 n),.s (.str i),.s (.int .u32 v4),.s (.int .u16 a),.s (.int .u16 b),.s (.int .u16 c),.s (.int .u16 d),.s (.int .u16 e),.s (.int .u16 f),.s (.int .u16 g),.s (.int .u16 h),.s (.int .i64 j),.s (.str k)]]=>.need (smU l m i k) (.need (ltN v4 4294967296) (.need (ok8 a b c d e f g h) (.need (S9 j) (.ret (.s (.str (Sl (mkU l m n i v4 (n8 a b c d e f g h) j k)))) []))))
 | _=>.fail
def Cj5(args:List PV):Tr:=VK (C2 [[0,0,0,0,0,0,0,0,0,0,0,0,0,0,0]] args)
def Ck0:List PV->Tr
 | [.agg [.s (.str a),.s (.str n),.s (.int .i64 j),.s (.str k),.s (.int .u32 v4),.s (.int .u16 b),.s (.int .u16 c),.s (.int .u16 d),.s (.int .u16 e),.s (.int .u16 f),.s (.int .u16 g),.s (.int .u16 h),.s (.int .u16 i),.s (.int .i64 l),.s (.str m)]]=>.ret (.agg [.s (.str (upS a)),.s (.str n),.s (.int .i64 j),.s (.str k),.s (.int .u32 v4),.s (.int .u16 b),.s (.int .u16 c),.s (.int .u16 d),.s (.int .u16 e),.s (.int .u16 f),.s (.int .u16 g),.s (.int .u16 h),.s (.int .u16 i),.s (.int .i64 (upP a l)),.s (.str m)]) []
 | _=>.fail
def Cj9(args:List PV):Tr:=Ck0 (C2 [[0,0,0,0,0,0,0,0,0,0,0,0,0,0,0]] args)
def AH:List PV->Tr
 | [.s (.str s)]=>.ret (.s (.bool (H9 s))) []
 | _=>.fail
def IT(args:List PV):Tr:=AH (C2 [[0]] args)
def IU:List PV->Tr
 | [.s (.str s)]=>.ret (.s (.int .i64 (P6 s))) []
 | _=>.fail
def Br2(args:List PV):Tr:=IU (C2 [[0]] args)
def IQ:List PV->Tr
 | [.s (.str s),.s (.str t)]=>.need (A3 (b8 s)) (.need (A3 (b8 t)) (.ret (.s (.int .i64 (↑(R7 s t):Int))) []))
 | _=>.fail
def Br0(args:List PV):Tr:=IQ (C2 [[0],[0]] args)
def IS:List PV->Tr
 | [.s (.str s)]=>.need (A3 (b8 s)) (.ret (.tup [.s (.str ((Ec s)).1),.s (.str (((Ec s)).2).1),.s (.bool (((Ec s)).2).2)]) [])
 | _=>.fail
def Br1(args:List PV):Tr:=IS (C2 [[0]] args)
def IR:List PV->Tr
 | [.s (.str s)]=>.need (A3 (b8 s)) (.ret (.tup [.agg [.s (.str (uS (C1 s))),.s (.str (uU (C1 s))),.s (.int .i64 (uK (C1 s))),.s (.str (uN (C1 s))),.s (.int .u32 (uV (C1 s))),.s (.int .u16 (uA (C1 s) 0)),.s (.int .u16 (uA (C1 s) 1)),.s (.int .u16 (uA (C1 s) 2)),.s (.int .u16 (uA (C1 s) 3)),.s (.int .u16 (uA (C1 s) 4)),.s (.int .u16 (uA (C1 s) 5)),.s (.int .u16 (uA (C1 s) 6)),.s (.int .u16 (uA (C1 s) 7)),.s (.int .i64 (uP (C1 s))),.s (.str (uR (C1 s)))],.s (.int .i64 (uE (C1 s)))]) [])
 | _=>.fail
def UW(args:List PV):Tr:=IR (C2 [[0]] args)
def Tm:List PV->Tr
 | [.s (.str s)]=>.need (A3 (b8 s)) (.ret (.tup [.agg [.s (.str (uS (B8 s))),.s (.str (uU (B8 s))),.s (.int .i64 (uK (B8 s))),.s (.str (uN (B8 s))),.s (.int .u32 (uV (B8 s))),.s (.int .u16 (uA (B8 s) 0)),.s (.int .u16 (uA (B8 s) 1)),.s (.int .u16 (uA (B8 s) 2)),.s (.int .u16 (uA (B8 s) 3)),.s (.int .u16 (uA (B8 s) 4)),.s (.int .u16 (uA (B8 s) 5)),.s (.int .u16 (uA (B8 s) 6)),.s (.int .u16 (uA (B8 s) 7)),.s (.int .i64 (uP (B8 s))),.s (.str (uR (B8 s)))],.s (.int .i64 (uE (B8 s)))]) [])
 | _=>.fail
def Gj(args:List PV):Tr:=Tm (C2 [[0]] args)
def AI:List PV->Tr
 | [.agg [.s (.str l),.s (.str m),.s (.int .i64 n),.s (.str i),.s (.int .u32 v4),.s (.int .u16 a),.s (.int .u16 b),.s (.int .u16 c),.s (.int .u16 d),.s (.int .u16 e),.s (.int .u16 f),.s (.int .u16 g),.s (.int .u16 h),.s (.int .i64 j),.s (.str k)]]=>.need (smU l m i k) (.need (ltN v4 4294967296) (.need (ok8 a b c d e f g h) (.need (S9 j) (.ret (.s (.str (Fm (mkU l m n i v4 (n8 a b c d e f g h) j k)))) []))))
 | _=>.fail
def IV(args:List PV):Tr:=AI (C2 [[0,0,0,0,0,0,0,0,0,0,0,0,0,0,0]] args)
def Pc:List PV->Tr
 | [.agg [.s (.str l),.s (.str m),.s (.int .i64 n),.s (.str i),.s (.int .u32 v4),.s (.int .u16 a),.s (.int .u16 b),.s (.int .u16 c),.s (.int .u16 d),.s (.int .u16 e),.s (.int .u16 f),.s (.int .u16 g),.s (.int .u16 h),.s (.int .i64 j),.s (.str k)]]=>.need (smU l m i k) (.need (ltN v4 4294967296) (.need (ok8 a b c d e f g h) (.need (S9 j) (.ret (.s (.bool (R5 (mkU l m n i v4 (n8 a b c d e f g h) j k)))) []))))
 | _=>.fail
def IW(args:List PV):Tr:=Pc (C2 [[0,0,0,0,0,0,0,0,0,0,0,0,0,0,0]] args)
def IP:List PV->Tr
 | [.agg [.s (.str l),.s (.str m),.s (.int .i64 n),.s (.str i),.s (.int .u32 v4),.s (.int .u16 a),.s (.int .u16 b),.s (.int .u16 c),.s (.int .u16 d),.s (.int .u16 e),.s (.int .u16 f),.s (.int .u16 g),.s (.int .u16 h),.s (.int .i64 j),.s (.str k)]]=>.need (smU l m i k) (.need (ltN v4 4294967296) (.need (ok8 a b c d e f g h) (.need (S9 j) (.ret (.s (.str (Sl (mkU l m n i v4 (n8 a b c d e f g h) j k)))) []))))
 | _=>.fail
def UV(args:List PV):Tr:=IP (C2 [[0,0,0,0,0,0,0,0,0,0,0,0,0,0,0]] args)
def Ci7:List PV->Tr
 | [.agg [.s (.str a),.s (.str n),.s (.int .i64 j),.s (.str k),.s (.int .u32 v4),.s (.int .u16 b),.s (.int .u16 c),.s (.int .u16 d),.s (.int .u16 e),.s (.int .u16 f),.s (.int .u16 g),.s (.int .u16 h),.s (.int .u16 i),.s (.int .i64 l),.s (.str m)]]=>.ret (.s (.bool (S6 a))) []
 | _=>.fail
def C63(args:List PV):Tr:=Ci7 (C2 [[0,0,0,0,0,0,0,0,0,0,0,0,0,0,0]] args)
def Ac7:List PV->Tr
 | [.s (.int .i64 n)]=>.need (ltN n 9223372036854775808) (.ret (.s (.str (ae6 (Int.toNat n)))) [])
 | _=>.fail
def HJ(args:List PV):Tr:=Ac7 (C2 [[0]] args)
def HP:List PV->Tr
 | [.s (.int .i64 n)]=>.need (S9 n) (.ret (.s (.str (U9 n))) [])
 | _=>.fail
def Bp3(args:List PV):Tr:=HP (C2 [[0]] args)
def IY:List PV->Tr
 | [.s (.str s),.s (.int .u8 c)]=>.need (A3 (b8 s)) (.need (inR c 256) (.ret (.s (.int .i64 (o5 s (u8n c)))) []))
 | _=>.fail
def Wb(args:List PV):Tr:=IY (C2 [[0],[0]] args)
def HW:List PV->Tr
 | [.s (.str s),.s (.str p)]=>.need (A3 (b8 s)) (.ret (.s (.str (Hl s p))) [])
 | _=>.fail
def Bp6(args:List PV):Tr:=HW (C2 [[0],[0]] args)
def VJ:List PV->Tr
 | [.s (.str s),.s (.str p)]=>.need (A3 (b8 s)) (.ret (.s (.str (Hl s p))) [])
 | _=>.fail
def Cj3(args:List PV):Tr:=VJ (C2 [[0],[0]] args)
def Ad3:List PV->Tr
 | [.s (.str s),.s (.str p)]=>.need (A3 (b8 s)) (.need (CD p) (.ret (.s (.int .i64 (aa8 s p))) []))
 | _=>.fail
def VF(args:List PV):Tr:=Ad3 (C2 [[0],[0]] args)
def FX:List PV->Tr
 | [.agg [.s (.str a),.s (.str n),.s (.int .i64 j),.s (.str k),.s (.int .u32 v4),.s (.int .u16 b),.s (.int .u16 c),.s (.int .u16 d),.s (.int .u16 e),.s (.int .u16 f),.s (.int .u16 g),.s (.int .u16 h),.s (.int .u16 i),.s (.int .i64 l),.s (.str m)]]=>.need (S6 a) (.ret (.agg [.s (.str (upS a)),.s (.str n),.s (.int .i64 j),.s (.str k),.s (.int .u32 v4),.s (.int .u16 b),.s (.int .u16 c),.s (.int .u16 d),.s (.int .u16 e),.s (.int .u16 f),.s (.int .u16 g),.s (.int .u16 h),.s (.int .u16 i),.s (.int .i64 (upP a l)),.s (.str m)]) [])
 | _=>.fail
def Ck1(args:List PV):Tr:=FX (C2 [[0,0,0,0,0,0,0,0,0,0,0,0,0,0,0]] args)
def FY:List PV->Tr
 | [.agg [.s (.str a),.s (.str n),.s (.int .i64 j),.s (.str k),.s (.int .u32 v4),.s (.int .u16 b),.s (.int .u16 c),.s (.int .u16 d),.s (.int .u16 e),.s (.int .u16 f),.s (.int .u16 g),.s (.int .u16 h),.s (.int .u16 i),.s (.int .i64 l),.s (.str m)]]=>.need (not (S6 a)) (.ret (.agg [.s (.str a),.s (.str n),.s (.int .i64 j),.s (.str k),.s (.int .u32 v4),.s (.int .u16 b),.s (.int .u16 c),.s (.int .u16 d),.s (.int .u16 e),.s (.int .u16 f),.s (.int .u16 g),.s (.int .u16 h),.s (.int .u16 i),.s (.int .i64 l),.s (.str m)]) [])
 | _=>.fail
def Ck2(args:List PV):Tr:=FY (C2 [[0,0,0,0,0,0,0,0,0,0,0,0,0,0,0]] args)
def Re:List PV->Tr
 | [.s (.str s),.s (.str p)]=>.need (A3 (b8 s)) (.need (CD p) (.need (y5 9 (b8 s)) (.ret (.s (.int .i64 (aa8 s p))) [])))
 | _=>.fail
def Ad4(args:List PV):Tr:=Re (C2 [[0],[0]] args)
def Rf:List PV->Tr
 | [.s (.str s),.s (.str p)]=>.need (CD p) (.need (y5 (b8 s) 8) (.ret (.s (.int .i64 (aa8 s p))) []))
 | _=>.fail
def Ad5(args:List PV):Tr:=Rf (C2 [[0],[0]] args)
def Tn:List PV->Tr
 | [.s (.int .i64 n)]=>.ret (.s (.bool (ltI (8:Int) n))) []
 | _=>.fail
def AK(args:List PV):Tr:=Tn (C2 [[0]] args)
def AJ:List PV->Tr
 | [.s (.str p),.s (.int .i32 r)]=>.need (CD p) (.need (ltN r 1114112) (.ret (.s (.int .i64 (irn r))) []))
 | _=>.fail
def IZ(args:List PV):Tr:=AJ (C2 [[0],[0]] args)
def PC:List PV->Tr
 | [.s (.str s)]=>.fail
 | _=>.fail
def Pd(args:List PV):Tr:=PC (C2 [[0]] args)
def AP:List PV->Tr
 | [.s (.int .i32 r)]=>.ret (.s (.bool (NQ r))) []
 | _=>.fail
def JH(args:List PV):Tr:=AP (C2 [[0]] args)
end
section
variable {Z R : Type} (L : Nat) (Q : G2) (Y : Yh Z) (s : Z) (k : Out -> St Z -> Option R)
noncomputable def WN(L:Nat):Cfg:=B7 L [203] (A2 []) [(163,TW)] (A2 [(3,[4]),(2,[4]),(1,[0,0,5]),(0,[0,0])]) [163] (A2 []) (some [4]) [] [] []
noncomputable def Bv1{R:Type}(L:Nat)(b a:By)(d:By->Option R):Option R:=cond (A3 b.length) (cond (p9 a b) (cond (I9 (a.length:Int) (b.length:Int) b.length) (vl (cut b (a.length:Int) (b.length:Int)) λc=>d c) none) (d b)) none
theorem Cr0(d:Nat)(s0 prefix1):evC (WN L) (d+1) Z Y 203 [pS s0,pS prefix1] [] s=Bv1 L s0 prefix1 (λa=>some (pS a,[],s)):=by refine(evE (fn:=Tryz.f203) (by kernel_rfl)).trans ?_;generalize evC (WN L) d=Q;unfold Bv1;kernel_rfl
noncomputable def A20(L:Nat):Cfg:=B7 L [166] (A2 []) [(203,Bp6)] (A2 [(1,[4]),(0,[0,0])]) [203] (A2 []) (some [4]) [] [] []
noncomputable def Dk0{R:Type}(L:Nat)(b a:By)(c:By->Option R):Option R:=cond (A3 b.length) (c (Hl b a)) none
theorem Dk1(d:Nat)(s0 prefix1):evC (A20 L) (d+1) Z Y 166 [pS s0,pS prefix1] [] s=Dk0 L s0 prefix1 (λa=>some (pS a,[],s)):=by refine(evE (fn:=Tryz.f166) (by kernel_rfl)).trans ?_;generalize evC (A20 L) d=Q;unfold Dk0;kernel_rfl
noncomputable def XC(L:Nat):Cfg:=B7 L [124] (A2 []) [] (A2 [(8,[2]),(4,[2]),(7,[2]),(6,[7]),(5,[3,3]),(3,[3,0]),(2,[3,0]),(1,[3]),(0,[0])]) [] (A2 [(0,[])]) (some [2]) [] [] []
noncomputable def By4{R:Type}(L:Nat)(a:By)(b:Int->Option R):Option R:=cond (a==[104,116,116,112]) (cond (a==[104,116,116,112]) (b 80) (cond (a==[104,116,116,112,115]) (cond (a==[104,116,116,112,115]) (b 443) (b (-1))) (cond (a==[119,115,115]) (b 443) (b (-1))))) (cond (a==[119,115]) (b 80) (cond (a==[104,116,116,112,115]) (cond (a==[104,116,116,112,115]) (b 443) (b (-1))) (cond (a==[119,115,115]) (b 443) (b (-1)))))
theorem C10(d:Nat)(scheme0):evC (XC L) (d+1) Z Y 124 [pS scheme0] [] s=By4 L scheme0 (λa=>some (pI a,[],s)):=by refine(evE (fn:=Tryz.f124) (by kernel_rfl)).trans ?_;generalize evC (XC L) d=Q;unfold By4;kernel_rfl
noncomputable def XD(L:Nat):Cfg:=B7 L [117] (A2 []) [(124,Wd)] (A2 [(1,[2]),(0,[0])]) [124] (A2 []) (some [2]) [] [] []
noncomputable def By5{R:Type}(L:Nat)(a:By)(b:Bool->Option R):Option R:=b (ltI 0 (P6 a))
theorem C13(d:Nat)(scheme0):evC (XD L) (d+1) Z Y 117 [pS scheme0] [] s=By5 L scheme0 (λa=>some (pB a,[],s)):=by refine(evE (fn:=Tryz.f117) (by kernel_rfl)).trans ?_;generalize evC (XD L) d=Q;unfold By5;kernel_rfl
noncomputable def A22(L:Nat):Cfg:=B7 L [84] (A2 []) [(124,Wd)] (A2 [(1,[2]),(0,[1])]) [124] (A2 []) (some [2]) [] [] []
noncomputable def Dx0{R:Type}(L:Nat)(f h:By)(i:Int)(j:By)(l m n o u8 p a b c d:Int)(e:By)(g:Bool->(List Blk)->Option R):Option R:=g ((P6 f)==80) [(bU f h i j l m n o u8 p a b c d e)]
theorem Dk6(d:Nat)(u0 u1 u2 u3 u4 u5 u6 u7 u8 u9 u10 u11 u12 u13 u14):evC (A22 L) (d+1) Z Y 84 [(gU u0 u1 u2 u3 u4 u5 u6 u7 u8 u9 u10 u11 u12 u13 u14)] [] s=Dx0 L u0 u1 u2 u3 u4 u5 u6 u7 u8 u9 u10 u11 u12 u13 u14 (λb a=>some (pB b,a,s)):=by refine(evE (fn:=Tryz.f84) (by kernel_rfl)).trans ?_;generalize evC (A22 L) d=Q;unfold Dx0;kernel_rfl
noncomputable abbrev Pl:Code:=C7 ai4
noncomputable def Aq(L:Nat):Cfg:=B7 L [115] (A2 [(2,[0,1,4,0])]) [(157,Wb)] (A2 [(9,[2]),(8,[0,6,0]),(7,[2]),(6,[0,6,0,29]),(5,[0,2,0,0,1,0]),(4,[0,2,0,2,0]),(3,[0,2,3,0]),(2,[0,6,0,0]),(1,[0,6,0]),(0,[0])]) [157] (A2 [(0,[0]),(1,[0,6,0])]) (some [2]) [] [] []
noncomputable def HA{R:Type}(d:By)(a c:Int)(b:By->Int->Int->Option R):Option R:=b d c a
abbrev DI(b:Code):Prop:=∀(k:Out->St Z->Option R) a i1 b2 n3,A9 (Aq L) Q Y b ⟨gp [(0,pS a),(2,pI i1),(0,p8 b2),(0,pB true),(1,pI n3),(0,pI i1)] 33,[],s⟩ k=HA a i1 n3 (λa c d=>k .normal ⟨gp [(0,pS a),(6,pI c),(0,pI d),(29,pB false)] 3,[],s⟩)
theorem Bm7:DI (R:=R) L Q Y s (cd [1,0,1,0,0,1,1,0,0,1,1,1] Pl):=by intro k d b a c;unfold HA;kernel_rfl
noncomputable def Gg{R:Type}(h:By)(c d:Int)(a:Bool)(g:Int)(e:Unit->Option R)(f:By->Int->Int->Bool->Option R):Option R:=cond (not a) (cond (c==0) (e ()) (cond (inR d 256) (vl (o5 ([48,49,50,51,52,53,54,55,56,57,43,45,46]:List UInt8) (u8n d)) λb=>cond (ltI b 0) (e ()) (f h g c (ltI b 0))) none)) (f h g c false)
abbrev DJ(b:Code):Prop:=∀(k:Out->St Z->Option R) a i1 b2 letter3 n4,A9 (Aq L) Q Y b ⟨gp [(0,pS a),(2,pI i1),(0,p8 b2),(0,pB letter3),(1,pI n4),(0,pI i1)] 33,[],s⟩ k=Gg a i1 b2 letter3 n4 (λ_=>k .ret ⟨gp [(2,pB false)] 39,[],s⟩) (λa d e c=>k .normal ⟨gp [(0,pS a),(6,pI d),(0,pI e),(29,pB c)] 3,[],s⟩)
theorem Bm8:DJ (R:=R) L Q Y s (cd [1,0,1,0,0,1,1,0,0,1,1,1] Pl):=by intro k e c b a d;unfold Gg;kernel_rfl
noncomputable def O5{R:Type}(L n:Nat)(b:By)(e a:Int)(c:Unit->Option R)(d:By->Option R):Option R:=match n with|0=>none|n+1=>cond (ltI a e) (cond (inR a b.length) (cond (not (ltI (bAt b a) (97:Int))) (cond (not (ltI 122 (bAt b a))) (HA b a e (λx r t=>O5 L n x r (A1 (t+1)) c d)) (cond (not (ltI (bAt b a) (65:Int))) (Gg b a (bAt b a) (not (ltI 90 (bAt b a))) e (λ_=>c ()) (λy u v D=>O5 L n y u (A1 (v+1)) c d)) (Gg b a (bAt b a) false e (λ_=>c ()) (λz w f A=>vl (A1 (f+1)) λg=>O5 L n z w g c d)))) (cond (not (ltI (bAt b a) (65:Int))) (Gg b a (bAt b a) (not (ltI 90 (bAt b a))) e (λ_=>c ()) (λp h i B=>vl (A1 (i+1)) λj=>O5 L n p h j c d)) (Gg b a (bAt b a) false e (λ_=>c ()) (λq l m C=>vl (A1 (m+1)) λo=>O5 L n q l o c d)))) none) (d b)
theorem Bm9(a:Code)(d:DI (R:=R) L Q Y s a)(b:DJ (R:=R) L Q Y s a)(n:Nat)(c:By)(f e:Int):D0 0 ((Aq L).keep 2) (bd (Aq L) Q Y (cd [1,0,1,0,0] (G7 [1,0,1,0,0,1,1,0,0,1,1,1] a Pl))) n ⟨gp [(0,pS c),(6,pI f),(0,pI e)] 33,[],s⟩ k =
 O5 L n c f e (λ_=>k .ret ⟨gp [(2,pB false)] 39,[],s⟩) (λc=>k (.exit 0) ⟨gp [(0,pS c)] 41,[],s⟩):=by
 induction n generalizing c f e with
 | zero=>rfl
 | succ n h=>rw[O5];exact let g:=(E4 1 (E1 (Aq L) Q Y (cd [1,0,1,0,0,1,1,1] Pl) (lpK 0 ((Aq L).keep 2) (bd (Aq L) Q Y (cd [1,0,1,0,0] (G7 [1,0,1,0,0,1,1,0,0,1,1,1] a Pl))) n k)));(o7 (by kernel_rfl) (A0 (A0 (A0 (A0 ((d g c e (bAt c e) f).trans (congr rfl (fx3 λx r t=>(o7 (by kernel_rfl) (h x r (A1 (t+1))))))) (A0 ((b g c e (bAt c e) (not (ltI 90 (bAt c e))) f).trans (congr (congr rfl (by kernel_rfl)) (fx4 λy u v H=>(o7 (by kernel_rfl) (h y u (A1 (v+1))))))) ((b g c e (bAt c e) false f).trans (congr (congr rfl (by kernel_rfl)) (fx4 λz w D A=>(o7 (by kernel_rfl) (A4 λi=>(h z w i)))))))) (A0 ((b g c e (bAt c e) (not (ltI 90 (bAt c e))) f).trans (congr (congr rfl (by kernel_rfl)) (fx4 λp j F B=>(o7 (by kernel_rfl) (A4 λl=>(h p j l)))))) ((b g c e (bAt c e) false f).trans (congr (congr rfl (by kernel_rfl)) (fx4 λq m G C=>(o7 (by kernel_rfl) (A4 λo=>(h q m o)))))))) rfl) rfl))
noncomputable def C12{R:Type}(L:Nat)(c:By)(b:Bool->Option R):Option R:=O5 L L c (c.length:Int) 0 (λ_=>b false) (λa=>b (not (a==[])))
theorem Dl2(a:Code)(b:DI (R:=PV × List Blk × Z) L Q Y s a)(c:DJ (R:=PV × List Blk × Z) L Q Y s a)(d:By):A9 (Aq L) Q Y (cd [] (G7 [1,0,1,0,0,1,1,0,0,1,1,1] a Pl)) ⟨[pS d]++tps 41,[],s⟩ (F3 (Aq L) ai4)=C12 L d (λe=>some (pB e,[],s)):=by unfold C12;exact(o7 (by kernel_rfl) ((Bm9 L Q Y s (E4 0 (E1 (Aq L) Q Y (cd [1,1] Pl) (F3 (Aq L) ai4))) a b c L d (d.length:Int) 0).trans (by kernel_rfl)))
theorem Dl3(d:Nat)(s0):evC (Aq L) (d+1) Z Y 115 [pS s0] [] s=C12 L s0 (λa=>some (pB a,[],s)):=
 (evE (fn:=ai4) (by kernel_rfl)).trans (o7 (by kernel_rfl) (Dl2 L (evC (Aq L) d) Y s (cd [1,0,1,0,0,1,1,0,0,1,1,1] Pl) (Bm7 L (evC (Aq L) d) Y s) (Bm8 L (evC (Aq L) d) Y s) s0))
noncomputable abbrev Cl5:Code:=C7 ak2
noncomputable def Ul(L:Nat):Cfg:=B7 L [165] (A2 [(3,[0,1,0,0,2,0])]) [] (A2 [(9,[2,0]),(8,[0,3,2,0]),(7,[0,3,2,0]),(6,[2,0]),(5,[0,3,0,1,0,11]),(4,[0,3,0,1,0]),(3,[0,3,2,0,0]),(2,[0,3,2,0]),(1,[0,3]),(0,[0])]) [] (A2 [(0,[4]),(1,[0,3,2,0])]) (some [2,0]) [] [] []
noncomputable def Nw{R:Type}(L n:Nat)(b:By)(h j a:Int)(d:Unit->Option R)(i:Int->Option R):Option R:=match n with|0=>none|n+1=>cond (ltI a j) (cond (inR a b.length) (cond (ltI (bAt b a) (48:Int)) (d ()) (cond (inR a b.length) (cond (ltI 57 (bAt b a)) (d ()) (vl (A1 ((10:Int)*(if ((0:Int) > h) then (0:Int) else h))) λe=>cond (inR a b.length) (vl (wu8 ((bAt b a)-48)) λf=>vl (A1 (e+(A1 f))) λc=>vl (if ((65536:Int)<c) then (65536:Int) else c) λg=>Nw L n b g j (A1 (a+1)) d i) none)) none)) none) (i h)
theorem Bm2(n s0 n1 n2 n3):D0 0 ((Ul L).keep 3) (bd (Ul L) Q Y (cd [1,1,0,1,0,0] Cl5)) n ⟨gp [(0,pS s0),(3,pI n1),(2,pI n2),(0,pI n3)] 26,[],s⟩ k =
 Nw L n s0 n1 n2 n3 (λ_=>k .ret ⟨gp [(2,pI (0:Int)),(0,pB false)] 31,[],s⟩) (λn0=>k (.exit 0) ⟨gp [(4,pI n0)] 30,[],s⟩):=by
 induction n generalizing s0 n1 n2 n3 with
 | zero=>rfl
 | succ n a=>rw[Nw];simp only[<-a];kernel_rfl
noncomputable def Dk8{R:Type}(L:Nat)(c:By)(b:Int->Bool->Option R):Option R:=Nw L L c (-1) (c.length:Int) 0 (λ_=>b 0 false) (λa=>b a (ltI a 65536))
theorem Dk9(d:Nat)(s0):evC (Ul L) (d+1) Z Y 165 [pS s0] [] s=Dk8 L s0 (λa b=>some (.tup [pI a,pB b],[],s)):=by refine(evE (fn:=ak2) (by kernel_rfl)).trans ?_;generalize evC (Ul L) d=Q;unfold Dk8;exact(o7 (by kernel_rfl) ((Bm2 L Q Y s (E4 0 (E1 (Ul L) Q Y (cd [1,1,1] Cl5) (F3 (Ul L) ak2))) L s0 (-1) (s0.length:Int) 0).trans (by kernel_rfl)))
noncomputable abbrev Ck:Code:=C7 ai6
noncomputable def Y7(L:Nat):Cfg:=B7 L [121] (A2 []) [(98,FS),(120,HM),(157,Wb),(164,Ac9),(166,Cj3),(165,Cj6),(124,Wd)] (A2 [(24,[4,0]),(23,[2,1]),(22,[2,1,8,71]),(21,[2,1,8]),(20,[4,0]),(19,[2,1,6,1,63]),(18,[2,1,6,1,0]),(17,[4,0]),(16,[2,1,3,2,0,54]),(15,[2,1,3,2,0]),(14,[4,0]),(13,[2,1,2,0,50]),(9,[2,1,2,0]),(8,[4,0]),(7,[1,0,1,4,23]),(6,[1,0,1,4]),(12,[2,1,2,0]),(11,[1,0,1,2,0,1,35]),(10,[1,0,1,2,0,1]),(5,[1,0,1,2,0,20]),(4,[1,0,1,2,0]),(3,[1,0,1]),(2,[1,0,1,1,11]),(1,[1,0,1,1]),(0,[1,0,1])]) [98,120,157,166,165,124] (A2 []) (some [4,0]) [] [] []
noncomputable def X5{R:Type}(d e g h:By)(r:Int)(v:By)(t p u i j l m n o f:Int)(c:By)(q:Int->Blk->By->By->Int->By->Int->Int->Int->Int->Int->Int->Int->Int->Int->Int->By->(List Blk)->Option R):Option R:=cond (A3 d.length) (vl (C3 d) λa=>cond ((↑(a).2:Int)!=0) (q (↑(a).2:Int) (bU g h r v t p u i j l m n o f c) ([]:List UInt8) ([]:List UInt8) 0 ([]:List UInt8) 0 0 0 0 0 0 0 0 0 0 ([]:List UInt8) [(bH (↑(B4.kind (a).1):Int) (B4.name (a).1) (↑(B4.v4 (a).1):Int) (↑(b9 (B4.v6 (a).1) 0 0):Int) (↑(b9 (B4.v6 (a).1) 1 0):Int) (↑(b9 (B4.v6 (a).1) 2 0):Int) (↑(b9 (B4.v6 (a).1) 3 0):Int) (↑(b9 (B4.v6 (a).1) 4 0):Int) (↑(b9 (B4.v6 (a).1) 5 0):Int) (↑(b9 (B4.v6 (a).1) 6 0):Int) (↑(b9 (B4.v6 (a).1) 7 0):Int))]) (cond (A3 e.length) (vl (Hl e ([58]:List UInt8)) λb=>cond (A3 b.length) (cond (not (aj9 (Ht ((-1):Int) b))) (q 16 (bU g h r v t p u i j l m n o f c) ([]:List UInt8) ([]:List UInt8) 0 ([]:List UInt8) 0 0 0 0 0 0 0 0 0 0 ([]:List UInt8) [(bH (↑(B4.kind (a).1):Int) (B4.name (a).1) (↑(B4.v4 (a).1):Int) (↑(b9 (B4.v6 (a).1) 0 0):Int) (↑(b9 (B4.v6 (a).1) 1 0):Int) (↑(b9 (B4.v6 (a).1) 2 0):Int) (↑(b9 (B4.v6 (a).1) 3 0):Int) (↑(b9 (B4.v6 (a).1) 4 0):Int) (↑(b9 (B4.v6 (a).1) 5 0):Int) (↑(b9 (B4.v6 (a).1) 6 0):Int) (↑(b9 (B4.v6 (a).1) 7 0):Int))]) (cond ((FO b)!=(P6 g)) (q 0 (bU g h (↑(B4.kind (a).1):Int) (B4.name (a).1) (↑(B4.v4 (a).1):Int) (↑(b9 (B4.v6 (a).1) 0 0):Int) (↑(b9 (B4.v6 (a).1) 1 0):Int) (↑(b9 (B4.v6 (a).1) 2 0):Int) (↑(b9 (B4.v6 (a).1) 3 0):Int) (↑(b9 (B4.v6 (a).1) 4 0):Int) (↑(b9 (B4.v6 (a).1) 5 0):Int) (↑(b9 (B4.v6 (a).1) 6 0):Int) (↑(b9 (B4.v6 (a).1) 7 0):Int) (FO b) c) g h (↑(B4.kind (a).1):Int) (B4.name (a).1) (↑(B4.v4 (a).1):Int) (↑(b9 (B4.v6 (a).1) 0 0):Int) (↑(b9 (B4.v6 (a).1) 1 0):Int) (↑(b9 (B4.v6 (a).1) 2 0):Int) (↑(b9 (B4.v6 (a).1) 3 0):Int) (↑(b9 (B4.v6 (a).1) 4 0):Int) (↑(b9 (B4.v6 (a).1) 5 0):Int) (↑(b9 (B4.v6 (a).1) 6 0):Int) (↑(b9 (B4.v6 (a).1) 7 0):Int) (FO b) c [(bH (↑(B4.kind (a).1):Int) (B4.name (a).1) (↑(B4.v4 (a).1):Int) (↑(b9 (B4.v6 (a).1) 0 0):Int) (↑(b9 (B4.v6 (a).1) 1 0):Int) (↑(b9 (B4.v6 (a).1) 2 0):Int) (↑(b9 (B4.v6 (a).1) 3 0):Int) (↑(b9 (B4.v6 (a).1) 4 0):Int) (↑(b9 (B4.v6 (a).1) 5 0):Int) (↑(b9 (B4.v6 (a).1) 6 0):Int) (↑(b9 (B4.v6 (a).1) 7 0):Int))]) (q 0 (bU g h (↑(B4.kind (a).1):Int) (B4.name (a).1) (↑(B4.v4 (a).1):Int) (↑(b9 (B4.v6 (a).1) 0 0):Int) (↑(b9 (B4.v6 (a).1) 1 0):Int) (↑(b9 (B4.v6 (a).1) 2 0):Int) (↑(b9 (B4.v6 (a).1) 3 0):Int) (↑(b9 (B4.v6 (a).1) 4 0):Int) (↑(b9 (B4.v6 (a).1) 5 0):Int) (↑(b9 (B4.v6 (a).1) 6 0):Int) (↑(b9 (B4.v6 (a).1) 7 0):Int) f c) g h (↑(B4.kind (a).1):Int) (B4.name (a).1) (↑(B4.v4 (a).1):Int) (↑(b9 (B4.v6 (a).1) 0 0):Int) (↑(b9 (B4.v6 (a).1) 1 0):Int) (↑(b9 (B4.v6 (a).1) 2 0):Int) (↑(b9 (B4.v6 (a).1) 3 0):Int) (↑(b9 (B4.v6 (a).1) 4 0):Int) (↑(b9 (B4.v6 (a).1) 5 0):Int) (↑(b9 (B4.v6 (a).1) 6 0):Int) (↑(b9 (B4.v6 (a).1) 7 0):Int) f c [(bH (↑(B4.kind (a).1):Int) (B4.name (a).1) (↑(B4.v4 (a).1):Int) (↑(b9 (B4.v6 (a).1) 0 0):Int) (↑(b9 (B4.v6 (a).1) 1 0):Int) (↑(b9 (B4.v6 (a).1) 2 0):Int) (↑(b9 (B4.v6 (a).1) 3 0):Int) (↑(b9 (B4.v6 (a).1) 4 0):Int) (↑(b9 (B4.v6 (a).1) 5 0):Int) (↑(b9 (B4.v6 (a).1) 6 0):Int) (↑(b9 (B4.v6 (a).1) 7 0):Int))]))) none) none)) none
abbrev Qs(b:Code):Prop:=∀(k:Out->St Z->Option R) name0 tail1 b2 l s4 n5 s6 i h j a c d e f g n16 s17,A9 (Y7 L) Q Y b ⟨gp [(2,.ptr 0 0 0),(1,.ptr 1 0 0),(2,pS name0),(0,pS tail1),(50,pB b2)] 29,[(bU l s4 n5 s6 i h j a c d e f g n16 s17),bU0],s⟩ k=X5 name0 tail1 l s4 n5 s6 i h j a c d e f g n16 s17 (λn0 o r l p t q i h j a c d e f g n m=>k .ret ⟨gp [(4,.ptr 1 0 0),(0,pI n0)] 83,(o::(bU r l p t q i h j a c d e f g n)::m),s⟩)
theorem Zm:Qs (R:=R) L Q Y s (cd [1,1,1,1,1] Ck):=by intro k a b m q r n t o j p c d e f g h i l;unfold X5;kernel_rfl
noncomputable def Q8{R:Type}(b a s2 s3:By)(n4:Int)(s5:By)(n6 n7 i n9 c d e f g h:Int)(j:By)(k0:Int->Blk->By->By->Int->By->Int->Int->Int->Int->Int->Int->Int->Int->Int->Int->By->(List Blk)->Option R):Option R:=cond (not (a==[])) (cond (inR 0 a.length) (cond ((bAt a (0:Int))!=58) (k0 4 (bU s2 s3 n4 s5 n6 n7 i n9 c d e f g h j) ([]:List UInt8) ([]:List UInt8) 0 ([]:List UInt8) 0 0 0 0 0 0 0 0 0 0 ([]:List UInt8) []) (X5 b a s2 s3 n4 s5 n6 n7 i n9 c d e f g h j (λp l S T q U r t u v w x y z A B V n=>k0 p l S T q U r t u v w x y z A B V n))) none) (X5 b a s2 s3 n4 s5 n6 n7 i n9 c d e f g h j (λC m W X D a0 F G H I J K M N O P a1 o=>k0 C m W X D a0 F G H I J K M N O P a1 o))
abbrev Qt(b:Code):Prop:=∀(k:Out->St Z->Option R) name0 tail1 o p j q l m h n a c d e f g i,A9 (Y7 L) Q Y b ⟨gp [(2,.ptr 0 0 0),(1,.ptr 1 0 0),(2,pS name0),(0,pS tail1)] 80,[(bU o p j q l m h n a c d e f g i),bU0],s⟩ k=Q8 name0 tail1 o p j q l m h n a c d e f g i (λn0 t o p j q l m h n a c d e f g i r=>k .ret ⟨gp [(4,.ptr 1 0 0),(0,pI n0)] 83,(t::(bU o p j q l m h n a c d e f g i)::r),s⟩)
theorem Aa9(b:Code)(a:Qs (R:=R) L Q Y s b):Qt (R:=R) L Q Y s (cd [1,1,1,1] (G7 [1,1,1,1,1] b Ck)):=by intro k d c r t n u o p l q e f g h i j m;unfold Q8;exact(o7 (by kernel_rfl) (A0 (A0 (A0 rfl ((a k d c ((bAt c (0:Int))!=58) r t n u o p l q e f g h i j m).trans (by kernel_rfl))) rfl) ((a k d c false r t n u o p l q e f g h i j m).trans (by kernel_rfl))))
theorem Ab0:Qt (R:=R) L Q Y s (cd [1,1,1,1] Ck):=by intro k a b p q l r m n i o c d e f g h j;exact o7 (by kernel_rfl) (Aa9 L Q Y s (cd [1,1,1,1,1] Ck) (Zm L Q Y s) k a b p q l r m n i o c d e f g h j)
noncomputable def Si{R:Type}(a J K:By)(G:Int)(M:By)(H C I v w x y z A B:Int)(D:By)(F:Int->Blk->By->By->Int->By->Int->Int->Int->Int->Int->Int->Int->Int->Int->Int->By->(List Blk)->Option R):Option R:=X5 a ([]:List UInt8) J K G M H C I v w x y z A B D (λd b q r e t f g h i j l m n o p u c=>F d b q r e t f g h i j l m n o p u c)
abbrev Qu(b:Code):Prop:=∀(k:Out->St Z->Option R) authority0 kk1 b2 l s4 n5 s6 i h j a c d e f g n16 s17,A9 (Y7 L) Q Y b ⟨gp [(1,pS authority0),(0,.ptr 0 0 0),(1,.ptr 1 0 0),(2,pS authority0),(0,pS ([]:List UInt8)),(1,pI kk1),(35,pB b2)] 42,[(bU l s4 n5 s6 i h j a c d e f g n16 s17),bU0],s⟩ k=Si authority0 l s4 n5 s6 i h j a c d e f g n16 s17 (λn0 o r l p t q i h j a c d e f g n m=>k .ret ⟨gp [(4,.ptr 1 0 0),(0,pI n0)] 83,(o::(bU r l p t q i h j a c d e f g n)::m),s⟩)
theorem Ab1(c:Code)(a:Qs (R:=R) L Q Y s c):Qu (R:=R) L Q Y s (cd [1,1,1,1] (G7 [1,1,1,1,1] c Ck)):=by intro k b n v r t o u p l q d e f g h i j m;unfold Si;exact(o7 (by kernel_rfl) ((a k b ([]:List UInt8) false r t o u p l q d e f g h i j m).trans (by kernel_rfl)))
theorem Ab2:Qu (R:=R) L Q Y s (cd [1,1,1,1] Ck):=by intro k a b m q r n t o j p c d e f g h i l;exact o7 (by kernel_rfl) (Ab1 L Q Y s (cd [1,1,1,1,1] Ck) (Zm L Q Y s) k a b m q r n t o j p c d e f g h i l)
noncomputable def Vt{R:Type}(L:Nat)(u0 u1:By)(u2:Int)(u3:By)(u4 u5 u6 u7 u8 u9 e f g h:Int)(i a:By)(k0:By->By->Int->By->Int->Int->Int->Int->Int->Int->Int->Int->Int->Int->By->Int->(List Blk)->Option R):Option R:=cond (A3 a.length) (vl (L2 (u8n (64:Int)) a) λc5=>cond (not (ltI c5 0)) (cond (I9 0 c5 a.length) (vl (cut a 0 c5) λe7=>cond (I9 (A1 (c5+1)) (a.length:Int) a.length) (vl (cut a (A1 (c5+1)) (a.length:Int)) λb=>cond (A3 b.length) (cond (p9 ([91]:List UInt8) b) (cond (A3 b.length) (vl (o5 b (u8n (93:Int))) λJ=>cond (ltI J 0) (k0 ([]:List UInt8) ([]:List UInt8) 0 ([]:List UInt8) 0 0 0 0 0 0 0 0 0 0 ([]:List UInt8) 4 [(bU u0 e7 u2 u3 u4 u5 u6 u7 u8 u9 e f g h i),bU0]) (vl (A1 (J+1)) λe8=>cond (I9 0 e8 b.length) (vl (A1 (J+1)) λe9=>cond (I9 e9 (b.length:Int) b.length) (vl (cut b e9 (b.length:Int)) λi5=>Q8 (cut b 0 e8) i5 u0 e7 u2 u3 u4 u5 u6 u7 u8 u9 e f g h i (λi4 i3 g3 g4 f2 g5 f3 f4 f5 f6 f7 f8 f9 g0 g1 g2 g6 h2=>k0 g3 g4 f2 g5 f3 f4 f5 f6 f7 f8 f9 g0 g1 g2 g6 i4 (i3::((bU g3 g4 f2 g5 f3 f4 f5 f6 f7 f8 f9 g0 g1 g2 g6)::h2)))) none) none)) none) (cond (A3 b.length) (vl (o5 b (u8n (58:Int))) λc=>cond (not (ltI c 0)) (cond (I9 0 c b.length) (cond (I9 c (b.length:Int) b.length) (vl (cut b c (b.length:Int)) λi6=>Q8 (cut b 0 c) i6 u0 e7 u2 u3 u4 u5 u6 u7 u8 u9 e f g h i (λh8 g7 c6 c7 j c8 l m n o p q r t u v c9 h3=>k0 c6 c7 j c8 l m n o p q r t u v c9 h8 (g7::((bU c6 c7 j c8 l m n o p q r t u v c9)::h3)))) none) none) (Si b u0 e7 u2 u3 u4 u5 u6 u7 u8 u9 e f g h i (λh9 g8 d0 d1 w d2 x y z A B C D F G H d3 h4=>k0 d0 d1 w d2 x y z A B C D F G H d3 h9 (g8::((bU d0 d1 w d2 x y z A B C D F G H d3)::h4))))) none)) none) none) none) (cond (A3 a.length) (cond (p9 ([91]:List UInt8) a) (cond (A3 a.length) (vl (o5 a (u8n (93:Int))) λc4=>cond (ltI c4 0) (k0 ([]:List UInt8) ([]:List UInt8) 0 ([]:List UInt8) 0 0 0 0 0 0 0 0 0 0 ([]:List UInt8) 4 [(bU u0 u1 u2 u3 u4 u5 u6 u7 u8 u9 e f g h i),bU0]) (vl (A1 (c4+1)) λf0=>cond (I9 0 f0 a.length) (vl (cut a 0 f0) λi7=>vl (A1 (c4+1)) λf1=>cond (I9 f1 (a.length:Int) a.length) (vl (cut a f1 (a.length:Int)) λi9=>Q8 i7 i9 u0 u1 u2 u3 u4 u5 u6 u7 u8 u9 e f g h i (λi0 g9 d4 d5 I d6 K M N O P S T U V W d7 h5=>k0 d4 d5 I d6 K M N O P S T U V W d7 i0 (g9::((bU d4 d5 I d6 K M N O P S T U V W d7)::h5)))) none) none)) none) (cond (A3 a.length) (vl (o5 a (u8n (58:Int))) λd=>cond (not (ltI d 0)) (cond (I9 0 d a.length) (vl (cut a 0 d) λj3=>cond (I9 d (a.length:Int) a.length) (vl (cut a d (a.length:Int)) λk1=>Q8 j3 k1 u0 u1 u2 u3 u4 u5 u6 u7 u8 u9 e f g h i (λi1 h0 d8 d9 X e1 a0 a1 a2 a3 a4 a5 a6 a7 a9 b0 e2 h6=>k0 d8 d9 X e1 a0 a1 a2 a3 a4 a5 a6 a7 a9 b0 e2 i1 (h0::((bU d8 d9 X e1 a0 a1 a2 a3 a4 a5 a6 a7 a9 b0 e2)::h6)))) none) none) (Si a u0 u1 u2 u3 u4 u5 u6 u7 u8 u9 e f g h i (λi2 h1 e3 e4 b1 e5 b2 b3 b4 b5 b6 b7 c0 c1 c2 c3 e6 h7=>k0 e3 e4 b1 e5 b2 b3 b4 b5 b6 b7 c0 c1 c2 c3 e6 i2 (h1::((bU e3 e4 b1 e5 b2 b3 b4 b5 b6 b7 c0 c1 c2 c3 e6)::h7))))) none)) none)) none
theorem Ce1(d:Code)(a:Qt (R:=PV × List Blk × Z) L Q Y s d)(c:Qu (R:=PV × List Blk × Z) L Q Y s d)(m G:By)(n:Int)(o:By)(p q r t u8 u e f g h:Int)(i b:By):A9 (Y7 L) Q Y (cd [] (G7 [1,1,1,1] d Ck)) ⟨[(gU m G n o p q r t u8 u e f g h i),pS b]++tps 87,[],s⟩ (F3 (Y7 L) ai6)=Vt L m G n o p q r t u8 u e f g h i b (λX r1 r2 r3 r4 r5 r6 r7 r8 r9 I J K M N O H=>some (.tup [(gU X r1 r2 r3 r4 r5 r6 r7 r8 r9 I J K M N),pI O],H,s)):=by unfold Vt;exact let x:=(F3 (Y7 L) ai6);(o7 (by kernel_rfl) (A0 (A4 λW=>(A0 (A0 (A4 λv=>(A0 (A4 λw=>(A0 (A0 (A0 (A4 λP=>(A0 rfl (A4 λy=>(A0 (A4 λS=>(A0 (A4 λz=>((a x (cut w 0 y) z m v n o p q r t u8 u e f g h i).trans (by kernel_rfl))) rfl)) rfl)))) rfl) (A0 (A4 λj=>(A0 (A0 (A0 (A4 λA=>((a x (cut w 0 j) A m v n o p q r t u8 u e f g h i).trans (by kernel_rfl))) rfl) rfl) ((c x w j (not (ltI j 0)) m v n o p q r t u8 u e f g h i).trans (by kernel_rfl)))) rfl)) rfl)) rfl)) rfl) (A0 (A0 (A0 (A4 λT=>(A0 rfl (A4 λU=>(A0 (A4 λB=>(A4 λV=>(A0 (A4 λC=>((a x B C m G n o p q r t u8 u e f g h i).trans (by kernel_rfl))) rfl))) rfl)))) rfl) (A0 (A4 λl=>(A0 (A0 (A4 λD=>(A0 (A4 λF=>((a x D F m G n o p q r t u8 u e f g h i).trans (by kernel_rfl))) rfl)) rfl) ((c x b l (not (ltI l 0)) m G n o p q r t u8 u e f g h i).trans (by kernel_rfl)))) rfl)) rfl))) rfl))
theorem Ce2(d:Nat)(u0 u1 u2 u3 u4 u5 u6 u7 u8 u9 u10 u11 u12 u13 u14 authority15):evC (Y7 L) (d+1) Z Y 121 [(gU u0 u1 u2 u3 u4 u5 u6 u7 u8 u9 u10 u11 u12 u13 u14),pS authority15] [] s=Vt L u0 u1 u2 u3 u4 u5 u6 u7 u8 u9 u10 u11 u12 u13 u14 authority15 (λi j l m n o p q r8 r b c e f g h a=>some (.tup [(gU i j l m n o p q r8 r b c e f g),pI h],a,s)):=
 (evE (fn:=ai6) (by kernel_rfl)).trans (o7 (by kernel_rfl) (Ce1 L (evC (Y7 L) d) Y s (cd [1,1,1,1] Ck) (Ab0 L (evC (Y7 L) d) Y s) (Ab2 L (evC (Y7 L) d) Y s) u0 u1 u2 u3 u4 u5 u6 u7 u8 u9 u10 u11 u12 u13 u14 authority15))
noncomputable abbrev Cl6:Code:=C7 al2
noncomputable def Um(L:Nat):Cfg:=B7 L [82] (A2 [(2,[0,1,0,8,0])]) [(73,Ay2),(115,Cj8),(116,Ax0),(117,FW),(118,Aw4),(119,VF),(120,HM),(121,Ad7)] (A2 [(23,[2,0]),(22,[2,5,0]),(21,[2,5,0,65]),(20,[2,5,0]),(19,[2,3,1,0]),(18,[2,3,1,0,0,52]),(17,[2,3,1,0,0]),(16,[2,3,1,0]),(15,[2,0]),(14,[2,3,1,48]),(13,[2,3,0,0]),(12,[2,0]),(11,[2,3,1,40]),(10,[2,3,1]),(9,[2,0]),(8,[2,2,0,33]),(7,[2,2,0,0]),(6,[0,1,9,0]),(5,[2,0]),(4,[0,1,9,0,11]),(3,[0,1,1,7,0]),(2,[0,1,9,0,0]),(1,[0,1,9,0]),(0,[0,1])]) [73,115,116,117,118,119,120] (A2 [(0,[0,1]),(1,[0,1,9,0])]) (some [2,0]) [] [] []
noncomputable def Js{R:Type}(L n:Nat)(b:By)(e a:Int)(c:(List Blk)->Option R)(d:By->Option R):Option R:=match n with|0=>none|n+1=>cond (ltI a e) (cond (inR a b.length) (cond (not (ltI 32 (bAt b a))) (c []) (cond (inR a b.length) (cond ((bAt b a)==127) (c []) (Js L n b e (A1 (a+1)) c d)) none)) none) (d b)
theorem Bm6(n a n1 n2):D0 1 ((Um L).keep 2) (bd (Um L) Q Y (cd [1,0,1,0,0] Cl6)) n ⟨gp [(0,pS a),(1,.ptr 0 0 0),(9,pI n1),(0,pI n2)] 71,[bU0],s⟩ k =
 Js L n a n1 n2 (λb=>k .ret ⟨gp [(2,.ptr 0 0 0),(0,pI (4:Int))] 81,(bU0::b),s⟩) (λa=>k (.exit 0) ⟨gp [(0,pS a),(1,.ptr 0 0 0)] 82,[bU0],s⟩):=by
 induction n generalizing a n1 n2 with
 | zero=>rfl
 | succ n c=>rw[Js];simp only[<-c];kernel_rfl
noncomputable def OX{R:Type}(L:Nat)(q:By)(n:By->By->Int->By->Int->Int->Int->Int->Int->Int->Int->Int->Int->Int->By->Int->(List Blk)->Option R):Option R:=Js L L q (q.length:Int) 0 (λp=>n ([]:List UInt8) ([]:List UInt8) 0 ([]:List UInt8) 0 0 0 0 0 0 0 0 0 0 ([]:List UInt8) 4 (bU0::p)) (λo=>cond (A3 o.length) (vl ((x4 o ([58]:List UInt8))).1 λf=>vl (((x4 o ([58]:List UInt8))).2).1 λj=>cond (not (((x4 o ([58]:List UInt8))).2).2) (n ([]:List UInt8) ([]:List UInt8) 0 ([]:List UInt8) 0 0 0 0 0 0 0 0 0 0 ([]:List UInt8) 15 [bU0]) (cond (A3 f.length) (cond (not (T7 f)) (n ([]:List UInt8) ([]:List UInt8) 0 ([]:List UInt8) 0 0 0 0 0 0 0 0 0 0 ([]:List UInt8) 15 [bU0]) (cond (A3 f.length) (cond (not (H9 (B5 f))) (n (B5 f) ([]:List UInt8) 0 ([]:List UInt8) 0 0 0 0 0 0 0 0 0 (-1) j 0 [(bU (B5 f) ([]:List UInt8) (0:Int) ([]:List UInt8) (0:Int) (0:Int) (0:Int) (0:Int) (0:Int) (0:Int) (0:Int) (0:Int) (0:Int) ((-1):Int) j),(bU (B5 f) ([]:List UInt8) (0:Int) ([]:List UInt8) (0:Int) (0:Int) (0:Int) (0:Int) (0:Int) (0:Int) (0:Int) (0:Int) (0:Int) ((-1):Int) j)]) (cond (A3 j.length) (vl (Hl j ([47,47]:List UInt8)) λe=>cond (not (p9 ([47,47]:List UInt8) j)) (n ([]:List UInt8) ([]:List UInt8) 0 ([]:List UInt8) 0 0 0 0 0 0 0 0 0 0 ([]:List UInt8) 4 [bU0,(bU (B5 f) ([]:List UInt8) (0:Int) ([]:List UInt8) (0:Int) (0:Int) (0:Int) (0:Int) (0:Int) (0:Int) (0:Int) (0:Int) (0:Int) ((-1):Int) j)]) (cond (A3 e.length) (cond (CD ([47,63,35]:List UInt8)) (vl (aa8 e ([47,63,35]:List UInt8)) λi=>cond (not (ltI i 0)) (cond (I9 0 i e.length) (cond (I9 (↑(b8 (cut e 0 i)):Int) (e.length:Int) e.length) (vl (cut e (↑(b8 (cut e 0 i)):Int) (e.length:Int)) λg=>cond (A3 g.length) (cond (not (p9 ([47]:List UInt8) g)) (cond (E8 1 g.length) (vl (([47]:List UInt8)++g) λl=>cond (A3 (b8 (B5 f))) (cond (A3 l.length) (cond (A3 (b8 (cut e 0 i))) (cond (((-1):Int)==((-1):Int)) (vl (G4 (B5 f) l (cut e 0 i)) λa=>n (uS a) (uU a) (uK a) (uN a) (uV a) (uA a 0) (uA a 1) (uA a 2) (uA a 3) (uA a 4) (uA a 5) (uA a 6) (uA a 7) (uP a) (uR a) (uE a) [(bQ a),(bU (B5 f) ([]:List UInt8) (0:Int) ([]:List UInt8) (0:Int) (0:Int) (0:Int) (0:Int) (0:Int) (0:Int) (0:Int) (0:Int) (0:Int) ((-1):Int) l)]) none) none) none) none) none) (cond (A3 (b8 (B5 f))) (cond (A3 g.length) (cond (A3 (b8 (cut e 0 i))) (cond (((-1):Int)==((-1):Int)) (vl (G4 (B5 f) g (cut e 0 i)) λb=>n (uS b) (uU b) (uK b) (uN b) (uV b) (uA b 0) (uA b 1) (uA b 2) (uA b 3) (uA b 4) (uA b 5) (uA b 6) (uA b 7) (uP b) (uR b) (uE b) [(bQ b),(bU (B5 f) ([]:List UInt8) (0:Int) ([]:List UInt8) (0:Int) (0:Int) (0:Int) (0:Int) (0:Int) (0:Int) (0:Int) (0:Int) (0:Int) ((-1):Int) g)]) none) none) none) none)) none) none) none) (cond (I9 (e.length:Int) (e.length:Int) e.length) (vl (cut e (e.length:Int) (e.length:Int)) λh=>cond (A3 h.length) (cond (not (p9 ([47]:List UInt8) h)) (cond (E8 1 h.length) (vl (([47]:List UInt8)++h) λm=>cond (A3 (b8 (B5 f))) (cond (A3 m.length) (cond (A3 e.length) (cond (((-1):Int)==((-1):Int)) (vl (G4 (B5 f) m e) λc=>n (uS c) (uU c) (uK c) (uN c) (uV c) (uA c 0) (uA c 1) (uA c 2) (uA c 3) (uA c 4) (uA c 5) (uA c 6) (uA c 7) (uP c) (uR c) (uE c) [(bQ c),(bU (B5 f) ([]:List UInt8) (0:Int) ([]:List UInt8) (0:Int) (0:Int) (0:Int) (0:Int) (0:Int) (0:Int) (0:Int) (0:Int) (0:Int) ((-1):Int) m)]) none) none) none) none) none) (cond (A3 (b8 (B5 f))) (cond (A3 h.length) (cond (A3 e.length) (cond (((-1):Int)==((-1):Int)) (vl (G4 (B5 f) h e) λd=>n (uS d) (uU d) (uK d) (uN d) (uV d) (uA d 0) (uA d 1) (uA d 2) (uA d 3) (uA d 4) (uA d 5) (uA d 6) (uA d 7) (uP d) (uR d) (uE d) [(bQ d),(bU (B5 f) ([]:List UInt8) (0:Int) ([]:List UInt8) (0:Int) (0:Int) (0:Int) (0:Int) (0:Int) (0:Int) (0:Int) (0:Int) (0:Int) ((-1):Int) h)]) none) none) none) none)) none) none)) none) none)) none)) none)) none)) none)
theorem Dl0(d:Nat)(s0):evC (Um L) (d+1) Z Y 82 [pS s0] [] s=OX L s0 (λi j l m n o p q r8 r b c e f g h a=>some (.tup [(gU i j l m n o p q r8 r b c e f g),pI h],a,s)):=by refine(evE (fn:=al2) (by kernel_rfl)).trans ?_;generalize evC (Um L) d=Q;unfold OX;exact(o7 (by kernel_rfl) ((Bm6 L Q Y s (E4 0 (E1 (Um L) Q Y (cd [1,1] Cl6) (F3 (Um L) al2))) L s0 (s0.length:Int) 0).trans (by kernel_rfl)))
noncomputable def XE(L:Nat):Cfg:=B7 L [83] (A2 []) [(117,FW),(122,Aw7),(123,Bp3)] (A2 [(9,[2]),(8,[1,1]),(7,[1,1,28]),(6,[1,1]),(5,[1,1]),(4,[1,1,15]),(3,[1,1]),(2,[2]),(1,[1,5]),(0,[1])]) [117,122,123] (A2 []) (some [2]) [] [] []
noncomputable def Tc{R:Type}(L:Nat)(l t:By)(u:Int)(m:By)(n o p q u8 r e f g b:Int)(a:By)(v:By->(List Blk)->Option R):Option R:=cond (not (H9 l)) (cond (E8 l.length 1) (vl (l++[58]) λw=>cond (E8 w.length a.length) (v (w++a) [(bU l t u m n o p q u8 r e f g b a)]) none) none) (cond (E8 l.length 3) (vl (l++[58,47,47]) λc=>cond (not (t==[])) (cond (E8 t.length 1) (vl (t++[64]) λh=>cond (E8 c.length h.length) (cond (A3 m.length) (cond (ltN n 4294967296) (cond (ok8 o p q u8 r e f g) (vl (R9 (mkH u m n (n8 o p q u8 r e f g))) λj=>cond (E8 (b8 (c++h)) j.length) (cond (b !=((-1):Int)) (cond (S9 b) (cond (E8 1 (b8 (U9 b))) (vl (([58]:List UInt8)++(U9 b)) λz=>cond (E8 (b8 ((c++h)++j)) z.length) (vl (((c++h)++j)++z) λA=>cond (E8 A.length a.length) (v (A++a) [(bU l t u m n o p q u8 r e f g b a)]) none) none) none) none) (cond (E8 (b8 ((c++h)++j)) a.length) (vl (((c++h)++j)++a) λx=>v x [(bU l t u m n o p q u8 r e f g b a)]) none)) none) none) none) none) none) none) (cond (A3 m.length) (cond (ltN n 4294967296) (cond (ok8 o p q u8 r e f g) (vl (R9 (mkH u m n (n8 o p q u8 r e f g))) λd=>cond (E8 c.length d.length) (cond (b !=((-1):Int)) (cond (S9 b) (cond (E8 1 (b8 (U9 b))) (vl (([58]:List UInt8)++(U9 b)) λi=>cond (E8 (b8 (c++d)) i.length) (cond (E8 (b8 ((c++d)++i)) a.length) (vl (((c++d)++i)++a) λy=>v y [(bU l t u m n o p q u8 r e f g b a)]) none) none) none) none) (cond (E8 (b8 (c++d)) a.length) (v ((c++d)++a) [(bU l t u m n o p q u8 r e f g b a)]) none)) none) none) none) none)) none)
theorem C14(d:Nat)(u0 u1 u2 u3 u4 u5 u6 u7 u8 u9 u10 u11 u12 u13 u14):evC (XE L) (d+1) Z Y 83 [(gU u0 u1 u2 u3 u4 u5 u6 u7 u8 u9 u10 u11 u12 u13 u14)] [] s=Tc L u0 u1 u2 u3 u4 u5 u6 u7 u8 u9 u10 u11 u12 u13 u14 (λb a=>some (pS b,a,s)):=by refine(evE (fn:=Tryz.f83) (by kernel_rfl)).trans ?_;generalize evC (XE L) d=Q;unfold Tc;kernel_rfl
noncomputable def BF(L:Nat):Cfg:=B7 L [51] (A2 []) [(83,VT),(82,Cj7)] (A2 [(2,[2]),(1,[1,1,0]),(0,[1])]) [83] (A2 []) (some [2]) [] [] []
noncomputable def HB{R:Type}(L:Nat)(h i:By)(q:Int)(j:By)(l m n o u8 p b c d e:Int)(f:By)(r:Bool->(List Blk)->Option R):Option R:=cond (smU h i j f) (cond (ltN l 4294967296) (cond (ok8 m n o u8 p b c d) (cond (S9 e) (vl (W9 (mkU h i q j l (n8 m n o u8 p b c d) e f)) λg=>cond (A3 g.length) (vl (C1 g) λa=>cond ((uE a)==0) (r ((h==(uS a))&&((i==(uU a))&&((q==(uK a))&&((j==(uN a))&&((l==(uV a))&&((m==(uA a 0))&&((n==(uA a 1))&&((o==(uA a 2))&&((u8==(uA a 3))&&((p==(uA a 4))&&((b==(uA a 5))&&((c==(uA a 6))&&((d==(uA a 7))&&((e==(uP a))&&((f==(uR a))&&true))))))))))))))) [(bU h i q j l m n o u8 p b c d e f),(bQ a)]) (r false [(bU h i q j l m n o u8 p b c d e f),(bQ a)])) none) none) none) none) none
theorem Bn1(d:Nat)(u0 u1 u2 u3 u4 u5 u6 u7 u8 u9 u10 u11 u12 u13 u14):evC (BF L) (d+1) Z Y 51 [(gU u0 u1 u2 u3 u4 u5 u6 u7 u8 u9 u10 u11 u12 u13 u14)] [] s=HB L u0 u1 u2 u3 u4 u5 u6 u7 u8 u9 u10 u11 u12 u13 u14 (λb a=>some (pB b,a,s)):=by refine(evE (fn:=Tryz.f51) (by kernel_rfl)).trans ?_;generalize evC (BF L) d=Q;unfold HB;kernel_rfl
noncomputable def A21(L:Nat):Cfg:=B7 L [85] (A2 []) [(51,Rg),(83,VT)] (A2 [(3,[2]),(2,[2]),(1,[1,3]),(0,[1])]) [51,83] (A2 []) (some [2]) [] [] []
noncomputable def Dk3{R:Type}(L:Nat)(f g:By)(o:Int)(h:By)(i j l m u8 n a b c d:Int)(e:By)(q:By->(List Blk)->Option R):Option R:=cond (smU f g h e) (cond (ltN i 4294967296) (cond (ok8 j l m u8 n a b c) (cond (S9 d) (cond (not (R5 (mkU f g o h i (n8 j l m u8 n a b c) d e))) (q ([]:List UInt8) [(bU f g o h i j l m u8 n a b c d e)]) (cond (smU f g h e) (cond (ltN i 4294967296) (cond (ok8 j l m u8 n a b c) (cond (S9 d) (vl (W9 (mkU f g o h i (n8 j l m u8 n a b c) d e)) λp=>q p [(bU f g o h i j l m u8 n a b c d e)]) none) none) none) none)) none) none) none) none
theorem Dk4(d:Nat)(u0 u1 u2 u3 u4 u5 u6 u7 u8 u9 u10 u11 u12 u13 u14):evC (A21 L) (d+1) Z Y 85 [(gU u0 u1 u2 u3 u4 u5 u6 u7 u8 u9 u10 u11 u12 u13 u14)] [] s=Dk3 L u0 u1 u2 u3 u4 u5 u6 u7 u8 u9 u10 u11 u12 u13 u14 (λb a=>some (pS b,a,s)):=by refine(evE (fn:=Tryz.f85) (by kernel_rfl)).trans ?_;generalize evC (A21 L) d=Q;unfold Dk3;kernel_rfl
end
section
variable {Z R : Type} (L : Nat) (Q : G2) (Y : Yh Z) (s : Z) (k : Out -> St Z -> Option R)
noncomputable def BD(L:Nat):Cfg:=B7 L [160] (A2 []) [] (A2 [(1,[2]),(0,[0])]) [] (A2 []) (some [2]) [] [] []
noncomputable def ZX{R:Type}(L:Nat)(a:Int)(b:Bool->Option R):Option R:=b (ltI (8:Int) a)
theorem Bl2(d:Nat)(a:Int):evC (BD L) (d+1) Z Y 160 [.s (.int .i64 a)] [] s=ZX L a (λb=>some (.s (.bool b),[],s)):=by refine(evE (fn:=Tryz.f160) (by kernel_rfl)).trans ?_;generalize evC (BD L) d=Q;unfold ZX;kernel_rfl
noncomputable abbrev Wi:Code:=C7 ai8
noncomputable def Cm(L:Nat):Cfg:=B7 L [196] (A2 []) [] (A2 [(5,[2]),(2,[2]),(4,[2]),(3,[10]),(1,[0,2]),(0,[0])]) [] (A2 [(0,[])]) (some [2]) [] [] []
noncomputable def Ls{R:Type}(a:Int)(d:Bool)(b:Unit->Option R)(c:Bool->Option R):Option R:=cond d (b ()) (cond (ltI (57343:Int) a) (cond (not (ltI (1114111:Int) a)) (b ()) (c (not (ltI (1114111:Int) a)))) (c false))
abbrev FJ(b:Code):Prop:=∀(k:Out->St Z->Option R) (c:Int) (a:Bool),A9 (Cm L) Q Y b ⟨gp [(0,.s (.int .i32 c)),(2,.s (.bool a))] 13,[],s⟩ k=Ls c a (λ_=>k .ret ⟨gp [(2,.s (.bool true))] 14,[],s⟩) (λd=>k .normal ⟨gp [(10,.s (.bool d))] 6,[],s⟩)
theorem Ab3:FJ (R:=R) L Q Y s (cd [1,0,0,1] Wi):=by intro k b a;unfold Ls;kernel_rfl
noncomputable def NP{R:Type}(L:Nat)(b:Int)(a:Bool->Option R):Option R:=cond (not (ltI b (0:Int))) (Ls b (ltI b (55296:Int)) (λ_=>a true) (λc=>a false)) (Ls b false (λ_=>a true) (λd=>a false))
theorem Ce7(b:Code)(a:FJ (R:=PV × List Blk × Z) L Q Y s b)(c:Int):A9 (Cm L) Q Y (cd [] (G7 [1,0,0,1] b Wi)) ⟨[.s (.int .i32 c)]++tps 16,[],s⟩ (F3 (Cm L) ai8)=NP L c (λc=>some (.s (.bool c),[],s)):=by unfold NP;exact let d:=(E4 0 (E1 (Cm L) Q Y (cd [1,1] Wi) (F3 (Cm L) ai8)));(o7 (by kernel_rfl) (A0 ((a d c (ltI c (55296:Int))).trans (by kernel_rfl)) ((a d c false).trans (by kernel_rfl))))
theorem Ce8(d:Nat)(a:Int):evC (Cm L) (d+1) Z Y 196 [.s (.int .i32 a)] [] s=NP L a (λa=>some (.s (.bool a),[],s)):=
 (evE (fn:=ai8) (by kernel_rfl)).trans (o7 (by kernel_rfl) (Ce7 L (evC (Cm L) d) Y s (cd [1,0,0,1] Wi) (Ab3 L (evC (Cm L) d) Y s) a))
noncomputable abbrev Ay:Code:=C7 ai7
noncomputable def M3(L:Nat):Cfg:=B7 L [159] (A2 [(38,[4,170]),(29,[0,3,2,0,0,4,0,0]),(25,[0,3,2,0,0,4,0]),(12,[0,3,2,0,0,2]),(5,[0,3,2,0,0])]) [(157,Wb),(196,JH)] (A2 [(35,[4]),(42,[4]),(41,[4]),(40,[5,169,5]),(39,[5,0,168]),(38,[175,0,0]),(37,[175]),(44,[4]),(33,[4]),(22,[4]),(21,[8,0,3,94]),(20,[8,0,3]),(26,[0,6,0,0,4,0]),(32,[4]),(30,[0,6,0,0,4,0,0]),(31,[0,6,0,0,4,0,0,139]),(29,[0,6,0,0,4,0,0,126]),(28,[0,6,0,0,4,0,0]),(27,[0,6,0,0,4,0,123]),(25,[0,6,0,0,4,0,108]),(24,[0,6,0,0,4,0]),(23,[0,6,0,0,4]),(19,[4]),(18,[0,6,0,0,88]),(17,[0,6,0,0,0]),(16,[0,6,0,0,0]),(15,[4]),(13,[0,6,0,0,2]),(14,[0,6,0,0,2,51]),(12,[0,6,0,0,2,38]),(11,[0,6,0,0,2]),(10,[0,6,0,0]),(9,[4]),(8,[0,6,0,0,1,31]),(7,[0,6,0,0,1]),(6,[0,6,0,0,23]),(5,[0,6,0,0,16]),(4,[0,6,0,0]),(3,[0,6,0,0]),(2,[0,6,0]),(1,[0,6]),(43,[0,0,181]),(36,[0,0,169]),(34,[0,0,158]),(0,[0,0])]) [157,196] (A2 [(0,[4]),(9,[]),(10,[175]),(5,[]),(6,[0,6,0,0,4,0]),(7,[8,0]),(8,[0,6,0,0,4,0,0]),(1,[]),(2,[0,6,0,0]),(3,[8,0]),(4,[0,6,0,0,2])]) (some [4]) [] [] []
noncomputable def Ee{R:Type}(L n:Nat)(self:Nat->Option R)(a:Nat)(c:Int->Nat->Option R)(d:Nat->Option R):Option R:=cond (decide (a<3)) (vl ((x6 ⟨w9 (([47,63,35]:List UInt8))⟩ a)).1 λb=>cond (b==(65533:Int)) (c (↑a:Int) (a+((x6 ⟨w9 (([47,63,35]:List UInt8))⟩ a)).2)) (self (a+((x6 ⟨w9 (([47,63,35]:List UInt8))⟩ a)).2))) (d a)
noncomputable def Ah{R:Type}(L n:Nat)(a:Nat)(b:Int->Nat->Option R)(c:Nat->Option R):Option R:=Cu5 (α:=Nat->Option R) (λ_=>none) (λn self a=>Ee L n self a b c) n a
theorem Fb{R:Type}(L n:Nat)(a:Nat)(b:Int->Nat->Option R)(c:Nat->Option R):Ah L (n+1) a b c=Ee L n (λa=>Ah L n a b c) a b c:=rfl
theorem ZU(n:Nat)(a:Nat):D0 1 ((M3 L).keep 38) (bd (M3 L) Q Y (cd [1,0,1,1,1,0,0,1,0,0] Ay)) n ⟨gp [(175,.it 0)] 11,[.iter (([47,63,35]:List UInt8)) a],s⟩ k =
 Ah L n a (λn0 c=>k .ret ⟨gp [(4,.s (.int .i64 n0))] 182,[.iter (([47,63,35]:List UInt8)) c],s⟩) (λa=>k (.exit 9) ⟨gp [] 187,[.iter (([47,63,35]:List UInt8)) a],s⟩):=by
 induction n generalizing a with
 | zero=>rfl
 | succ n b=>rw[Fb];unfold Ee;exact(o7 (by kernel_rfl) (A0 (A4 λd=>(A0 rfl (b (a+((x6 ⟨w9 (([47,63,35]:List UInt8))⟩ a)).2)))) rfl))
noncomputable def Vr{R:Type}(L n:Nat)(self:By->Int->Int->Int->Option R)(b:By)(a f c:Int)(g:Int->Int->Option R):Option R:=cond (ltI c (↑(b8 b):Int)) (cond (inR (A1 (f-c)) 3) (vl (bAt (([47,63,35]:List UInt8)) (A1 (f-c))) λd=>cond (inR (A1 (a-c)) (b8 b)) (vl (bAt b (A1 (a-c))) λe=>cond (d !=e) (none) (self b a f (A1 (c+(1:Int))))) (none)) (none)) (g a f)
noncomputable def Lp{R:Type}(L n:Nat)(b:By)(a c d:Int)(e:Int->Int->Option R):Option R:=Cu5 (α:=By->Int->Int->Int->Option R) (λ_ _ _ _=>none) (λn self b a c d=>Vr L n self b a c d e) n b a c d
theorem As6{R:Type}(L n:Nat)(b:By)(a c d:Int)(e:Int->Int->Option R):Lp L (n+1) b a c d e=Vr L n (λb a c d=>Lp L n b a c d e) b a c d e:=rfl
theorem Zb(n:Nat)(b:By)(a d e:Int):D0 0 ((M3 L).keep 12) (bd (M3 L) Q Y (cd [1,0,1,1,1,1,1,1,0,1,1,1,1,0,0,0,1,0,0,1,0,1,0,0] Ay)) n ⟨gp [(0,.s (.str (([47,63,35]:List UInt8)))),(6,.s (.str b)),(0,.s (.int .i64 a)),(0,.s (.int .i64 d)),(2,.s (.int .i64 e))] 174,[],s⟩ k =
 Lp L n b a d e (λc h=>k (.exit 3) ⟨gp [(8,.s (.int .i64 c)),(0,.s (.int .i64 h))] 177,[],s⟩):=by
 induction n generalizing b a d e with
 | zero=>rfl
 | succ n i=>rw[As6];unfold Vr;exact(o7 (by kernel_rfl) (A0 (A0 (A4 λf=>(A0 (A4 λg=>(A0 rfl (i b a d (A1 (e+(1:Int)))))) rfl)) rfl) rfl))
noncomputable def Nt{R:Type}(L n:Nat)(self:By->Int->Option R)(b:By)(a:Int)(m:Int->Option R)(o:Unit->Option R):Option R:=cond (ltI a (3:Int)) (cond (inR a 3) (vl (bAt (([47,63,35]:List UInt8)) a) λj=>cond (inR a (b8 b)) (cond (j !=(bAt b a)) (vl (A1 (a+(1:Int))) λe=>cond (I9 e (3:Int) 3) (vl (cut (([47,63,35]:List UInt8)) e (3:Int)) λg=>cond (inR a (b8 b)) (cond (A3 (b8 g)) (cond (inR (bAt b a) 256) (vl (o5 g (u8n (bAt b a))) λf=>cond (ltI f (0:Int)) (m (-1)) (vl (A1 (f+(1:Int))) λl=>Lp L L b a (A1 (a+l)) 1 (λc h=>m (A1 (h-c))))) (none)) (none)) (none)) (none)) (Lp L L b a a 1 (λd i=>m (A1 (i-d))))) (none)) (none)) (o ())
noncomputable def Gy{R:Type}(L n:Nat)(b:By)(a:Int)(c:Int->Option R)(d:Unit->Option R):Option R:=Cu5 (α:=By->Int->Option R) (λ_ _=>none) (λn self b a=>Nt L n self b a c d) n b a
theorem FF{R:Type}(L n:Nat)(b:By)(a:Int)(c:Int->Option R)(d:Unit->Option R):Gy L (n+1) b a c d=Nt L n (λb a=>Gy L n b a c d) b a c d:=rfl
theorem ZV(n:Nat)(b:By)(a:Int):D0 0 ((M3 L).keep 5) (bd (M3 L) Q Y (cd [1,0,1,1,1,1,1,1,0,1,1,1,1,0,0,0] Ay)) n ⟨gp [(0,.s (.str (([47,63,35]:List UInt8)))),(6,.s (.str b)),(0,.s (.int .i64 a)),(0,.s (.int .i64 a))] 177,[],s⟩ k =
 Gy L n b a (λn0=>k .ret ⟨gp [(4,.s (.int .i64 n0))] 182,[],s⟩) (λ_=>k (.exit 1) ⟨gp [] 187,[],s⟩):=by
 induction n generalizing b a with
 | zero=>rfl
 | succ n i=>rw[FF];unfold Nt;exact let d:=(E4 3 (E1 (M3 L) Q Y (cd [1,0,1,1,1,1,1,1,0,1,1,1,1,0,0,0,1,0,0,1,1] Ay) (E4 2 (lpK 0 ((M3 L).keep 5) (bd (M3 L) Q Y (cd [1,0,1,1,1,1,1,1,0,1,1,1,1,0,0,0] Ay)) n k))));(o7 (by kernel_rfl) (A0 (A0 (A4 λe=>(A0 (A0 (A4 λf=>(A0 (A4 λh=>(A0 (A0 (A0 (A4 λg=>(A0 rfl (A4 λc=>((Zb L Q Y s d L b a (A1 (a+c)) 1).trans (by kernel_rfl))))) rfl) rfl) rfl)) rfl)) ((Zb L Q Y s d L b a a 1).trans (by kernel_rfl))) rfl)) rfl) rfl))
noncomputable def Lo{R:Type}(L:Nat)(b:Int)(l:Bool)(d:Int->Option R)(j:Int->Nat->Option R):Option R:=cond l (cond (inR (wu8 b) 256) (vl (o5 (([47,63,35]:List UInt8)) (u8n (wu8 b))) λg=>d g) (none)) (cond (b==(65533:Int)) (Ah L L 0 (λi e=>j i e) (λf=>j (-1) f)) (cond (not (NQ b)) (d (-1)) (vl (ab9 b).data.toList λc=>vl (A1 ((↑(b8 c):Int)-(1:Int))) λh=>Gy L L c h (λa=>d a) (λ_=>d (-1)))))
abbrev FE(b:Code):Prop:=∀(k:Out->St Z->Option R) (c:Int) (a:Bool),A9 (M3 L) Q Y b ⟨gp [(0,.s (.str (([47,63,35]:List UInt8)))),(0,.s (.int .i32 c)),(158,.s (.bool a))] 26,[],s⟩ k=Lo L c a (λn0=>k .ret ⟨gp [(4,.s (.int .i64 n0))] 182,[],s⟩) (λn0 d=>k .ret ⟨gp [(4,.s (.int .i64 n0))] 182,[.iter (([47,63,35]:List UInt8)) d],s⟩)
theorem ZT:FE (R:=R) L Q Y s (cd [1,0,1] Ay):=by intro k e d;unfold Lo;exact(o7 (by kernel_rfl) (A0 (A0 (A4 λc=>rfl) rfl) (A0 ((ZU L Q Y s (E4 9 (E1 (M3 L) Q Y (cd [1,0,1,1,1,0,1] Ay) k)) L 0).trans (by kernel_rfl)) (A0 rfl (A4 λb=>(A4 λa=>((ZV L Q Y s (E4 1 (E1 (M3 L) Q Y (cd [1,0,1,1,1,1,1,1,0,1,1,1,1,1] Ay) k)) L b a).trans (by kernel_rfl))))))))
noncomputable def NI{R:Type}(L:Nat)(r:Int)(g:Int->Option R)(h:Int->Nat->Option R):Option R:=cond (not (ltI r (0:Int))) (Lo L r (ltI r (128:Int)) (λc=>g c) (λd a=>h d a)) (Lo L r false (λe=>g e) (λf b=>h f b))
theorem Cc3(b:Code)(a:FE (R:=PV × List Blk × Z) L Q Y s b)(r:Int):A9 (M3 L) Q Y (cd [] (G7 [1,0,1] b Ay)) ⟨[.s (.str (([47,63,35]:List UInt8))),.s (.int .i32 r)]++tps 185,[],s⟩ (F3 (M3 L) ai7)=NI L r (λc=>some (.s (.int .i64 c),[],s)) (λc e=>some (.s (.int .i64 c),[.iter (([47,63,35]:List UInt8)) e],s)):=by unfold NI;exact let d:=(E4 0 (F3 (M3 L) ai7));(o7 (by kernel_rfl) (A0 ((a d r (ltI r (128:Int))).trans (by kernel_rfl)) ((a d r false).trans (by kernel_rfl))))
theorem Cc4(d:Nat)(r:Int):evC (M3 L) (d+1) Z Y 159 [.s (.str (([47,63,35]:List UInt8))),.s (.int .i32 r)] [] s=NI L r (λa=>some (.s (.int .i64 a),[],s)) (λa b=>some (.s (.int .i64 a),[.iter (([47,63,35]:List UInt8)) b],s)):=
 (evE (fn:=ai7) (by kernel_rfl)).trans (o7 (by kernel_rfl) (Cc3 L (evC (M3 L) d) Y s (cd [1,0,1] Ay) (ZT L (evC (M3 L) d) Y s) r))
noncomputable abbrev Ae7:Code:=C7 ai5
noncomputable def Hg(L:Nat):Cfg:=B7 L [119] (A2 [(18,[1,2,40]),(12,[0,3,1,1])]) [(159,IZ),(160,AK),(161,Pd)] (A2 [(22,[4]),(21,[4]),(20,[1,7,35,7]),(19,[1,7,0,34]),(18,[1,43,0,0]),(17,[1,43]),(16,[4]),(13,[0,5,1]),(15,[4]),(14,[0,5,1,33]),(12,[0,5,1,27]),(11,[0,5,1]),(10,[0,0,4,25]),(9,[0,0,4,0]),(8,[0,0,24]),(7,[4]),(6,[0,4]),(5,[0,4,14]),(4,[0,4]),(3,[0,0,13]),(2,[4]),(1,[0,0,10]),(0,[0,0])]) [159,160] (A2 [(2,[]),(3,[1,43]),(0,[]),(1,[0,5,1])]) (some [4]) [] [] []
noncomputable def Z5{R:Type}(L n:Nat)(self:By->Nat->Option R)(b:By)(a:Nat)(d:Int->(List Blk)->Option R)(e:By->Nat->Option R):Option R:=cond (decide (a<(b8 b))) (vl ((x6 ⟨w9 b⟩ a)).1 λc=>cond (CD (([47,63,35]:List UInt8))) (cond (ltN c 1114112) (cond (not (ltI (irn c) (0:Int))) (d (↑a:Int) [(Blk.iter b (a+((x6 ⟨w9 b⟩ a)).2))]) (self b (a+((x6 ⟨w9 b⟩ a)).2))) (none)) (none)) (e b a)
noncomputable def Ln{R:Type}(L n:Nat)(b:By)(a:Nat)(c:Int->(List Blk)->Option R)(d:By->Nat->Option R):Option R:=Cu5 (α:=By->Nat->Option R) (λ_ _=>none) (λn self b a=>Z5 L n self b a c d) n b a
theorem Cc{R:Type}(L n:Nat)(b:By)(a:Nat)(c:Int->(List Blk)->Option R)(d:By->Nat->Option R):Ln L (n+1) b a c d=Z5 L n (λb a=>Ln L n b a c d) b a c d:=rfl
theorem ZS(n:Nat)(b:By)(a:Nat):D0 1 ((Hg L).keep 18) (bd (Hg L) Q Y (cd [1,1,1,1,0,1,0,0] Ae7)) n ⟨gp [(1,.s (.str (([47,63,35]:List UInt8)))),(43,.it 0)] 9,[.iter b a],s⟩ k =
 Ln L n b a (λn0 c=>k .ret ⟨gp [(4,.s (.int .i64 n0))] 50,c,s⟩) (λb a=>k (.exit 2) ⟨gp [] 55,[.iter b a],s⟩):=by
 induction n generalizing b a with
 | zero=>rfl
 | succ n d=>rw[Cc];unfold Z5;exact(o7 (by kernel_rfl) (A0 (A4 λe=>(A0 (A0 (A0 rfl (d b (a+((x6 ⟨w9 b⟩ a)).2))) rfl) rfl)) rfl))
noncomputable def ZR{R:Type}(L:Nat)(t:By)(e:Int->(List Blk)->Option R):Option R:=cond (ltI (8:Int) (↑(b8 t):Int)) (none) (Ln L L t 0 (λc a=>e c a) (λd b=>e (-1) [(Blk.iter d b)]))
theorem Cc1(d:Nat)(t:By):evC (Hg L) (d+1) Z Y 119 [.s (.str t),.s (.str (([47,63,35]:List UInt8)))] [] s=ZR L t (λb a=>some (.s (.int .i64 b),a,s)):=by refine(evE (fn:=ai5) (by kernel_rfl)).trans ?_;generalize evC (Hg L) d=Q;unfold ZR;exact(o7 (by kernel_rfl) (A0 rfl ((ZS L Q Y s (E4 2 (E1 (Hg L) Q Y (cd [1,1,1,1,1] Ae7) (F3 (Hg L) ai5))) L t 0).trans (by kernel_rfl))))
end
end
section
open Go
theorem Ks{c:UInt8}{s:By}(h:c∉s):x4 s [c]=(s,[],false):=by unfold x4;rw[Uq h,if_neg (by decide)]
theorem U5{c:UInt8}{p r:By}(h:c∉p):x4 (p++c::r) [c]=(p,r,true):=by unfold x4;rw[CC h,Q5,j5,aa7,j9];rw[show p++c::r=(p++[c])++r by simp,af5 (by simp)]
def Ca:Int->By->Option Int
 | n,[]=>some n
 | n,b::r=>if 48<=b.toNat/\b.toNat<=57 then Ca (min (10*max n 0+((b.toNat-48:Nat):Int)) 65536) r else none
theorem GH:∀(s:By) (n:Int),Ht n s=(Ca n s).bind λm=>if m<65536 then some m else none
 | [],n=>rfl
 | b::r,n=>by
  rw[Ht,Ca];split
  ·exact GH r _
  ·rfl
theorem RE:∀(a b:By) (n:Int),Ca n (a++b)=(Ca n a).bind λm=>Ca m b
 | [],b,n=>rfl
 | x::a,b,n=>by
  rw[af0,Ca,Ca];split
  ·exact RE a b _
  ·rfl
theorem B57:∀u:Nat,Ca (-1) (ae6 u)=some (min (u:Int) 65536):=by
 intro u
 induction u using aj2 with
 | _ u a=>
  by_cases h:u<10
  ·rw[Lib.decDigits_one h];have:(w6 (48+u)).toNat=48+u:=by simp;omega
   rw[Ca,this,Q5,Ca]
   congr 1
   omega
  ·rw[X1 u h,RE,a (u / 10) (by omega)];have:(w6 (48+u % 10)).toNat=48+u % 10:=by simp;omega
   show Ca _ _=_;rw[Ca,this,Q5,Ca]
   congr 1
   omega
theorem Cs3(p:Int)(a:0<=p)(b:p<=65535):Ht (-1) (U9 p)=some p:=by
 obtain⟨u,rfl⟩:=x7 a;unfold U9;rw[G0,j5,GH,B57];show(if _ then _ else _)=_;rw[Q5]
 congr 1
 omega
theorem MA:∀(s:By) (n p:Int),-1<=n->Ht n s=some p->-1<=p/\p<65536
 | [],n,p,a,h=>by
  rw[Ht] at h;split at h
  ·rename_i c;obtain rfl:=j8 h;exact⟨a,c⟩
  ·cases h
 | b::r,n,p,a,h=>by
  rw[Ht] at h;split at h
  ·exact MA r _ p (by omega) h
  ·cases h
theorem Ai4{n:Nat}(h:n<16):L5 (Kx n)=true:=by
 rw[Bx];unfold Kx;split
 ·have:(w6 (48+n)).toNat=48+n:=by simp;omega
  omega
 ·have:(w6 (87+n)).toNat=87+n:=by simp;omega
  omega
theorem Cp1:∀x:Nat,∀b∈P4 x,L5 b=true:=by
 intro x
 induction x using aj2 with
 | _ x c=>
  intro b a;by_cases h:x<16
  ·rw[Y8 h] at a;simp only[ab4] at a;subst a;exact Ai4 h
  ·rw[X2 h] at a;rcases x8.1 a with a|a
   ·exact c _ (by omega) b a
   ·simp only[ab4] at a;subst a;exact Ai4 (by omega)
theorem Py{l:List Nat}{b:UInt8}(h:b∈K6 l):b=58\/L5 b=true:=by
 rcases Xt _ h with h|⟨x,c,a⟩
 ·exact .inl h
 ·obtain⟨n,_,rfl⟩:=List.mem_map.1 c;exact .inr (Cp1 n b a)
theorem C20{a:List Nat}{b:UInt8}(h:b∈Ak a):b=58\/L5 b=true:=by
 unfold Ak at h;split at h
 ·exact Py h
 ·simp only[x8,p4] at h;rcases h with h|h|h|h
  ·exact Py h
  ·exact .inl h
  ·exact .inl h
  ·exact Py h
theorem A68{b:UInt8}(h:48<=b.toNat/\b.toNat<=57):L5 b=true:=(Bx b).2 (.inr (.inl h))
theorem QG{h:B4}(ok:Df h)(a:K8 h=true):(∃m,R9 h=91::(m++[93])/\∀b∈m,b=58\/L5 b=true)\/(R9 h≠[]/\∀b∈R9 h,b=46\/L5 b=true):=by
 obtain⟨i,k,v4,v6⟩:=h;unfold R9;rw[if_pos a];unfold K8 at a;simp only at a ⊢;by_cases d:i=1
 ·subst d;simp only[if_true,o8,beq_iff_eq] at a ⊢;have:=Ir.1 a.1.1;exact .inr ⟨this.ne,this.byt⟩
 rw[if_neg d] at a ⊢;by_cases f:i=2
 ·subst f;simp only[if_true] at a ⊢;refine .inr ⟨λe=>?_,λb c=>?_⟩
  ·have g:=Al8 v4 ok.v4;rw[e] at g;have j:(C3 []).1.kind=2:=by rw[g]
   exact absurd j (by decide)
  ·rcases Au7 c with h|h
   ·exact .inl h
   ·exact .inr (A68 h)
 rw[if_neg f] at a ⊢;exact .inl ⟨_,rfl,λb c=>C20 c⟩
theorem B18{h:B4}(ok:Df h)(i:K8 h=true){b:UInt8}(a:b∈R9 h):ctl b=false/\M6 b=false/\b≠64:=by
 have q:∀b:UInt8,(b=46\/b=58\/b=91\/b=93\/L5 b=true)->ctl b=false/\M6 b=false/\b≠64:=by
  intro b h;rcases h with rfl|rfl|rfl|rfl|h
  ·decide
  ·decide
  ·decide
  ·decide
  ·rw[Bx] at h;rcases h with h|h|rfl|rfl
   ·refine⟨?_,?_,λe=>?_⟩
    ·rw[y8,ne_eq,Wl];omega
    ·have d:b≠47:=λe=>by rw[e] at h;simp at h
     have f:b≠63:=λe=>by rw[e] at h;simp at h
     have g:b≠35:=λe=>by rw[e] at h;simp at h
     simp[M6,d,f,g]
    ·rw[e] at h;simp at h
   ·refine⟨?_,?_,λe=>?_⟩
    ·rw[y8,ne_eq,Wl];omega
    ·have d:b≠47:=λe=>by rw[e] at h;simp at h
     have f:b≠63:=λe=>by rw[e] at h;simp at h
     have g:b≠35:=λe=>by rw[e] at h;simp at h
     simp[M6,d,f,g]
    ·rw[e] at h;simp at h
   ·decide
   ·decide
 apply q;rcases QG ok i with⟨m,e,c⟩|⟨_,c⟩
 ·rw[e] at a;simp only[p4,x8,ac9,or_false] at a;rcases a with h|h|h
  ·simp[h]
  ·rcases c b h with h|h<;>simp[h]
  ·simp[h]
 ·rcases c b a with h|h<;>simp[h]
def Ld(s:By):Prop:=∀b∈s,ctl b=false
def D43(s:By):Prop:=∀b∈s,M6 b=false
structure CU (u:T2):Prop where
 ns:H9 u.sch=false->T7 u.sch=true/\B5 u.sch=u.sch/\u.user=[]/\u.host=L7/\u.port=-1/\Ld u.rest
 sp:H9 u.sch=true->Ld u.user/\D43 u.user/\Df u.host/\K8 u.host=true/\(u.port=-1\/(0<=u.port/\u.port<=65535/\u.port≠P6 u.sch))/\(∃r,u.rest=47::r)/\Ld u.rest
theorem Lx{s:By}:s.any ctl=false↔Ld s:=by unfold Ld;rw[List.any_eq_false];exact⟨λh b a=>by simpa using h b a,λh b a=>by simp[h b a]⟩
theorem Pw{e user c a:By}(h:(N5 e user c a).2=0):∃f b,(N5 e user c a).1=⟨e,user,f,b,c⟩/\Df f/\K8 f=true/\(b=-1\/(0<=b/\b<=65535/\b≠P6 e)):=by
 unfold N5 at h ⊢;cases i:Ev a with
 | none=>rw[i] at h;simp at h
 | some q=>
  obtain⟨name,tail⟩:=q;rw[i] at h;simp only at h ⊢;by_cases g:tail≠[]/\tail.head?≠some 58
  ·rw[if_pos g] at h;simp at h
  ·rw[if_neg g] at h ⊢;by_cases d:(C3 name).2≠0
   ·rw[if_pos d] at h;exact absurd h d
   ·rw[if_neg d] at h ⊢;cases j:Ht (-1) (tail.drop 1) with
    | none=>rw[j] at h;simp at h
    | some p=>
     have o:=MA _ _ _ (by omega) j;obtain⟨m,n⟩:=B66 name;refine⟨_,_,rfl,m,n (by simpa using d),?_⟩;split
     ·exact .inl rfl
     ·rename_i l;by_cases k:p=-1
      ·exact .inl k
      ·exact .inr ⟨by omega,by omega,l⟩
theorem Mp{c user b a:By}(h:(N5 c user b a).2≠0):(N5 c user b a).1=Aj:=by
 unfold N5 at h ⊢;split
 ·rfl
 ·rename_i name tail f;rw[f] at h;simp only at h ⊢;split
  ·rfl
  ·rename_i d;rw[if_neg d] at h;split
   ·rfl
   ·rename_i e;rw[if_neg e] at h;split
    ·rfl
    ·rename_i p g;rw[g] at h;exact absurd rfl h
theorem A75(s:By):B5 (B5 s)=B5 s:=by
 unfold B5;rw[ak7];apply List.map_congr_left;intro b _;show X9 (X9 b)=X9 b;rcases K9 b with⟨_,e⟩|⟨_,e⟩|⟨c,d,e⟩
 ·rw[e,e]
 ·rw[e,e]
 ·rcases K9 (X9 b) with⟨_,a⟩|⟨_,a⟩|⟨f,g,_⟩
  ·exact a
  ·exact a
  ·omega
theorem A72(b:UInt8):Q2 (X9 b)=Q2 b:=by
 rw[p6,V5,V5];rcases K9 b with⟨_,e⟩|⟨_,e⟩|⟨a,c,e⟩
 ·rw[e]
 ·rw[e]
 ·omega
theorem YB{b c:UInt8}(f:c.toNat<65):X9 b=c↔b=c:=by
 rcases K9 b with⟨_,e⟩|⟨_,e⟩|⟨a,d,e⟩
 ·rw[e]
 ·rw[e]
 ·constructor
  ·intro h;rw[h] at e;omega
  ·intro h;subst h;omega
theorem Ar7(b:UInt8):L6 (X9 b)=L6 b:=by
 rw[p6,Fa,Fa,YB (by decide),YB (by decide),YB (by decide)];rcases K9 b with⟨_,e⟩|⟨_,e⟩|⟨a,c,e⟩
 ·rw[e]
 ·rw[e]
 ·constructor
  ·rintro(h|h|h|h)<;>first|omega|exact .inr (.inr (.inr h))
  ·rintro(h|h|h|h)<;>first|omega|exact .inr (.inr (.inr h))
theorem As0(s:By):T7 (B5 s)=T7 s:=by
 cases s with
 | nil=>rfl
 | cons b r=>
  show(Q2 (X9 b)&&(r.map X9).all L6)=(Q2 b&&r.all L6)
  rw[A72,ak6]
  congr 1
  apply List.all_congr rfl;intro b;exact Ar7 b
theorem ZW(r:By):∃t,R8 r=47::t:=by
 unfold R8;split
 ·rename_i h;cases r with
  | nil=>cases h
  | cons b t=>
   obtain rfl:=j8 h;exact⟨t,rfl⟩
 ·exact⟨r,rfl⟩
theorem As7{r:By}(h:Ld r):Ld (R8 r):=by
 unfold R8;split
 ·exact h
 ·intro b a;rcases p4.1 a with rfl|a
  ·decide
  ·exact h b a
theorem B72{j c a:By}(p:H9 j=true)(q:Ld a)(i:D43 a)(o:Ld c)(f:∃r,c=47::r)(h:(G4 j c a).2=0):CU (G4 j c a).1:=by
 unfold G4 at h ⊢;by_cases n:0<=L2 64 a
 ·rw[if_pos n] at h ⊢;obtain⟨t,g,e,k,l,m⟩:=Pw h;rw[e];exact⟨λh=>(by rw[p] at h;cases h),λ_=>⟨λb d=>q b (ad2 d),λb d=>i b (ad2 d),k,l,m,f,o⟩⟩
 ·rw[if_neg n] at h ⊢;obtain⟨t,g,e,k,l,m⟩:=Pw h;rw[e];exact⟨λh=>(by rw[p] at h;cases h),λ_=>⟨λb d=>(by cases d),λb d=>(by cases d),k,l,m,f,o⟩⟩
theorem Al6{s:By}(h:(C1 s).2=0):CU (C1 s).1:=by
 unfold C1 at h ⊢;cases f:s.any ctl with
 | true=>rw[f] at h;simp at h
 | false=>
  rw[f] at h;have j:=Lx.1 f;simp only[o6,if_false] at h ⊢;rcases Q7 58 s with c|⟨p,r,rfl,c⟩
  ·rw[Ks c] at h;simp at h
  ·rw[U5 c] at h ⊢;have k:Ld p:=λb d=>j b (by simp[d])
   have g:Ld r:=λb d=>j b (by simp[d])
   cases a:T7 p with
   | false=>rw[a] at h;simp at h
   | true=>
    rw[a] at h;simp only[j1,ak3,o6,if_false] at h ⊢;cases e:H9 (B5 p) with
    | false=>
     simp only[o0,if_true];exact⟨λ_=>⟨by rw[As0];exact a,A75 p,rfl,rfl,rfl,g⟩,λh=>(by simp only at h;rw[e] at h;cases h)⟩
    | true=>
     rw[e] at h;simp only[j1,o6,if_false] at h ⊢;cases i:([47,47]:By).isPrefixOf r with
     | false=>rw[i] at h;simp at h
     | true=>
      rw[i] at h;simp only[j1,o6,if_false] at h ⊢;exact B72 e (λb d=>g b (x5 (ad2 d))) (Bk6 _) (As7 λb d=>g b (x5 (x5 d))) (ZW _) h
theorem Ba6{d b a:By}(h:(G4 d b a).2≠0):(G4 d b a).1=Aj:=by
 unfold G4 at h ⊢;split
 ·rename_i c;rw[if_pos c] at h;exact Mp h
 ·rename_i c;rw[if_neg c] at h;exact Mp h
theorem RH{s:By}(h:(C1 s).2≠0):(C1 s).1=Aj:=by
 unfold C1 at h ⊢;split
 ·rfl
 ·rename_i b;rw[if_neg b] at h;split
  ·rfl
  ·rename_i c;rw[if_neg c] at h;split
   ·rename_i a;rw[if_pos a] at h;exact absurd rfl h
   ·rename_i a;rw[if_neg a] at h;split
    ·rfl
    ·rename_i d;rw[if_neg d] at h;exact Ba6 h
theorem Ar9{s:By}(h:H9 s=true):T7 s=true/\B5 s=s/\(58:UInt8)∉s/\Ld s:=by
 rcases OT h with rfl|rfl|rfl|rfl
 ·exact⟨by decide,by decide,by decide,Lx.1 (by decide)⟩
 ·exact⟨by decide,by decide,by decide,Lx.1 (by decide)⟩
 ·exact⟨by decide,by decide,by decide,Lx.1 (by decide)⟩
 ·exact⟨by decide,by decide,by decide,Lx.1 (by decide)⟩
theorem ND{b:UInt8}(h:L6 b=true):b≠58/\ctl b=false:=by
 rw[Fa] at h;refine⟨λe=>?_,?_⟩
 ·subst e
  revert h
  decide
 ·rw[y8,ne_eq,Wl];rcases h with h|h|h|rfl|rfl|rfl
  ·omega
  ·omega
  ·omega
  ·decide
  ·decide
  ·decide
theorem Cc0{s:By}(h:T7 s=true):(58:UInt8)∉s/\Ld s/\s≠[]:=by
 cases s with
 | nil=>cases h
 | cons b r=>
  simp only[T7,o8,ai2] at h;have c:L6 b=true:=by unfold L6;rw[h.1];rfl
  have q:∀x∈b::r,L6 x=true:=λx a=>by
   rcases p4.1 a with rfl|a
   ·exact c
   ·exact h.2 x a
  exact⟨λd=>(ND (q 58 d)).1 rfl,λx a=>(ND (q x a)).2,by simp⟩
theorem Su{p user c:By}{h:B4}{a:Int}(ok:Df h)(o:K8 h=true)(w:a=-1\/(0<=a/\a<=65535/\a≠P6 p)) :
  N5 p user c (R9 h++(if a=-1 then [] else 58::U9 a))=(⟨p,user,h,a,c⟩,0):=by
 have key:∀tail:By,(tail=[]\/tail.head? = some 58)->Ev (R9 h++tail)=some (R9 h,tail):=by
  intro tail i;unfold Ev;rcases QG ok o with⟨m,e,g⟩|⟨n,g⟩
  ·have k:(93:UInt8)∉91::m:=by
    intro d;rcases p4.1 d with d|d
    ·exact absurd d (by decide)
    ·rcases g 93 d with h|h
     ·exact absurd h (by decide)
     ·exact absurd h (by decide)
   have q:R9 h++tail=(91::m)++93::tail:=by rw[e];simp
   rw[if_pos (by rw[e];rfl),q,Xl tail k];simp only;have u:(91::m)++93::tail=R9 h++tail:=q.symm;have v:(91::m).length+1=(R9 h).length:=by rw[e];simp
   rw[u,v,aa7,ag0]
  ·have f:(58:UInt8)∉R9 h:=by
    intro d;rcases g 58 d with h|h
    ·exact absurd h (by decide)
    ·exact absurd h (by decide)
   have l:(R9 h++tail).head?≠some 91:=by
    cases r:R9 h with
    | nil=>exact absurd r n
    | cons b t=>
     rw[r] at g;intro e;obtain rfl:=j8 e;rcases g 91 (by simp) with h|h
     ·exact absurd h (by decide)
     ·exact absurd h (by decide)
   rw[if_neg l];rcases i with rfl|i
   ·rw[ad3,QQ f]
   ·cases tail with
    | nil=>cases i
    | cons b t=>
     obtain rfl:=j8 i;rw[Xl t f];simp only;rw[aa7,ag0]
 unfold N5;by_cases j:a=-1
 ·subst j;rw[if_pos rfl,key [] (.inl rfl)];simp only;rw[if_neg (by simp),LB ok o];simp only[ne_eq,not_true_eq_false,if_false];have:Ht (-1) (ak1 1 ([]:By))=some (-1):=by rfl
  rw[this];simp
 ·rw[if_neg j,key (58::U9 a) (.inr rfl)];obtain⟨x,y,z⟩:=w.resolve_left j;simp only;rw[if_neg (by simp),LB ok o];simp only[ne_eq,not_true_eq_false,if_false,ad5,aa6];rw[Cs3 a x y];simp only;rw[if_neg z]
theorem A61{p:Int}(a:0<=p){b:UInt8}(h:b∈U9 p):48<=b.toNat/\b.toNat<=57:=by unfold U9 at h;rw[G0] at h;exact BI _ b h
theorem Dt4{b:UInt8}(h:48<=b.toNat/\b.toNat<=57):ctl b=false/\M6 b=false/\b≠64:=by
 refine⟨?_,?_,λe=>?_⟩
 ·rw[y8,ne_eq,Wl];omega
 ·have a:b≠47:=λe=>by rw[e] at h;simp at h
  have c:b≠63:=λe=>by rw[e] at h;simp at h
  have d:b≠35:=λe=>by rw[e] at h;simp at h
  simp[M6,a,c,d]
 ·rw[e] at h;simp at h
theorem Cp2{h:B4}{a:Int}{g:By}(ok:Df h)(f:K8 h=true)(e:a=-1\/(0<=a/\a<=65535/\a≠P6 g)){b:UInt8}(c:b∈R9 h++(if a=-1 then [] else 58::U9 a)):ctl b=false/\M6 b=false/\b≠64:=by
 rcases x8.1 c with c|c
 ·exact B18 ok f c
 ·by_cases d:a=-1
  ·rw[if_pos d] at c;cases c
  ·rw[if_neg d] at c;rcases p4.1 c with rfl|c
   ·decide
   ·exact Dt4 (A61 (e.resolve_left d).1 c)
theorem Cg5{u:T2}(h:CU u):C1 (W9 u)=(u,0):=by
 obtain⟨e,user,d,a,n⟩:=u;obtain⟨j,l⟩:=h;simp only at j l;unfold W9;simp only;cases k:H9 e with
 | false=>
  obtain⟨o,p,rfl,rfl,rfl,F⟩:=j k;obtain⟨w,x,D⟩:=Cc0 o;have z:(e++58::n).any ctl=false:=Lx.2 λb c=>by
   simp only[x8,p4] at c;rcases c with c|rfl|c
   ·exact x b c
   ·decide
   ·exact F b c
  simp only[o6,if_false];unfold C1;rw[z,U5 w];simp only[o6,if_false];rw[o,p,k];simp
 | true=>
  obtain⟨o,p,q,t,v,⟨r,rfl⟩,G⟩:=l k;obtain⟨w,x,D,H⟩:=Ar9 k;have y:=λb (c:b∈R9 d++(if a=-1 then [] else 58::U9 a))=>Cp2 q t v c
  simp only[if_true];have g:∀b∈Oe ⟨e,user,d,a,47::r⟩,ctl b=false/\M6 b=false:=by
   intro b c;unfold Oe at c;simp only at c;rcases x8.1 c with c|c
   ·by_cases m:user=[]
    ·rw[if_pos m] at c;cases c
    ·rw[if_neg m] at c;rcases x8.1 c with c|c
     ·exact⟨o b c,p b c⟩
     ·simp only[ab4] at c;subst c
      decide
   ·exact⟨(y b c).1,(y b c).2.1⟩
  have A:G4 e (47::r) (Oe ⟨e,user,d,a,47::r⟩)=(⟨e,user,d,a,47::r⟩,0):=by
   have i:(64:UInt8)∉R9 d++(if a=-1 then [] else 58::U9 a):=λI=>(y 64 I).2.2 rfl
   unfold G4 Oe;simp only;by_cases m:user=[]
   ·subst m;rw[if_pos rfl,ab3,Mu i,if_neg (by decide)];exact Su q t v
   ·rw[if_neg m,ac4,List.singleton_append,Rq user i,Q5,j5,aa7];have:ak1 (user.length+1) (user++64::(R9 d++(if a=-1 then [] else 58::U9 a)))=R9 d++(if a=-1 then [] else 58::U9 a):=by
     rw[show user++64::(R9 d++(if a=-1 then [] else 58::U9 a))=(user++[64])++(R9 d++(if a=-1 then [] else 58::U9 a)) by simp,af5 (by simp)]
    rw[this];exact Su q t v
  generalize Oe ⟨e,user,d,a,47::r⟩=f at *;have z:(e++58::47::47::(f++47::r)).any ctl=false:=Lx.2 λb c=>by
   simp only[x8,p4] at c;rcases c with c|rfl|rfl|rfl|c|c
   ·exact H b c
   ·decide
   ·decide
   ·decide
   ·exact(g b c).1
   ·exact G b (by simpa using c)
  have C:J4 (f++47::r)=f.length:=Cc7 (λb c=>(g b c).2) (λb c=>by obtain rfl:=j8 c;decide);unfold C1;rw[z,U5 D];simp only[o6,if_false];rw[w,x,k];have Px:([47,47]:By).isPrefixOf (47::47::(f++47::r))=true:=by simp[p9]
  rw[Px];simp only[j1,ak3,o6,if_false,ad5,aa6];rw[C,aa7,ag0];have B:R8 (47::r)=47::r:=if_pos rfl;rw[B];exact A
theorem Xj(c user b a:By):(N5 c user b a).1.sch.length<=c.length/\(N5 c user b a).1.user.length<=user.length/\(N5 c user b a).1.rest.length<=b.length:=by
 by_cases h:(N5 c user b a).2=0
 ·obtain⟨f,d,e,_⟩:=Pw h;rw[e];exact⟨v8 _,v8 _,v8 _⟩
 ·rw[Mp h];exact⟨aa2 _,aa2 _,aa2 _⟩
theorem Ba7(c b a:By):(G4 c b a).1.sch.length<=c.length/\(G4 c b a).1.user.length<=a.length/\(G4 c b a).1.rest.length<=b.length:=by
 unfold G4;split
 ·obtain⟨d,e,f⟩:=Xj c (a.take (L2 64 a).toNat) b (a.drop ((L2 64 a).toNat+1));rw[j7] at e;exact⟨d,by omega,f⟩
 ·obtain⟨d,e,f⟩:=Xj c [] b a;simp only[v7] at e;exact⟨d,by omega,f⟩
theorem As8(r:By):(R8 r).length<=r.length+1:=by
 unfold R8;split
 ·omega
 ·simp
theorem B67(s:By):(C1 s).1.sch.length<=s.length/\(C1 s).1.user.length<=s.length/\(C1 s).1.rest.length<=s.length+1:=by
 have z:Aj.sch.length<=s.length/\Aj.user.length<=s.length/\Aj.rest.length<=s.length+1:=⟨aa2 _,aa2 _,aa2 _⟩
 unfold C1;split
 ·exact z
 ·rcases Q7 58 s with a|⟨p,r,rfl,a⟩
  ·rw[Ks a];exact z
  ·rw[U5 a];have b:(p++58::r).length=p.length+r.length+1:=by rw[j2,j0];omega
   simp only;split
   ·exact z
   ·split
    ·simp only[Ab,v7];omega
    ·split
     ·exact z
     ·obtain⟨c,d,e⟩:=Ba7 (B5 p) (R8 ((r.drop 2).drop (J4 (r.drop 2)))) ((r.drop 2).take (J4 (r.drop 2)));have f:=As8 ((r.drop 2).drop (J4 (r.drop 2)));simp only[j7,j4,Ab] at c d e f;omega
structure Ac5 (u:T2):Prop where
 host:Df u.host
 port:-1<=u.port/\u.port<65536
theorem CM:Df L7:=⟨by decide,Bz7,by decide⟩
theorem CU.ok{u:T2}(h:CU u):Ac5 u:=by
 cases hs:H9 u.sch with
 | false=>
  obtain⟨_,_,_,a4,a5,_⟩:=h.ns hs;exact⟨by rw[a4];exact CM,by omega⟩
 | true=>
  obtain⟨_,_,a3,_,a5,_⟩:=h.sp hs;exact⟨a3,by omega⟩
theorem Qh(s:By):Ac5 (C1 s).1:=by
 by_cases h:(C1 s).2=0
 ·exact(Al6 h).ok
 ·rw[RH h];exact⟨CM,by decide,by decide⟩
theorem Cn5(h:B4):eqH h h=true:=by simp[eqH]
theorem Cn6(u:T2):eqU u u=true:=by simp[eqU,Cn5]
theorem HE{u:T2}(h:CU u):R5 u=true:=by unfold R5;rw[Cg5 h,Cn6];rfl
theorem Cr6{m n j l:By}{h v4:Nat}{a b c d e f g i:Nat}{k:Int}(o:h<4):mkU m n (h:Int) j (v4:Int) (n8 a b c d e f g i) k l=⟨m,n,⟨h,j,v4,[a,b,c,d,e,f,g,i]⟩,k,l⟩:=by unfold mkU Cr5 n8;rw[if_pos (E0.2 ⟨by omega,by omega⟩)];simp only[j5]
theorem RG(s:By):Ac5 (B8 s).1:=by
 unfold B8;split
 ·exact⟨CM,by decide,by decide⟩
 ·exact Qh s
theorem A92{s:By}(h:(B8 s).2≠0):(B8 s).1=Aj:=by
 unfold B8 at h ⊢;split
 ·rfl
 ·rename_i c;rw[if_neg c] at h;exact RH h
theorem CO{s:By}(h:(B8 s).2=0):CU (B8 s).1:=by
 unfold B8 at h ⊢;split
 ·rename_i c;rw[if_pos c] at h;cases h
 ·rename_i c;rw[if_neg c] at h;exact Al6 h
theorem Ux(s:By):(B8 s).1.sch.length<=s.length/\(B8 s).1.user.length<=s.length/\(B8 s).1.rest.length<=s.length+1:=by
 unfold B8;split
 ·exact⟨aa2 _,aa2 _,aa2 _⟩
 ·exact B67 s
theorem Jc{s:By}(h:S6 s=true):s=Of\/s=bWs:=by simpa[S6] using h
theorem By2{s:By}(h:S6 s=false)(a:Int):upS s=s/\upP s a=a:=by
 have e:(s==Of)=false/\(s==bWs)=false:=by simpa[S6] using h
 unfold upS upP;rw[e.1,e.2,h];simp
theorem Xk{n:Int}:S9 n=true↔-9223372036854775808<=n/\n<9223372036854775808:=by unfold S9;rw[E0];constructor<;>rintro⟨a,b⟩<;>constructor<;>omega
theorem Ka(c:UInt8):∀s:By,o5 s c=match Hq c s with|some k=>(k:Int)|none=>-1
 | []=>rfl
 | b::r=>by
  have a:=Ka c r;unfold o5 Hq;by_cases h:b=c
  ·rw[if_pos h,if_pos (by simpa using h)];rfl
  ·rw[if_neg h,if_neg (by simpa using h),a];cases Hq c r with
   | none=>rfl
   | some k=>
    have e:((k:Int)==-1)=false:=by rw[beq_eq_false_iff_ne];omega
    simp only[x3,e,o6,if_false];rfl
theorem Cc6(b:UInt8):isl.contains b=M6 b:=by rw[p6];simp[isl,M6,or_assoc]
theorem Il(b:UInt8)(r:By):J4 (b::r)=if M6 b then 0 else J4 r+1:=by unfold J4;rw[ad6];cases h:M6 b<;>simp
theorem Ze:∀s:By,J4 s<=s.length
 | []=>v8 _
 | b::r=>by
  have:=Ze r;rw[Il,j0];split<;>omega
theorem Jz:∀s:By,aa8 s isl=if J4 s<s.length then (J4 s:Int) else -1
 | []=>rfl
 | b::r=>by
  have c:=Jz r;have d:=Ze r;rw[aa8,Cc6,Il,j0,c];cases M6 b with
  | true=>simp
  | false=>
   simp only[o6,if_false];by_cases h:J4 r<r.length
   ·have e:((J4 r:Int)==-1)=false:=by rw[beq_eq_false_iff_ne];omega
    have a:J4 r+1<r.length+1:=by omega
    simp only[if_pos h,if_pos a,e,o6,if_false];rfl
   ·have a:¬J4 r+1<r.length+1:=by omega
    simp only[if_neg h,if_neg a];rfl
theorem Dt1(b:UInt8)(t:By)(g:128<=b.toNat):128<=(aa5 (b::t)).1/\(aa5 (b::t)).1<1114112/\1<=(aa5 (b::t)).2/\(aa5 (b::t)).2<=t.length+1/\∀i,i<(aa5 (b::t)).2->128<=((b::t).getD i 0).toNat:=by
 have d:=Lib.decodeL_le (b::t) (by simp);have l:=Lib.decodeL_width (b::t);have n:=Lib.decodeL_rune (b::t);rw[j0] at d;refine⟨?_,by omega,l,d,?_⟩;all_goals
  clear d l n;rw[Lib.decodeL_N];rcases Lib.decodeN_shape (b::t).length ((b::t).getD 0 0).toNat ((b::t).getD 1 0).toNat ((b::t).getD 2 0).toNat ((b::t).getD 3 0).toNat with⟨c,e⟩|⟨h,j,k,f,e⟩|⟨h,j,k,m,f,p,e⟩|⟨h,j,k,m,o,f,q,e⟩|e
  all_goals rw[e]
 ·exact absurd g (by simp at c;omega)
 ·exact f
 ·simp only;omega
 ·simp only;omega
 ·simp only;omega
 ·exact absurd g (by simp at c;omega)
 ·intro i a;have:i=0\/i=1:=by simp only at a;omega
  rcases this with rfl|rfl<;>omega
 ·intro i a;have:i=0\/i=1\/i=2:=by simp only at a;omega
  rcases this with rfl|rfl|rfl<;>omega
 ·intro i a;have:i=0\/i=1\/i=2\/i=3:=by simp only at a;omega
  rcases this with rfl|rfl|rfl|rfl<;>omega
 ·intro i a;have:i=0:=by simp only at a;omega
  subst this;exact g
theorem Cy7{b:UInt8}(h:128<=b.toNat):M6 b=false:=by
 unfold M6;have n:∀c:UInt8,c.toNat<128->(b==c)=false:=λc a=>by
  rw[beq_eq_false_iff_ne];rintro rfl;omega
 rw[n 47 (by decide),n 63 (by decide),n 35 (by decide)];rfl
theorem Cp6{r:Int}(h:128<=r):irn r=-1:=by unfold irn;rw[G0,G0,G0]
theorem Du4(b:UInt8):ltI (irn (b.toNat:Int)) 0 = !M6 b:=by
 have e:∀c:UInt8,((b.toNat:Int)=(c.toNat:Int))=(b=c):=λc=>propext ⟨λh=>ad4.1 (by omega),λh=>by rw[h]⟩
 have g:((b.toNat:Int)=47)=(b=47):=e 47;have i:((b.toNat:Int)=63)=(b=63):=e 63;have j:((b.toNat:Int)=35)=(b=35):=e 35;unfold irn M6;simp only[g,i,j];by_cases a:b=47
 ·subst a;rfl
 ·by_cases d:b=63
  ·subst d;rfl
  ·by_cases f:b=35
   ·subst f;rfl
   ·have n:∀c,b≠c->(b==c)=false:=λc h=>by rwa [beq_eq_false_iff_ne]
    rw[if_neg a,if_neg d,if_neg f,n _ a,n _ d,n _ f];rfl
end
section
open Go Go.Proofs
set_option maxRecDepth 100000
theorem A79{R:Type}{b:By->Option R}(s p:By)(a:A3 s.length=true):Bv1 LF s p b=b (Hl s p):=by
 have:=M5 a;unfold Bv1 Hl;rw[a];cases h:p.isPrefixOf s with
 | false=>simp
 | true=>
  have:p.length<=s.length:=by rw[Fi] at h;simp at h;exact h.1
  simp (disch:=omega)
theorem Cd7{R:Type}{a:By->Option R}(s p:By)(b:A3 s.length=true):Dk0 LF s p a=a (Hl s p):=by unfold Dk0;rw[b];rfl
theorem Bm5{R:Type}{e:Int->Option R}(s:By):By4 LF s e=e (P6 s):=by unfold By4 P6 Of bWs Ci Wf;generalize (s==([104,116,116,112]:List UInt8))=a;generalize (s==([119,115]:List UInt8))=b;generalize (s==([104,116,116,112,115]:List UInt8))=c;generalize (s==([119,115,115]:List UInt8))=d;cases a<;>cases b<;>cases c<;>cases d<;>rfl
theorem B13(s:By):((P6 s)==(80:Int))=S6 s:=by
 unfold P6 S6;cases (s==Of||s==bWs) with
 | true=>rfl
 | false=>cases (s==Ci||s==Wf)<;>rfl
theorem Bn0{R:Type}{a:Bool->Option R}(s:By):By5 LF s a=a (H9 s):=by unfold By5;rw[Mv,NZ]
theorem Dk7(a p:By)(k:Int)(l:By)(v4 c d e f g h i j m:Int)(o:By) :
  ∃r H,Dx0 LF a p k l v4 c d e f g h i j m o (λn b=>rv (.s (.bool n)) b)=rv r H/\r.stab [] H = .s (.bool (S6 a)):=
 ⟨_,_,rfl,by rw[<-B13];rfl⟩
def YG:By:=[48,49,50,51,52,53,54,55,56,57,43,45,46]
theorem Mq(c:UInt8):∀l:By,ltI (o5 l c) 0 = !l.contains c
 | []=>rfl
 | b::r=>by
  have f:=Mq c r;have g:=ai1 r c;unfold o5;by_cases h:b=c
  ·subst h;simp[E6]
  ·have e:(b==c)=false:=by simpa using h
   have d:(c==b)=false:=by simpa using ah5 h
   rw[List.contains_cons,d,aj6,<-f,e];simp only[o6,if_false];by_cases a:o5 r c=-1
   ·rw[a];rfl
   ·have:(o5 r c==-1)=false:=by simpa using a
    rw[this,if_neg (by simp),A6,A6]
theorem Ar8:∀b:UInt8,L6 b=(Q2 b||YG.contains b):=by
 have:∀n:Fin 256,L6 (w6 n.val)=(Q2 (w6 n.val)||YG.contains (w6 n.val)):=by decide +kernel
 intro b;have h:=this ⟨b.toNat,b.toNat_lt⟩;simpa using h
theorem Au5{R:Type}{c:Unit->Option R}{d:By->Int->Int->Bool->Option R}(s:By)(i:Nat)(b:UInt8)(l:Bool)(n:Int):Gg s (i:Int) (b.toNat:Int) l n c d=if l then d s n i false else if i=0 then c () else if YG.contains b then d s n i false else c ():=by
 unfold Gg;cases l with
 | true=>rfl
 | false=>
  rw[o0,cond_true,if_neg (by simp)];by_cases a:i=0
  ·subst a;rfl
  ·have f:=b.toNat_lt;rw[show((i:Int)==0)=false by simpa using a,cond_false,F1,cond_true,if_neg a];simp only[vl];rw[Jr];have e:=Mq b YG;rw[show([48,49,50,51,52,53,54,55,56,57,43,45,46]:List UInt8)=YG from rfl,e];cases YG.contains b<;>rfl
theorem NO{R:Type}{a:Unit->Option R}{c:By->Option R}(s:By)(r:s.length<=1000000000)(n i:Nat)(p:i<s.length) :
  O5 LF (n+1) s (s.length:Int) (i:Int) a c=if Q2 (s.getD i 0) then O5 LF n s s.length ((i+1:Nat):Int) a c else if i=0 then a () else if YG.contains (s.getD i 0) then O5 LF n s s.length ((i+1:Nat):Int) a c else a ():=by
 have k:A1 ((i:Int)+1)=((i+1:Nat):Int):=by rw[A7];rfl
 rw[O5,A8,F1,D3];simp only[cond_true];generalize s.getD i 0=b;have go:∀l,Gg s (i:Int) (b.toNat:Int) l (s.length:Int) (λ_=>a ()) (λj g h m=>O5 LF n j g (A1 (h+(1:Int))) a c)=if l then O5 LF n s s.length ((i+1:Nat):Int) a c else if i=0 then a () else if YG.contains b then O5 LF n s s.length ((i+1:Nat):Int) a c else a ():=λl=>by
  rw[Au5,k]
 have q:Q2 b=((y5 97 b.toNat&&y5 b.toNat 122)||(y5 65 b.toNat&&y5 b.toNat 90)):=rfl;by_cases f:97<=b.toNat
 ·rw[A6,o0,cond_true];by_cases d:b.toNat<=122
  ·rw[A6,o0,cond_true,if_pos (V5.2 (.inl ⟨f,d⟩))];unfold HA;simp only[k]
  ·rw[A8,j1,cond_false,A6,o0,cond_true,A8,j1];have e:Q2 b=false:=by
    rw[<-ai0,V5];omega
   rw[e];exact go false
 ·rw[A8,j1,cond_false];by_cases o:65<=b.toNat
  ·rw[A6,o0,cond_true];have e:Q2 b = !ltI 90 (b.toNat:Int):=by
    rw[p6,V5,ac1,Qd];omega
   rw[e];exact go _
  ·rw[A8,j1,cond_false];have e:Q2 b=false:=by
    rw[<-ai0,V5];omega
   rw[e];exact go false
theorem Ce5{R:Type}{k0:Unit->Option R}{k1:By->Option R}(s:By)(d:s.length<=1000000000):∀(r i n:Nat),i+r=s.length->r<n->0<i->
  O5 LF n s (s.length:Int) (i:Int) k0 k1=if (s.drop i).all L6 then k1 s else k0 ():=by
 intro r
 induction r with
 | zero=>
  intro i n b c a;obtain⟨n,rfl⟩:∃m,n=m+1:=⟨n-1,by omega⟩
  rw[O5];rw[A6,p5 (by omega)];rfl
 | succ r e=>
  intro i n b c a;obtain⟨n,rfl⟩:∃m,n=m+1:=⟨n-1,by omega⟩
  rw[NO s d n i (by omega),e (i+1) n (by omega) (by omega) (by omega),D6 s i (by omega),aj7,Ar8,if_neg (by omega:¬i=0)];cases Q2 (s.getD i 0) with
  | true=>simp
  | false=>
   cases YG.contains (s.getD i 0)<;>simp
theorem Ce6{R:Type}{k0:Bool->Option R}(s:By)(f:A3 s.length=true):C12 LF s k0=k0 (T7 s):=by
 have c:=M5 f;have g:=C5;unfold C12;obtain⟨n,d⟩:∃m,LF=m+1:=⟨LF-1,by omega⟩
 cases s with
 | nil=>
  rw[show @O5 R LF LF = @O5 R LF (n+1) by rw[<-d]];rfl
 | cons b t=>
  rw[show @O5 R LF LF = @O5 R LF (n+1) by rw[<-d]];refine o7 (NO (b::t) c n 0 (by simp)) ?_;have e:=Ce5 (k0:=λ_=>k0 false) (k1:=λa=>k0 (not (a==([]:List UInt8)))) (b::t) c t.length 1 n (by simp;omega) (by simp at c;omega) (by omega);rw[ab0];simp only[ad9,if_true];rw[show(((0+1:Nat):Int))=((1:Nat):Int) from rfl,e];rw[show(b::t).drop 1=t from rfl,show T7 (b::t)=(Q2 b&&t.all L6) from rfl];cases Q2 b with
  | false=>rfl
  | true=>cases t.all L6<;>rfl
theorem YH:∀(s:By) (n:Int),FO.go n s=(Ca n s).getD 0
 | [],n=>rfl
 | b::r,n=>by
  unfold FO.go Ca;split
  ·exact YH r _
  ·rfl
theorem Cd9{R:Type}{a:Unit->Option R}{c:Int->Option R}(s:By)(y:s.length<=1000000000):∀(r i n:Nat) (v:Int),i+r=s.length->r<n->-1<=v->v<=65536->
  Nw LF n s v (s.length:Int) (i:Int) a c=match Ca v (s.drop i) with|some m=>c m|none=>a ():=by
 intro r
 induction r with
 | zero=>
  intro i n v p q j k;obtain⟨n,rfl⟩:∃m,n=m+1:=⟨n-1,by omega⟩
  rw[Nw];rw[A6,p5 (by omega)];rfl
 | succ r t=>
  intro i n v p q j k;obtain⟨n,rfl⟩:∃m,n=m+1:=⟨n-1,by omega⟩
  have d:A1 ((i:Int)+1)=((i+1:Nat):Int):=by rw[A7];rfl
  rw[Nw];rw[A8,F1,D3,D6 s i (by omega),d];have x:=(s.getD i 0).toNat_lt;generalize s.getD i 0=b at *;unfold Ca;simp only[cond_true,vl];by_cases l:b.toNat<48
  ·rw[A8,cond_true,G0]
  ·rw[A6,cond_false];by_cases o:57<b.toNat
   ·rw[A8,cond_true,G0]
   ·rw[A6,cond_false,if_pos (show 48<=b.toNat/\b.toNat<=57 by omega)];have u:(if (0:Int) > v then (0:Int) else v)=max v 0:=by omega
    have e:A1 (10*max v 0)=10*max v 0:=A7;have f:wu8 ((b.toNat:Int)-48)=((b.toNat-48:Nat):Int):=by rw[N1];omega
    have g:A1 ((b.toNat-48:Nat):Int)=((b.toNat-48:Nat):Int):=A7;have h:A1 (10*max v 0+((b.toNat-48:Nat):Int))=10*max v 0+((b.toNat-48:Nat):Int):=A7;rw[u,e,f,g,h];have w:(if (65536:Int)<10*max v 0+((b.toNat-48:Nat):Int) then (65536:Int) else 10*max v 0+((b.toNat-48:Nat):Int))=min (10*max v 0+((b.toNat-48:Nat):Int)) 65536:=by omega
    rw[w];exact t (i+1) n _ (by omega) (by omega) (by omega) (by omega)
theorem Ce0{R:Type}{a:Int->Bool->Option R}(s:By)(b:A3 s.length=true):Dk8 LF s a=a (FO s) (Ht (-1) s).isSome:=by
 have d:=M5 b;have c:=C5;unfold Dk8;refine o7 (Cd9 s d s.length 0 LF (-1) (by omega) (by omega) (by omega) (by omega)) ?_;rw[aa6,GH,show FO s=FO.go (-1) s from rfl,YH];cases Ca (-1) s with
 | none=>rfl
 | some m=>
  simp only[ai3,af2];rw[Mv];by_cases h:m<65536
  ·rw[decide_eq_true h,if_pos h];rfl
  ·rw[decide_eq_false h,if_neg h];rfl
theorem Cs4{s:By}{p:Int}(h:Ht (-1) s=some p):FO s=p:=by
 rw[GH] at h;rw[show FO s=FO.go (-1) s from rfl,YH];cases a:Ca (-1) s with
 | none=>rw[a] at h;cases h
 | some m=>
  rw[a] at h;simp only[af2] at h;split at h
  ·exact j8 h
  ·cases h
def hpT(name tail b user a:By):T2 × Nat:=
 if (C3 name).2≠0 then (Aj,(C3 name).2)
 else match Ht (-1) (tail.drop 1) with
  | none=>(Aj,16)
  | some p=>(⟨b,user,(C3 name).1,if p=P6 b then -1 else p,a⟩,0)
def hpC(name tail b user a:By):T2 × Nat:=if tail≠[]/\tail.head?≠some 58 then (Aj,4) else hpT name tail b user a
theorem Xi(c user b a:By):N5 c user b a=match Ev a with|none=>(Aj,4)|some (name,tail)=>hpC name tail c user b:=by
 unfold N5;cases Ev a with
 | none=>rfl
 | some q=>
  obtain⟨name,tail⟩:=q;rfl
theorem Un{t:By}(h:t=[]\/t.head? = some 58):Hl t [58]=t.drop 1:=by
 rcases h with rfl|h
 ·rfl
 ·cases t with
  | nil=>cases h
  | cons b r=>
   simp only[List.head?_cons,j6] at h;subst h;simp[Hl]
theorem Zn(name tail:By)(f:name.length<=1000000000)(j:tail.length<=1000000000)(h:tail=[]\/tail.head? = some 58)(d u:By)(v:Int)(y:By)(w n8 x k l m n o r:Int)(c:By) :
  ∃B H,∀(R:Type) (a:Int->Blk->By->By->Int->By->Int->Int->Int->Int->Int->Int->Int->Int->Int->Int->By->List Blk->Option R),X5 name tail d u v y w n8 x k l m n o r (-1) c a=(λq=>a (uE q) B (uS q) (uU q) (uK q) (uN q) (uV q) (uA q 0) (uA q 1) (uA q 2) (uA q 3) (uA q 4) (uA q 5) (uA q 6) (uA q 7) (uP q) (uR q) H) (hpT name tail d u c):=by
 have i:(tail.drop 1).length<=1000000000:=by rw[j4];omega
 by_cases b:(C3 name).2=0
 ·cases g:Ht (-1) (tail.drop 1) with
  | none=>
   apply o9;apply o9;intro R a;unfold X5 hpT;rw[E5 f,cond_true,Un h,E5 j];simp only[vl,cond_true];rw[b,E5 i,g];rfl
  | some p=>
   have t:=Cs4 g;by_cases e:p=P6 d
   ·apply o9;apply o9;intro R a;unfold X5 hpT;rw[E5 f,cond_true,Un h,E5 j];simp only[vl,cond_true];rw[b,E5 i,g,t,show(p !=P6 d)=false by simpa using e];simp only[e,if_true];rfl
   ·apply o9;apply o9;intro R a;unfold X5 hpT;rw[E5 f,cond_true,Un h,E5 j];simp only[vl,cond_true];rw[b,E5 i,g,t,show(p !=P6 d)=true by simpa using e];simp only[e,if_false];rfl
 ·apply o9;apply o9;intro R a;unfold X5 hpT;rw[E5 f,cond_true];simp only[vl];rw[show(((C3 name).2:Int)!=0)=true by simpa using b,cond_true,if_pos b];rfl
theorem Nx(name tail:By)(w:name.length<=1000000000)(x:tail.length<=1000000000)(l m:By)(p:Int)(v:By)(t n8 u d f g i j k:Int)(a:By) :
  ∃B H,∀(R:Type) (c:Int->Blk->By->By->Int->By->Int->Int->Int->Int->Int->Int->Int->Int->Int->Int->By->List Blk->Option R),Q8 name tail l m p v t n8 u d f g i j k (-1) a c=(λq=>c (uE q) B (uS q) (uU q) (uK q) (uN q) (uV q) (uA q 0) (uA q 1) (uA q 2) (uA q 3) (uA q 4) (uA q 5) (uA q 6) (uA q 7) (uP q) (uR q) H) (hpC name tail l m a):=by
 cases tail with
 | nil=>
  obtain⟨B,H,e⟩:=Zn name [] w x (.inl rfl) l m p v t n8 u d f g i j k a;refine⟨B,H,λR c=>?_⟩;unfold Q8 hpC;exact e R c
 | cons b r=>
  by_cases n:b=58
  ·subst n;obtain⟨B,H,e⟩:=Zn name (58::r) w x (.inr rfl) l m p v t n8 u d f g i j k a;refine⟨B,H,λR c=>?_⟩;unfold Q8 hpC;rw[K7 (by omega) (by simp),if_neg (by simp)];exact e R c
  ·apply o9;apply o9;intro R c;unfold Q8 hpC;have o:(((b.toNat:Int))!=(58:Int))=true:=by
    rw[bne_iff_ne];intro h;have y:b.toNat=58:=by omega
    exact n (ad4.1 y)
   rw[K7 (by omega) (by simp),if_pos (by simpa using n),Ax,ab0,o];rfl
theorem Bu1{c:UInt8}{s:By}(h:Hq c s=none):o5 s c=-1:=by rw[Ka,h]
theorem XS{c:UInt8}{s:By}{k:Nat}(h:Hq c s=some k):o5 s c=(k:Int)/\k<s.length:=by obtain⟨p,r,rfl,_,rfl⟩:=Rp h;exact⟨by rw[Ka,h],by simp⟩
theorem Dv8(c:UInt8)(s:By):([c]:By).isPrefixOf s=(s.head? == some c):=by
 cases s with
 | nil=>rfl
 | cons b r=>
  grind
abbrev KU(R:Type):=By->By->Int->By->Int->Int->Int->Int->Int->Int->Int->Int->Int->Int->By->Int->List Blk->Option R
abbrev KF{R:Type}(a:KU R)(q:T2 × Nat)(H:List Blk):Option R:=a (uS q) (uU q) (uK q) (uN q) (uV q) (uA q 0) (uA q 1) (uA q 2) (uA q 3) (uA q 4) (uA q 5) (uA q 6) (uA q 7) (uP q) (uR q) (uE q) H
theorem Bm3(u:By)(J:Int)(O:By)(v4 y z A C D F G I:Int)(t a:By)(h2:A3 a.length=true) :
  ∃H,∀(R:Type) (o:KU R),Vt LF u [] J O v4 y z A C D F G I (-1) t a o=KF o (G4 u t a) H:=by
 have ha:=M5 h2;have ge:=LI 64 a;have key:∀(x b:By),b.length<=1000000000->∃H,∀(R:Type) (o:KU R),(cond (A3 (b8 b)) (cond (p9 (([91]:List UInt8)) b)
   (cond (A3 (b8 b))
    (vl (o5 b (u8n (93:Int))) λc=>
    cond (ltI c (0:Int))
     (o ([]:List UInt8) ([]:List UInt8) 0 ([]:List UInt8) 0 0 0 0 0 0 0 0 0 0 ([]:List UInt8) 4 [(bU u x J O v4 y z A C D F G I (-1) t),bU0])
     (cond (I9 (0:Int) (A1 (c+(1:Int))) (b8 b))
      (cond (I9 (A1 (c+(1:Int))) (↑(b8 b):Int) (b8 b))
       (Q8 (cut b (0:Int) (A1 (c+(1:Int)))) (cut b (A1 (c+(1:Int))) (↑(b8 b):Int)) u x J O v4 y z A C D F G I (-1) t (λn0 T P Q K S L M n8 N f g i j l m n q=>o P Q K S L M n8 N f g i j l m n n0 (T::((bU P Q K S L M n8 N f g i j l m n)::q))))
       (none))
      (none)))
    (none))
   (cond (A3 (b8 b))
    (vl (o5 b (u8n (58:Int))) λd=>
    cond (not (ltI d (0:Int)))
     (cond (I9 (0:Int) d (b8 b))
      (cond (I9 d (↑(b8 b):Int) (b8 b))
       (Q8 (cut b (0:Int) d) (cut b d (↑(b8 b):Int)) u x J O v4 y z A C D F G I (-1) t (λn0 T P Q K S L M n8 N f g i j l m n q=>o P Q K S L M n8 N f g i j l m n n0 (T::((bU P Q K S L M n8 N f g i j l m n)::q))))
      (none))
     (none))
     (Q8 b ([]:List UInt8) u x J O v4 y z A C D F G I (-1) t (λn0 T P Q K S L M n8 N f g i j l m n q=>o P Q K S L M n8 N f g i j l m n n0 (T::((bU P Q K S L M n8 N f g i j l m n)::q)))))
    (none))) none)=KF o (N5 u x t b) H:=by
  intro x b hb;rw[Xi];unfold Ev;have w:A3 b.length=true:=E5 hb;have W:u8n (93:Int)=93:=rfl;have U:u8n (58:Int)=58:=rfl;by_cases v:b.head? = some 91
  ·rw[if_pos v];have Z:([91]:By).isPrefixOf b=true:=by rw[Dv8,v];rfl
   cases Y:Hq 93 b with
   | none=>
    apply o9;intro R o;rw[w,Z,W,Bu1 Y];rfl
   | some k=>
    obtain⟨e,hk⟩:=XS Y;have e1:A1 ((k:Int)+1)=((k+1:Nat):Int):=by rw[A7];rfl
    obtain⟨B,H,X⟩:=Nx (b.take (k+1)) (b.drop (k+1)) (by rw[j7];omega) (by rw[j4];omega) u x J O v4 y z A C D F G I t;apply o9;intro R o;rw[w,Z,W,e];simp only[vl,cond_true];rw[A6,cond_false,e1,I8,I8,cond_true,cond_true,L1,R6,j5,X]
  ·rw[if_neg v];have Z:([91]:By).isPrefixOf b=false:=by rw[Dv8];simpa using v
   cases Y:Hq 58 b with
   | none=>
    obtain⟨B,H,X⟩:=Nx b [] hb (by simp) u x J O v4 y z A C D F G I t;apply o9;intro R o;rw[w,Z,U,Bu1 Y];simp only[vl,cond_true,cond_false];rw[A8,j1,cond_false,X]
   | some k=>
    obtain⟨e,hk⟩:=XS Y;obtain⟨B,H,X⟩:=Nx (b.take k) (b.drop k) (by rw[j7];omega) (by rw[j4];omega) u x J O v4 y z A C D F G I t;apply o9;intro R o;rw[w,Z,U,e];simp only[vl,cond_true,cond_false];rw[A6,o0,cond_true,I8,I8,cond_true,cond_true,L1,R6,j5,X]
 have V:u8n (64:Int)=64:=rfl;unfold G4;by_cases h:0<=L2 64 a
 ·obtain⟨p,r,rfl,_,hl⟩:=LK h;rw[if_pos h,hl,j5];rw[j2,j0] at ha;obtain⟨H,e⟩:=key ((p++64::r).take p.length) ((p++64::r).drop (p.length+1)) (by rw[j4,j2,j0];omega);refine⟨H,λR o=>?_⟩;refine o7 ?_ (e R o);have e1:A1 ((p.length:Int)+1)=((p.length+1:Nat):Int):=by rw[A7];rfl
  have ln:(p++64::r).length=p.length+r.length+1:=by rw[j2,j0];omega
  unfold Vt;rw[h2,V,hl];simp only[vl,cond_true];rw[A6,o0,cond_true,e1,I8,I8,cond_true,cond_true,L1,R6,j5,j5];rfl
 ·rw[if_neg h];obtain⟨H,e⟩:=key [] a ha;refine⟨H,λR o=>?_⟩;refine o7 ?_ (e R o);unfold Vt;rw[h2,V];simp only[vl,cond_true];rw[A8,j1,cond_false];rfl
def Tru(x:Option (PV × List Blk × Unit)):Prop:=∃H,x=some (.s (.bool true),H,())
theorem eq8{v6:List Nat}(h:v6.length=8):∃a b c d e f g i,v6=[a,b,c,d,e,f,g,i]:=by
 match v6,h with
 | [a,b,c,d,e,f,g,i],_=>exact⟨a,b,c,d,e,f,g,i,rfl⟩
theorem De4{a b c d e f g i:Nat}(h:∀x∈[a,b,c,d,e,f,g,i],x<65536):ok8 a b c d e f g i=true:=by
 have q:∀x∈[a,b,c,d,e,f,g,i],ltN (x:Int) 65536=true:=λx j=>E0.2 ⟨by omega,by have:=h x j;omega⟩
 simp[ok8,q a,q b,q c,q d,q e,q f,q g,q i]
theorem FL{h:B4}(a:K8 h=true):h.name.length<=253:=by
 unfold K8 at a;split at a
 ·simp only[o8] at a;exact(Ir.1 a.1.1).le
 ·split at a
  ·simp only[o8,af1] at a;rw[a.1];simp
  ·split at a
   ·simp only[o8,af1] at a;rw[a.1];simp
   ·cases a
theorem Wx{h:B4}(ok:Df h):(R9 h).length<=300:=by
 cases a:K8 h with
 | false=>rw[KW a];simp
 | true=>
  have d:=FL a;have c:=Bn5 _ ok.v6.1 ok.v6.2;have b:=C16 _ ok.v4;unfold R9;rw[if_pos a];split
  ·omega
  ·split
   ·omega
   ·simp only[j0,j2,v7];omega
theorem GE{h0 b c d e f g i j a:Int}{h1:By}(k:ltN b 4294967296=true)(l:ok8 c d e f g i j a=true):Df (mkH h0 h1 b (n8 c d e f g i j a)):=by
 have⟨m,n⟩:=E0.1 k;refine⟨by show b.toNat<_;omega,Dr6 l,?_⟩;show(if ltN h0 4 then h0.toNat else 0)<4;split
 ·rename_i h;have:=E0.1 h;omega
 ·omega
theorem Ce3(c z:By)(x:Int)(y:By)(v4 m n o p t u v w k:Int)(b a:By)(O:A3 c.length=true)(P:A3 b.length=true)(A:A3 a.length=true)(B:z.isEmpty=true)(C:(k==-1)=true) :
  ∃r H,Vt LF c z x y v4 m n o p t u v w k b a (λL M D N F G I J n8 K f g h i l j d=>rv (.tup [gU L M D N F G I J n8 K f g h i l,.s (.int .i64 j)]) d)=rv r H/\
   r.stab [0,0] H=(λq=>.tup [gU (uS q) (uU q) (uK q) (uN q) (uV q) (uA q 0) (uA q 1) (uA q 2) (uA q 3) (uA q 4) (uA q 5) (uA q 6) (uA q 7) (uP q) (uR q),.s (.int .i64 (uE q))]) (G4 c b a):=by
 obtain rfl:=af1.1 B;obtain rfl:k=-1:=by simpa using C
 obtain⟨H,e⟩:=Bm3 c x y v4 m n o p t u v w b a A;exact⟨_,_,e _ _,rfl⟩
theorem Bs9(b:UInt8):ctl b=(!ltI 32 (b.toNat:Int)||((b.toNat:Int)==127)):=by rw[p6,Wl,ab2,ac1,Qd,beq_iff_eq];omega
theorem Ce4{R:Type}{a:List Blk->Option R}{b:By->Option R}(s:By)(g:s.length<=1000000000):∀(r i n:Nat),i+r=s.length->r<n->
  Js LF n s (s.length:Int) (i:Int) a b=if (s.drop i).any ctl then a [] else b s:=by
 intro r
 induction r with
 | zero=>
  intro i n d e;obtain⟨n,rfl⟩:∃m,n=m+1:=⟨n-1,by omega⟩
  rw[Js];rw[A6,p5 (by omega)];rfl
 | succ r f=>
  intro i n d e;obtain⟨n,rfl⟩:∃m,n=m+1:=⟨n-1,by omega⟩
  have c:A1 ((i:Int)+1)=((i+1:Nat):Int):=by rw[A7];rfl
  rw[Js];rw[A8,F1,D3,D6 s i (by omega),c,List.any_cons,Bs9];simp only[cond_true];rw[f (i+1) n (by omega) (by omega)];cases ltI 32 ((s.getD i 0).toNat:Int) with
  | false=>rfl
  | true=>cases (((s.getD i 0).toNat:Int)==127)<;>rfl
theorem C11(s:By)(i:A3 s.length=true):∃H,∀(R:Type) (a:KU R),OX LF s a=KF a (C1 s) H:=by
 have y:=M5 i;have v:=C5;have L:∀{R:Type} (a:List Blk->Option R) (l:By->Option R),Js LF LF s (s.length:Int) 0 a l=if s.any ctl then a [] else l s:=λa l=>Ce4 s y s.length 0 LF (by omega) (by omega)
 unfold C1;by_cases h:s.any ctl=true
 ·rw[if_pos h];apply o9;intro R a;unfold OX;rw[L,if_pos h];rfl
 rw[if_neg h];rcases Q7 58 s with b|⟨p,r,rfl,b⟩
 ·apply o9;intro R a;unfold OX;rw[L,if_neg h,i,Ks b];rfl
 have B:(p++58::r).length=p.length+r.length+1:=by rw[j2,j0];omega
 have sp:A3 p.length=true:=J8;have o:A3 r.length=true:=J8;rw[U5 b];simp only[j1,aj6];cases c:T7 p with
 | false=>
  apply o9;intro R a;unfold OX;rw[L,if_neg h,i,U5 b];simp only[vl,cond_true,j1,cond_false];rw[sp,c];rfl
 | true=>
 rw[if_neg (by simp)];cases f:H9 (B5 p) with
 | false=>
  apply o9;intro R a;unfold OX;rw[L,if_neg h,i,U5 b];simp only[vl,cond_true,j1,cond_false];rw[sp,c,f];rfl
 | true=>
 rw[if_neg (by simp)];cases Px:([47,47]:By).isPrefixOf r with
 | false=>
  apply o9;intro R a;unfold OX;rw[L,if_neg h,i,U5 b];simp only[vl,cond_true,j1,cond_false];rw[sp,c,f,o,Px];rfl
 | true=>
 rw[if_neg (by simp)];have j:Hl r [47,47]=r.drop 2:=by unfold Hl;rw[Px,if_pos rfl];rfl
 generalize m:r.drop 2=t;rw[m] at j;have lt:t.length<=r.length:=by rw[<-m,j4];omega
 have u:A3 t.length=true:=J8;have z:=Ze t;have sl:A3 (B5 p).length=true:=by rw[Ab];exact sp
 have tail:∀(R:Type) (a:KU R) (X d:By),X.length<=t.length->d.length<=t.length->
   (cond (A3 (b8 X))
    (cond (not (p9 (([47]:List UInt8)) X))
     (cond (E8 1 (b8 X))
     (cond (A3 (b8 (B5 p)))
      (cond (A3 (b8 (([47]:List UInt8)++X)))
       (cond (A3 (b8 d))
       (cond (((-1):Int)==((-1):Int))
        (KF a (G4 (B5 p) (([47]:List UInt8)++X) d) ((λq=>[bU (uS q) (uU q) (uK q) (uN q) (uV q) (uA q 0) (uA q 1) (uA q 2) (uA q 3) (uA q 4) (uA q 5) (uA q 6) (uA q 7) (uP q) (uR q),bU (B5 p) [] 0 [] 0 0 0 0 0 0 0 0 0 (-1) (([47]:List UInt8)++X)]) (G4 (B5 p) (([47]:List UInt8)++X) d)))
        (none))
       (none))
       (none))
      (none))
     (none))
     (cond (A3 (b8 (B5 p)))
     (cond (A3 (b8 X))
      (cond (A3 (b8 d))
      (cond (((-1):Int)==((-1):Int))
       (KF a (G4 (B5 p) X d) ((λq=>[bU (uS q) (uU q) (uK q) (uN q) (uV q) (uA q 0) (uA q 1) (uA q 2) (uA q 3) (uA q 4) (uA q 5) (uA q 6) (uA q 7) (uP q) (uR q),bU (B5 p) [] 0 [] 0 0 0 0 0 0 0 0 0 (-1) X]) (G4 (B5 p) X d)))
       (none))
      (none))
      (none))
     (none)))
    none)=KF a (G4 (B5 p) (R8 X) d) ((λq=>[bU (uS q) (uU q) (uK q) (uN q) (uV q) (uA q 0) (uA q 1) (uA q 2) (uA q 3) (uA q 4) (uA q 5) (uA q 6) (uA q 7) (uP q) (uR q),bU (B5 p) [] 0 [] 0 0 0 0 0 0 0 0 0 (-1) (R8 X)]) (G4 (B5 p) (R8 X) d)):=by
  intro R a X d A w;rw[J8,sl,Dv8,E5 (n:=d.length) (by omega)];unfold R8;by_cases g:X.head? = some 47
  ·rw[if_pos g,g];rfl
  ·have e:(X.head? == some 47)=false:=by simpa using g
   rw[if_neg g,e,G5 (by omega),E5 (by simp;omega)];rfl
 refine⟨(λX=>(λq=>[bU (uS q) (uU q) (uK q) (uN q) (uV q) (uA q 0) (uA q 1) (uA q 2) (uA q 3) (uA q 4) (uA q 5) (uA q 6) (uA q 7) (uP q) (uR q),bU (B5 p) [] 0 [] 0 0 0 0 0 0 0 0 0 (-1) (R8 X)]) (G4 (B5 p) (R8 X) (t.take (J4 t)))) (t.drop (J4 t)),λR a=>?_⟩;refine o7 ?_ (tail R a (t.drop (J4 t)) (t.take (J4 t)) (by rw[j4];omega) (by rw[j7];omega));unfold OX;rw[L,if_neg h,i,U5 b];simp only[vl,cond_true,j1,cond_false];rw[sp,c,f,o,Px,j,u];rw[show CD ([47,63,35]:List UInt8)=true from rfl,show([47,63,35]:List UInt8)=isl from rfl,Jz];simp only[cond_true,j1,cond_false];by_cases k:J4 t<t.length
 ·rw[if_pos k,A6,o0,cond_true,L1,j5,j7,Nat.min_eq_left (by omega),I8,I8,R6,j5];rfl
 ·have x:J4 t=t.length:=by omega
  rw[if_neg k,A8,j1,cond_false,I8,R6,j5,x,List.take_length,u];rfl
abbrev rvU(n o:By)(h:Int)(p:By)(i j k l n8 m b c d e:Int)(g:By)(f:Int)(a:List Blk):=rv (.tup [gU n o h p i j k l n8 m b c d e g,.s (.int .i64 f)]) a
abbrev pvU(q:T2 × Nat):PV:=.tup [gU (uS q) (uU q) (uK q) (uN q) (uV q) (uA q 0) (uA q 1) (uA q 2) (uA q 3) (uA q 4) (uA q 5) (uA q 6) (uA q 7) (uP q) (uR q),.s (.int .i64 (uE q))]
theorem Dl1(s:By)(a:A3 s.length=true):∃r H,OX LF s rvU=rv r H/\r.stab [0,0] H=pvU (C1 s):=by obtain⟨H,e⟩:=C11 s a;exact⟨_,_,e _ _,rfl⟩
theorem QT{p:Int}(h:S9 p=true):(U9 p).length<=20:=by
 obtain⟨a,b⟩:=Xk.1 h;unfold U9;split
 ·have:=Gm 19 (-p).toNat (by omega) (by omega);rw[j0];omega
 ·have:=Gm 19 p.toNat (by omega) (by omega);omega
theorem EC(b:Int)(c:By)(v4:Int)(a:List Nat):R9 (mkH b c v4 a)=R9 (Cr5 b c v4 a):=by
 unfold mkH Cr5;cases h:ltN b 4 with
 | true=>rfl
 | false=>
  rw[if_neg (by simp),if_neg (by simp),KW (by rfl),KW (by rfl)]
theorem Jo{c d a b:By}(h:smU c d a b=true):c.length<=100000000/\d.length<=100000000/\a.length<=100000000/\b.length<=100000000:=by simp only[smU,o8,ad0,and_assoc] at h;exact h
theorem SN{l m:By}{kd:Int}{a:By}{v4 b c d e f g h i j:Int}{k:By}(h0:smU l m a k=true)(h1:ltN v4 4294967296=true)(n:ok8 b c d e f g h i=true)(o:S9 j=true) :
  (W9 (mkU l m kd a v4 (n8 b c d e f g h i) j k)).length<=400000000:=by
 obtain⟨r,t,u,v⟩:=Jo h0;have p:=Wx (GE (h0:=kd) (h1:=a) h1 n);rw[EC] at p;have q:=QT o;unfold W9 mkU Oe;simp only;split
 ·split<;>split<;>simp only[j2,j0,v7]<;>omega
 ·simp only[j2,j0];omega
theorem C15(c n:By)(m:Int)(a:By)(v4 e f g h i j k l b:Int)(d:By)(h0:smU c n a d=true)(h1:ltN v4 4294967296=true)(t:ok8 e f g h i j k l=true)(x:S9 b=true) :
  ∃r H,Tc LF c n m a v4 e f g h i j k l b d (λu q=>rv (.s (.str u)) q)=rv r H/\r.stab [] H = .s (.str (W9 (mkU c n m a v4 (n8 e f g h i j k l) b d))):=by
 obtain⟨D,F,G,I⟩:=Jo h0;have A:=Wx (GE (h0:=m) (h1:=a) h1 t);have C:=QT x;have key:∀T:By,Tc LF c n m a v4 e f g h i j k l b d (λu q=>rv (.s (.str u)) q)=rv (.s (.str T)) [bU c n m a v4 e f g h i j k l b d]->T=W9 (mkU c n m a v4 (n8 e f g h i j k l) b d)->∃r H,Tc LF c n m a v4 e f g h i j k l b d (λu q=>rv (.s (.str u)) q)=rv r H/\r.stab [] H = .s (.str (W9 (mkU c n m a v4 (n8 e f g h i j k l) b d))):=λT y z=>⟨_,_,y,by rw[<-z];rfl⟩
 have w:A3 a.length=true:=J8;cases o:H9 c with
 | false=>
  refine key (c++[58]++d) ?_ ?_
  ·unfold Tc;rw[o,G5 (by omega)];simp only[vl,cond_true,o0];rw[G5 (by simp;omega)];rfl
  ·unfold W9 mkU;simp only[o];simp
 | true=>
  have B:=A;by_cases v:n=[]
  ·subst v;have e0:(([]:By)==([]:List UInt8))=true:=rfl;by_cases p:b=-1
   ·subst p;refine key (((c++[58,47,47])++R9 (mkH m a v4 (n8 e f g h i j k l)))++d) ?_ ?_
    ·unfold Tc;rw[o,w,h1,t,e0];simp only[vl,cond_true,cond_false,j1,show((-1:Int)!=-1)=false from rfl]
     repeat rw[G5 (by first|omega|(simp only[j2,j0,v7];omega))]
     rfl
    ·unfold W9 mkU Oe;simp[o,EC]
   ·refine key (((c++[58,47,47])++R9 (mkH m a v4 (n8 e f g h i j k l)))++([58]++U9 b)++d) ?_ ?_
    ·unfold Tc;rw[o,w,h1,t,x,e0];simp only[vl,cond_true,cond_false,j1,show(b !=-1)=true by simpa using p]
     repeat rw[G5 (by first|omega|(simp only[j2,j0,v7];omega))]
     rfl
    ·unfold W9 mkU Oe;simp[o,EC,p]
  ·have e0:(n==([]:List UInt8))=false:=by simpa using v
   by_cases p:b=-1
   ·subst p;refine key (((c++[58,47,47])++(n++[64])++R9 (mkH m a v4 (n8 e f g h i j k l)))++d) ?_ ?_
    ·unfold Tc;rw[o,w,h1,t,e0];simp only[vl,cond_true,cond_false,j1,o0,show((-1:Int)!=-1)=false from rfl]
     repeat rw[G5 (by first|omega|(simp only[j2,j0,v7];omega))]
     rfl
    ·unfold W9 mkU Oe;simp[o,EC,v]
   ·refine key (((c++[58,47,47])++(n++[64])++R9 (mkH m a v4 (n8 e f g h i j k l)))++([58]++U9 b)++d) ?_ ?_
    ·unfold Tc;rw[o,w,h1,t,x,e0];simp only[vl,cond_true,cond_false,j1,o0,show(b !=-1)=true by simpa using p]
     repeat rw[G5 (by first|omega|(simp only[j2,j0,v7];omega))]
     rfl
    ·unfold W9 mkU Oe;simp[o,EC,p,v]
theorem Dc1{a:Int}{k:Nat}(d:k<4):(a==(k:Int))=(k==(if ltN a 4 then a.toNat else 4)):=by
 rw[p6,beq_iff_eq,beq_iff_eq];cases h:ltN a 4 with
 | true=>
  obtain⟨b,c⟩:=E0.1 h;rw[if_pos rfl];omega
 | false=>
  rw[if_neg (by simp)];have:¬(0<=a/\a<4):=λq=>by
   have:=E0.2 q;rw[h] at this;cases this
  omega
theorem Pn(a b:By):(a==b)=(b==a):=by rw[p6,beq_iff_eq,beq_iff_eq];exact eq_comm
theorem Bf(a b:Int):(a==b)=(b==a):=by rw[p6,beq_iff_eq,beq_iff_eq];exact eq_comm
theorem Fw(a b:Nat):((a:Int)==(b:Int))=(b==a):=by rw[p6,beq_iff_eq,beq_iff_eq];omega
theorem PT{sc us:By}{kd:Int}{nm:By}{v4 a b c d f g h i po:Int}{re:By}{p:T2 × Nat}(L:ltN v4 4294967296=true)(M:ok8 a b c d f g h i=true)(P:Ac5 p.1) :
  ((sc==(uS p))&&((us==(uU p))&&((kd==(uK p))&&((nm==(uN p))&&((v4==(uV p))&&((a==(uA p 0))&&((b==(uA p 1))&&((c==(uA p 2))&&((d==(uA p 3))&&((f==(uA p 4))&&((g==(uA p 5))&&((h==(uA p 6))&&((i==(uA p 7))&&((po==(uP p))&&((re==(uR p))&&true)))))))))))))))=eqU p.1 (mkU sc us kd nm v4 (n8 a b c d f g h i) po re):=by
 obtain⟨⟨s,u,⟨k,n,v,l⟩,q,t⟩,e⟩:=p;obtain⟨K,_⟩:=P;obtain⟨B,C,D,F,G,H,I,J,rfl⟩:=eq8 K.v6.1;obtain⟨j,m,o,r,x,y,z,A,rfl,rfl,rfl,rfl,rfl,rfl,rfl,rfl,_⟩:=Rt M;obtain⟨w,rfl⟩:=x7 (E0.1 L).1;have N:k<4:=K.kd;have O:(([B,C,D,F,G,H,I,J]:List Nat)==[j,m,o,r,x,y,z,A])=((B==j)&&((C==m)&&((D==o)&&((F==r)&&((G==x)&&((H==y)&&((I==z)&&((J==A)&&true)))))))):=rfl;simp only[eqU,eqH,mkU,Cr5,n8,j5,O,ab0,ag3];rw[Dc1 N,Pn sc,Pn us,Pn nm,Pn re,Bf po,Fw w,Fw j,Fw m,Fw o,Fw r,Fw x,Fw y,Fw z,Fw A];simp only[Bool.and_assoc,ag6];rfl
theorem Bn2(m n:By)(kd:Int)(j:By)(v4 a b c d f g h i k:Int)(l:By)(u:smU m n j l=true)(o:ltN v4 4294967296=true)(q:ok8 a b c d f g h i=true)(v:S9 k=true) :
  ∃r H,HB LF m n kd j v4 a b c d f g h i k l (λz w=>rv (.s (.bool z)) w)=rv r H/\r.stab [] H = .s (.bool (R5 (mkU m n kd j v4 (n8 a b c d f g h i) k l))):=by
 have A:=SN (kd:=kd) u o q v;unfold HB R5;rw[u,o,q,v];simp only[vl,cond_true];rw[J8,cond_true];have x:=Qh (W9 (mkU m n kd j v4 (n8 a b c d f g h i) k l));rw[PT o q x];generalize C1 (W9 (mkU m n kd j v4 (n8 a b c d f g h i) k l))=p;obtain⟨y,e⟩:=p;by_cases t:e=0
 ·subst t;exact⟨_,_,rfl,rfl⟩
 ·rw[show(uE (y,e)==(0:Int))=false by simpa using t,show(e==0)=false by simpa using t];exact⟨_,_,rfl,rfl⟩
theorem Dk5(l m:By)(n:Int)(i:By)(v4 a b c d e f g h j:Int)(k:By)(p:smU l m i k=true)(q:ltN v4 4294967296=true)(t:ok8 a b c d e f g h=true)(u:S9 j=true) :
  ∃r H,Dk3 LF l m n i v4 a b c d e f g h j k (λv o=>rv (.s (.str v)) o)=rv r H/\r.stab [] H = .s (.str (Sl (mkU l m n i v4 (n8 a b c d e f g h) j k))):=by
 unfold Dk3 Sl;rw[p,q,t,u];cases R5 (mkU l m n i v4 (n8 a b c d e f g h) j k) with
 | false=>exact⟨_,_,rfl,rfl⟩
 | true=>exact⟨_,_,rfl,rfl⟩
end
section
open Go Go.Proofs Go.Sort
set_option maxRecDepth 100000
theorem Ab8:B3 a8 GX 157 Wb:=by
 refine B3.fix (pf:=IY) _ (J2 (fn:=Tryz.f157) (by kernel_rfl) (by kernel_rfl) (by kernel_rfl) ?_);intro args ret j h;unfold IY at h;split at h
 ·rename_i s c;obtain⟨l,h⟩:=C4 h;obtain⟨m,h⟩:=C4 h;obtain⟨rfl,rfl⟩:=J6 h;refine⟨rfl,rfl,λC o a p w k n d b=>?_⟩;obtain⟨U,V,rfl,f,g⟩:=b.arr2;obtain⟨i,rfl,rfl⟩:=f.inv_str;obtain rfl:=g.inv_int;refine(Any.strings_IndexByte Tryz.lays137 i c w).mono ?_;rintro e w' ⟨rfl,rfl⟩;exact⟨_,rfl,ah6 _ _,VP.mk_int _ _⟩
 ·cases h
theorem Bo1:B3 a8 GX 95 HJ:=NS 9223372036854775808 (v8 _)
theorem Dm9:B3 a8 GX 123 Bp3:=by
 refine B3.fix (pf:=HP) _ (J2 (fn:=Tryz.f123) (by kernel_rfl) (by kernel_rfl) (by kernel_rfl) ?_);intro args ret l h;unfold HP at h;split at h
 ·rename_i n;obtain⟨b,h⟩:=C4 h;obtain⟨rfl,rfl⟩:=J6 h;refine⟨rfl,rfl,λC o a p w m c i g=>?_⟩;obtain⟨U,rfl,j⟩:=g.arr1;obtain rfl:=j.inv_int;obtain⟨d,f⟩:=Xk.1 b;refine(Any.strconv_Itoa Tryz.laysM171 n (by omega) (by omega) w (Co1 c a)).mono ?_;rintro e w' ⟨rfl,k,os,rfl⟩;refine⟨_,rfl,(Pm w k).trans (show RowKit.Below w.heap.size _ _ from JQ (w.drewN k) os),?_⟩;have:Lib.itoa n=U9 n:=by
   unfold Lib.itoa U9;split
   ·rw[show n.natAbs=(-n).toNat by omega]
   ·rfl
  rw[this];exact VP.mk_str _
 ·cases h
theorem C48:B3 a8 GX 119 Ad4:=by
 refine B3.fix (pf:=Re) _ (J2 (fn:=ai5) (by kernel_rfl) (by kernel_rfl) (by kernel_rfl) ?_);intro args ret A h;unfold Re at h;split at h
 ·rename_i s p;obtain⟨i,h⟩:=C4 h;obtain⟨k,h⟩:=C4 h;obtain⟨l,h⟩:=C4 h;obtain⟨rfl,rfl⟩:=J6 h;refine⟨rfl,rfl,λC G m I w B F r q=>?_⟩;obtain⟨U,V,rfl,y,z⟩:=q.arr2;obtain⟨g,rfl,rfl⟩:=y.inv_str;obtain⟨d,rfl,a⟩:=z.inv_str;have H:=M5 i;have c:p=isl:=by simpa[CD] using k
  have D:=ac8 l;have f:=zero_of_info (P:=a8) (t:=Tryz.lays153_ren.t 116) (v:=.agg (Array.replicate 256 (.bool false))) (n:=256) (by kernel_rfl);subst c;have u:d.size=3:=by have:=ai9 d;rw[a] at this;exact this
  have x:=ai9 g;refine(Any.strings_IndexAny_long Tryz.lays153 f.1 f.2 g d w (by omega) (by omega) (by omega) (by omega) ?_).mono ?_
  ·rw[a];intro j b o;have:b∈isl:=List.mem_of_getElem? o
   revert b
   simp only[isl,p4,ac9,or_false];rintro b _ (rfl|rfl|rfl)<;>decide
  ·rintro e w' ⟨rfl,rfl⟩;rw[a];exact⟨_,rfl,((ah6 _ _).alloc (v8 _) _).alloc (by simp) _,VP.mk_int _ _⟩
 ·cases h
end
section
open Go Go.Proofs
set_option maxRecDepth 100000
theorem ZY{R:Type}{a:Bool->Option R}(n:Int):ZX LF n a=a (ltI 8 n):=rfl
theorem Au6{R:Type}{a:Bool->Option R}(r:Int):NP LF r a=a (NQ r):=by
 have b:ltN r 55296=(!ltI r 0&&ltI r 55296):=by
  rw[p6,E0,o8,ac1,Qd,Mw];omega
 have c:(ltI 57343 r&&ltN r 1114112)=(ltI 57343 r&&!ltI 1114111 r):=by
  rw[p6,o8,o8,E0,ac1,Qd,Mw];omega
 unfold NP Ls NQ;rw[b,c];cases ltI r 0<;>cases ltI r 55296<;>cases ltI 57343 r<;>cases ltI 1114111 r<;>rfl
theorem Du3(b:UInt8):o5 isl b=irn (b.toNat:Int):=by
 by_cases a:b=47
 ·subst a;rfl
 ·by_cases d:b=63
  ·subst d;rfl
  ·by_cases f:b=35
   ·subst f;rfl
   ·have n:∀c:UInt8,b≠c->(c==b)=false:=λc h=>by rw[beq_eq_false_iff_ne];exact ah5 h
    have e:∀c:UInt8,b≠c->¬(b.toNat:Int)=(c.toNat:Int):=λc h q=>h (ad4.1 (by omega))
    have g:¬(b.toNat:Int)=47:=e 47 a;have i:¬(b.toNat:Int)=63:=e 63 d;have j:¬(b.toNat:Int)=35:=e 35 f;unfold irn;rw[if_neg g,if_neg i,if_neg j];simp[isl,o5,n _ a,n _ d,n _ f]
theorem D37{l:By}{x:UInt8}(h:∀b∈l,b.toNat<128)(d:128<=x.toNat):o5 l x=-1:=by
 have e:=Mq x l;have c:l.contains x=false:=by
  rw[y8];intro a;have:=h x (by simpa using a);omega
 rw[c,o0,Mw] at e;have:=ai1 l x;omega
theorem Cn4{r:Int}(g:NQ r=true)(h:128<=r):2<=(ab9 r).data.toList.length/\(ab9 r).data.toList.length<=4/\128<=((ab9 r).data.toList.getD ((ab9 r).data.toList.length-1) 0).toNat:=by
 have a:Utf8.valid r=true:=by
  rw[validRune_eq];unfold validRune;simp only[NQ,ab2,o8,E0,Mw] at g;exact decide_eq_true (by omega)
 obtain⟨b,c,d⟩:=encode_facts r a h;have f:=ai9 (ab9 r);rw[<-f];refine⟨b,c,?_⟩;have e:=d (by omega);rw[List.getD_eq_getElem?_getD,ae7 (by omega),ai3];exact e
theorem Cc5(r:Int)(h:ltN r 1114112=true):∃v H,NI LF r (λk=>rv (.s (.int .i64 k)) []) (λk I=>rv (.s (.int .i64 k)) [.iter [47,63,35] I])=rv v H/\v.stab [] H = .s (.int .i64 (irn r)):=by
 obtain⟨A,M⟩:=E0.1 h;have B:=C5;unfold NI;rw[A6,o0,cond_true];unfold Lo;by_cases p:r<128
 ·obtain⟨n,rfl⟩:=x7 A;have e:wu8 (n:Int)=(n:Int):=N1;have f:u8n (n:Int)=w6 n:=by unfold u8n;simp
  have g:(((w6 n).toNat:Nat):Int)=(n:Int):=by simp;omega
  rw[A8,cond_true,e,F1,f];have o:=Du3 (w6 n);rw[g] at o;rw[<-o];exact⟨_,_,rfl,rfl⟩
 ·rw[A6,cond_false,Cp6 (by omega)];by_cases t:r=65533
  ·subst t;obtain⟨m,i⟩:∃m,LF=m+1+1+1+1:=⟨LF-4,by omega⟩
   have w:x6 ⟨w9 ([47,63,35]:List UInt8)⟩ 0=(47,1):=rfl;have x:x6 ⟨w9 ([47,63,35]:List UInt8)⟩ 1=(63,1):=rfl;have y:x6 ⟨w9 ([47,63,35]:List UInt8)⟩ 2=(35,1):=rfl;have go:∀(R:Type) (c:Int->Nat->Option R) (a:Nat->Option R),Ah LF LF 0 c a=a 3:=λR c a=>by
    have L:Ah LF (m+1) 3 c a=a 3:=by rw[Fb];rfl
    have K:Ah LF (m+1+1) 2 c a=a 3:=by rw[Fb];unfold Ee;rw[y];exact L
    have J:Ah LF (m+1+1+1) 1 c a=a 3:=by rw[Fb];unfold Ee;rw[x];exact K
    have d:Ah LF (m+1+1+1+1) 0 c a=a 3:=by rw[Fb];unfold Ee;rw[w];exact J
    rw[<-i] at d;exact d
   rw[go];exact⟨_,_,rfl,rfl⟩
  ·rw[show(r==(65533:Int))=false by simpa using t,cond_false];cases F:NQ r with
   | false=>exact⟨_,_,rfl,rfl⟩
   | true=>
    obtain⟨O,P,G⟩:=Cn4 F (by omega);simp only[vl,j1,cond_false];generalize (ab9 r).data.toList=l at *;obtain⟨m,i⟩:∃m,LF=m+1:=⟨LF-1,by omega⟩
    have z:A1 ((l.length:Int)-1)=((l.length-1:Nat):Int):=by rw[A7];omega
    have go:∀(R:Type) (c:Int->Option R) (a:Unit->Option R),a ()=c (-1)->Gy LF LF l ((l.length-1:Nat):Int) c a=c (-1):=λR c a C=>by
     have d:Gy LF (m+1) l ((l.length-1:Nat):Int) c a=c (-1):=by
      rw[FF];unfold Nt;by_cases N:l.length=4
      ·rw[A6];exact C
      ·rw[A8,F1,F1,D3,D3];simp only[vl,cond_true];have D:(([47,63,35]:List UInt8).getD (l.length-1) 0).toNat<128:=by
        have:l.length=2\/l.length=3:=by omega
        rcases this with q|q<;>rw[q]<;>decide
       have j:((((([47,63,35]:List UInt8).getD (l.length-1) 0).toNat:Nat):Int)!=(((l.getD (l.length-1) 0).toNat:Nat):Int))=true:=by
        rw[bne_iff_ne];omega
       have f:A1 (((l.length-1:Nat):Int)+1)=((l.length:Nat):Int):=by rw[A7];omega
       have g:cut ([47,63,35]:List UInt8) ((l.length:Nat):Int) 3=([47,63,35]:List UInt8).drop l.length:=by
        rw[show(3:Int)=((3:Nat):Int) from rfl,Fp];rfl
       have u:=(l.getD (l.length-1) 0).toNat_lt;rw[j,cond_true,f,I8,cond_true,g,E5 (by simp;omega),cond_true,F1,cond_true,Jr,D37 (λb u=>?_) G]
       ·rfl
       ·have:=x5 u;simp only[p4,ac9,or_false] at this;rcases this with rfl|rfl|rfl<;>decide
     rw[<-i] at d;exact d
    rw[z,go _ _ _ rfl];exact⟨_,_,rfl,rfl⟩
theorem Cg2:B3 a8 GX 160 AK:=by
 refine B3.fix (pf:=Tn) _ (J3 [] (C₀:=BD LF) (N2.ok (l:=[]) rfl trivial) (J1 rfl (by kernel_rfl)) follows ?_);intro args ret a h;unfold Tn at h;split at h
 ·rename_i n;obtain⟨rfl,rfl⟩:=J6 h;have e:=(Bl2 LF noY () 0 n).trans (ZY n);exact⟨rfl,rfl,rfl,1,_,_,e,rfl⟩
 ·cases h
theorem C56:B3 a8 GX 196 JH:=by
 refine B3.fix (pf:=AP) _ (J3 [] (C₀:=Cm LF) (N2.ok (l:=[]) rfl trivial) (J1 rfl (by kernel_rfl)) follows ?_);intro args ret a h;unfold AP at h;split at h
 ·rename_i n;obtain⟨rfl,rfl⟩:=J6 h;have e:=(Ce8 LF noY () 0 n).trans (Au6 n);exact⟨rfl,rfl,rfl,1,_,_,e,rfl⟩
 ·cases h
theorem C51:B3 a8 GX 161 Pd:=λargs ret a h=>by
 have:M9 (Pd args)=none:=by unfold Pd PC;split<;>rfl
 rw[this] at h;cases h
theorem C50:B3 a8 GX 159 IZ:=by
 refine B3.fix (pf:=AJ) _ (J3 [] (C₀:=M3 LF) (N2.ok (l:=[(157,Wb),(196,JH)]) rfl ⟨Ab8,C56,trivial⟩) (J1 rfl (by kernel_rfl)) follows ?_);intro args ret f h;unfold AJ at h;split at h
 ·rename_i p r;obtain⟨a,h⟩:=C4 h;obtain⟨b,h⟩:=C4 h;obtain⟨rfl,rfl⟩:=J6 h;obtain rfl:p=isl:=by simpa[CD] using a
  obtain⟨d,H,e,c⟩:=Cc5 r b;exact⟨rfl,rfl,rfl,1,d,H,(Cc4 LF noY () 0 r).trans e,c⟩
 ·cases h
theorem NK:∀(w:Nat) (l:By),w<=l.length->(∀i,i<w->M6 (l.getD i 0)=false)->J4 l=w+J4 (l.drop w)
 | 0,l,_,_=>by simp
 | w+1,[],h,_=>by simp at h
 | w+1,b::l,h,hb=>by
  have a:=hb 0 (by omega);rw[ab0] at a;have d:=NK w l (by simpa using h) (λi c=>by have:=hb (i+1) (by omega);rwa [ag3] at this);rw[Il,a,ad5];simp only[o6,if_false];omega
theorem As5(s:By)(O:s.length<=8):∀(f m n:Nat),s.length-m<=f->m<=s.length->f<n->∃H t,∀(R:Type) (j:Int->List Blk->Option R) (k:By->Nat->Option R),
  Ln LF n s m j k=if J4 (s.drop m)<(s.drop m).length then j ((m+J4 (s.drop m):Nat):Int) H else k s t:=by
 intro f
 induction f with
 | zero=>
  intro m n G K L;obtain⟨n,rfl⟩:∃q,n=q+1:=⟨n-1,by omega⟩
  refine⟨[],m,λR j k=>?_⟩;rw[Cc];unfold Z5;rw[decide_eq_false (by omega),cond_false,p5 (by omega),if_neg (by simp)]
 | succ f z=>
  intro m n G K L;obtain⟨n,rfl⟩:∃q,n=q+1:=⟨n-1,by omega⟩
  by_cases a:m<s.length
  ·have F:=Lib.decodeL_drop ⟨s.toArray⟩ m;have h:x6 ⟨w9 s⟩ m=aa5 (s.drop m):=by rw[<-F]
   have p:=D6 s m a;have N:(s.drop m).length=s.length-m:=j4;generalize M:s.getD m 0=b at p;by_cases o:b.toNat<128
   ·have y:aa5 (s.drop m)=(b.toNat,1):=by rw[p];exact Lib.decodeL_ascii b _ o
    have l:=Du4 b;cases g:M6 b with
    | true=>
     rw[g,j1] at l;have u:J4 (s.drop m)=0:=by rw[p,Il,g];rfl
     refine⟨[Blk.iter s (m+1)],m,λR j k=>?_⟩;rw[Cc];unfold Z5;rw[decide_eq_true a,h,y,u,Q5];simp only[vl,cond_true];rw[show CD ([47,63,35]:List UInt8)=true from rfl,cond_true,E0.2 ⟨by omega,by omega⟩,cond_true,l];rfl
    | false=>
     rw[g,o0] at l;have u:J4 (s.drop m)=J4 (s.drop (m+1))+1:=by rw[p,Il,g];rfl
     have v:(s.drop (m+1)).length=s.length-(m+1):=j4;obtain⟨H,t,e⟩:=z (m+1) n (by omega) (by omega) (by omega);refine⟨H,t,λR j k=>?_⟩;rw[Cc];unfold Z5;rw[decide_eq_true a,h,y];simp only[vl,cond_true];rw[show CD ([47,63,35]:List UInt8)=true from rfl,cond_true,E0.2 ⟨by omega,by omega⟩,cond_true,l,j1,cond_false,e,u];by_cases q:J4 (s.drop (m+1))<(s.drop (m+1)).length
     ·rw[if_pos q,Q5,show m+1+J4 (s.drop (m+1))=m+(J4 (s.drop (m+1))+1) by omega]
     ·rw[if_neg q,G0]
   ·obtain⟨A,B,C,D,x⟩:=Dt1 b (s.drop (m+1)) (by omega);rw[<-p] at A B C D x;have v:(s.drop (m+1)).length=s.length-(m+1):=j4;generalize aa5 (s.drop m)=d at *;obtain⟨c,w⟩:=d;simp only at A B C D x;have r:=NK w (s.drop m) (by omega) (λi I=>Cy7 (x i I));rw[List.drop_drop] at r;have J:(s.drop (m+w)).length=s.length-(m+w):=j4;have l:ltI (irn (c:Int)) 0=true:=by rw[Cp6 (by omega)];rfl
    obtain⟨H,t,e⟩:=z (m+w) n (by omega) (by omega) (by omega);refine⟨H,t,λR j k=>?_⟩;rw[Cc];unfold Z5;rw[decide_eq_true a,h];simp only[vl,cond_true];rw[show CD ([47,63,35]:List UInt8)=true from rfl,cond_true,E0.2 ⟨by omega,by omega⟩,cond_true,l,j1,cond_false,e,r];by_cases q:J4 (s.drop (m+w))<(s.drop (m+w)).length
    ·rw[if_pos q,Q5,show m+w+J4 (s.drop (m+w))=m+(w+J4 (s.drop (m+w))) by omega]
    ·rw[if_neg q,G0]
  ·refine⟨[],m,λR j k=>?_⟩;rw[Cc];unfold Z5;rw[decide_eq_false a,cond_false,p5 (by omega),if_neg (by simp)]
theorem Cc2(s:By)(h:s.length<=8):∃r H,ZR LF s (λc a=>rv (.s (.int .i64 c)) a)=rv r H/\r.stab [] H = .s (.int .i64 (aa8 s isl)):=by
 have b:=C5;obtain⟨H,d,e⟩:=As5 s h s.length 0 LF (by omega) (by omega) (by omega);unfold ZR;rw[A6,cond_false,e,Jz,aa6,ad9];by_cases q:J4 s<s.length
 ·rw[if_pos q,if_pos q];exact⟨_,_,rfl,rfl⟩
 ·rw[if_neg q,if_neg q];exact⟨_,_,rfl,rfl⟩
theorem C49:B3 a8 GX 119 Ad5:=by
 refine B3.fix (pf:=Rf) _ (J3 [] (C₀:=Hg LF) (N2.ok (l:=[(159,IZ),(160,AK),(161,Pd)]) rfl ⟨C50,Cg2,C51,trivial⟩) (J1 rfl (by kernel_rfl)) follows ?_);intro args ret f h;unfold Rf at h;split at h
 ·rename_i s p;obtain⟨a,h⟩:=C4 h;obtain⟨b,h⟩:=C4 h;obtain⟨rfl,rfl⟩:=J6 h;obtain rfl:p=isl:=by simpa[CD] using a
  obtain⟨d,H,e,c⟩:=Cc2 s (ac8 b);exact⟨rfl,rfl,rfl,1,d,H,(Cc1 LF noY () 0 s).trans e,c⟩
 ·cases h
theorem Ef{c:Bool}{t:Tr}(h:c=true):M9 (.need c t)=M9 t:=by subst h;rfl
theorem Dp2:B3 a8 GX 119 VF:=λargs ret c h=>by
 have a:=C48 args ret c;have b:=C49 args ret c;unfold VF at h;unfold Ad4 at a;unfold Ad5 at b;generalize C2 [[0],[0]] args=l at h a b;unfold Ad3 at h;split at h
 ·rename_i s p;obtain⟨e,h⟩:=C4 h;obtain⟨d,h⟩:=C4 h;by_cases f:s.length<=8
  ·refine b ?_;unfold Rf;rw[Ef d,Ef (af7 f)];exact h
  ·refine a ?_;unfold Re;rw[Ef e,Ef d,Ef (af7 (by omega))];exact h
 ·cases h
section
theorem Dn4:B3 a8 GX 203 Bp6:=xf [] (WN LF) HW rfl ⟨Bo3,trivial⟩ rfl (by kernel_rfl) follows λargs=>by
 unfold HW;split
 ·rename_i s p;exact λa=>⟨rfl,rfl,rfl,_,_,(Cr0 LF noY () 0 s p).trans (A79 s p a),rfl⟩
 ·trivial
theorem D11:B3 a8 GX 166 Cj3:=xf [] (A20 LF) VJ rfl ⟨Dn4,trivial⟩ rfl (by kernel_rfl) follows λargs=>by
 unfold VJ;split
 ·rename_i s p;exact λa=>⟨rfl,rfl,rfl,_,_,(Dk1 LF noY () 0 s p).trans (Cd7 s p a),rfl⟩
 ·trivial
theorem HD:B3 a8 GX 124 Wd:=xf [] (XC LF) JE rfl trivial rfl (by kernel_rfl) follows λargs=>by
 unfold JE;split
 ·rename_i s;exact⟨rfl,rfl,rfl,_,_,(C10 LF noY () 0 s).trans (Bm5 s ),rfl⟩
 ·trivial
theorem Ab9:B3 a8 GX 117 FW:=xf [] (XD LF) JF rfl ⟨HD,trivial⟩ rfl (by kernel_rfl) follows λargs=>by
 unfold JF;split
 ·rename_i s;exact⟨rfl,rfl,rfl,_,_,(C13 LF noY () 0 s).trans (Bn0 s ),rfl⟩
 ·trivial
theorem C53:B3 a8 GX 84 Ay4:=xf [] (A22 LF) VM rfl ⟨HD,trivial⟩ rfl (by kernel_rfl) follows λargs=>by
 unfold VM;split
 ·rename_i n o j k v4 a b c d f g h i l m;exact(let⟨r,H,e,q⟩:=Dk7 n o j k v4 a b c d f g h i l m ; ⟨rfl,rfl,rfl,r,H,(Dk6 LF noY () 0 n o j k v4 a b c d f g h i l m).trans e,q⟩)
 ·trivial
theorem D15:B3 a8 GX 115 Cj8:=xf [] (Aq LF) VR rfl ⟨Ab8,trivial⟩ rfl (by kernel_rfl) follows λargs=>by
 unfold VR;split
 ·rename_i s;exact λa=>⟨rfl,rfl,rfl,_,_,(Dl3 LF noY () 0 s).trans (Ce6 s a),rfl⟩
 ·trivial
theorem D13:B3 a8 GX 165 Cj6:=xf [0,0] (Ul LF) VO rfl trivial rfl (by kernel_rfl) follows λargs=>by
 unfold VO;split
 ·rename_i s;exact λa=>⟨rfl,rfl,rfl,_,_,(Dk9 LF noY () 0 s).trans (Ce0 s a),rfl⟩
 ·trivial
theorem C54:B3 a8 GX 121 Ad7:=xf [0,0] (Y7 LF) AN rfl ⟨Bz0,Ab7,Ab8,C31,D11,D13,HD,trivial⟩ rfl (by kernel_rfl) follows λargs=>by
 unfold AN;split
 ·rename_i o p k l v4 b c d f g h i j m n a;exact λt=>λu=>λv=>λw=>λx=>(let⟨r,H,e,q⟩:=Ce3 o p k l v4 b c d f g h i j m n a t u v w x;⟨rfl,rfl,rfl,r,H,(Ce2 LF noY () 0 o p k l v4 b c d f g h i j m n a).trans e,q⟩)
 ·trivial
theorem D14:B3 a8 GX 82 Cj7:=xf [0,0] (Um LF) VQ rfl ⟨C47,D15,C35,Ab9,C27,Dp2,Ab7,C54,trivial⟩ rfl (by kernel_rfl) follows λargs=>by
 unfold VQ;split
 ·rename_i s;exact λa=>(let⟨r,H,e,q⟩:=Dl1 s a;⟨rfl,rfl,rfl,r,H,(Dl0 LF noY () 0 s).trans e,q⟩)
 ·trivial
theorem Bz5:B3 a8 GX 83 VT:=xf [] (XE LF) JG rfl ⟨Ab9,C30,Dm9,trivial⟩ rfl (by kernel_rfl) follows λargs=>by
 unfold JG;split
 ·rename_i n o j k v4 a b c d f g h i l m;exact λp=>λt=>λu=>λv=>(let⟨r,H,e,q⟩:=C15 n o j k v4 a b c d f g h i l m p t u v;⟨rfl,rfl,rfl,r,H,(C14 LF noY () 0 n o j k v4 a b c d f g h i l m).trans e,q⟩)
 ·trivial
theorem DM:B3 a8 GX 51 Rg:=xf [] (BF LF) Tp rfl ⟨Bz5,D14,trivial⟩ rfl (by kernel_rfl) follows λargs=>by
 unfold Tp;split
 ·rename_i n o j k v4 a b c d f g h i l m;exact λp=>λt=>λu=>λv=>(let⟨r,H,e,q⟩:=Bn2 n o j k v4 a b c d f g h i l m p t u v;⟨rfl,rfl,rfl,r,H,(Bn1 LF noY () 0 n o j k v4 a b c d f g h i l m).trans e,q⟩)
 ·trivial
theorem D12:B3 a8 GX 85 Cj5:=xf [] (A21 LF) VK rfl ⟨DM,Bz5,trivial⟩ rfl (by kernel_rfl) follows λargs=>by
 unfold VK;split
 ·rename_i n o j k v4 a b c d f g h i l m;exact λp=>λt=>λu=>λv=>(let⟨r,H,e,q⟩:=Dk5 n o j k v4 a b c d f g h i l m p t u v;⟨rfl,rfl,rfl,r,H,(Dk4 LF noY () 0 n o j k v4 a b c d f g h i l m).trans e,q⟩)
 ·trivial
end
end
section
open Go Go.Proofs Go.RowKit
set_option maxRecDepth 100000
abbrev Qr(m n:ByteArray)(i:Int)(j:ByteArray)(v4 a b c d e f g h k:Int)(l:ByteArray):Array Value:=#[.string m,.string n,.int .i64 i,.string j,.int .u32 v4,.int .u16 a,.int .u16 b,.int .u16 c,.int .u16 d,.int .u16 e,.int .u16 f,.int .u16 g,.int .u16 h,.int .i64 k,.string l]
abbrev Yy:ByteArray:=⟨#[104,116,116,112]⟩
abbrev Qo:ByteArray:=⟨#[104,116,116,112,115]⟩
abbrev sWs:ByteArray:=⟨#[119,115]⟩
abbrev Bk4:ByteArray:=⟨#[119,115,115]⟩
abbrev Kt:MapEntry:={ key:=.string Yy,val:=.string Qo,born:=0 }
abbrev BN:MapEntry:={ key:=.string sWs,val:=.string Bk4,born:=1 }
theorem We(w:World)(o:Obj):(w.alloc o).heap[w.heap.size]? = some o:=(MapKept.heap_alloc w o).1
theorem PI(w:World)(o p:Obj):({ (w.alloc o) with heap:=(w.alloc o).heap.setIfInBounds w.heap.size p }:World)=w.alloc p:=by
 have e:(w.heap.push o).setIfInBounds w.heap.size p=w.heap.push p:=by
  apply ah9.1;rw[Array.toList_setIfInBounds,ah1,ah1,<-x9,List.set_append_right _ _ (v8 _),ah4];rfl
 show({ w with heap:=(w.heap.push o).setIfInBounds w.heap.size p }:World) = { w with heap:=w.heap.push p }
 rw[e]
theorem Dv1{P:Program}{t k e:TypeId}(b:P.underlying t=some (.map k e))(a:P.underlying k=some .string)(w:World):(af4 t (.map (some w.heap.size)) (.string Yy) (.string Qo)).run P (w.alloc (.map #[] 0)) = .ok () (w.alloc (.map #[Kt] 1)):=by rw[run_mapUpdate_first (w:=w.alloc (.map #[] 0)) t k e w.heap.size 0 Yy (.string Qo) b a (We w _),PI]
theorem Dv2{P:Program}{t k e:TypeId}(f:P.underlying t=some (.map k e))(b:P.underlying k=some .string)(w:World):(af4 t (.map (some w.heap.size)) (.string sWs) (.string Bk4)).run P (w.alloc (.map #[Kt] 1)) = .ok () (w.alloc (.map #[Kt,BN] 2)):=by have a:=We w (.map #[Kt] 1);have d:ag7 .string (.string sWs) (#[Kt]:Array MapEntry).toList 0=some none:=rfl;have c:(aj4 false 10000 k (.string sWs)).run P (w.alloc (.map #[Kt] 1)) = .ok () (w.alloc (.map #[Kt] 1)):=ag1 (k:=.string sWs) b (by simp[aj8]) false 9999;simp only[af4,Sem.run_bind,run_underlying f,ac6 a,c,ad7 b d,MapKept.run_setObj_map _ a,ag2];exact congrArg (Result.ok ()) (PI w (.map #[Kt] 1) (.map #[Kt,BN] 2))
theorem Cr2{P:Program}{t k e:TypeId}(g:P.underlying t=some (.map k e))(c:P.underlying k=some .string)(w:World):(ad8 t (.map (some w.heap.size)) (.string Yy) false).run P (w.alloc (.map #[Kt,BN] 2)) = .ok (.string Qo) (w.alloc (.map #[Kt,BN] 2))/\(ad8 t (.map (some w.heap.size)) (.string sWs) false).run P (w.alloc (.map #[Kt,BN] 2)) = .ok (.string Bk4) (w.alloc (.map #[Kt,BN] 2)):=by
 have d:=We w (.map #[Kt,BN] 2);have h:ag7 .string (.string Yy) (#[Kt,BN]:Array MapEntry).toList 0=some (some (0,.string Qo)):=rfl;have a:ag7 .string (.string sWs) (#[Kt,BN]:Array MapEntry).toList 0=some (some (1,.string Bk4)):=rfl;have f:∀s b,(aj4 b 10000 k (.string s)).run P (w.alloc (.map #[Kt,BN] 2)) = .ok () (w.alloc (.map #[Kt,BN] 2)):=λs b=>ag1 (k:=.string s) c (by simp[aj8]) b 9999
 constructor
 ·simp[ad8,run_underlying g,ac6 d,f,ad7 c h,ag2]
 ·simp[ad8,run_underlying g,ac6 d,f,ad7 c a,ag2]
theorem size_alloc(w:World)(o:Obj):(w.alloc o).heap.size=w.heap.size+1:=aj0 ..
theorem Ai3(w:World)(A B C D:Obj):((((w.alloc A).alloc B).alloc C).alloc D).heap[w.heap.size+1]? = some B:=by
 have e:∀(w:World) (o:Obj) (i:Nat),i<w.heap.size->(w.alloc o).heap[i]? = w.heap[i]?:=λw o i h=>by
  show(w.heap.push o)[i]? = w.heap[i]?;rw[Array.getElem?_push,if_neg (Nat.ne_of_lt h)]
 rw[e _ _ _ (by simp only[size_alloc];omega),e _ _ _ (by simp only[size_alloc];omega),<-size_alloc w A];exact We (w.alloc A) B
theorem Ag4(w:World)(o:Obj)(n:Nat):(w.alloc o).drewN n=(w.drewN n).alloc o:=rfl
theorem B75(w:World):Calls a8 124 #[.string Yy] w λe w'=>e = .returned (.int .i64 80)/\w'=w:=by
 go_enter ac7,ae8
 go_wp2
 go_ret
 exact⟨rfl,rfl⟩
theorem Bb0(w:World):Calls a8 124 #[.string Qo] w λe w'=>e = .returned (.int .i64 443)/\w'=w:=by
 go_enter ac7,ae8
 go_wp2
 go_ret
 exact⟨rfl,rfl⟩
theorem Df6(w:World):Calls a8 124 #[.string sWs] w λe w'=>e = .returned (.int .i64 80)/\w'=w:=by
 go_enter ac7,ae8
 go_wp2
 go_ret
 exact⟨rfl,rfl⟩
theorem Ct9(w:World):Calls a8 124 #[.string Bk4] w λe w'=>e = .returned (.int .i64 443)/\w'=w:=by
 go_enter ac7,ae8
 go_wp2
 go_ret
 exact⟨rfl,rfl⟩
theorem Cp5(a o l n:ByteArray)(k v4 b c d f g h i j m:Int)(q:∀w,Calls a8 124 #[.string a] w λe w'=>e = .returned (.int .i64 80)/\w'=w)(w:World):Calls a8 84 #[.agg (Qr a o k l v4 b c d f g h i j m n)] w λe w'=>e = .returned (.bool true)/\w'=w.alloc (.cells (Qr a o k l v4 b c d f g h i j m n) 55):=by
 have p:∀args w,(callFunc 124 args).run a8 w = .ok (.enter 124 args) w:=enters_of ac7 (by kernel_rfl) rfl
 go_enter al3,Tryz.ntmps84
 go_wp2_with (go_at_fn 124;refine(q _).mono ?_;rintro e w' ⟨rfl,r⟩;rw[r])
 go_ret
 exact⟨rfl,rfl⟩
theorem By3(x g y u v:ByteArray)(t v4 i j k l m n o p c f:Int)(L:c=443->f=-1)(M:¬c=443->f=c)
  (b:∀w,Calls a8 84 #[.agg (Qr x y t u v4 i j k l m n o p c v)] w λe w'=>e = .returned (.bool true)/\w'=w.alloc (.cells (Qr x y t u v4 i j k l m n o p c v) 55))
  (J:∀w:World,(ad8 125 (.map (some w.heap.size)) (.string x) false).run a8 (w.alloc (.map #[Kt,BN] 2)) = .ok (.string g) (w.alloc (.map #[Kt,BN] 2)))
  (d:∀w,Calls a8 124 #[.string g] w λe w'=>e = .returned (.int .i64 443)/\w'=w) (w:World) :
  Calls a8 86 #[.agg (Qr x y t u v4 i j k l m n o p c v)] w λe w'=>e = .returned (.agg (Qr g y t u v4 i j k l m n o p f v))/\Below w.heap.size w w':=by
 have z:∀args w,(callFunc 84 args).run a8 w = .ok (.enter 84 args) w:=enters_of al3 (by kernel_rfl) rfl;have K:∀args w,(callFunc 124 args).run a8 w = .ok (.enter 124 args) w:=enters_of ac7 (by kernel_rfl) rfl;have H:=@run_makeMap a8;have q:∀(w:World) A B C,(((w.alloc A).alloc B).alloc C).heap.size=w.heap.size+1+1+1:=λw A B C=>by simp only[World.alloc,aj0]
 have D:∀(w:World) A B C,_:=λw A B C=>q w A B C▸Dv1 (P:=a8) ab5 ad1 (((w.alloc A).alloc B).alloc C)
 have F:∀(w:World) A B C,_:=λw A B C=>q w A B C▸Dv2 (P:=a8) ab5 ad1 (((w.alloc A).alloc B).alloc C)
 have G:∀(w:World) A B C,_:=λw A B C=>q w A B C▸J (((w.alloc A).alloc B).alloc C)
 clear J
 go_enter Tryz.func86,Tryz.ntmps86
 go_wp2_with (go_at_fn 84;refine(b _).mono ?_;rintro e w' ⟨rfl,N⟩;rw[N])
 clear b H z
 go_quiet (first|(go_at_call 124;exact Calls.quiet_of_same (d _)))
 obtain⟨h,a⟩:∃h,h=w.drewN nq:=⟨_,rfl⟩
 have r:w.heap.size=h.heap.size:=by rw[a];rfl
 have I:Below h.heap.size w h:=by rw[<-r,a];exact⟨rfl,rfl,rfl,v8 _,λ_ _=>rfl⟩
 simp only[Ag4,<-a,r];clear D F G q a
 go_wp2
 all_goals (try simp only[Exit.inBlock,Exit.then])
 ·have e:=L (by first|rfl|simpa using ‹(c==443)=true›);subst e;refine bodyPost_ret (results_cell_row rfl _ _ (h.heap.size+1) 55 _ _ _ rfl (Ai3 _ _ _ _ _) ah8 rfl (by kernel_rfl)) rfl ⟨rfl,?_⟩;rw[r];exact(((I.alloc (v8 _) _).alloc (by simp only[size_alloc];omega) _).alloc (by simp only[size_alloc];omega) _).alloc (by simp only[size_alloc];omega) _
 ·have e:=M (by first|assumption|simpa using ‹(c==443)=false›);subst e;refine bodyPost_ret (results_cell_row rfl _ _ (h.heap.size+1) 55 _ _ _ rfl (Ai3 _ _ _ _ _) ah8 rfl (by kernel_rfl)) rfl ⟨rfl,?_⟩;rw[r];exact(((I.alloc (v8 _) _).alloc (by simp only[size_alloc];omega) _).alloc (by simp only[size_alloc];omega) _).alloc (by simp only[size_alloc];omega) _
end
section
open Go Go.Proofs
set_option maxRecDepth 100000
section
variable {Z R : Type} (L : Nat) (Q : G2) (Y : Yh Z) (s : Z) (k : Out -> St Z -> Option R)
noncomputable def A23(L:Nat):Cfg:=B7 L [86] (A2 []) [(84,Ay4),(124,Wd)] (A2 [(6,[2]),(5,[1,0]),(4,[1,0,15]),(3,[1,0]),(2,[2]),(1,[1,0,2]),(0,[1,0])]) [84,124] (A2 []) (some [2]) [] [] []
noncomputable def Dl4{R:Type}(L:Nat)(f g:By)(h:Int)(i:By)(j l m n u8 o a b c d:Int)(e:By)(p:By->By->Int->By->Int->Int->Int->Int->Int->Int->Int->Int->Int->Int->By->(List Blk)->Option R):Option R:=cond (not (S6 f)) (p f g h i j l m n u8 o a b c d e [(bU f g h i j l m n u8 o a b c d e),(bU f g h i j l m n u8 o a b c d e)]) none
theorem Dl5(d:Nat)(u0 u1 u2 u3 u4 u5 u6 u7 u8 u9 u10 u11 u12 u13 u14):evC (A23 L) (d+1) Z Y 86 [(gU u0 u1 u2 u3 u4 u5 u6 u7 u8 u9 u10 u11 u12 u13 u14)] [] s=Dl4 L u0 u1 u2 u3 u4 u5 u6 u7 u8 u9 u10 u11 u12 u13 u14 (λh i j l m n o p r8 q b c e f g a=>some ((gU h i j l m n o p r8 q b c e f g),a,s)):=by refine(evE (fn:=Tryz.f86) (by kernel_rfl)).trans ?_;generalize evC (A23 L) d=Q;unfold Dl4;kernel_rfl
end
end
section
open Go Go.Proofs Go.RowKit
set_option maxRecDepth 100000
theorem Du2{Γ:Ctx}{sh:Nat->Option Shp}{w:World}{V:Value}{I J:By}{D:Int}{F:By}{v4 t u v x y z B C G:Int}{H:By}(h:VP Γ sh w (gU I J D F v4 t u v x y z B C G H) V) :
  ∃d e b c:ByteArray,I=d.data.toList/\J=e.data.toList/\F=b.data.toList/\H=c.data.toList/\V = .agg (Qr d e D b v4 t u v x y z B C G c):=by
 obtain⟨A,rfl,hA,a⟩:=h.inv_agg;have hs:A.size=15:=hA;obtain⟨_,e0,T⟩:=a 0 (show 0<15 by omega);obtain⟨_,K,U⟩:=a 1 (show 1<15 by omega);obtain⟨_,L,W⟩:=a 2 (show 2<15 by omega);obtain⟨_,M,X⟩:=a 3 (show 3<15 by omega);obtain⟨_,N,Y⟩:=a 4 (show 4<15 by omega);obtain⟨_,O,Z⟩:=a 5 (show 5<15 by omega);obtain⟨_,P,q6⟩:=a 6 (show 6<15 by omega);obtain⟨_,Q,q7⟩:=a 7 (show 7<15 by omega);obtain⟨_,R,q8⟩:=a 8 (show 8<15 by omega);obtain⟨_,S,q9⟩:=a 9 (show 9<15 by omega);obtain⟨_,f,m⟩:=a 10 (show 10<15 by omega);obtain⟨_,g,o⟩:=a 11 (show 11<15 by omega);obtain⟨_,j,p⟩:=a 12 (show 12<15 by omega);obtain⟨_,k,q⟩:=a 13 (show 13<15 by omega);obtain⟨_,l,r⟩:=a 14 (show 14<15 by omega);obtain⟨d,rfl,rfl⟩:=VP.inv_str T;obtain⟨e,rfl,rfl⟩:=VP.inv_str U;obtain rfl:=VP.inv_int W;obtain⟨b,rfl,rfl⟩:=VP.inv_str X;obtain rfl:=VP.inv_int Y;obtain rfl:=VP.inv_int Z;obtain rfl:=VP.inv_int q6;obtain rfl:=VP.inv_int q7;obtain rfl:=VP.inv_int q8;obtain rfl:=VP.inv_int q9;obtain rfl:=VP.inv_int m;obtain rfl:=VP.inv_int o;obtain rfl:=VP.inv_int p;obtain rfl:=VP.inv_int q;obtain⟨c,rfl,rfl⟩:=VP.inv_str r;refine⟨d,e,b,c,rfl,rfl,rfl,rfl,?_⟩
 congr 1
 apply Array.ext_getElem?;intro i
 match i with
 | 0=>exact e0
 | 1=>exact K
 | 2=>exact L
 | 3=>exact M
 | 4=>exact N
 | 5=>exact O
 | 6=>exact P
 | 7=>exact Q
 | 8=>exact R
 | 9=>exact S
 | 10=>exact f
 | 11=>exact g
 | 12=>exact j
 | 13=>exact k
 | 14=>exact l
 | n+15=>rw[ac0 (by omega),ac0 (by simp)]
theorem Dr5{t:Ctx}{sh:Nat->Option Shp}{w:World}(c d:ByteArray)(p:Int)(a:ByteArray)(v4 e f g i k l m o q:Int)(b:ByteArray) :
  VP t sh w (gU c.data.toList d.data.toList p a.data.toList v4 e f g i k l m o q b.data.toList) (.agg (Qr c d p a v4 e f g i k l m o q b)):=by
 refine VP.mk_agg rfl λj r=>?_
 match j,r with
 | 0,_=>exact⟨_,rfl,VP.mk_str c.data.toList⟩
 | 1,_=>exact⟨_,rfl,VP.mk_str d.data.toList⟩
 | 2,_=>exact⟨_,rfl,VP.mk_int _ _⟩
 | 3,_=>exact⟨_,rfl,VP.mk_str a.data.toList⟩
 | 4,_=>exact⟨_,rfl,VP.mk_int _ _⟩
 | 5,_=>exact⟨_,rfl,VP.mk_int _ _⟩
 | 6,_=>exact⟨_,rfl,VP.mk_int _ _⟩
 | 7,_=>exact⟨_,rfl,VP.mk_int _ _⟩
 | 8,_=>exact⟨_,rfl,VP.mk_int _ _⟩
 | 9,_=>exact⟨_,rfl,VP.mk_int _ _⟩
 | 10,_=>exact⟨_,rfl,VP.mk_int _ _⟩
 | 11,_=>exact⟨_,rfl,VP.mk_int _ _⟩
 | 12,_=>exact⟨_,rfl,VP.mk_int _ _⟩
 | 13,_=>exact⟨_,rfl,VP.mk_int _ _⟩
 | 14,_=>exact⟨_,rfl,VP.mk_str b.data.toList⟩
 | n+15,h=>exact absurd h (by simp)
theorem Af1{s t:ByteArray}(h:s.data.toList=t.data.toList):s=t:=by
 cases s with
 | mk a=>cases t with
  | mk b=>congr 1;exact ah9.1 h
theorem Dx1{s:By}{a:Int}(h:S6 s=true):upP s a=if a=443 then -1 else a:=by
 unfold upP;rw[h,Bool.true_and];by_cases q:a=443
 ·rw[if_pos q,q];rfl
 ·rw[if_neg q,show(a==443)=false by simpa using q];rfl
theorem D16:B3 a8 GX 86 Ck1:=by
 refine B3.fix (pf:=FX) _ (J2 (fn:=Tryz.f86) (by kernel_rfl) (by kernel_rfl) (by kernel_rfl) ?_);intro args ret B h;unfold FX at h;split at h
 ·rename_i J K p H v4 g i j k l m n o d I;obtain⟨v,h⟩:=C4 h;obtain⟨rfl,rfl⟩:=J6 h;refine⟨rfl,rfl,λC G x L w D F z y=>?_⟩;obtain⟨U,rfl,A⟩:=y.arr1;obtain⟨f,c,a,b,rfl,rfl,rfl,rfl,rfl⟩:=Du2 A;rw[Dx1 v];rcases Jc v with u|u
  ·obtain rfl:f=Yy:=Af1 (t:=Yy) u;have W:=By3 Yy Qo c a b p v4 g i j k l m n o d (if d=443 then -1 else d) (λq=>if_pos q) (λq=>if_neg q) (λw=>Cp5 _ _ _ _ _ _ _ _ _ _ _ _ _ _ _ B75 w) (λw=>(Cr2 ab5 ad1 w).1) Bb0 w;refine W.mono ?_;rintro e w' ⟨rfl,r⟩;exact⟨_,rfl,r,Dr5 Qo c p a v4 g i j k l m n o _ b⟩
  ·obtain rfl:f=sWs:=Af1 (t:=sWs) u;have W:=By3 sWs Bk4 c a b p v4 g i j k l m n o d (if d=443 then -1 else d) (λq=>if_pos q) (λq=>if_neg q) (λw=>Cp5 _ _ _ _ _ _ _ _ _ _ _ _ _ _ _ Df6 w) (λw=>(Cr2 ab5 ad1 w).2) Ct9 w;refine W.mono ?_;rintro e w' ⟨rfl,r⟩;exact⟨_,rfl,r,Dr5 Bk4 c p a v4 g i j k l m n o _ b⟩
 ·cases h
theorem Dl6(g v:By)(p:Int)(q:By)(v4 h i j k l m n o t:Int)(u:By)(w:(not (S6 g))=true) :
  ∃r H,Dl4 LF g v p q v4 h i j k l m n o t u (λD F x G y z A B n8 C b c d e f a=>rv (gU D F x G y z A B n8 C b c d e f) a)=rv r H/\r.stab [] H=gU g v p q v4 h i j k l m n o t u:=by
 unfold Dl4;rw[w];exact⟨_,_,rfl,rfl⟩
end
section
open Go Go.Proofs
set_option maxRecDepth 100000
section
theorem D17:B3 a8 GX 86 Ck2:=xf [] (A23 LF) FY rfl ⟨C53,HD,trivial⟩ rfl (by kernel_rfl) follows λargs=>by
 unfold FY;split
 ·rename_i n o j k v4 a b c d f g h i l m;exact λp=>(let⟨r,H,e,q⟩:=Dl6 n o j k v4 a b c d f g h i l m p;⟨rfl,rfl,rfl,r,H,(Dl5 LF noY () 0 n o j k v4 a b c d f g h i l m).trans e,q⟩)
 ·trivial
end
end
section
open Go Go.Proofs Go.RowKit
set_option maxRecDepth 100000
theorem D53:B3 a8 GX 86 Cj9:=λargs ret d h=>by
 have a:=D16 args ret d;have b:=D17 args ret d;unfold Cj9 at h;unfold Ck1 at a;unfold Ck2 at b;generalize C2 _ args=l at h a b;unfold Ck0 at h;split at h
 ·rename_i i w t u v4 j k m n o p q r g v;cases c:S6 i with
  | true=>
   refine a ?_;unfold FX;rw[Ef c];exact h
  | false=>
   refine b ?_;unfold FY;rw[Ef (by rw[c];rfl)];obtain⟨e,f⟩:=By2 c g;rw[e,f] at h;exact h
 ·cases h
end
section
open Go Go.Proofs
set_option maxRecDepth 100000
theorem Ya{p:T2 × Nat}(h:Ac5 p.1):ltN (uV p) 4294967296=true/\okQ p=true/\S9 (uP p)=true/\∀c b,mkQ c p b=⟨c,p.1.user,p.1.host,b,p.1.rest⟩:=by obtain⟨⟨s,u,⟨k,n,v,l⟩,q,t⟩,e⟩:=p;obtain⟨a,d⟩:=h;obtain⟨g,i,j,m,o,r,w,x,rfl⟩:=eq8 a.v6.1;have f:=a.v4;simp only at f d;refine⟨E0.2 ⟨by show(0:Int)<=(v:Int);omega,by show(v:Int)<_;omega⟩,De4 a.v6.2,Xk.2 ⟨by show _<=q;omega,by show q<_;omega⟩,λc b=>Cr6 a.kd⟩
theorem Al5(s:By):(B8 s).1.host.name.length<=253:=by
 by_cases h:(B8 s).2=0
 ·have b:=CO h;cases c:H9 (B8 s).1.sch with
  | false=>
   obtain⟨_,_,_,a,_,_⟩:=b.ns c;rw[a]
   decide
  | true=>
   obtain⟨_,_,_,a,_,_⟩:=b.sp c;exact FL a
 ·rw[A92 h]
  decide
theorem Al7{s:By}(h:s.length<=10000000)(a:By)(b:a.length<=10000000):smU a (uU (B8 s)) (uN (B8 s)) (uR (B8 s))=true:=by obtain⟨c,d,e⟩:=Ux s;have f:=Al5 s;simp only[smU,uU,uN,uR,o8,ad0];refine⟨⟨⟨by omega,by omega⟩,by omega⟩,by omega⟩
theorem Dx2{s:By}{a:Int}(h:S9 a=true):S9 (upP s a)=true:=by
 unfold upP;split
 ·rfl
 ·exact h
end
section
open Go
abbrev hK(p:B4 × Nat):Int:=(p.1.kind:Int)
abbrev hN(p:B4 × Nat):By:=p.1.name
abbrev hV(p:B4 × Nat):Int:=(p.1.v4:Int)
abbrev hA(p:B4 × Nat)(i:Nat):Int:=(p.1.v6.getD i 0:Int)
abbrev e0:By:=[]
end
end Go.Proofs.YtfkhfkjcidamaaaGreatDoor.E
