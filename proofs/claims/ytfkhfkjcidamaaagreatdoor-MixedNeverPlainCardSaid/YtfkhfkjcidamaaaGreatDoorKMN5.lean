/-
  Parts of the proof, merged by a program of the prover's own; no condition.
-/
import Derived.Test.YtfkhfkjcidamaaaGreatDoorKMN4
import Derived.BigQuiet
import Derived.Deep.QuietTactic
import Derived.LaidMore
import Derived.LaidSub
import Derived.Laws.Runes
import Derived.Lay
import Derived.Lib.IndexAny
import Derived.Lib.MapLaws
import Derived.OpenShut
import Derived.ProofKit
import Derived.Shelf.Abstract
import Derived.Shelf.Vars
import Derived.Test.YtfkhfkjcidamaaaGreatDoorChecked
import Derived.Test.YtfkhfkjcidamaaaGreatDoorProg
import Derived.Test.YtfkhfkjcidamaaaGreatDoorRows
import Derived.WalkKit
import Derived.WideMake
open Go.Proofs.Tryz renaming prog->a8,underlying125->ab4,func124->ac6,underlying9->ad0,ntmps124->ae7,checked->ah6,underlying55->ah7,f115->ai3,f119->ai4,f121->ai5,f159->ai6,f196->ai7,f165->ak1,f82->al1,func84->al2
open List renaming length->b8,getD->b9,length_cons->j0,length_append->j2,length_drop->j4,length_take->j7,length_singleton->j9,mem_cons->p4,drop_of_length_le->p5,size_toArray->p7,isPrefixOf->p9,length_nil->v7,getElem?_append_right->w6,toArray->w8,mem_of_mem_drop->x5,mem_append->x8,getElem?_take_of_lt->z7,getElem?_cons_zero->aa0,getElem?_take->aa2,getElem?_toArray->aa3,drop_zero->aa5,take_left->aa6,getElem?_append_left->aa8,getD_cons_zero->aa9,nil_append->ab2,mem_singleton->ab3,getElem?_cons_succ->ab6,length_eq_zero_iff->ab7,append_assoc->ac3,take_of_length_le->ac4,not_mem_nil->ac8,mem_of_mem_take->ad1,append_nil->ad2,drop_succ_cons->ad4,takeWhile_cons->ad5,getElem?_eq_some_iff->ae2,getElem?_eq_getElem->ae6,cons_append->ae9,isEmpty_iff->af0,drop_left'->af4,getElem?_eq_none->af5,drop_left->af9,getD_cons_succ->ag2,getElem?_range->ag3,length_pos_iff->ag4,map_cons->ag7,getElem?_drop->ag8,getElem?_map->ah2,all_eq_true->ai1,length_map->aj0,all_cons->aj6,drop->ak0,all_map->ak5,map_map->ak6,map_nil->ak7
open Bool renaming not_true->j1,not_false->o0,false_eq_true->o6,and_eq_true->o8,eq_iff_iff->p6,eq_false_iff->y8,or_eq_true->ab1,not_eq_true'->ac0,and_true->ag5,not_eq_true->ah9,false_or->aj5,or_self->ak2
open Int renaming toNat_natCast->j5,eq_ofNat_of_zero_le->x7
open Option.some renaming injEq->j6,inj->j8
open Go.Value renaming int->k9
open Go.Lib renaming indexByte->o5,cut->x4,decodeL->aa4,indexAny->aa7,tabData->ab5,VarReads->ac1,decDigits->ae5,acceptData->af7,join->af8,deBruijn64tab->ah1,indexByte_ge->ai0,size_eq->ai8,firstTab->ak3,pow10Tab->ak4
open Eq renaming trans->o7
open Exists renaming intro->o9
open UInt8 renaming ofNat->v8,toNat_inj->ad3
open Nat renaming le_refl->w9,ble->y5,eq_of_beq_eq_true->y7,mul_one->y9,zero_le->aa1,le_of_ble_eq_true->ac7,ble_eq->ac9,zero_add->ad8,ble_eq_true_of_le->af6,sub_self->ah3,strongRecOn->aj1,add_zero->ak8,beq->ak9
open Option renaming map_some->x3,bind_some->af1,getD_some->ai2,isSome->aj8
open Go.Utf8 renaming decode->x6,encode->ab8
open Array renaming length_toList->x9,getElem?_eq_none->ab9,getElem?_append_left->ad9,getElem?_eq_some_iff->ae0,getElem?_eq_getElem->ae1,size_append->ag9,toList_push->ah0,toList_inj->ah8,size_push->ai9
open Go.World renaming laidAll->ab0,cell?->ae4,frozen?->ae8,shape?->af2
open Go.Lib.laidMet renaming reads->ac2
open Go.MapKept renaming run_getObj_map->ac5,run_findKey->ad6,run_checkKey->ag0,IsKey->aj7
open Go.Instr renaming lookup->ad7,mapUpdate->af3,findNow->ag6,checkKey->aj3
open Go.MakeChecks renaming laidMetH_plain->ae3
open Go.Result renaming andThen->ag1
open Ne renaming symm->ah4
open Go.RowKit.Below renaming refl->ah5
open Go.DataW renaming trod->aj2
open Prod.mk renaming injEq->aj9
namespace Go.Proofs.YtfkhfkjcidamaaaGreatDoor.E
set_option linter.all false
section
open Go Go.Proofs
theorem Bx6{R:Type}{g:Int->Option R}(b:Int)(h:inR b 256=true):Cj0 LF b g=g (Fh (u8n b)):=by
 simp only[inR,o8,decide_eq_true_eq] at h;have j:b=((u8n b).toNat:Int):=by
  unfold u8n;simp;omega
 generalize u8n b=c at *;subst j;have i:=c.toNat_lt;unfold Cj0;simp only[Wd,Wc,vl,Fh];rcases Df c with⟨d,f,e⟩|⟨d,f,e⟩|⟨d,f,e⟩|⟨d,f,o,e⟩
 ·have a:A1 (wu8 ((c.toNat:Int)-48))=((dig c:Nat):Int):=by
   rw[M7,A7];omega
  rw[Q5];simp (disch:=omega) only[B8,E2,j1,o0,cond_false,cond_true,a]
 ·have a:A1 (A1 (wu8 ((c.toNat:Int)-97))+10)=((dig c:Nat):Int):=by
   rw[M7,C9 (n:=(c.toNat:Int)-97) (by omega) (by omega),A7];omega
  rw[Q5];simp (disch:=omega) only[B8,E2,j1,o0,cond_false,cond_true,a]
 ·have a:A1 (A1 (wu8 ((c.toNat:Int)-65))+10)=((dig c:Nat):Int):=by
   rw[M7,C9 (n:=(c.toNat:Int)-65) (by omega) (by omega),A7];omega
  rw[Q5];simp (disch:=omega) only[B8,E2,j1,o0,cond_false,cond_true,a]
 ·rw[e,if_neg (by decide)];by_cases k:c.toNat<48
  ·simp (disch:=omega) only[B8,E2,j1,o0,cond_false,cond_true]
  ·by_cases l:c.toNat<65
   ·simp (disch:=omega) only[B8,E2,j1,o0,cond_false,cond_true]
   ·by_cases m:c.toNat<97
    ·simp (disch:=omega) only[B8,E2,j1,o0,cond_false,cond_true]
    ·simp (disch:=omega) only[B8,E2,j1,o0,cond_false,cond_true]
theorem XE{b:UInt8}(r:By)(h:b≠37):R3 (b::r)=(R3 r).map (b::·):=by
 conv=>lhs;unfold R3
 grind
theorem KW(x y:UInt8)(r:By):R3 (37::x::y::r)=if dig x<16/\dig y<16 then (R3 r).map (v8 (16*dig x+dig y)::·) else none:=by
 conv=>lhs;unfold R3
 grind
theorem Ac4(x:UInt8):ltI (Fh x) 0 = !(decide (dig x<16)):=by
 unfold Fh;by_cases h:dig x<16
 ·simp_all
 ·rw[if_neg h,A8,decide_eq_false h];rfl
theorem FE:∀(s t:By),R3 s=some t->t.length<=s.length
 | [],t,h=>by simp only[R3,j6] at h;subst h;exact w9 _
 | b::r,t,h=>by
  by_cases c:b=37
  ·subst c
   match r,h with
   | [],h=>cases h
   | [x],h=>cases h
   | x::y::d,h=>
    rw[KW] at h;split at h
    ·cases a:R3 d with
     | none=>rw[a] at h;cases h
     | some q=>
      rw[a] at h;simp only[x3,j6] at h;subst h;have:=FE d q a;simp only[j0];omega
    ·cases h
  ·rw[XE _ c] at h;cases a:R3 r with
   | none=>rw[a] at h;cases h
   | some q=>
    rw[a] at h;simp only[x3,j6] at h;subst h;have:=FE r q a;grind
theorem Bx5(s:By)(P:s.length<=1000000000):∀(m i n:Nat) (a:By),i<=s.length->s.length-i<=m->m<n->a.length<=i->
  (∀t,R3 (s.drop i)=some t->∀(R:Type) (c:LL->Option R) (d:LL->Option R),T5 LF n s (i:Int) (a.map D9) c d=d ((a++t).map D9))/\
  (R3 (s.drop i)=none->∃l,∀(R:Type) (c:LL->Option R) (d:LL->Option R),T5 LF n s (i:Int) (a.map D9) c d=c l):=by
 intro m
 induction m with
 | zero=>
  intro i n a J K L I;obtain⟨n,rfl⟩:∃m,n=m+1:=⟨n-1,by omega⟩
  rw[p5 (by omega)];refine⟨λt f R c d=>?_,λh=>(by cases h)⟩;simp only[R3,j6] at f;subst f;rw[T5];rw[A6,ad2];rfl
 | succ m G=>
  intro i n a J K L I;obtain⟨n,rfl⟩:∃m,n=m+1:=⟨n-1,by omega⟩
  by_cases z:i<s.length
  ·have D:A1 ((i:Int)+1)=((i+1:Nat):Int):=by rw[A7];rfl
   have F:A1 ((i:Int)+2)=((i+2:Nat):Int):=by rw[A7];rfl
   have H:A1 (((i+2:Nat):Int)+1)=((i+3:Nat):Int):=by rw[A7];omega
   have p:(a.map D9).length=a.length:=aj0 _;have v:∀b:UInt8,a.map D9++[[SV.int .u8 (b.toNat:Int)]]=(a++[b]).map D9:=λb=>by rw[List.map_append];rfl
   have C:(((s.getD i 0).toNat:Int)!=37) = !(s.getD i 0==37):=congrArg _ (R5 _ 37 (by omega));rw[D4 s i z];by_cases g:s.getD i 0=37
   ·by_cases O:i+2<s.length
    ·rw[D4 s (i+1) (by omega),D4 s (i+1+1) (by omega),g,KW];obtain⟨A,B⟩:=G (i+3) n (a++[v8 (16*dig (s.getD (i+1) 0)+dig (s.getD (i+2) 0))]) (by omega) (by omega) (by omega) (by simp;omega);have top:∀(R:Type) (c:LL->Option R) (d:LL->Option R),T5 LF (n+1) s (i:Int) (a.map D9) c d=cond (decide (dig (s.getD (i+1) 0)<16)&&decide (dig (s.getD (i+2) 0)<16)) (T5 LF n s ((i+3:Nat):Int) ((a++[v8 (16*dig (s.getD (i+1) 0)+dig (s.getD (i+2) 0))]).map D9) c d) (c (a.map D9)):=by
      intro R c d;rw[T5];rw[A8,E9,D3,C,g,p,F,A8,D,E9,E9,D3,D3];simp only[cond_true,vl,j1,cond_false,beq_self_eq_true,YV,Ji,Ac4,F4 (show a.length+1<=68719476736 by omega),H];generalize s.getD (i+1) 0=x at *;generalize s.getD (i+2) 0=y at *;by_cases M:dig x<16
      ·by_cases N:dig y<16
       ·have w1:Fh x=(dig x:Int):=by unfold Fh;rw[if_pos M]
        have S:Fh y=(dig y:Int):=by unfold Fh;rw[if_pos N]
        have T:A1 ((16:Int)*(dig x:Int))=((16*dig x:Nat):Int):=by rw[A7];omega
        have U:A1 (((16*dig x:Nat):Int)+(dig y:Int))=((16*dig x+dig y:Nat):Int):=by rw[A7];omega
        have V:wu8 ((16*dig x+dig y:Nat):Int)=((v8 (16*dig x+dig y)).toNat:Int):=by
         rw[M7];simp;omega
        grind
       grind
      grind
     by_cases o:dig (s.getD (i+1) 0)<16/\dig (s.getD (i+2) 0)<16
     ·rw[if_pos o];have w:(decide (dig (s.getD (i+1) 0)<16)&&decide (dig (s.getD (i+2) 0)<16))=true:=by rw[decide_eq_true o.1,decide_eq_true o.2];rfl
      refine⟨λt f R c d=>?_,λh=>?_⟩
      ·cases j:R3 (s.drop (i+3)) with
       | none=>rw[show i+1+1+1=i+3 from rfl,j] at f;cases f
       | some q=>
        rw[show i+1+1+1=i+3 from rfl,j] at f;simp only[x3,j6] at f;subst f;rw[top,w,cond_true,A q j,ac3];rfl
      ·cases j:R3 (s.drop (i+3)) with
       | some q=>rw[show i+1+1+1=i+3 from rfl,j] at h;cases h
       | none=>
        obtain⟨l,e⟩:=B j;exact⟨l,λR c d=>by rw[top,w,cond_true,e]⟩
     ·rw[if_neg o];have w:(decide (dig (s.getD (i+1) 0)<16)&&decide (dig (s.getD (i+2) 0)<16))=false:=by grind
      exact⟨λt h=>(by cases h),λ_=>⟨_,λR c d=>by rw[top,w,cond_false]⟩⟩
    ·have k:R3 (s.getD i 0::s.drop (i+1))=none:=by
      rw[g];cases o:s.drop (i+1) with
      | nil=>rfl
      | cons x r=>
       cases r with
       | nil=>rfl
       | cons y Q=>
        exfalso;have:=congrArg b8 o;rw[j4,j0,j0] at this;omega
     rw[k];refine⟨λt h=>(by cases h),λ_=>⟨a.map D9,λR c d=>?_⟩⟩;rw[T5];rw[A8,E9,D3,C,g,F,A6];rfl
   ·rw[XE _ g];obtain⟨A,B⟩:=G (i+1) n (a++[s.getD i 0]) (by omega) (by omega) (by omega) (by simp;omega);have u:(s.getD i 0==37)=false:=by simpa using g
    have top:∀(R:Type) (c:LL->Option R) (d:LL->Option R),T5 LF (n+1) s (i:Int) (a.map D9) c d=T5 LF n s ((i+1:Nat):Int) ((a++[s.getD i 0]).map D9) c d:=by
     intro R c d;rw[T5];rw[A8,E9,D3,C,u,p,F4 (by omega),D,v];rfl
    refine⟨λt f R c d=>?_,λh=>?_⟩
    ·cases j:R3 (s.drop (i+1)) with
     | none=>rw[j] at f;cases f
     | some q=>
      rw[j] at f;simp only[x3,j6] at f;subst f;rw[top,A q j,ac3];rfl
    ·cases j:R3 (s.drop (i+1)) with
     | some q=>rw[j] at h;cases h
     | none=>
      obtain⟨l,e⟩:=B j;exact⟨l,λR c d=>by rw[top,e]⟩
  ·rw[p5 (by omega)];refine⟨λt f R c d=>?_,λh=>(by cases h)⟩;simp only[R3,j6] at f;subst f;rw[T5];rw[A6,ad2];rfl
theorem C46(s:By)(f:A3 s.length=true):∃r H,Ci9 LF s (λj k i=>rv (.tup [.s (.str j),.s (.bool k)]) [.arr false 5 1 i])=rv r H/\
  r.stab [0,0] H = .tup [.s (.str (Fp s)),.s (.bool (R3 s).isSome)]:=by
 have h:=L3 f;have g:=C7;have a:((decide ((0:Int)<=(s.length:Int)))&&(F9 (Int.toNat (s.length:Int))))=true:=by
  rw[j5,F4 (by omega),decide_eq_true (by omega)];rfl
 obtain⟨c,d⟩:=Bx5 s h s.length 0 LF [] (by omega) (by omega) (by omega) (by simp);rw[aa5] at c d;unfold Fp;cases b:R3 s with
 | none=>
  obtain⟨l,e⟩:=d b;refine⟨.tup [.s (.str []),.s (.bool false)],[.arr false 5 1 l],?_,rfl⟩;unfold Ci9;rw[a,cond_true];exact e _ _ _
 | some t=>
  refine⟨.tup [.s (.str t),.s (.bool true)],[.arr false 5 1 (t.map D9)],?_,rfl⟩;unfold Ci9;rw[a,cond_true];refine o7 (c t b _ _ _) ?_;rw[ab2,X7,Y4];rfl
abbrev Sr(i:Int)(j:By)(v4 a b c d e f g h:Int):List PV:=[.s (.int .i64 i),.s (.str j),.s (.int .u32 v4),.s (.int .u16 a),.s (.int .u16 b),.s (.int .u16 c),.s (.int .u16 d),.s (.int .u16 e),.s (.int .u16 f),.s (.int .u16 g),.s (.int .u16 h)]
def CQ(h:B4):PV:=.agg [.s (.int .i64 (h.kind:Nat)),.s (.str h.name),.s (.int .u32 (h.v4:Nat)),.s (.int .u16 (h.v6.getD 0 0:Nat)),.s (.int .u16 (h.v6.getD 1 0:Nat)),.s (.int .u16 (h.v6.getD 2 0:Nat)),.s (.int .u16 (h.v6.getD 3 0:Nat)),.s (.int .u16 (h.v6.getD 4 0:Nat)),.s (.int .u16 (h.v6.getD 5 0:Nat)),.s (.int .u16 (h.v6.getD 6 0:Nat)),.s (.int .u16 (h.v6.getD 7 0:Nat))]
abbrev Dz7:Int->Int->Int->Int->Int->Int->Int->Int->Int->Int->Int->LL->Option (PV × List Blk × Unit):=λj c d e f g h i r8 k b a=>rv (.tup [.agg (Sr j [] 0 c d e f g h i r8),.s (.int .i64 k)]) [.box (Sr b [] 0 c d e f g h i r8),.arr false 26 1 a]
abbrev Dw8:Unit->Option (PV × List Blk × Unit):=λ_=>rv (.tup [.agg (Sr 0 [] 0 0 0 0 0 0 0 0 0),.s (.int .i64 14)]) [.box (Sr 0 [] 0 0 0 0 0 0 0 0 0)]
theorem EW(s:By)(c:UInt8)(h:s≠[]):(s.getLast? = some c)↔s.getD (s.length-1) 0=c:=by have:0<s.length:=ag4.2 h;grind
theorem Ci8(s:By)(g:A3 s.length=true)(e:Cj7 s=true):∃r H,Bo7 LF s Dz7 Dw8=rv r H/\r.stab [0,0] H = .tup [CQ (Q4 s).1,.s (.int .i64 ((Q4 s).2:Nat))]:=by
 have m:=L3 g;have c:s≠[]:=by rintro rfl;cases e
 have l:0<s.length:=ag4.2 c;have i:s.getD 0 0=91:=by
  cases s with
  | nil=>exact absurd rfl c
  | cons b t=>
   simp only[Cj7,p9,ag5,beq_iff_eq] at e;grind
 have f:A1 ((s.length:Int)-1)=((s.length-1:Nat):Int):=by rw[A7];omega
 have k:(((s.getD (s.length-1) 0).toNat:Int)==93)=(s.getD (s.length-1) 0==93):=R5 _ 93 (by omega);have bad:∃r H,Dw8 ()=rv r H/\r.stab [0,0] H = .tup [CQ L4,.s (.int .i64 14)]:=⟨_,_,rfl,rfl⟩
 unfold Bo7 Q4;simp only[vl,f];rw[E9,D3,k,cond_true];by_cases d:s.getD (s.length-1) 0=93
 ·have h:2<=s.length:=by grind
  rw[if_pos ⟨(EW s 93 c).2 d,h⟩,d,beq_self_eq_true,cond_true,show(1:Int)=((1:Nat):Int) from rfl,I4,cond_true,Ip];have j:((s.take (s.length-1)).drop 1).length<=s.length:=by rw[j4,j7];omega
  rw[K4,cond_true];unfold v6c;cases n:v6B ((s.take (s.length-1)).drop 1) with
  | none=>exact⟨_,_,rfl,rfl⟩
  | some a=>exact⟨_,_,rfl,rfl⟩
 grind
theorem Ct1(l:List By)(i:Nat)(y:By)(h:i<l.length):List.set (D2 l) i (G1 ((D2 l).getD i []) 0 [SV.str y])=D2 (l.set i y):=by
 have e:(D2 l).getD i []=[SV.str (l.getD i [])]:=by
  unfold D2;grind
 rw[e];unfold D2;rw[List.map_set];rfl
theorem Ae9(N:Nat)(hN:N<=1000000001):∀(a:List By) (done:List By) (n:Nat),done.length+a.length=N->a.length<n->(∀x∈a,x.length<=1000000000)->
  ((F2 a).2=0->∀(R:Type) (b:Int->LL->Option R) (c:Nat->LL->Option R),U1 LF n N (N:Int) (done.length:Int) (D2 (done++a)) b c=c N (D2 (done++(F2 a).1)))/\
  ((F2 a).2≠0->∃l,∀(R:Type) (b:Int->LL->Option R) (c:Nat->LL->Option R),U1 LF n N (N:Int) (done.length:Int) (D2 (done++a)) b c=b ((F2 a).2:Nat) l):=by
 intro a
 induction a with
 | nil=>
  intro done n i o p;obtain⟨n,rfl⟩:∃m,n=m+1:=⟨n-1,by simp at o;omega⟩
  simp only[v7] at i;refine⟨λ_ R b c=>?_,λh=>absurd rfl h⟩;rw[U1];rw[A6];rfl
 | cons x r z=>
  intro done n i o p;simp only[j0] at i o;obtain⟨n,rfl⟩:∃m,n=m+1:=⟨n-1,by omega⟩
  have v:A1 ((done.length:Int)+1)=((done.length+1:Nat):Int):=by rw[A7];rfl
  have q:(done++x::r).length=N:=by rw[j2,j0];omega
  have k:(done++x::r).getD done.length []=x:=by grind
  have f:∀y,(done++x::r).set done.length y=(done++[y])++r:=λy=>by grind
  have top:∀(R:Type) (b:Int->LL->Option R) (c:Nat->LL->Option R),U1 LF (n+1) N (N:Int) (done.length:Int) (D2 (done++x::r)) b c=cond (((H9 x).2:Int)!=0) (b ((H9 x).2:Nat) (D2 (done++x::r))) (U1 LF n N (N:Int) ((done.length+1:Nat):Int) (D2 ((done++[(H9 x).1])++r)) b c):=by
   intro R b c;rw[U1];rw[A8,E9,j5,ad8,R2 (by omega),U7,k];simp only[vl,cond_true];rw[E1 (p x (by simp)),F0,decide_eq_true (show done.length<(done++x::r).length by omega),Ct1 _ _ _ (by omega),f,v];rfl
  unfold F2;obtain⟨t,u⟩:=z (done++[(H9 x).1]) n (by simp;omega) (by omega) (λy w=>p y (by simp[w]));have j:(done++[(H9 x).1]).length=done.length+1:=by simp
  rw[j] at t u;by_cases h:(H9 x).2=0
  ·rw[if_pos h];have g:(((H9 x).2:Int)!=0)=false:=by rw[h];rfl
   refine⟨λd R b c=>?_,λd=>?_⟩
   ·rw[top,g,cond_false,t d,ac3];rfl
   ·obtain⟨l,e⟩:=u d;exact⟨l,λR b c=>by rw[top,g,cond_false,e]⟩
  ·rw[if_neg h];have g:(((H9 x).2:Int)!=0)=true:=by simpa using h
   exact⟨λd=>absurd d h,λ_=>⟨_,λR b c=>by rw[top,g,cond_true]⟩⟩
theorem WF(p:By)(m:Nat):∀l:List By,(∀x∈l,x.length<=m)->(af8 l p).length<=(m+p.length)*l.length
 | [],_=>by simp[af8]
 | [x],h=>by
  have:=h x (by simp);rw[show af8 [x] p=x by simp[af8,Lib.joinTail]];grind
 | x::y::r,h=>by
  have b:=h x (by simp);have c:=WF p m (y::r) (λz a=>h z (by simp[a]));rw[U8,j2,j2,j0,Nat.mul_add,y9];omega
theorem UC(l:List By):(D2 l).all isS=true:=by unfold D2;rw[ak5,ai1];intro x _;rfl
theorem Cu1(s:By):YS s [46]=G5 s:=by
 unfold YS G5;by_cases h:s.getLast? = some 46
 ·obtain⟨t,rfl⟩:=List.getLast?_eq_some_iff.1 h;grind
 ·rw[if_neg h,if_neg];rw[List.isSuffixOf_iff_suffix];rintro⟨t,a⟩;grind
abbrev Dx0:Int->By->Int->Int->Int->Int->Int->Int->Int->Int->Int->Int->Int->By->Int->Int->Int->Int->Int->Int->Int->Int->Int->Option (PV × List Blk × Unit):=λn o p q r t u v r8 w k l a m b c d e f g h i j=>rv (.tup [.agg (Sr n o p q r t u v r8 w k),.s (.int .i64 l)]) [.box (Sr a m b c d e f g h i j)]
abbrev Dx1:Int->By->Int->Int->By->LL->Option (PV × List Blk × Unit):=λc d e b f a=>rv (.tup [.agg (Sr c d 0 0 0 0 0 0 0 0 0),.s (.int .i64 e)]) [.box (Sr b f 0 0 0 0 0 0 0 0 0),.arr false 9 1 a]
theorem Bx9(s:By)(n:A3 s.length=true):∃r H,AQ LF s Dx0 Dx1=rv r H/\r.stab [0,0] H = .tup [CQ (C1 s).1,.s (.int .i64 ((C1 s).2:Nat))]:=by
 have Q:=L3 n;have A:=C7;have bad:∀e:Nat,∃r H,Dx0 0 [] 0 0 0 0 0 0 0 0 0 (e:Int) 0 [] 0 0 0 0 0 0 0 0 0=rv r H/\r.stab [0,0] H = .tup [CQ L4,.s (.int .i64 (e:Nat))]:=λe=>⟨_,_,rfl,rfl⟩
 have a:∀(e:Nat) (l:LL),∃r H,Dx1 0 [] (e:Int) 0 [] l=rv r H/\r.stab [0,0] H = .tup [CQ L4,.s (.int .i64 (e:Nat))]:=λe l=>⟨_,_,rfl,rfl⟩
 by_cases i:1024<s.length
 ·have e:C1 s=(L4,3):=by unfold C1;rw[if_pos i]
  rw[e];unfold AQ;rw[A8,cond_true];exact bad 3
 ·have f:([91]:By).isPrefixOf s=decide (s.head? = some 91):=by
   cases s with
   | nil=>rfl
   | cons b t=>
    grind
  by_cases d:s.head? = some 91
  ·have j:([91]:By).isPrefixOf s=true:=by rw[f,decide_eq_true d]
   have e:C1 s=Q4 s:=by unfold C1 Q4;rw[if_neg i,if_pos d]<;>rfl
   rw[e];unfold AQ;rw[A6,cond_false,n,cond_true,j,cond_true,cond_true,show Cj7 s=true from j,cond_true];exact⟨_,_,rfl,rfl⟩
  ·have j:([91]:By).isPrefixOf s=false:=by rw[f,decide_eq_false d]
   unfold AQ;rw[A6,cond_false,n,cond_true,j,cond_false,cond_true];cases k:R3 s with
   | none=>
    have e:C1 s=(L4,14):=by unfold C1;rw[if_neg i,if_neg d,k]
    rw[e];exact bad 14
   | some t=>
    have L:t.length<=s.length:=FE s t k;have M:Fp s=t:=by unfold Fp;rw[k];rfl
    rw[M,K4];simp only[Option.isSome_some,j1,cond_false,cond_true,vl];rw[Cu1];have K:(G5 t).length<=t.length:=by unfold G5;split<;>simp
    have B:C1 s=if E7 (G5 t) then (match pnB (G5 t) with
      | some v=>(⟨2,[],v,z8⟩,0)
      | none=>(L4,14))
     else if (F2 (pcs 46 (G5 t))).2=0 then (
      let name:=af8 (F2 (pcs 46 (G5 t))).1 [46]
      if 253<name.length then (L4,3) else if E7 name then (L4,14) else (⟨1,name,0,z8⟩,0))
     else (L4,(F2 (pcs 46 (G5 t))).2):=by
     unfold C1;rw[if_neg i,if_neg d,k];rfl
    rw[B];generalize G5 t=u at *;rw[K4,cond_true];cases O:E7 u with
    | true=>
     rw[if_pos rfl,cond_true,cond_true];cases P:pnB u with
     | none=>exact bad 14
     | some v=>exact⟨_,_,rfl,rfl⟩
    | false=>
     rw[if_neg (by simp),cond_false,cond_true,show((1:Nat)==1)=true from rfl,cond_true];have C:([46]:By).getD 0 0=46:=rfl;rw[C];have J:=Iy 46 u;have D:=Gz 46 u;obtain⟨w,y⟩:=Ae9 (pcs 46 u).length (by omega) (pcs 46 u) [] LF (by simp) (by omega) (λx p=>by have:=(Ck p).2;omega);rw[ab2,v7] at w y;by_cases g:(F2 (pcs 46 u)).2=0
     ·rw[if_pos g];obtain⟨z,N⟩:=Ke _ g;have G:=WF [46] 63 (F2 (pcs 46 u)).1 (λx p=>(Bw (z x p)).le);have F:∀{R:Type} (m:Int->LL->Option R) (h:Nat->LL->Option R),U1 LF LF (pcs 46 u).length ((pcs 46 u).length:Int) 0 (D2 (pcs 46 u)) m h=h (pcs 46 u).length (D2 (F2 (pcs 46 u)).1):=λm h=>w g _ m h
      rw[F];have hA:(F2 (pcs 46 u)).1.length<=1025:=by omega
      have o:List.take (pcs 46 u).length (ak0 0 (D2 (F2 (pcs 46 u)).1))=D2 (F2 (pcs 46 u)).1:=by
       rw[aa5,ac4 (by rw[F0];omega)]
      have q:(63+([46]:By).length)*(F2 (pcs 46 u)).1.length<=64*1025:=Nat.mul_le_mul (by simp) hA;rw[o,UC,Ad0,F0,K4,K4];simp only[cond_true];generalize af8 (F2 (pcs 46 u)).1 [46]=name at *;by_cases c:253<name.length
      ·rw[if_pos c,A8,cond_true];exact a 3 _
      ·rw[if_neg c,A6,cond_false];cases I:E7 name with
       | true=>exact a 14 _
       | false=>exact⟨_,_,rfl,rfl⟩
     ·rw[if_neg g];obtain⟨l,e⟩:=y g;simp_all
theorem Af2{R:Type}{k0 k1:Unit->Option R}:∀l:List By,(∀x∈l,x.length<=1000000000)->JP LF l k0 k1=if l.all K3 then k0 () else k1 ()
 | [],_=>rfl
 | x::r,h=>by
  rw[Af1];unfold EV;rw[E1 (h x (by simp)),cond_true,aj6];have b:=Af2 (k0:=k0) (k1:=k1) r (λy a=>h y (by simp[a]));grind
theorem Do2(s:By)(a:A3 s.length=true):∃r H,hvn LF s (λ_=>rv (.s (.bool false)) [.box [.s (.bool false)]]) (λd b=>rv (.s (.bool d)) [.box [.s (.bool b)],.box [.bad],.box [.bad],.box [.bad]])=rv r H/\r.stab [] H = .s (.bool (U3 s)):=by
 have h:=L3 a;unfold hvn VY U3;by_cases e:253<s.length
 ·rw[A8,show y5 s.length 253=false by rw[y8,ne_eq,ac9];omega];exact⟨_,_,rfl,rfl⟩
 ·rw[A6,cond_false,a,cond_true,show y5 s.length 253=true by rw[ac9];omega];cases f:E7 s with
  | true=>exact⟨_,_,rfl,rfl⟩
  | false=>
   rw[cond_false,show((1:Nat)==1&&(0:Int)==(0:Int))=true from rfl,show([46]:By).getD 0 0=46 from rfl,ag5,cond_true,Af2 _ (λx c=>by have:=(Ck c).2;omega)];cases g:(pcs 46 s).all K3 with
   | true=>exact⟨_,_,rfl,rfl⟩
   | false=>exact⟨_,_,rfl,rfl⟩
theorem Dx3(a c d f g h i j:Nat):(n8 (a:Int) c d f g h i j==z8)=(((a:Int)==0)&&(((c:Int)==0)&&(((d:Int)==0)&&(((f:Int)==0)&&(((g:Int)==0)&&(((h:Int)==0)&&(((i:Int)==0)&&(((j:Int)==0)&&true)))))))):=by
 have e:n8 (a:Int) c d f g h i j=[a,c,d,f,g,h,i,j]:=rfl;have q:∀b:Nat,((b:Int)==0)=(b==0):=λb=>by grind
 rw[e];simp only[q,z8];rfl
theorem Bp1(a:Int)(b:By)(v4 l m n o p q t u:Int)(D:A3 b.length=true)(F:ltN v4 4294967296=true)(G:ok8 l m n o p q t u=true) :
  ∃r H,Ny LF a b v4 l m n o p q t u (λV M W N O P Q R n8 S y z x=>rv (.s (.bool V)) [.box (Sr M W N O P Q R n8 S y z),.arr false 26 1 x])=rv r H/\
   r.stab [] H = .s (.bool (K2 (mkH a b v4 (n8 l m n o p q t u)))):=by
 obtain⟨c,d,e,f,g,i,j,k,rfl,rfl,rfl,rfl,rfl,rfl,rfl,rfl,X⟩:=Wv G;obtain⟨v0,v1⟩:=E6.1 F;obtain⟨v,rfl⟩:=x7 v0;have U:((v:Int)==0)=(v==0):=by
  rw[p6,beq_iff_eq,beq_iff_eq];omega
 have T:(b==([]:By))=b.isEmpty:=by cases b<;>rfl
 have J:(mkH a b (v:Int) (n8 (c:Int) d e f g i j k)).kind=if ltN a 4 then a.toNat else 0:=rfl
 have K:(mkH a b (v:Int) (n8 (c:Int) d e f g i j k)).name=b:=rfl;have L:(mkH a b (v:Int) (n8 (c:Int) d e f g i j k)).v4=v:=j5 v;have I:(mkH a b (v:Int) (n8 (c:Int) d e f g i j k)).v6=n8 (c:Int) d e f g i j k:=rfl;unfold Ny K2;rw[J,K,L,I,Dx3,U,T];by_cases A:a=1
 ·subst A;rw[show((1:Int)==1)=true from rfl,cond_true,D,cond_true,if_pos (by decide)];cases U3 b with
  | false=>exact⟨_,_,rfl,rfl⟩
  | true=>
   cases (v==0) with
   | false=>exact⟨_,_,rfl,rfl⟩
   | true=>exact⟨_,_,rfl,rfl⟩
 ·rw[show(a==(1:Int))=false by simpa using A,cond_false];by_cases B:a=2
  ·subst B;rw[show((2:Int)==2)=true from rfl,cond_true,if_neg (by decide),if_pos (by decide)];cases b.isEmpty with
   | false=>exact⟨_,_,rfl,rfl⟩
   | true=>exact⟨_,_,rfl,rfl⟩
  ·rw[show(a==(2:Int))=false by simpa using B,cond_false];by_cases C:a=3
   ·subst C;rw[show((3:Int)==3)=true from rfl,cond_true,if_neg (by decide),if_neg (by decide),if_pos (by decide)];cases b.isEmpty with
    | false=>exact⟨_,_,rfl,rfl⟩
    | true=>exact⟨_,_,rfl,rfl⟩
   ·rw[show(a==(3:Int))=false by simpa using C,cond_false];have w:(if ltN a 4 then a.toNat else 0)=0:=by
     split
     ·rename_i h;have:=E6.1 h;omega
     ·rfl
    rw[w];exact⟨_,_,rfl,rfl⟩
theorem Dl7{a b c d e f g i:Int}(h:ok8 a b c d e f g i=true):(n8 a b c d e f g i).length=8/\∀x∈n8 a b c d e f g i,x<65536:=by obtain⟨k,l,m,n,o,p,q,r,rfl,rfl,rfl,rfl,rfl,rfl,rfl,rfl,t⟩:=Wv h;refine⟨rfl,λx j=>?_⟩;simp only[n8,j5,p4,ac8,or_false] at j;omega
theorem C53(a:Int)(j:By)(v4 b c d e f g h i:Int)(q:A3 j.length=true)(t:ltN v4 4294967296=true)(n:ok8 b c d e f g h i=true) :
  ∃r H,C51 LF a j v4 b c d e f g h i (λI k J y z A B C n8 D l m=>rv (.s (.str I)) [.box (Sr k J y z A B C n8 D l m)])=rv r H/\
   r.stab [] H = .s (.str (U0 (mkH a j v4 (n8 b c d e f g h i)))):=by
 obtain⟨F,G⟩:=Dl7 n;have v:=Bi9 _ F G;unfold C51 U0;rw[q,t,n];simp only[cond_true,vl];have u:(mkH a j v4 (n8 b c d e f g h i)).kind=if ltN a 4 then a.toNat else 0:=rfl
 cases w:K2 (mkH a j v4 (n8 b c d e f g h i)) with
 | false=>exact⟨_,_,rfl,rfl⟩
 | true=>
  rw[if_pos rfl,j1,cond_false,u];by_cases o:a=1
  ·subst o;rw[if_pos (by decide)];exact⟨_,_,rfl,rfl⟩
  ·rw[show(a==(1:Int))=false by simpa using o,cond_false];have k:¬(if ltN a 4 then a.toNat else 0)=1:=by grind
   rw[if_neg k];by_cases p:a=2
   ·subst p;rw[if_pos (by decide)];exact⟨_,_,rfl,rfl⟩
   ·rw[show(a==(2:Int))=false by simpa using p,cond_false];have x:¬(if ltN a 4 then a.toNat else 0)=2:=by grind
    rw[if_neg x,M9 (by omega),cond_true,M9 (by rw[j2,j9];omega),cond_true];exact⟨_,_,rfl,rfl⟩
theorem Bx4{R:Type}{b:Bool->Option R}(p s:By)(a:A3 p.length=true)(c:A3 s.length=true):C43 LF p s b=b (Ce p s):=by have d:=L3 a;unfold C43 Ce;rw[a,c,M9 (by omega)];grind
theorem A36{R:Type}{a:By->By->Int->Option R}(t p:By)(n:Int):Ck8 LF t p n a=a t p n:=rfl
theorem B76{R:Type}{a:By->By->Option R}(t p:By):Dq6 LF t p a=a t p:=rfl
theorem Bg4{Z R:Type}(g:Yh Z)(c:UInt8):∀(m:Nat) (t:By) (n:Nat) (s i:Z),t.length<=m->t.length<=1000000000->m<n->Dw g ((pcs c t).map λx=>([.s (.str x)]:List PV)) s=some i->
  ∃o , (∃v:Z,∃b:Bool,g [.s (.str o)] v=some (b,i)/\∀(a d:By->By->Int->Z->Option R),U2 g LF n [c] t 0 s a d=a [c] o 0 v)\/(∀(a d:By->By->Int->Z->Option R),U2 g LF n [c] t 0 s a d=d [c] o 0 i):=by
 intro m
 induction m with
 | zero=>
  intro t n s i y l D h;obtain rfl:=ab7.1 (Nat.le_zero.1 y);obtain⟨n,rfl⟩:∃m,n=m+1:=⟨n-1,by omega⟩
  rw[Ku (by simp)] at h;simp only[ag7,ak7,Dw] at h;refine⟨[],.inl ⟨s,?_⟩⟩;have e:∀(a d:By->By->Int->Z->Option R),U2 g LF (n+1) [c] [] 0 s a d=a [c] [] 0 s:=λa d=>by
   rw[U2];rw[To (by simp)];rfl
  cases k:g [.s (.str [])] s with
  | none=>rw[k] at h;cases h
  | some q=>
   obtain⟨b,j⟩:=q;rw[k] at h;have:j=i:=by cases b<;>simpa using h
   subst this;exact⟨b,rfl,e⟩
 | succ m F=>
  intro t n s i y l D h;obtain⟨n,rfl⟩:∃m,n=m+1:=⟨n-1,by omega⟩
  rcases Q7 c t with u|⟨p,r,rfl,u⟩
  ·rw[Ku u] at h;simp only[ag7,ak7,Dw] at h;refine⟨t,.inl ⟨s,?_⟩⟩;have e:∀(a d:By->By->Int->Z->Option R),U2 g LF (n+1) [c] t 0 s a d=a [c] t 0 s:=λa d=>by
    rw[U2];rw[To u,E1 l];rfl
   cases k:g [.s (.str t)] s with
   | none=>rw[k] at h;cases h
   | some q=>
    obtain⟨b,j⟩:=q;rw[k] at h;have:j=i:=by cases b<;>simpa using h
    subst this;exact⟨b,rfl,e⟩
  ·rw[FD u] at h;simp only[ag7,Dw] at h;have w:(p++c::r).length=p.length+r.length+1:=by rw[j2,j0];omega
   have z:A1 ((p.length:Int)+0)=((p.length:Nat):Int):=by rw[A7];omega
   have A:A1 ((p.length:Int)+(([c]:By).length:Int))=((p.length+1:Nat):Int):=by
    rw[C9 (by simp;omega) (by simp;omega)];simp
   have B:cut (p++c::r) 0 (p.length:Int)=p:=by rw[K7,j5,aa6]
   have C:cut (p++c::r) ((p.length+1:Nat):Int) ((p++c::r).length:Int)=r:=by
    rw[P9,j5,show p++c::r=(p++[c])++r by simp,af4 (by simp)]
   have top:∀(a d:By->By->Int->Z->Option R),U2 g LF (n+1) [c] (p++c::r) 0 s a d=ydK (g [.s (.str p)] s) λb j=>cond (not b) (d [c] (p++c::r) 0 j) (U2 g LF n [c] r 0 j a d):=λa d=>by
    rw[U2];rw[AU u,E1 l,cond_true,A6,cond_false];simp only[vl,z,A,B,C];rw[I4,cond_true,I4];rfl
   cases k:g [.s (.str p)] s with
   | none=>rw[k] at h;cases h
   | some q=>
    obtain⟨b,j⟩:=q;rw[k] at h top;cases b with
    | false=>
     have:j=i:=by simpa using h
     subst this;exact⟨p++c::r,.inr λa d=>by rw[top];rfl⟩
    | true=>
     simp only at h;obtain⟨o,⟨v,b,e,f⟩|f⟩:=F r n j i (by omega) (by omega) (by omega) h
     ·exact⟨o,.inl ⟨v,b,e,λa d=>by rw[top];exact f a d⟩⟩
     ·exact⟨o,.inr λa d=>by rw[top];exact f a d⟩
theorem Bg5{Z R:Type}(i:Yh Z)(p t:By)(n:Int)(s g:Z)(h:(A3 t.length&&(p.length==1&&n==0))=true)(m:Dw i ((pcs (p.getD 0 0) t).map λx=>([.s (.str x)]:List PV)) s=some g) :
  ∃d,∀(a:By->By->Int->Z->Option R),Ap3 i LF p t n s a=a p d n g:=by
 have l:=C7;simp only[o8,beq_iff_eq] at h;obtain⟨j,k,rfl⟩:=h;obtain⟨c,rfl⟩:=List.length_eq_one_iff.1 k;have o:=L3 j;obtain⟨d,⟨q,b,e,f⟩|f⟩:=Bg4 (R:=R) i c t.length t LF s g (w9 _) o (by omega) m
 ·refine⟨d,λa=>?_⟩;unfold Ap3;rw[show(((([c]:By).length:Nat):Int)==0)=false from rfl,cond_false];refine o7 (f _ _) ?_;rw[e];rfl
 ·refine⟨d,λa=>?_⟩;unfold Ap3;rw[show(((([c]:By).length:Nat):Int)==0)=false from rfl,cond_false];exact f _ _
end
section
open Go Go.ChangeAt Go.ChangeShapes Go.Proofs Go.RowKit Go.WideShapes
set_option maxRecDepth 100000
theorem own:ownKnob a8.godebug=none:=by kernel_rfl
theorem C64:laidOutB a8=true:=by kernel_rfl
noncomputable def gTy(g:Nat):Nat:=match a8.globals[g]? with|some x=>x.type|none=>0
noncomputable def dbT:Nat:=gTy 5
noncomputable def C99:Nat:=gTy 3
noncomputable def UA:Nat:=gTy 2
noncomputable def C33:Nat:=gTy 1
noncomputable def TZ:Nat:=match a8.underlying UA with|some (.array _ e)=>e|_=>0
noncomputable def Zl:Array Field:=match a8.underlying TZ with|some (.struct a)=>a|_=>#[]
noncomputable def NT:Field:=match Zl.toList with|a::_=>a|_=>default
noncomputable def NU:Field:=match Zl.toList with|_::a::_=>a|_=>default
theorem Dm4:Zl[0]? = some NT:=by unfold NT Zl TZ UA gTy;kernel_rfl
theorem Dm5:Zl[1]? = some NU:=by unfold NU Zl TZ UA gTy;kernel_rfl
def Fd:List (String × DataW Unit):=[("math/bits.deBruijn32tab", Rows.laid_math_bits_deBruijn32tab), ("math/bits.deBruijn64tab", Rows.laid_math_bits_deBruijn64tab), ("internal/strconv.uint64pow10", Rows.laid_internal_strconv_uint64pow10), ("unicode/utf8.acceptRanges", Rows.laid_unicode_utf8_acceptRanges), ("unicode/utf8.first", Rows.laid_unicode_utf8_first)]
theorem QU{W:World}{n:String}{g:Nat}{a:Array Value}(b:a8.globalNamed n=some g)(h:W.var? a8 n=some a):∃e x,W.heap[g]? = some (.cells a e x):=by
 unfold World.var? at h;rw[b,af1] at h;split at h
 ·rename_i c e x d;simp only[j6] at h;subst h;exact⟨e,x,d⟩
 ·cases h
theorem BT{W:World}{n:String}{g t e m:Nat}{k:IntKind}{f:List Int}(l:a8.globalNamed n=some g)(d:(a8.globals[g]?).map (·.type)=some t)(w:a8.underlying t=some (.array m e))(v:a8.underlying e=some (.int k))(a:a8.cellsOf e=1)(c:a8.cellsOf t=m)
  (h:ac1 a8 W n (ab5 k f)):∃e x,W.heap[g]? = some (.cells (f.map λz=>k9 k z).toArray e x):=by
 obtain⟨y,A,o,i,p,q,r,j,u⟩:=h;obtain rfl:=j8 (l.symm.trans q);obtain rfl:=j8 (d.symm.trans r);have b:=Lib.cells_of_tab w v a c u;have:o=(f.map λz=>k9 k z).toArray:=by rw[<-b]
 rw[this] at j;exact QU l j
theorem MD{H:Type}{enc:TypeId × Value->H}{P:Program}{w:World}{base:Nat}{sp:Nat->Bool}{held:Bool}{a:Nat}{t e:TypeId}{n:Nat}{b:List Value}{d:DataW H}{p:List MemPlace}(f:P.underlying t=some (.array n e))
  (h:aj2 enc P w base sp held a t b=some (d,p)):b.length=P.cellsOf t:=by
 cases a with
 | zero=>simp[aj2] at h
 | succ a=>
  simp only[aj2,f] at h;split at h
  ·rename_i c;simpa using c
  ·cases h
theorem Bu9{W:World}(C : a8.globalNamed "unicode/utf8.acceptRanges" = some 2)(h:ac1 a8 W "unicode/utf8.acceptRanges" af7) :
  ∃e x,W.heap[2]? = some (.cells (Gq.map λz=>k9 .u8 z).toArray e x):=by
 obtain⟨M,t,v,w,p,H,a,y,A⟩:=h;obtain rfl:=j8 (C.symm.trans H);have n:(a8.globals[2]?).map (·.type)=some UA:=by unfold UA;kernel_rfl
 obtain rfl:=j8 (n.symm.trans a);have F:a8.underlying UA=some (.array 16 TZ):=by unfold UA TZ;kernel_rfl
 have N:=MD F A;have I:a8.cellsOf UA=32:=by unfold UA;kernel_rfl
 have b:a8.cellsOf TZ=2:=by unfold TZ;kernel_rfl
 have K:∃j,a8.underlying TZ=some (.struct j)/\j.size=2/\∀(i:Nat) (f:Field),j[i]? = some f->a8.underlying f.type=some (.int .u8)/\f.offset=i/\a8.cellsOf f.type=1:=by
  refine⟨Zl,by unfold TZ Zl;kernel_rfl,by unfold Zl;kernel_rfl,λi f m=>?_⟩;have:i<2:=by
   have:=(ae0.1 m).1;rwa [show Zl.size=2 by unfold Zl;kernel_rfl] at this
  match i,this with
  | 0,_=>
   obtain rfl:=j8 (m.symm.trans (show Zl[0]? = some NT from Dm4));exact⟨by unfold NT;kernel_rfl,by unfold NT;kernel_rfl,by unfold NT;kernel_rfl⟩
  | 1,_=>
   obtain rfl:=j8 (m.symm.trans (show Zl[1]? = some NU from Dm5));exact⟨by unfold NU;kernel_rfl,by unfold NU;kernel_rfl,by unfold NU;kernel_rfl⟩
 obtain⟨j,o,r,u⟩:=K;have l:v.toList=Gq.map λz=>k9 .u8 z:=by
  have D:(Gq.map λz=>k9 .u8 z).length=32:=by rw[aj0];rfl
  apply List.ext_getElem?;intro q;by_cases J:q<32
  ·obtain⟨k,d,O,c,B⟩:=Lib.array_elem F A (q / 2) (by omega);simp only[ah2,ag3 (show q / 2<16 by omega),x3,j6] at c;subst c;rw[b] at B;have L:=Lib.ints_of_struct o u (by rw[b,r]) B;have e0:=congrArg (·[q % 2]?) L;simp only[aa2,ag8] at e0;rw[Q5,show q / 2*2+q % 2=q by omega] at e0;rw[e0];unfold Gq;have G:∀g:Nat->Value,(List.map g (List.range 32))[q]? = some (g q):=λg=>by
    rw[ah2,ag3 J];rfl
   rw[ak6,G];rcases Nat.mod_two_eq_zero_or_one q with a|a
   ·simp[a]
   ·simp[a]
  ·rw[af5 (by omega),af5 (by omega)]
 have:v=(Gq.map λz=>k9 .u8 z).toArray:=by rw[<-l]
 rw[this] at y;exact QU C y
theorem A12{C:Cfg}(r:C.G=GX){W:World}(b:laidMet a8 Fd W)(p:W.ShapedOpen a8):GOK C (· < W.heap.size) W:=by
 have lt:∀{g:Nat} {o:Obj},W.heap[g]? = some o->g<W.heap.size:=λh=>(ae0.1 h).1
 have I:ac1 a8 W "math/bits.deBruijn64tab" (ab5 .u8 (ah1.map λn:Nat=>(n:Int))):=ac2 b (by rw [show (ab5 .u8 (ah1.map λn:Nat=>(n:Int)):DataW Unit)=Rows.laid_math_bits_deBruijn64tab by kernel_rfl];simp [Fd])
 have J:ac1 a8 W "internal/strconv.uint64pow10" (ab5 .u64 ak4):=ac2 b (by rw [show (ab5 .u64 ak4:DataW Unit)=Rows.laid_internal_strconv_uint64pow10 by kernel_rfl];simp [Fd])
 have K:ac1 a8 W "unicode/utf8.acceptRanges" af7:=ac2 b (by rw [show af7=Rows.laid_unicode_utf8_acceptRanges by kernel_rfl];simp [Fd])
 have L:ac1 a8 W "unicode/utf8.first" (ab5 .u8 ak3):=ac2 b (by rw [show (ab5 .u8 ak3:DataW Unit)=Rows.laid_unicode_utf8_first by kernel_rfl];simp [Fd])
 have y:=BT (g:=5) (t:=dbT) (e:=5) (m:=64) (by kernel_rfl) (by unfold dbT;kernel_rfl) (by unfold dbT;kernel_rfl) (by kernel_rfl) (by kernel_rfl) (by unfold dbT;kernel_rfl) I;have A:=BT (g:=3) (t:=C99) (e:=167) (m:=20) (by kernel_rfl) (by unfold C99;kernel_rfl) (by unfold C99;kernel_rfl) (by kernel_rfl) (by kernel_rfl) (by unfold C99;kernel_rfl) J;have B:=Bu9 (by kernel_rfl) K;have D:=BT (g:=1) (t:=C33) (e:=5) (m:=256) (by kernel_rfl) (by unfold C33;kernel_rfl) (by unfold C33;kernel_rfl) (by kernel_rfl) (by kernel_rfl) (by unfold C33;kernel_rfl) L;have F:=cell_of_shapedOpen_int (k:=.i64) (g:=0) (t:=3) (zero:=#[.int .i64 0]) p (of_decide_eq_true (by kernel_rfl)) (by kernel_rfl) rfl (by kernel_rfl) (by kernel_rfl) (by kernel_rfl);refine⟨λg k w h=>?_,λg h=>?_⟩
 ·rw[r] at h;simp only[GX] at h;have key:∀{q:Nat} {v:IntKind} {a:List Int},(∃e x,W.heap[q]? = some (.cells (a.map λz=>k9 v z).toArray e x))->g=q->(v,a)=(k,w)->g<W.heap.size/\∃e x,W.heap[g]? = some (.cells (w.map λz=>k9 k z).toArray e x):=λc G H=>by
   subst G;cases H;obtain⟨e,x,c⟩:=c;exact⟨lt c,e,x,c⟩
  cases d:ak9 g 1 with
  | true=>rw[d,cond_true] at h;exact key D (y7 d) (j8 h)
  | false=>
   rw[d,cond_false] at h;cases f:ak9 g 2 with
   | true=>rw[f,cond_true] at h;exact key B (y7 f) (j8 h)
   | false=>
    rw[f,cond_false] at h;cases i:ak9 g 3 with
    | true=>rw[i,cond_true] at h;exact key A (y7 i) (j8 h)
    | false=>
     rw[i,cond_false] at h;cases j:ak9 g 5 with
     | true=>rw[j,cond_true] at h;exact key y (y7 j) (j8 h)
     | false=>rw[j,cond_false] at h;cases h
 ·rw[r] at h;have e:=y7 h;subst e;obtain⟨m,u⟩:=F;refine⟨?_,m,u⟩;apply Classical.byContradiction;intro l;simp[ae4,ab9 (Nat.le_of_not_lt l)] at u
theorem AZ(os:Os)(args:Array Value):((ab0 a8 os Fd).forCall (λ_ _=>0) ⟨#[],args,[]⟩).Shaped a8:=
 World.shaped_of_ZipB (by kernel_rfl) (by kernel_rfl)
theorem MQ(os:Os)(args:Array Value):laidMetH a8 Fd ((ab0 a8 os Fd).forCall (λ_ _=>0) ⟨#[],args,[]⟩).memory:=by rw[ae3 _ _ _ (by kernel_rfl)];exact laidMet_laidAll _ (by kernel_rfl) (by kernel_rfl)
theorem A25{H:Type}{enc:TypeId × Value->H}{os:Os}(j:os.Started){C:Cfg}(u:C.P=a8)(r:C.G=GX)(Z:XOK C)(W:Ob C){f tb:Nat}{fn:Func}{c:Code}{s:ChangeSpec}{g:List PathCond}{apart fresh handsOn again:Bool}(l:a8.inits.idxOf? f=none)(x:a8.funcs[f]? = some fn)(hb:fn.body=some c)(n:(fn.name == "runtime.NumGoroutine")=false)
  (F:∀t∈fn.params.toList,(a8.readableRec t=true/\t<a8.types.size)/\(Ev a8 20 t).isSome=true) (z:fn.resultTypes = #[tb]) (m:a8.underlying tb=some .bool) (q:s.vars=[])
  (p:∀ds:List (DataW H),ds.length=fn.params.toList.length->s.fn H ds = { results:=[.lit (.bool true)],args:=ds })
  (a:Array Value) (h:Nat) (o:Input.okWideB a8 ((ab0 a8 os Fd).forCall (λ_ _=>0) ⟨#[],a,[]⟩) f ⟨#[],a,[]⟩=true)
  (Pc:s.preB enc a8 fn g apart ((ab0 a8 os Fd).forCall (λ_ _=>0) ⟨#[],a,[]⟩).memory a h=true)
  (J:s.sizedB enc a8 fn apart ((ab0 a8 os Fd).forCall (λ_ _=>0) ⟨#[],a,[]⟩).memory a h=true)
  (D:∀args,Li a8 fn.params.toList args->∃d T,evC C d Unit noY f args [] ()=some (.s (.bool true),T,())) :
  ReturnsInHanded {} ah6 os f .any (λw args=>(s.pre enc a8 fn g apart w args/\laidMetH a8 Fd w)/\sizedMet enc a8 fn (OpenSpec.ofChange s) apart w args) (s.post enc a8 fn apart fresh handsOn again):=by
 obtain⟨P,G,X,R,a0,lf,Q,M,xp,L,N,Y,S,nt,a1⟩:=C;simp only at u r;subst u;refine returnsInHanded_of_calls (C:=ah6) own j l
  (ChangeSpec.witness_shaped (enc:=enc) (C:=ah6) (os:=os) (X:=λw _=>laidMetH a8 Fd w) false (ab0 a8 os Fd) a h (World.laidAll_os _ _ _) (AZ os a) o Pc J (MQ os a)) ?_
 intro w b i _ I _ o Pc A;obtain⟨_,_,_,B,y,_,_,_,_,Ny⟩:=o;have e:B=fn:=j8 (y.symm.trans x);subst e;obtain⟨⟨⟨ds,U,k,hw,hc⟩,O⟩,hz⟩:=Pc;have K:=DataW.Whole.of_heap (w':=w.forCall b i) (by rfl) hw;have V:laidMet a8 Fd (w.forCall b i):=by
  rw[ae3 _ _ _ (by kernel_rfl)] at O;exact laidMet.of_heap (w':=w.forCall b i) (by rfl) O
 refine(Cg7 (apart:=apart) (fresh:=fresh) (handsOn:=handsOn) (again:=again) Z W follows C64 x hb n F z m q p D (w.forCall b i) (A12 r V I) w.heap.size i.args ds U k Ny K).mono λe W' ⟨v,he,F⟩=>?_
 subst he;exact ChangeSpec.post_blind F
end
section
open Go Go.Proofs
set_option maxRecDepth 100000
section
theorem QW:B3 a8 GX 234 Ka:=λargs ret a h=>by
 have:M5 (Ka args)=none:=by unfold Ka FU;split<;>rfl
 rw[this] at h;cases h
theorem Bj6:B3 a8 GX 163 RZ:=xf [] (Ax1 LF) SC rfl trivial rfl (by kernel_rfl) follows λargs=>by
 unfold SC;split
 ·rename_i s p;exact λa=>⟨rfl,rfl,rfl,_,_,(C74 LF noY () 0 s p).trans (B02 s p a),rfl⟩
 ·trivial
theorem ZE:B3 a8 GX 120 FZ:=xf [] (Aw8 LF) RQ rfl ⟨Bj6,trivial⟩ rfl (by kernel_rfl) follows λargs=>by
 unfold RQ;split
 ·rename_i s p;exact λa=>⟨rfl,rfl,rfl,_,_,(C54 LF noY () 0 s p).trans (By0 s p a),rfl⟩
 ·trivial
theorem Cx4:B3 a8 GX 232 As9:=xf [] (Ax2 LF) SG rfl trivial rfl (by kernel_rfl) follows λargs=>by
 unfold SG;split
 ·rename_i s p;exact λa=>⟨rfl,rfl,rfl,_,_,(C76 LF noY () 0 s p).trans (B03 s p a),rfl⟩
 ·trivial
theorem Dt2:B3 a8 GX 207 Cc2:=xf [] (Aw9 LF) RR rfl ⟨Cx4,trivial⟩ rfl (by kernel_rfl) follows λargs=>by
 unfold RR;split
 ·rename_i s p;exact λa=>⟨rfl,rfl,rfl,_,_,(C56 LF noY () 0 s p).trans (By1 s p a),rfl⟩
 ·trivial
theorem Dh4:B3 a8 GX 221 Bl0:=xf [] (UU LF) GJ rfl ⟨Cx4,trivial⟩ rfl (by kernel_rfl) follows λargs=>by
 unfold GJ;split
 ·rename_i s p;exact λa=>⟨rfl,rfl,rfl,_,_,(Cl1 LF noY () 0 s p).trans (A38 s p a),rfl⟩
 ·trivial
theorem Dj4:B3 a8 GX 199 Bm8:=xf [] (VF LF) HQ rfl ⟨Dh4,trivial⟩ rfl (by kernel_rfl) follows λargs=>by
 unfold HQ;split
 ·rename_i s p;exact λa=>⟨rfl,rfl,rfl,_,_,(Cu2 LF noY () 0 s p).trans (Bh2 s p a),rfl⟩
 ·trivial
theorem Dg9:B3 a8 GX 158 Bk7:=xf [0,0] (UQ LF) GE rfl ⟨Bj6,trivial⟩ rfl (by kernel_rfl) follows λargs=>by
 unfold GE;split
 ·rename_i s p;exact λa=>⟨rfl,rfl,rfl,_,_,(Ck3 LF noY () 0 s p).trans (A27 s p a),rfl⟩
 ·trivial
theorem Cw5:B3 a8 GX 118 As2:=xf [0,0] (Aw2 LF) RC rfl ⟨Dg9,trivial⟩ rfl (by kernel_rfl) follows λargs=>by
 unfold RC;split
 ·rename_i s p;exact λa=>⟨rfl,rfl,rfl,_,_,(C18 LF noY () 0 s p).trans (Bv5 s p a),rfl⟩
 ·trivial
theorem Cw6:B3 a8 GX 210 ZO:=xf [1] (Eg LF) Yp rfl ⟨QW,Cy7,Bj7,trivial⟩ rfl (by kernel_rfl) follows λargs=>by
 unfold Yp;split
 ·rename_i s p v n;exact λa=>λb=>λc=>λd=>(let⟨r,H,e,q⟩:=Ae6 s p v n a b c d;⟨rfl,rfl,rfl,r,H,(OW LF noY () 0 s p v n).trans e,q⟩)
 ·trivial
theorem MK:B3 a8 GX 176 Uz:=xf [1] (IN LF) Zg rfl ⟨Cw6,trivial⟩ rfl (by kernel_rfl) follows λargs=>by
 unfold Zg;split
 ·rename_i s p;exact λa=>λb=>⟨rfl,rfl,rfl,_,_,(B77 LF noY () 0 s p).trans (Ap7 s p a b),rfl⟩
 ·trivial
theorem Cx3:B3 a8 GX 116 As8:=xf [] (Tc LF) RY rfl trivial rfl (by kernel_rfl) follows λargs=>by
 unfold RY;split
 ·rename_i s;exact λa=>⟨rfl,rfl,rfl,_,_,(C72 LF noY () 0 s).trans (B00 s a),rfl⟩
 ·trivial
theorem Cw7:B3 a8 GX 137 As4:=xf [] (Aw6 LF) RO rfl ⟨ZE,trivial⟩ rfl (by kernel_rfl) follows λargs=>by
 unfold RO;split
 ·rename_i s;exact λa=>⟨rfl,rfl,rfl,_,_,(C50 LF noY () 0 s).trans (Bx7 s a),rfl⟩
 ·trivial
theorem Bj3:B3 a8 GX 139 RE:=xf [0,0] (X2 LF) RF rfl trivial rfl (by kernel_rfl) follows λargs=>by
 unfold RF;split
 ·rename_i s base;exact λa=>λb=>⟨rfl,rfl,rfl,_,_,(C29 LF noY () 0 s base).trans (Bw1 s base a b),rfl⟩
 ·trivial
theorem Dm1:B3 a8 GX 138 Cc5:=xf [0,0] (Cg3 LF) At0 rfl ⟨Cw7,Bj3,trivial⟩ rfl (by kernel_rfl) follows λargs=>by
 unfold At0;split
 ·rename_i s;exact λa=>⟨rfl,rfl,rfl,_,_,(Dp2 LF noY () 0 s).trans (Cm5 s a),rfl⟩
 ·trivial
theorem Bu2:B3 a8 GX 136 SM:=xf [1] (UW LF) GN rfl ⟨MK,trivial⟩ rfl (by kernel_rfl) follows λargs=>by
 unfold GN;split
 ·rename_i s;exact λa=>⟨rfl,rfl,rfl,_,_,(Cn4 LF noY () 0 s).trans (A53 s a),rfl⟩
 ·trivial
theorem QX:B3 a8 GX 102 Qg:=xf [] (Zu LF) Sf rfl ⟨Bu2,Cw7,Dm1,Bj3,trivial⟩ rfl (by kernel_rfl) follows λargs=>by
 unfold Sf;split
 ·rename_i s;exact λa=>⟨rfl,rfl,rfl,_,_,(A45 LF noY () 0 s).trans (WT s a),rfl⟩
 ·trivial
theorem Dt6:B3 a8 GX 200 Cc7:=xf [0,0] (Te LF) SQ rfl ⟨Bu2,Dm1,trivial⟩ rfl (by kernel_rfl) follows λargs=>by
 unfold SQ;split
 ·rename_i s;exact λa=>⟨rfl,rfl,rfl,_,_,(C97 LF noY () 0 s).trans (B24 s a),rfl⟩
 ·trivial
theorem Dy8:B3 a8 GX 255 Dk2:=xf [0,0] (IP LF) Au5 rfl ⟨MK,Bj3,Cx1,trivial⟩ rfl (by kernel_rfl) follows λargs=>by
 unfold Au5;split
 ·rename_i s;exact λa=>⟨rfl,rfl,rfl,_,_,(Dr4 LF noY () 0 s).trans (Cv7 s a),rfl⟩
 ·trivial
theorem Dy7:B3 a8 GX 167 Dk1:=xf [] (IO LF) Au4 rfl ⟨Cx1,trivial⟩ rfl (by kernel_rfl) follows λargs=>by
 unfold Au4;split
 ·rename_i v;exact λa=>⟨rfl,rfl,rfl,_,_,(Dr3 LF noY () 0 v).trans (Cv5 v a),rfl⟩
 ·trivial
theorem Ca5:B3 a8 GX 111 NO:=xf [] (Dc LF) Sg rfl trivial rfl (by kernel_rfl) follows λargs=>by
 unfold Sg;split
 ·rename_i s;exact λa=>⟨rfl,rfl,rfl,_,_,(A80 LF noY () 0 s).trans (XK s a),rfl⟩
 ·trivial
theorem Cy2:B3 a8 GX 127 At7:=xf [] (Th LF) TB rfl trivial rfl (by kernel_rfl) follows λargs=>by
 unfold TB;split
 ·rename_i s;exact λa=>⟨rfl,rfl,rfl,_,_,(Db7 LF noY () 0 s).trans (B46 s a),rfl⟩
 ·trivial
theorem Qd:B3 a8 GX 76 Kb:=xf [1] (Gu LF) Zc rfl trivial rfl (by kernel_rfl) follows λargs=>by
 unfold Zc;split
 ·rename_i s c;exact λa=>λb=>(let⟨r,H,e,q⟩:=Al3 s c a b;⟨rfl,rfl,rfl,r,H,(B58 LF noY () 0 s c).trans e,q⟩)
 ·trivial
theorem Dt9:B3 a8 GX 153 Cc9:=xf [] (Jm LF) SX rfl trivial rfl (by kernel_rfl) follows λargs=>by
 unfold SX;split
 ·rename_i b;exact λa=>⟨rfl,rfl,rfl,_,_,(Da7 LF noY () 0 b).trans (B35 b a),rfl⟩
 ·trivial
theorem Cy3:B3 a8 GX 112 At8:=xf [0,0] (P8 LF) TD rfl ⟨Dt9,trivial⟩ rfl (by kernel_rfl) follows λargs=>by
 unfold TD;split
 ·rename_i s;exact λa=>⟨rfl,rfl,rfl,_,_,(Db9 LF noY () 0 s).trans (B47 s a),rfl⟩
 ·trivial
theorem Ar8:B3 a8 GX 110 HA:=xf [1] (IK LF) Za rfl ⟨Qd,trivial⟩ rfl (by kernel_rfl) follows λargs=>by
 unfold Za;split
 ·rename_i s;exact λa=>⟨rfl,rfl,rfl,_,_,(B52 LF noY () 0 s).trans (Ak3 s a),rfl⟩
 ·trivial
theorem MI:B3 a8 GX 75 Sl:=xf [] (Ti LF) Og rfl ⟨Ar8,Ca5,Cy3,trivial⟩ rfl (by kernel_rfl) follows λargs=>by
 unfold Og;split
 ·rename_i s;exact λa=>⟨rfl,rfl,rfl,_,_,(Ak2 LF noY () 0 s).trans (NG s a),rfl⟩
 ·trivial
theorem Di4:B3 a8 GX 130 Bm0:=xf [0,0] (Lt LF) HC rfl ⟨Ar8,Cy3,trivial⟩ rfl (by kernel_rfl) follows λargs=>by
 unfold HC;split
 ·rename_i s;exact λa=>⟨rfl,rfl,rfl,_,_,(Cq6 LF noY () 0 s).trans (Bc8 s a),rfl⟩
 ·trivial
theorem Dt8:B3 a8 GX 233 Cc8:=xf [0,0] (Tf LF) SW rfl ⟨Ca3,trivial⟩ rfl (by kernel_rfl) follows λargs=>by
 unfold SW;split
 ·rename_i s;exact λa=>⟨rfl,rfl,rfl,_,_,(Da5 LF noY () 0 s).trans (B34 s a),rfl⟩
 ·trivial
theorem Du2:B3 a8 GX 208 Cd2:=xf [0,0] (Tj LF) TH rfl ⟨Qd,Dt8,trivial⟩ rfl (by kernel_rfl) follows λargs=>by
 unfold TH;split
 ·rename_i s;exact λa=>⟨rfl,rfl,rfl,_,_,(Dc8 LF noY () 0 s).trans (B64 s a),rfl⟩
 ·trivial
theorem Ca4:B3 a8 GX 210 Yq:=by
 refine B3.fix (pf:=Se) _ (Cq (C₀:=Eg LF) (M8.ok (l:=[(234,Ka),(235,Au0),(179,HK)]) rfl ⟨QW,Cy7,Bj7,trivial⟩) (I6 rfl (by kernel_rfl)) follows ?_);intro args ret f h;unfold Se at h;split at h
 ·rename_i s p v n;obtain⟨a,h⟩:=C3 h;obtain⟨b,h⟩:=C3 h;obtain⟨c,h⟩:=C3 h;obtain⟨d,h⟩:=C3 h;obtain⟨rfl,rfl⟩:=J4 h;have e:=(OW LF noY () 0 s p v n).trans (JL s p v n a b c d);exact⟨rfl,1,_,[],e,rfl,rfl⟩
 ·cases h
theorem Cb0:B3 a8 GX 176 NS:=by
 refine B3.fix (pf:=So) _ (Cq (C₀:=Zz LF) (M8.ok (l:=[(210,Yq)]) rfl ⟨Ca4,trivial⟩) (I6 rfl (by kernel_rfl)) follows ?_);intro args ret c h;unfold So at h;split at h
 ·rename_i s p;obtain⟨a,h⟩:=C3 h;obtain⟨b,h⟩:=C3 h;obtain⟨rfl,rfl⟩:=J4 h;have e:=(Bg9 LF noY () 0 s p).trans (YM s p a b);exact⟨rfl,1,_,[],e,rfl,rfl⟩
 ·cases h
end
section
theorem Ds8:B3 a8 GX 254 Cb8:=xf [0,0] (Af LF) RK rfl trivial rfl (by kernel_rfl) follows λargs=>by
 unfold RK;split
 ·rename_i s;exact λa=>⟨rfl,rfl,rfl,_,_,(C42 LF noY () 0 s).trans (Bx2 s a),rfl⟩
 ·trivial
theorem Dg4:B3 a8 GX 240 Bk4:=xf [1,0] (Lp LF) FX rfl ⟨MK,Ds8,Dy8,trivial⟩ rfl (by kernel_rfl) follows λargs=>by
 unfold FX;split
 ·rename_i s last;exact λa=>(let⟨r,H,e,q⟩:=A11 s last a;⟨rfl,rfl,rfl,r,H,(Ci6 LF noY () 0 s last).trans e,q⟩)
 ·trivial
theorem Dz1:B3 a8 GX 219 Dk5:=xf [0,0] (CG LF) Au8 rfl ⟨Cy8,Dg4,trivial⟩ rfl (by kernel_rfl) follows λargs=>by
 unfold Au8;split
 ·rename_i s;exact λa=>(let⟨r,H,e,q⟩:=Ds2 s a;⟨rfl,rfl,rfl,r,H,(Ds1 LF noY () 0 s).trans e,q⟩)
 ·trivial
theorem Dj5:B3 a8 GX 204 Bm9:=xf [0,0] (Z1 LF) HW rfl trivial rfl (by kernel_rfl) follows λargs=>by
 unfold HW;split
 ·rename_i a b c d e f g h;exact λi=>⟨rfl,rfl,rfl,_,_,(Cz9 LF noY () 0 a b c d e f g h).trans (Bk2 a b c d e f g h i),rfl⟩
 ·trivial
theorem Dz0:B3 a8 GX 205 Dk4:=xf [] (IQ LF) Au7 rfl ⟨Ds7,Bu4,trivial⟩ rfl (by kernel_rfl) follows λargs=>by
 unfold Au7;split
 ·rename_i b a l;exact λc=>λd=>(let⟨r,H,e,q⟩:=Dr9 b a l c d;⟨rfl,rfl,rfl,r,H,(Dr8 LF noY () 0 b a l).trans e,q⟩)
 ·trivial
theorem Dy9:B3 a8 GX 168 Dk3:=xf [] (Cg4 LF) Au6 rfl ⟨Dj5,Dz0,trivial⟩ rfl (by kernel_rfl) follows λargs=>by
 unfold Au6;split
 ·rename_i a b c d f g h i;exact λj=>(let⟨r,H,e,q⟩:=Dr7 a b c d f g h i j;⟨rfl,rfl,rfl,r,H,(Dr6 LF noY () 0 a b c d f g h i).trans e,q⟩)
 ·trivial
theorem Du0:B3 a8 GX 209 Cd0:=xf [0,0] (Ah LF) SZ rfl trivial rfl (by kernel_rfl) follows λargs=>by
 unfold SZ;split
 ·rename_i s;exact λa=>⟨rfl,rfl,rfl,_,_,(Db3 LF noY () 0 s).trans (B39 s a),rfl⟩
 ·trivial
theorem Dh8:B3 a8 GX 173 Bl4:=xf [1,0] (S8 LF) GR rfl ⟨Qd,Du2,Du0,trivial⟩ rfl (by kernel_rfl) follows λargs=>by
 unfold GR;split
 ·rename_i s last;exact λa=>(let⟨r,H,e,q⟩:=Ba1 s last a;⟨rfl,rfl,rfl,r,H,(Cp2 LF noY () 0 s last).trans e,q⟩)
 ·trivial
theorem Ca6:B3 a8 GX 172 NP:=xf [] (Dd LF) Si rfl trivial rfl (by kernel_rfl) follows λargs=>by
 unfold Si;split
 ·rename_i s;exact λa=>⟨rfl,rfl,rfl,_,_,(A81 LF noY () 0 s).trans (XM s a),rfl⟩
 ·trivial
theorem Du3:B3 a8 GX 128 Cd3:=xf [0,0] (Ai LF) TJ rfl ⟨Ca6,Dh8,trivial⟩ rfl (by kernel_rfl) follows λargs=>by
 unfold TJ;split
 ·rename_i s;exact λa=>(let⟨r,H,e,q⟩:=Dd0 s a;⟨rfl,rfl,rfl,r,H,(Dc9 LF noY () 0 s).trans e,q⟩)
 ·trivial
theorem Ar6:B3 a8 GX 213 Of:=xf [] (II LF) Yw rfl trivial rfl (by kernel_rfl) follows λargs=>by
 unfold Yw;split
 ·rename_i n;exact⟨rfl,rfl,rfl,_,_,(B26 LF noY () 0 n).trans (Ai6 n ),rfl⟩
 ·trivial
theorem Ar5:B3 a8 GX 215 Oe:=xf [] (X9 LF) Yv rfl trivial rfl (by kernel_rfl) follows λargs=>by
 unfold Yv;split
 ·rename_i d c f;exact λa=>λb=>λe=>⟨rfl,rfl,rfl,_,_,(B12 LF noY () 0 d c f).trans (Ah7 d c f a b e),rfl⟩
 ·trivial
theorem Dt5:B3 a8 GX 239 At1:=xf [] (Ax4 LF) SO rfl trivial rfl (by kernel_rfl) follows λargs=>by
 unfold SO;split
 ·rename_i d;exact λa=>⟨rfl,rfl,rfl,_,_,(C92 LF noY () 0 d).trans (B21 d a),rfl⟩
 ·trivial
theorem Dt7:B3 a8 GX 250 At3:=xf [] (Jl LF) SU rfl trivial rfl (by kernel_rfl) follows λargs=>by
 unfold SU;split
 ·rename_i b;exact λa=>⟨rfl,rfl,rfl,_,_,(Da3 LF noY () 0 b).trans (B29 b a),rfl⟩
 ·trivial
end
section
theorem Cx9:B3 a8 GX 238 GO:=by
 refine B3.fix (pf:=ST) _ (Cq (C₀:=Ax5 LF) (M8.ok (l:=[]) rfl trivial) (I6 rfl (by kernel_rfl)) follows ?_);intro args ret a h;unfold ST at h;split at h
 ·rename_i b;obtain⟨rfl,rfl⟩:=J4 h;have e:=(Da0 LF noY () 0 b).trans (B27 b );exact⟨rfl,1,_,[],e,rfl,rfl⟩
 ·cases h
theorem Bu6:CD a8 GX 253 Qh:=by
 refine Ga (C₀:=UX LF) (M8.ok (l:=[]) rfl trivial) (I6 rfl (by kernel_rfl)) follows ?_;intro args H ret f h;unfold Qh at h;split at h
 ·rename_i k b;obtain⟨a,h⟩:=C3 h;obtain⟨c,h⟩:=C3 h;obtain⟨rfl,rfl⟩:=J4 h;refine⟨rfl,rfl,λZ d s=>?_⟩;have e:=(Cn9 LF d s 0 k b).trans (A66 k b a c);exact⟨1,_,e,rfl⟩
 ·cases h
theorem Dv4:CD a8 GX 214 SL:=by
 refine Ga (C₀:=Zv LF) (Uu (lx:=[(238,GO),(239,At1)]) (ly:=[(253,Qh)]) (ls:=[]) rfl rfl rfl ⟨Cx9,Dt5,trivial⟩ ⟨Bu6,trivial⟩ trivial) (I6 rfl (by kernel_rfl)) follows ?_;intro args H ret f h;unfold SL at h;split at h
 ·rename_i q b z l;obtain⟨a,h⟩:=C3 h;obtain⟨c,h⟩:=C3 h;obtain⟨d,h⟩:=C3 h;obtain⟨rfl,rfl⟩:=J4 h;obtain⟨g,i,e0⟩:=B14 q b z l a c d;exact⟨rfl,rfl,λZ e s=>⟨1,_,(C88 LF e s 0 q b z l).trans (e0 _ _),rfl⟩⟩
 ·cases h
theorem Cx8:B3 a8 GX 181 At2:=by
 refine B3.fix (pf:=SP) _ (J0 [0,0] (C₀:=R0 LF) (Uu (lx:=[(213,Of),(215,Oe)]) (ly:=[(214,SL)]) (ls:=[]) rfl rfl rfl ⟨Ar6,Ar5,trivial⟩ ⟨Dv4,trivial⟩ trivial) (I6 rfl (by kernel_rfl)) follows ?_);intro args ret f h;unfold SP at h;split at h
 ·rename_i b a p;obtain⟨c,h⟩:=C3 h;obtain⟨rfl,rfl⟩:=J4 h;obtain⟨r,H,e,d⟩:=C94 b a p c;exact⟨rfl,rfl,rfl,1,r,H,(C93 LF noY () 0 b a p).trans e,d⟩
 ·cases h
end
section
theorem Dv3:CD a8 GX 236 RG:=by
 refine Ga (C₀:=Zs LF) (Uu (lx:=[(238,GO),(250,At3)]) (ly:=[(253,Qh)]) (ls:=[]) rfl rfl rfl ⟨Cx9,Dt7,trivial⟩ ⟨Bu6,trivial⟩ trivial) (I6 rfl (by kernel_rfl)) follows ?_;intro args H ret j h;unfold RG at h;split at h
 ·rename_i a n i b c z l;obtain⟨d,h⟩:=C3 h;obtain⟨e,h⟩:=C3 h;obtain⟨f,h⟩:=C3 h;obtain⟨rfl,rfl⟩:=J4 h;obtain⟨k,e0⟩:=Bw3 a n i b c z l d e f;exact⟨rfl,rfl,λZ g s=>⟨1,_,(C30 LF g s 0 a n i b c z l).trans (e0 _ _),rfl⟩⟩
 ·cases h
theorem Cx0:B3 a8 GX 133 ZQ:=xf [] (Gs LF) Ys rfl trivial rfl (by kernel_rfl) follows λargs=>by
 unfold Ys;split
 ·rename_i s c;exact λa=>λb=>⟨rfl,rfl,rfl,_,_,(By6 LF noY () 0 s c).trans (Af4 s c a b),rfl⟩
 ·trivial
theorem Bu1:B3 a8 GX 98 EM:=xf [] (UP LF) GD rfl ⟨Cx0,trivial⟩ rfl (by kernel_rfl) follows λargs=>by
 unfold GD;split
 ·rename_i s c;exact λa=>λb=>⟨rfl,rfl,rfl,_,_,(Ck2 LF noY () 0 s c).trans (A24 s c a b),rfl⟩
 ·trivial
end
end
section
open Go Go.Proofs Go.Sort
set_option maxRecDepth 100000
theorem LX{C:Cfg}{Z:Type}{I:Z->(Nat->Prop)->(Nat->Prop)->World->Prop}(J:HI I){f:Ctx}{u:Nat->Prop}{w w':World}{z v1:Bool}{E o r:Nat}{l l' m:LL}{s:Z}(g cap:Nat)(H:List Value)(i:Array Value)
  (P:Oz C E=false) (j:HR f [.arr z E 1 l,.arr v1 o r m] w) (K:I s f.St u w) (M:∀b g,f.nm b=some g->¬u g)
  (d:f.nm 0=some g\/g=w.heap.size) (O:g<w'.heap.size) (e:∀k,k<w.heap.size->f.nm 0≠some k->w'.heap[k]? = w.heap[k]?) (p:w.heap.size<=w'.heap.size) (R:w'.os=w.os) (S:w'.tape=w.tape) (T:w'.output=w.output)
  (n:w'.heap[g]? = some (.cells i E (0,0))) (X:Els f.St w' 1 l' H) (D:l'≠[]) (t:∀q,q<H.length->i[q]? = H[q]?) (Y:H.length<=i.size) (B:l'.length<=cap) (hm:cap<=maxLen) (L:i.size=cap) :
  Ef C I f [.arr z E 1 l,.arr v1 o r m] w u (.fl 0) [.arr z E 1 l',.arr v1 o r m] s (.slice (some ⟨g,0,none⟩) l'.length cap) w':=by
 have x:0<[Blk.arr z E 1 l,.arr v1 o r m].length:=by simp
 have G:(f.re 0 (some g)).nm 0=some g:=by simp[Ctx.re]
 have F:¬Lx C (A5 [Blk.arr z E 1 l,.arr v1 o r m] 0):=by simp[A5,Blk.shp,Lx,P]
 have a:([Blk.arr z E 1 l,.arr v1 o r m].map (Blk.kill 0)).set 0 (.arr z E 1 l')=[.arr z E 1 l',.arr v1 o r m]:=rfl;have N:¬f.St g:=by
  rcases d with h|h
  ·exact(j.lt 0 g h).2.2
  ·intro hs;have:=j.stlt g hs;omega
 obtain⟨U,V,q3⟩:=XP (C:=C) (y:=.arr z E 1 l') (ng:=some g) (w':=w') j x F (λk a=>by
   simp only[j6] at a;subst a;refine⟨O,N,λc t A=>?_⟩;rcases d with h|h
   ·exact t (j.inj c 0 _ A h)
   ·have:=(j.lt c _ A).2.1;omega)
  (λk a=>by
   simp only[j6] at a;subst a;rcases d with h|h
   ·exact .inl h
   ·exact .inr (by omega)) e p R S T
  (BR.els G n X (by rintro⟨_,h⟩;exact D h) t Y) rfl
 rw[a] at U V;refine⟨_,u,U.lift u,V,?_,λc t=>?_,?_,λb W v=>?_⟩
 ·refine .fl 0 g z E 1 l'.length cap rfl (λ_ h=>D (ab7.1 h)) G B hm ?_;simp only[af2,n,L,y9]
 ·simp only[PV.nms,ab3] at t;subst t;simp
 ·refine J.mono s f.St u w f.St w' K (λ_ h=>h) (λk a Q=>(J.foot _ _ _ _ K k Q).2 a) (λk a=>Nat.lt_of_lt_of_le (j.stlt k a) p) (λk a=>?_) p R S T;rcases a with a|a
  ·exact e k (j.stlt k a) (λh=>(j.lt 0 k h).2.2 a)
  ·exact e k (J.foot _ _ _ _ K k a).1 (λh=>M 0 k h a)
 ·simp only[Ctx.re] at v;split at v
  ·simp only[j6] at v;subst v;rcases d with h|h
   ·exact M 0 _ h
   ·intro Q;have:=(J.foot _ _ _ _ K _ Q).1;omega
  ·exact M b W v
theorem Cp{w:World}{g o e:Nat}{vs:List Value}{a:Array Value}(c:w.heap[g]? = some (.cells a e (0,0)))(f:o+vs.length<=a.size)(l:∀v∈vs,v.oneCell'=true) :
  (w.setCells g o vs).heap[g]? = some (.cells (G1 a.toList o vs).toArray e (0,0))/\(∀k,k≠g->(w.setCells g o vs).heap[k]? = w.heap[k]?)/\(w.setCells g o vs).heap.size=w.heap.size/\(w.setCells g o vs).os=w.os/\(w.setCells g o vs).tape=w.tape/\(w.setCells g o vs).output=w.output:=by
 obtain⟨w',i,m,n,p,q,t,u,_⟩:=N7 (P:=a8) (o:=o) c f l;have b:∀j,j<vs.length->∃v,w.cell? ⟨g,o+0+j,none⟩=some v:=λj d=>by
  refine⟨a[o+j]'(by omega),?_⟩;simp[ae4,c,ae1 (show o+j<a.size by omega)]
 have r:=run_storeCells_cells (P:=a8) g o vs 0 w (λj d=>by obtain⟨v,h⟩:=b j d;rw[h];rfl) (λj d=>by simp[ae8,c]) l;rw[r] at i;simp only[ak8,Result.ok.injEq,true_and] at i;rw[i];exact⟨m,n,p,q,t,u⟩
theorem JS{St:Nat->Prop}{w:World}{l:LL}{d:List Value}{i:Nat}{n:Int}(h:Els St w 1 l d)(q:i<=l.length):Els St w 1 (Mc l i n) (d.take i++k9 .i64 n::d.drop i):=by
 have c:=h.1;rw[y9] at c;have m:Els St w 1 (l.take i) (d.take i):=by
  refine⟨by rw[j7,j7,c,y9],λj f=>?_⟩;rw[j7] at f;rw[List.getElem_take];obtain⟨a,b⟩:=h.2 j (by omega);refine⟨a,λk g=>?_⟩;obtain⟨U,e,v⟩:=b k g;exact⟨U,by rw[z7 (by omega)];exact e,v⟩
 have o:Els St w 1 [[SV.int .i64 n]] [k9 .i64 n]:=by
  refine⟨rfl,λj f=>?_⟩;have:j=0:=by simpa using f
  subst this;refine⟨rfl,λk g=>?_⟩;have:k=0:=by simpa using g
  subst this;exact⟨_,rfl,.int _ _⟩
 have p:Els St w 1 (l.drop i) (d.drop i):=by
  refine⟨by rw[j4,j4,c,y9],λj f=>?_⟩;rw[j4] at f;rw[List.getElem_drop];obtain⟨a,b⟩:=h.2 (i+j) (by omega);refine⟨a,λk g=>?_⟩;obtain⟨U,e,v⟩:=b k g;exact⟨U,by rw[ag8];rw[show i+(j*1+k)=(i+j)*1+k by omega];exact e,v⟩
 have:=(m.append o).append p;unfold Mc;simpa using this
theorem JT(l:LL)(i:Nat)(n:Int)(h:i<=l.length):(Mc l i n).length=l.length+1:=by unfold Mc;rw[j2,j0,j7,j4];omega
theorem WE(l:LL)(i:Nat)(n:Int):Mc l i n≠[]:=by unfold Mc;simp
theorem Dv5:CD a8 GX 237 TP:=by
 intro C hP hG Z I yh yv hI hy args H s ret Hc G Γ Φ w Vs g0 hH hg hi hd hc hn;unfold TP at G;split at G
 ·rename_i i z l d;obtain⟨h0,G⟩:=C3 G;obtain⟨h1,G⟩:=C3 G;obtain⟨rfl,rfl⟩:=J4 G;obtain⟨i0,i1⟩:=E6.1 h0;obtain⟨i,rfl⟩:=x7 i0;have hl:=ac7 h1;have X:i<=l.length:=by
   have:(i:Int)<((l.length+1:Nat):Int):=i1;omega
  obtain⟨S,X0,V,rfl,hs,hx,hv⟩:=hc.arr3;obtain rfl:=hx.inv_int;have c0:Oz C 3=false:=by
   unfold Oz Cfg.sh;rw[hP];kernel_rfl
  obtain⟨g1,c9,n1,n2,n3,n4,n5⟩:=hH.arr' (b:=1) rfl (by simp);have f4:∃cap,V = .slice (some ⟨g1,0,none⟩) 1 cap:=by
   cases hv with
   | flv _ e sz h=>simp[A5,Blk.shp] at h
   | fl _ g v e sz n cap h e7 y R hm e5=>
    rw[n1] at y;simp only[j6] at y;subst y;simp only[A5,ab6,aa0,x3,Blk.shp,j6,Shp.arr.injEq] at h;obtain⟨_,_,_,h4⟩:=h;subst h4;exact⟨cap,rfl⟩
  obtain⟨A,rfl⟩:=f4;obtain⟨V1,p1,p2⟩:=n5 0 (by simp) 0 (by simp);have p3:V1 = .int .i64 d:=by cases p2;rfl
  subst p3;have t:∀j v,[k9 .i64 d][j]? = some v->w.cell? ⟨g1,0+j,none⟩=some v:=by
   intro j v x;have:j=0:=by
    have:=(ae2.1 x).1;simpa using this
   subst this;simp only[aa0,j6] at x;subst x;simpa[ae4,n2] using p1
  have M:∀v∈[k9 .i64 d],v.oneCell'=true:=by simp[Value.oneCell']
  rw[j5];refine Sa (fn:=Tryz.f237) (by kernel_rfl) (by kernel_rfl) (by kernel_rfl) ?_;have B:∀(base:Option Addr) (c:Nat) (f:List Value),l.length<=c->c<l.length+1->f.length=l.length->(base=none->l.length=0)->(∀a,base=some a->∀j v,f[j]? = some v->w.cell? (a.add j)=some v)->Els Γ.St w 1 l f->
    Calls a8 237 #[.slice base l.length c,.int .i64 (l.length:Int),.slice (some ⟨g1,0,none⟩) 1 A] w λe w'=>∃V,e = .returned V/\Ef C I Γ [.arr z 3 1 l,.arr false 3 1 [[SV.int .i64 d]]] w Φ (.fl 0) [.arr z 3 1 (Mc l l.length d),.arr false 3 1 [[SV.int .i64 d]]] s V w':=by
   intro base c f a1 a2 a3 a4 a5 a6;refine(Any2.slices_Insert_int_end_grow Tryz.lays2_21 base l.length c g1 0 1 A f [.int .i64 d] w (by omega) a1 a2 (by omega) a3 rfl a4 a5 t M).mono ?_;rintro e w' ⟨rfl,rfl⟩;refine⟨_,rfl,?_⟩;obtain⟨T,b7⟩:=Iu (w:=w) (need:=l.length+1) (cap:=c) (e:=3) (by omega);have hE:=JS (n:=d) a6 (w9 l.length);have d7:f.take l.length++k9 .i64 d::f.drop l.length=f++[k9 .i64 d]:=by
    rw[ac4 (by omega),p5 (by omega)]
   rw[d7] at hE;have r:=JT l l.length d (w9 _);obtain⟨r1,r2⟩:=AN (olds:=f) (Vs:=[k9 .i64 d]) (z:=(k9 .i64 0).cells) (k:=grownCap w (l.length+1) c 3) (n:=l.length) (m:=1) (size:=1) rfl (by omega) rfl T;have c7:(f.toArray++[k9 .i64 d].toArray)=(f++[k9 .i64 d]).toArray:=by simp
   rw[c7] at r1 r2;have key:∀(row:Array Value) (O:Nat),row.size=O->(∀q,q<(f++[k9 .i64 d]).length->row[q]? = (f++[k9 .i64 d])[q]?)->l.length+1<=O->O<=maxLen->
     Ef C I Γ [.arr z 3 1 l,.arr false 3 1 [[SV.int .i64 d]]] w Φ (.fl 0) [.arr z 3 1 (Mc l l.length d),.arr false 3 1 [[SV.int .i64 d]]] s (.slice (some ⟨w.heap.size,0,none⟩) (l.length+1) O) (w.drew.alloc (.cells row 3)):=by
    intro row O b1 b2 b3 b4;have D:(w.drew.alloc (.cells row 3)).heap=w.heap.push (.cells row 3):=rfl;have:=LX (C:=C) (w':=w.drew.alloc (.cells row 3)) (l':=Mc l l.length d) hI w.heap.size O (f++[k9 .i64 d]) row c0 hH hi hd (.inr rfl) (by rw[D];simp) (λk N _=>I3 D N) (by rw[D];simp) rfl rfl rfl (I2 D) (hE.mono (λg hg=>I3 D (hH.stlt g hg)) (λ_ h=>h)) (WE _ _ _) b2 (by rw[b1,j2,j9];omega) (by rw[r];exact b3) b4 b1;rw[r] at this;exact this
   exact key _ _ (r1.trans (y9 _)) r2 T b7
  have f8:∀(row:Array Value) (f:List Value),f.length=l.length->i<l.length->l.length+1<=row.size->(∀q,q<i->row[q]? = f[q]?)->
    ∀q,q<(f.take i++k9 .i64 d::f.drop i).length->(G1 (G1 row.toList i [k9 .i64 d]) (i+1) (f.drop i)).toArray[q]? = (f.take i++k9 .i64 d::f.drop i)[q]?:=by
   intro row f a1 a2 a3 a4 q hq;have f2:q<l.length+1:=by
    rw[j2,j0,j7,j4] at hq;omega
   have ht:(f.take i).length=i:=by rw[j7];omega
   have Y:row.toList.length=row.size:=x9;simp only[aa3];rw[N6 _ _ _ (by rw[D6,j4,Y];omega),N6 _ _ _ (by rw[j9,Y];omega)];by_cases h1:q<i
   ·rw[F7,F7,aa8 (by omega),z7 h1];simpa using a4 q h1
   ·by_cases h2:q=i
    ·subst h2;rw[F7,if_pos (by rw[j9];omega),w6 (by omega),ht,ah3];rfl
    ·rw[if_pos (by rw[j4];omega),w6 (by omega),ht,show q-i=(q-(i+1))+1 by omega,ab6]
  have P:∀(g c:Nat) (f:List Value),i<l.length->l.length<=c->c<l.length+1->f.length=l.length->(∀j v,f[j]? = some v->w.cell? ⟨g,0+j,none⟩=some v)->(∀v∈f,v.oneCell'=true)->Els Γ.St w 1 l f->
    Calls a8 237 #[.slice (some ⟨g,0,none⟩) l.length c,.int .i64 (i:Int),.slice (some ⟨g1,0,none⟩) 1 A] w λe w'=>∃V,e = .returned V/\Ef C I Γ [.arr z 3 1 l,.arr false 3 1 [[SV.int .i64 d]]] w Φ (.fl 0) [.arr z 3 1 (Mc l i d),.arr false 3 1 [[SV.int .i64 d]]] s V w':=by
   intro g c f W a1 a2 a3 a4 a5 a6;refine(Any2.slices_Insert_int_grow Tryz.lays2_21 g 0 l.length c i g1 0 1 A f [.int .i64 d] w W (by omega) a1 a2 (by omega) a3 rfl a4 t a5 M).mono ?_;rintro e w' ⟨rfl,rfl⟩;refine⟨_,rfl,?_⟩;obtain⟨T,b7⟩:=Iu (w:=w) (need:=l.length+1) (cap:=c) (e:=3) (by omega);have hE:=JS (n:=d) a6 X;have r:=JT l i d X;have key:∀(row:Array Value) (O:Nat),row.size=O->(∀q,q<i->row[q]? = f[q]?)->l.length+1<=O->O<=maxLen->
     Ef C I Γ [.arr z 3 1 l,.arr false 3 1 [[SV.int .i64 d]]] w Φ (.fl 0) [.arr z 3 1 (Mc l i d),.arr false 3 1 [[SV.int .i64 d]]] s (.slice (some ⟨w.heap.size,0,none⟩) (l.length+1) O) (((w.alloc (.cells row 3)).drew.setCells w.heap.size i [k9 .i64 d]).drew.setCells w.heap.size (i+1) (f.drop i)):=by
    intro row O b1 b2 b3 b4;have D:(w.alloc (.cells row 3)).drew.heap=w.heap.push (.cells row 3):=rfl;obtain⟨c1,c2,c3,c4,c5,c6⟩:=Cp (w:=(w.alloc (.cells row 3)).drew) (o:=i) (vs:=[k9 .i64 d]) (I2 D) (by rw[j9];omega) M;generalize f5:(w.alloc (.cells row 3)).drew.setCells w.heap.size i [k9 .i64 d]=w1 at *;have Q:(G1 row.toList i [k9 .i64 d]).toArray.size=O:=by rw[p7,D6];simpa using b1
    obtain⟨d1,d2,d3,d4,d5,d6⟩:=Cp (w:=w1.drew) (o:=i+1) (vs:=f.drop i) c1 (by rw[Q,j4];omega) (λv hv=>a5 v (x5 hv));have b0:∀k,k<w.heap.size->(w1.drew.setCells w.heap.size (i+1) (f.drop i)).heap[k]? = w.heap[k]?:=λk N=>by
     rw[d2 k (by omega)];exact(c2 k (by omega)).trans (I3 D N)
    have e6:(w1.drew.setCells w.heap.size (i+1) (f.drop i)).heap.size=w.heap.size+1:=by
     rw[d3];show w1.heap.size=_;rw[c3,D];simp
    have:=LX (C:=C) (w':=w1.drew.setCells w.heap.size (i+1) (f.drop i)) (l':=Mc l i d) hI w.heap.size O (f.take i++k9 .i64 d::f.drop i) _ c0 hH hi hd (.inr rfl) (by rw[e6];omega) (λk N _=>b0 k N) (by rw[e6];omega) (d4.trans c4) (d5.trans c5) (d6.trans c6) d1 (hE.mono (λg hg=>b0 g (hH.stlt g hg)) (λ_ h=>h)) (WE _ _ _) (f8 row f a3 W (by omega) b2) (by rw[p7,D6,j2,j0,j7,j4];simp only[p7,D6] at Q ⊢;omega) (by rw[r];exact b3) b4 (by rw[p7,D6];simpa using Q);rw[r] at this;exact this
   have f6:(k9 .i64 0).cells.size=1:=rfl;have ht:(f.take i).length=i:=by rw[j7];omega
   refine key _ _ ?_ (λq hq=>?_) T b7
   ·simp only[ag9,p7,size_zeroCells,f6,y9,ht];have:l.length+1<=grownCap w (l.length+1) c 3:=T;show i+(l.length+1-i)+(grownCap w (l.length+1) c 3-(l.length+1))=grownCap w (l.length+1) c 3;omega
   ·rw[ad9 (by simp only[ag9,p7,ht];omega),ad9 (by simp only[p7,ht];omega),aa3,z7 hq]
  have e8:∀(row:Array Value) (f:List Value),f.length=l.length->i<l.length->l.length+1<=row.size->(∀q,q<i->row[q]? = f[q]?)->
    ∀q,q<(f.take i++k9 .i64 d::f.drop i).length->(G1 (G1 row.toList (i+1) (f.drop i)) i [k9 .i64 d]).toArray[q]? = (f.take i++k9 .i64 d::f.drop i)[q]?:=by
   intro row f a1 a2 a3 a4 q hq;have f2:q<l.length+1:=by
    rw[j2,j0,j7,j4] at hq;omega
   have ht:(f.take i).length=i:=by rw[j7];omega
   have Y:row.toList.length=row.size:=x9;simp only[aa3];rw[N6 _ _ _ (by rw[D6,j9,Y];omega),N6 _ _ _ (by rw[j4,Y];omega)];by_cases h1:q<i
   ·rw[F7,F7,aa8 (by omega),z7 h1];simpa using a4 q h1
   ·by_cases h2:q=i
    ·subst h2;rw[if_pos (by rw[j9];omega),w6 (by omega),ht,ah3];rfl
    ·rw[if_neg (by rw[j9];omega),if_pos (by rw[j4];omega),w6 (by omega),ht,show q-i=(q-(i+1))+1 by omega,ab6]
  cases hs with
  | flv _ e2 f7 h'=>
   simp only[A5,aa0,x3,Blk.shp,j6,Shp.arr.injEq] at h';obtain⟨q1,q2,q3,h4⟩:=h';obtain rfl:=ab7.1 h4;obtain rfl:i=0:=by simpa using X
   exact B none 0 [] (by simp) (by simp) rfl (λ_=>rfl) (λa h=>by cases h) ⟨rfl,λj x=>by simp at x⟩
  | fl _ g z' e2 f7 n' cap h' e7 y R hm e5=>
   simp only[A5,aa0,x3,Blk.shp,j6,Shp.arr.injEq] at h';obtain⟨rfl,rfl,rfl,rfl⟩:=h';have f1:¬(z=true/\l=[]):=by rintro⟨q1,q2⟩;exact e7 q1 (by rw[q2];rfl)
   obtain⟨g',p,d9,hh,c8,K,d8⟩:=hH.arr' (b:=0) rfl f1;obtain rfl:g=g':=by
    rw[y] at d9;exact j8 d9
   have d0:p.size=cap:=by
    have:=e5;simp only[af2,hh,j6,aj9,true_and,y9] at this;exact this
   rw[y9] at c8;have hO:Els Γ.St w 1 l (p.toList.take l.length):=by
    refine⟨by rw[j7,x9 (xs:=p)];omega,λj x=>⟨K j x,λk N=>?_⟩⟩;obtain⟨U,e1,u⟩:=d8 j x k N;refine⟨U,?_,u⟩;have f9:k<1:=by rw[<-K j x];exact N
    rw[aa2,Q5];simpa using e1
   have F:(p.toList.take l.length).length=l.length:=by rw[j7,x9 (xs:=p)];omega
   have J:∀j v,(p.toList.take l.length)[j]? = some v->w.cell? ⟨g,0+j,none⟩=some v:=by
    intro j v x;have a7:j<l.length:=by
     have:=(ae2.1 x).1;omega
    rw[aa2,if_pos a7] at x;simpa[ae4,hh] using x
   have b5:∀v∈p.toList.take l.length,v.oneCell'=true:=by
    intro v hv;obtain⟨j,x,rfl⟩:=List.getElem_of_mem hv;have a7:j<l.length:=by omega
    obtain⟨_,u⟩:=hO.2 j a7;obtain⟨U,e1,u2⟩:=u 0 (by rw[K j a7];exact Nat.one_pos);rw[y9,ak8,ae6 x] at e1;cases e1;exact u2.oneCell
   have r:=JT l i d X;have hE:=JS (n:=d) hO X;have a0:∀j,j<cap->(w.cell? ⟨g,j,none⟩).isSome=true:=by
    intro j x;simp only[ae4,hh];rw[ae1 (by omega)];rfl
   have a9:∀j,w.frozen? ⟨g,j,none⟩=false:=λj=>by simp[ae8,hh]
   have e4:g1≠g:=λe=>by
    have:=hH.inj 1 0 g (by rw[<-e];exact n1) y;omega
   have e3:cap<=9223372036854775807:=by
    simp only[maxLen] at hm;omega
   by_cases L:l.length+1<=cap
   ·have key:∀(w':World) (row:List Value),w'.heap[g]? = some (.cells row.toArray 3 (0,0))->(∀k,k≠g->w'.heap[k]? = w.heap[k]?)->w'.heap.size=w.heap.size->w'.os=w.os->w'.tape=w.tape->w'.output=w.output->row.length=cap->
      (∀q,q<((p.toList.take l.length).take i++k9 .i64 d::(p.toList.take l.length).drop i).length->row.toArray[q]? = ((p.toList.take l.length).take i++k9 .i64 d::(p.toList.take l.length).drop i)[q]?)->
      Ef C I Γ [.arr z 3 1 l,.arr false 3 1 [[SV.int .i64 d]]] w Φ (.fl 0) [.arr z 3 1 (Mc l i d),.arr false 3 1 [[SV.int .i64 d]]] s (.slice (some ⟨g,0,none⟩) (l.length+1) cap) w':=by
     intro w' row k1 k2 k3 k4 k5 k6 k7 k8;have e9:¬ Γ.St g:=(hH.lt 0 g y).2.2;have:=LX (C:=C) (w':=w') (l':=Mc l i d) hI g cap ((p.toList.take l.length).take i++k9 .i64 d::(p.toList.take l.length).drop i) row.toArray c0 hH hi hd (.inl y) (by rw[k3];exact(hH.lt 0 g y).2.1) (λk N f0=>k2 k (λe=>f0 (e▸y))) (by omega) k4 k5 k6 k1
      (hE.mono (λk N=>k2 k (λe=>e9 (e▸N))) (λ_ h=>h)) (WE _ _ _) k8
      (by rw[p7,k7,j2,j0,j7,j4,F];omega) (by rw[r];exact L) hm (by rw[p7,k7])
     rw[r] at this;exact this
    by_cases b6:i=l.length
    ·subst b6;refine(Any2.slices_Insert_int_end_room Tryz.lays2_21 g 0 l.length cap g1 0 1 A [.int .i64 d] w (by omega) L e3 rfl (λj x=>a0 _ (by omega)) (λj x=>a9 _) t M).mono ?_;rintro e w' ⟨rfl,rfl⟩;refine⟨_,rfl,?_⟩;obtain⟨c1,c2,c3,c4,c5,c6⟩:=Cp (w:=w) (o:=0+l.length) (vs:=[k9 .i64 d]) hh (by rw[j9];omega) M;refine key _ _ c1 c2 c3 c4 c5 c6 (by rw[D6];simpa using d0) (λq hq=>?_);rw[ac4 (by omega),p5 (by omega)] at hq ⊢;rw[j2,F,j9] at hq;simp only[aa3];rw[N6 _ _ _ (by rw[j9,x9 (xs:=p)];omega)];by_cases f3:q<l.length
     ·rw[F7,aa8 (by omega),aa2,if_pos f3]
     ·obtain rfl:q=l.length:=by omega
      rw[if_pos (by rw[j9];omega),w6 (by omega),F];simp
    ·have W:i<l.length:=by omega
     refine(Any2.slices_Insert_int_shift Tryz.lays2_21 g 0 l.length cap i g1 0 1 A (p.toList.take l.length) [.int .i64 d] w W (by omega) L e3 e4 F rfl J (λj x=>a0 _ (by omega)) (λj x=>a9 _) t b5 M 3 3 c9.size p.size (by simp[af2,n2]) (by simp[af2,hh]) (by omega) (by simp[ae8,n2]) (by simp[ae8,n2])).mono ?_;rintro e w' ⟨rfl,rfl⟩;refine⟨_,rfl,?_⟩;obtain⟨c1,c2,c3,c4,c5,c6⟩:=Cp (w:=w.drew) (o:=0+(i+1)) (vs:=(p.toList.take l.length).drop i) hh (by rw[j4,F];omega) (λv hv=>b5 v (x5 hv));generalize f5:w.drew.setCells g (0+(i+1)) ((p.toList.take l.length).drop i)=w1 at *;have Q:(G1 p.toList (0+(i+1)) ((p.toList.take l.length).drop i)).toArray.size=cap:=by rw[p7,D6];simpa using d0
     obtain⟨d1,d2,d3,d4,d5,d6⟩:=Cp (w:=w1) (o:=0+i) (vs:=[k9 .i64 d]) c1 (by rw[Q,j9];omega) M;refine key _ _ d1 (λk N=>(d2 k N).trans (c2 k N)) (d3.trans c3) (d4.trans c4) (d5.trans c5) (d6.trans c6) (by rw[D6];simpa using Q) ?_;rw[ad8,ad8];exact e8 p _ F W (by omega) (λq hq=>by rw[aa2,Q5];simp)
   ·by_cases b6:i=l.length
    ·subst b6;exact B (some ⟨g,0,none⟩) cap (p.toList.take l.length) R (by omega) F (λh=>by cases h) (λa h j v x=>by
      obtain rfl:=j8 h;rw[N1];exact J j v x) hO
    ·exact P g cap _ (by omega) R (by omega) F J b5 hO
 ·cases G
end
section
open Go Go.Proofs
set_option maxRecDepth 100000
section
theorem Dj6:CD a8 GX 212 EL:=by
 refine Ga (C₀:=UL LF) (Uu (lx:=[(215,Oe),(213,Of)]) (ly:=[(236,RG),(237,TP)]) (ls:=[]) rfl rfl rfl ⟨Ar5,Ar6,trivial⟩ ⟨Dv3,Dv5,trivial⟩ trivial) (I6 rfl (by kernel_rfl)) follows ?_;intro args H ret o h;unfold EL at h;split at h
 ·rename_i a n i b c z l;obtain⟨d,h⟩:=C3 h;obtain⟨f,h⟩:=C3 h;obtain⟨g,h⟩:=C3 h;obtain⟨j,h⟩:=C3 h;obtain⟨k,h⟩:=C3 h;obtain⟨rfl,rfl⟩:=J4 h;refine⟨rfl,rfl,λZ m s=>?_⟩;have e:=(Ch3 LF m s 0 a n i b c z l).trans (Az5 a n i b c z l d f g j k);exact⟨1,_,e,rfl⟩
 ·cases h
theorem Dt4:B3 a8 GX 180 Cc6:=by
 refine B3.fix (pf:=SN) _ (J0 [1,0] (C₀:=Ag LF) (Uu (lx:=[(98,EM)]) (ly:=[(212,EL)]) (ls:=[]) rfl rfl rfl ⟨Bu1,trivial⟩ ⟨Dj6,trivial⟩ trivial) (I6 rfl (by kernel_rfl)) follows ?_);intro args ret c h;unfold SN at h;split at h
 ·rename_i s;obtain⟨a,h⟩:=C3 h;obtain⟨rfl,rfl⟩:=J4 h;obtain⟨r,H,e,b⟩:=C90 s a;exact⟨rfl,rfl,rfl,1,r,H,(C89 LF noY () 0 s).trans e,b⟩
 ·cases h
end
end
section
open Go Go.Proofs Go.Sort
set_option maxRecDepth 100000
theorem Cz6:B3 a8 GX 222 ZZ:=by
 refine B3.fix (pf:=Zj) _ (I7 (fn:=Tryz.f222) (by kernel_rfl) (by kernel_rfl) (by kernel_rfl) ?_);intro args ret l h;unfold Zj at h;split at h
 ·rename_i s;obtain⟨b,h⟩:=C3 h;obtain⟨rfl,rfl⟩:=J4 h;refine⟨rfl,rfl,λC n a o w m c g f=>?_⟩;obtain⟨U,rfl,j⟩:=f.arr1;obtain⟨k,rfl,rfl⟩:=j.inv_str;have i:=L3 b;refine(Any.utf8_ValidString Tryz.lays196 k w (by simp at i;omega) (C39 c a)).mono ?_;rintro e w' ⟨rfl,d⟩;rw[<-Bj0];exact⟨_,rfl,d,VP.mk_bool _⟩
 ·cases h
theorem Cz3:B3 a8 GX 223 ZX:=by
 refine B3.fix (pf:=Zh) _ (I7 (fn:=Tryz.f223) (by kernel_rfl) (by kernel_rfl) (by kernel_rfl) ?_);intro args ret j h;unfold Zh at h;split at h
 ·rename_i s;obtain⟨a,h⟩:=C3 h;obtain⟨rfl,rfl⟩:=J4 h;refine⟨rfl,rfl,λC m b n w k l d c=>?_⟩;obtain⟨U,rfl,g⟩:=c.arr1;obtain⟨i,rfl,rfl⟩:=g.inv_str;have f:=L3 a;refine(Any.utf8_RuneCountInString Tryz.lays195 i w (by simp at f;omega)).mono ?_;rintro e w' ⟨rfl,pos,rfl⟩;rw[Lib.runeCountL_eq];exact⟨_,rfl,Av6 _ _ _,VP.mk_int _ _⟩
 ·cases h
theorem Dg2:B3 a8 GX 178 Uw:=λargs ret a h=>by
 have:M5 (Uw args)=none:=by unfold Uw ZN;split<;>rfl
 rw[this] at h;cases h
theorem Dj7:Bk3 a8 GX 177 EN:=by
 refine Ao3 (C₀:=Av LF) ((M8.ok (l:=[(178,Uw),(179,HK)]) rfl ⟨Dg2,Bj7,trivial⟩)) (I6 rfl (by kernel_rfl)) follows ?_;intro args H L h Z a s d c;unfold EN at h;split at h
 ·rename_i p t n;simp only[j6,aj9] at h;obtain⟨b,rfl⟩:=h;obtain⟨e,f⟩:=Bg5 (R:=PV × List Blk × Z) a p t n s d b c;exact⟨1,_,(Cs7 LF a 0 p t n s).trans (f _)⟩
 ·cases h
end
section
open Go Go.Proofs
set_option maxRecDepth 100000
section
theorem Dh0:B3 a8 GX 141 Bk8:=xf [] (Lq LF) GF rfl ⟨Dt4,Cx8,trivial⟩ rfl (by kernel_rfl) follows λargs=>by
 unfold GF;split
 ·rename_i s;exact λa=>⟨rfl,rfl,rfl,_,_,(Ck5 LF noY () 0 s).trans (A35 s a),rfl⟩
 ·trivial
theorem Cx5:B3 a8 GX 104 SH:=xf [] (Td LF) SJ rfl ⟨Cw5,Dh0,trivial⟩ rfl (by kernel_rfl) follows λargs=>by
 unfold SJ;split
 ·rename_i s;exact λa=>⟨rfl,rfl,rfl,_,_,(C78 LF noY () 0 s).trans (B05 s a),rfl⟩
 ·trivial
theorem Dt3:B3 a8 GX 201 Cc4:=xf [0,0] (Ou LF) RX rfl ⟨Cz6,Cz3,Cx3,Cx8,Cx5,trivial⟩ rfl (by kernel_rfl) follows λargs=>by
 unfold RX;split
 ·rename_i s;exact λa=>(let⟨r,H,e,q⟩:=C66 s a;⟨rfl,rfl,rfl,r,H,(C65 LF noY () 0 s).trans e,q⟩)
 ·trivial
theorem Dt1:B3 a8 GX 220 Cc1:=xf [] (Jk LF) RN rfl trivial rfl (by kernel_rfl) follows λargs=>by
 unfold RN;split
 ·rename_i b;exact λa=>⟨rfl,rfl,rfl,_,_,(C48 LF noY () 0 b).trans (Bx6 b a),rfl⟩
 ·trivial
theorem Dt0:B3 a8 GX 198 Cc0:=xf [0,0] (Tb LF) RM rfl ⟨Dt1,trivial⟩ rfl (by kernel_rfl) follows λargs=>by
 unfold RM;split
 ·rename_i s;exact λa=>(let⟨r,H,e,q⟩:=C46 s a;⟨rfl,rfl,rfl,r,H,(C45 LF noY () 0 s).trans e,q⟩)
 ·trivial
theorem Dg5:B3 a8 GX 197 Bk5:=xf [0,0] (UM LF) FY rfl ⟨Dz1,trivial⟩ rfl (by kernel_rfl) follows λargs=>by
 unfold FY;split
 ·rename_i s;exact λa=>λb=>(let⟨r,H,e,q⟩:=Ci8 s a b;⟨rfl,rfl,rfl,r,H,(Ci7 LF noY () 0 s).trans e,q⟩)
 ·trivial
theorem Cw9:B3 a8 GX 164 ZP:=xf [0,0] (Gr LF) Yr rfl ⟨ZE,Dg5,Dt0,Dj4,QX,Dt6,Cb0,Dt3,Bu4,trivial⟩ rfl (by kernel_rfl) follows λargs=>by
 unfold Yr;split
 ·rename_i s;exact λa=>(let⟨r,H,e,q⟩:=Bx9 s a;⟨rfl,rfl,rfl,r,H,(Bx8 LF noY () 0 s).trans e,q⟩)
 ·trivial
theorem Dh2:B3 a8 GX 140 SE:=by
 refine B3.fix (pf:=GH) _ (Cq (C₀:=US LF) (M8.ok (l:=[]) rfl trivial) (I6 rfl (by kernel_rfl)) follows ?_);intro args ret a h;unfold GH at h;split at h
 ·rename_i t p n;obtain⟨rfl,rfl⟩:=J4 h;have e:=(Ck9 LF noY () 0 t p n).trans (A36 t p n );exact⟨rfl,1,_,[],e,rfl,rfl⟩
 ·cases h
theorem Du5:B3 a8 GX 103 Au2:=by
 refine B3.fix (pf:=TR) _ (Cq (C₀:=Ax7 LF) (M8.ok (l:=[(140,SE)]) rfl ⟨Dh2,trivial⟩) (I6 rfl (by kernel_rfl)) follows ?_);intro args ret a h;unfold TR at h;split at h
 ·rename_i t p;obtain⟨rfl,rfl⟩:=J4 h;have e:=(Dd5 LF noY () 0 t p).trans (B76 t p );exact⟨rfl,1,_,[],e,rfl,rfl⟩
 ·cases h
theorem Dm0:B3 a8 GX 65 Cc3:=by
 refine B3.fix (pf:=As6) _ (J0 [] (C₀:=Ot LF) (Uu (lx:=[(102,Qg),(103,Au2),(104,SH)]) (ly:=[]) (ls:=[(177,EN)]) rfl rfl rfl ⟨QX,Du5,Cx5,trivial⟩ trivial ⟨Dj7,trivial⟩) (I6 rfl (by kernel_rfl)) follows ?_);intro args ret c h;unfold As6 at h;split at h
 ·rename_i s;obtain⟨a,h⟩:=C3 h;obtain⟨rfl,rfl⟩:=J4 h;obtain⟨r,H,e,b⟩:=Do2 s a;exact⟨rfl,rfl,rfl,1,r,H,(Do1 LF noY () 0 s).trans e,b⟩
 ·cases h
theorem Bj5:B3 a8 GX 39 RS:=xf [] (Ax0 LF) RT rfl ⟨Dm0,trivial⟩ rfl (by kernel_rfl) follows λargs=>by
 unfold RT;split
 ·rename_i j k v4 a b c d f g h i;exact λl=>λm=>λn=>(let⟨r,H,e,q⟩:=Bp1 j k v4 a b c d f g h i l m n;⟨rfl,rfl,rfl,r,H,(C57 LF noY () 0 j k v4 a b c d f g h i).trans e,q⟩)
 ·trivial
theorem Cw8:B3 a8 GX 122 As5:=xf [] (Aw7 LF) RP rfl ⟨Bj5,Dy7,Dy9,trivial⟩ rfl (by kernel_rfl) follows λargs=>by
 unfold RP;split
 ·rename_i j k v4 a b c d f g h i;exact λl=>λm=>λn=>(let⟨r,H,e,q⟩:=C53 j k v4 a b c d f g h i l m n;⟨rfl,rfl,rfl,r,H,(C52 LF noY () 0 j k v4 a b c d f g h i).trans e,q⟩)
 ·trivial
theorem Ds9:B3 a8 GX 170 Cb9:=xf [] (Aw5 LF) RL rfl ⟨Dm0,Dt2,trivial⟩ rfl (by kernel_rfl) follows λargs=>by
 unfold RL;split
 ·rename_i p s;exact λa=>λb=>⟨rfl,rfl,rfl,_,_,(C44 LF noY () 0 p s).trans (Bx4 p s a b),rfl⟩
 ·trivial
end
end
section
open Go
structure U4 where
 sch:By
 user:By
 host:B4
 port:Int
 rest:By
def Ac:U4:=⟨[],[],L4,0,[]⟩
def Ik:By:=[104,116,116,112]
def Ey:By:=[104,116,116,112,115]
def bWs:By:=[119,115]
def ED:By:=[119,115,115]
def P5(s:By):Int:=if s==Ik||s==bWs then 80 else if s==Ey||s==ED then 443 else -1
def J3(s:By):Bool:=s==Ik||s==bWs||(s==Ey||s==ED)
def R1(s:By):Bool:=s==Ik||s==bWs
def ctl(b:UInt8):Bool:=y5 b.toNat 32||b==127
def Q2(b:UInt8):Bool:=(y5 97 b.toNat&&y5 b.toNat 122)||(y5 65 b.toNat&&y5 b.toNat 90)
def L2(b:UInt8):Bool:=Q2 b||(y5 48 b.toNat&&y5 b.toNat 57)||b==43||b==45||b==46
def T2:By->Bool
 | []=>false
 | b::r=>Q2 b&&r.all L2
def M3(b:UInt8):Bool:=b==47||b==63||b==35
def J1(s:By):Nat:=(s.takeWhile λb=>!M3 b).length
def Hg(c:UInt8):By->Option Nat
 | []=>none
 | b::r=>if b=c then some 0 else (Hg c r).map (· + 1)
def Hj:Int->By->Option Int
 | n,[]=>if n<65536 then some n else none
 | n,b::r=>if 48<=b.toNat/\b.toNat<=57 then Hj (min (10*max n 0+((b.toNat-48:Nat):Int)) 65536) r else none
def Em(a:By):Option (By × By):=
 if a.head? = some 91 then (match Hg 93 a with
  | some k=>some (a.take (k+1),a.drop (k+1))
  | none=>none)
 else match Hg 58 a with
  | some k=>some (a.take k,a.drop k)
  | none=>some (a,[])
def N2(c user b:By)(a:By):U4 × Nat:=
 match Em a with
 | none=>(Ac,4)
 | some (name,tail)=>
  if tail≠[]/\tail.head?≠some 58 then (Ac,4)
  else if (C1 name).2≠0 then (Ac,(C1 name).2)
  else match Hj (-1) (tail.drop 1) with
   | none=>(Ac,16)
   | some p=>(⟨c,user,(C1 name).1,if p=P5 c then -1 else p,b⟩,0)
def G2(c b a:By):U4 × Nat:=
 if 0<=K8 64 a then N2 c (a.take (K8 64 a).toNat) b (a.drop ((K8 64 a).toNat+1)) else N2 c [] b a
def R7(r:By):By:=if r.head? = some 47 then r else 47::r
def C2(s:By):U4 × Nat:=
 if s.any ctl then (Ac,4)
 else if !(x4 s [58]).2.2||!T2 (x4 s [58]).1 then (Ac,15)
 else if !J3 (B5 (x4 s [58]).1) then (⟨B5 (x4 s [58]).1,[],L4,-1,(x4 s [58]).2.1⟩,0)
 else if !([47,47]:By).isPrefixOf (x4 s [58]).2.1 then (Ac,4)
 else G2 (B5 (x4 s [58]).1) (R7 (((x4 s [58]).2.1.drop 2).drop (J1 ((x4 s [58]).2.1.drop 2)))) (((x4 s [58]).2.1.drop 2).take (J1 ((x4 s [58]).2.1.drop 2)))
def F8(s:By):U4 × Nat:=if 2048<s.length then (Ac,3) else C2 s
def V9(p:Int):By:=if p<0 then 45::ae5 (-p).toNat else ae5 p.toNat
def Ok(u:U4):By:=(if u.user=[] then [] else u.user++[64])++(U0 u.host++(if u.port=-1 then [] else 58::V9 u.port))
def Bv(u:U4):By:=if J3 u.sch then u.sch++58::47::47::(Ok u++u.rest) else u.sch++58::u.rest
def Cl5(b:Int)(c:By)(v4:Int)(a:List Nat):B4:=⟨if ltN b 4 then b.toNat else 4,c,v4.toNat,a⟩
def mkU(f g:By)(b:Int)(c:By)(v4:Int)(a:List Nat)(d:Int)(e:By):U4:=⟨f,g,Cl5 b c v4 a,d,e⟩
def smU(c d a b:By):Bool:=y5 c.length 100000000&&y5 d.length 100000000&&y5 a.length 100000000&&y5 b.length 100000000
def eqH(a b:B4):Bool:=a.kind==b.kind&&a.name==b.name&&a.v4==b.v4&&a.v6==b.v6
def eqU(a b:U4):Bool:=a.sch==b.sch&&a.user==b.user&&eqH a.host b.host&&a.port==b.port&&a.rest==b.rest
def Bf(u:U4):Bool:=(C2 (Bv u)).2==0&&eqU (C2 (Bv u)).1 u
def EG(u:U4):By:=if Bf u then Bv u else []
def prt(b:By)(a:Int):Int:=if a==-1 then P5 b else a
def upS(a:By):By:=if a==Ik then Ey else if a==bWs then ED else a
def upP(b:By)(a:Int):Int:=if R1 b&&a==443 then -1 else a
def EH:By->Int
 | s=>let rec go:Int->By->Int
   | n,[]=>n
   | n,b::r=>if 48<=b.toNat/\b.toNat<=57 then go (min (10*max n 0+((b.toNat-48:Nat):Int)) 65536) r else 0
  go (-1) s
def R6(s t:By):Nat:=(s.takeWhile λb=>!t.contains b).length
def Dv(s:By):By × By × Bool:=if (x4 s [58]).2.2&&T2 (x4 s [58]).1 then (B5 (x4 s [58]).1,(x4 s [58]).2.1,true) else ([],[],false)
def isl:By:=[47,63,35]
def AV(p:By):Bool:=p==isl
def MG(r:Int):Bool:=ltN r 55296||(ltI 57343 r&&ltN r 1114112)
def irn(r:Int):Int:=if r=47 then 0 else if r=63 then 1 else if r=35 then 2 else -1
def Ak(n:Int):Bool:=ltN (n+9223372036854775808) 18446744073709551616
abbrev uS(p:U4 × Nat):By:=p.1.sch
abbrev uU(p:U4 × Nat):By:=p.1.user
abbrev uK(p:U4 × Nat):Int:=p.1.host.kind
abbrev uN(p:U4 × Nat):By:=p.1.host.name
abbrev uV(p:U4 × Nat):Int:=p.1.host.v4
abbrev uA(p:U4 × Nat)(i:Nat):Int:=(p.1.host.v6.getD i 0:Nat)
abbrev uP(p:U4 × Nat):Int:=p.1.port
abbrev uR(p:U4 × Nat):By:=p.1.rest
abbrev uE(p:U4 × Nat):Int:=p.2
theorem MO(s:By):decide (0<P5 s)=J3 s:=by
 unfold P5 J3;cases (s==Ik||s==bWs) with
 | true=>rfl
 | false=>cases (s==Ey||s==ED)<;>rfl
theorem NI{s:By}(h:J3 s=true):s=Ik\/s=bWs\/s=Ey\/s=ED:=by simp only[J3,ab1,beq_iff_eq] at h;rcases h with(h|h)|(h|h)<;>simp[h]
theorem PA{c:UInt8}:∀{s:By},c∉s->Hg c s=none
 | [],_=>rfl
 | b::r,h=>by
  simp only[p4,not_or] at h;rw[Hg,if_neg (ah4 h.1),PA h.2];rfl
theorem Wg{c:UInt8}:∀{p:By} (r:By),c∉p->Hg c (p++c::r)=some p.length
 | [],r,_=>by rw[ab2,Hg,if_pos rfl];rfl
 | b::p,r,h=>by
  simp only[p4,not_or] at h;rw[ae9,Hg,if_neg (ah4 h.1),Wg r h.2];rfl
theorem Qu{c:UInt8}:∀{s:By} {k:Nat},Hg c s=some k->∃p r,s=p++c::r/\c∉p/\p.length=k
 | [],k,h=>by cases h
 | b::s,k,h=>by
  rw[Hg] at h;split at h
  ·rename_i a;obtain rfl:=j8 h;exact⟨[],s,by rw[a];rfl,by simp,rfl⟩
  ·rename_i a;cases d:Hg c s with
   | none=>rw[d] at h;cases h
   | some j=>
    rw[d] at h;obtain rfl:=j8 h;obtain⟨p,r,rfl,e,rfl⟩:=Qu d;exact⟨b::p,r,rfl,by simp only[p4,not_or];exact⟨ah4 a,e⟩,rfl⟩
theorem Mg{c:UInt8}:∀{s:By},c∉s->K8 c s=-1
 | [],_=>rfl
 | b::r,h=>by
  simp only[p4,not_or] at h;rw[K8,Mg h.2,if_pos (by decide),if_neg (ah4 h.1)]
theorem Qv{c:UInt8}:∀(p:By) {r:By},c∉r->K8 c (p++c::r)=(p.length:Int)
 | [],r,h=>by rw[ab2,K8,Mg h,if_pos (by decide),if_pos rfl];rfl
 | b::p,r,h=>by
  rw[ae9,K8,Qv p h,F7,j0];omega
theorem BB{c:UInt8}:∀{s:By},c∈s->∃p r,s=p++c::r/\c∉r
 | [],h=>by cases h
 | b::s,h=>by
  by_cases a:c∈s
  ·obtain⟨p,r,rfl,d⟩:=BB a;exact⟨b::p,r,rfl,d⟩
  ·simp only[p4,a,or_false] at h;subst h;exact⟨[],s,rfl,a⟩
theorem JX{c:UInt8}{s:By}(h:0<=K8 c s):∃p r,s=p++c::r/\c∉r/\K8 c s=(p.length:Int):=by
 by_cases b:c∈s
 ·obtain⟨p,r,rfl,a⟩:=BB b;exact⟨p,r,rfl,a,Qv p a⟩
 ·rw[Mg b] at h;omega
theorem B74{p:By}{r:By}(h:∀b∈p,M3 b=false)(d:∀b,r.head? = some b->M3 b=true):J1 (p++r)=p.length:=by
 unfold J1;have a:r.takeWhile (λb=>!M3 b)=[]:=by
  cases r with
  | nil=>rfl
  | cons b t=>rw[ad5,d b rfl];rfl
 rw[List.takeWhile_append_of_pos (λb c=>by rw[h b c];rfl),a,ad2]
theorem Bg0(s:By):∀b∈s.take (J1 s),M3 b=false:=by
 intro b a;have h:s.take (J1 s)=s.takeWhile λb=>!M3 b:=by
  unfold J1;exact(List.prefix_iff_eq_take.1 (List.takeWhile_prefix _)).symm
 rw[h] at a;have:∀l:By,b∈l.takeWhile (λb=>!M3 b)->M3 b=false:=by
  intro l
  induction l with
  | nil=>intro h;cases h
  | cons x l d=>
   intro h;rw[ad5] at h;split at h
   ·rename_i c;rcases p4.1 h with rfl|h
    ·simpa using c
    ·exact d h
   ·cases h
 exact this s a
theorem U9{b:UInt8}:Q2 b=true↔(97<=b.toNat/\b.toNat<=122)\/(65<=b.toNat/\b.toNat<=90):=by simp[Q2,ac9]
theorem Vi{b:UInt8}:ctl b=true↔b.toNat<=32\/b.toNat=127:=by
 unfold ctl;rw[ab1,ac9,beq_iff_eq];have:b=127↔b.toNat=127:=⟨λh=>by rw[h];rfl,λh=>ad3.1 h⟩
 rw[this]
theorem Es{b:UInt8}:L2 b=true↔(97<=b.toNat/\b.toNat<=122)\/(65<=b.toNat/\b.toNat<=90)\/(48<=b.toNat/\b.toNat<=57)\/b=43\/b=45\/b=46:=by simp only[L2,ab1,U9,o8,ac9,beq_iff_eq,or_assoc]
abbrev clU(a b:By)(k:Int)(n:By)(v c d e f g h i j p:Int)(r:By):List PV:=[.s (.str a),.s (.str b),.s (.int .i64 k),.s (.str n),.s (.int .u32 v),.s (.int .u16 c),.s (.int .u16 d),.s (.int .u16 e),.s (.int .u16 f),.s (.int .u16 g),.s (.int .u16 h),.s (.int .u16 i),.s (.int .u16 j),.s (.int .i64 p),.s (.str r)]
abbrev clH(k:Int)(n:By)(v c d e f g h i j:Int):List PV:=[.s (.int .i64 k),.s (.str n),.s (.int .u32 v),.s (.int .u16 c),.s (.int .u16 d),.s (.int .u16 e),.s (.int .u16 f),.s (.int .u16 g),.s (.int .u16 h),.s (.int .u16 i),.s (.int .u16 j)]
abbrev bU(a b:By)(k:Int)(n:By)(v c d e f g h i j p:Int)(r:By):Blk:=.box (clU a b k n v c d e f g h i j p r)
abbrev gU(a b:By)(k:Int)(n:By)(v c d e f g h i j p:Int)(r:By):PV:=.agg (clU a b k n v c d e f g h i j p r)
abbrev bH(k:Int)(n:By)(v c d e f g h i j:Int):Blk:=.box (clH k n v c d e f g h i j)
abbrev gH(k:Int)(n:By)(v c d e f g h i j:Int):PV:=.agg (clH k n v c d e f g h i j)
abbrev bCx(a b c d z t:Bool)(l:LL):Blk:=.box [.s (.bool a),.s (.bool b),.s (.bool c),.s (.bool d),.s (.sl z t 1 l)]
abbrev gCx(a b c d z t:Bool)(l:LL):PV:=.agg [.s (.bool a),.s (.bool b),.s (.bool c),.s (.bool d),.s (.sl z t 1 l)]
abbrev bCv(a:Int)(s:By)(b:Bool):Blk:=.box [.s (.int .i64 a),.s (.str s),.s (.bool b)]
abbrev gCv(a:Int)(s:By)(b:Bool):PV:=.agg [.s (.int .i64 a),.s (.str s),.s (.bool b)]
abbrev bU0:Blk:=bU [] [] 0 [] 0 0 0 0 0 0 0 0 0 0 []
abbrev bQ(p:U4 × Nat):Blk:=bU (uS p) (uU p) (uK p) (uN p) (uV p) (uA p 0) (uA p 1) (uA p 2) (uA p 3) (uA p 4) (uA p 5) (uA p 6) (uA p 7) (uP p) (uR p)
abbrev okQ(p:U4 × Nat):Bool:=ok8 (uA p 0) (uA p 1) (uA p 2) (uA p 3) (uA p 4) (uA p 5) (uA p 6) (uA p 7)
abbrev mkQ(b:By)(p:U4 × Nat)(a:Int):U4:=mkU b (uU p) (uK p) (uN p) (uV p) (n8 (uA p 0) (uA p 1) (uA p 2) (uA p 3) (uA p 4) (uA p 5) (uA p 6) (uA p 7)) a (uR p)
end
section
open Go Go.Proofs
set_option maxRecDepth 100000
section
def HS:List PV->Tr
 | [.s (.str s)]=>.ret (.s (.int .i64 (P5 s))) []
 | _=>.fail
def Va(args:List PV):Tr:=HS (C0 [[0]] args)
def HT:List PV->Tr
 | [.s (.str s)]=>.ret (.s (.bool (J3 s))) []
 | _=>.fail
def EO(args:List PV):Tr:=HT (C0 [[0]] args)
def TU:List PV->Tr
 | [.agg [.s (.str a),.s (.str n),.s (.int .i64 j),.s (.str k),.s (.int .u32 v4),.s (.int .u16 b),.s (.int .u16 c),.s (.int .u16 d),.s (.int .u16 e),.s (.int .u16 f),.s (.int .u16 g),.s (.int .u16 h),.s (.int .u16 i),.s (.int .i64 l),.s (.str m)]]=>.ret (.s (.bool (R1 a))) []
 | _=>.fail
def Au3(args:List PV):Tr:=TU (C0 [[0,0,0,0,0,0,0,0,0,0,0,0,0,0,0]] args)
def TX:List PV->Tr
 | [.s (.str s)]=>.need (A3 (b8 s)) (.ret (.s (.bool (T2 s))) [])
 | _=>.fail
def Ce0(args:List PV):Tr:=TX (C0 [[0]] args)
def TV:List PV->Tr
 | [.s (.str s)]=>.need (A3 (b8 s)) (.ret (.tup [.s (.int .i64 (EH s)),.s (.bool (aj8 (Hj ((-1):Int) s)))]) [])
 | _=>.fail
def Cd8(args:List PV):Tr:=TV (C0 [[0]] args)
def Zi:List PV->Tr
 | [.agg [.s (.str c),.s (.str e),.s (.int .i64 n),.s (.str o),.s (.int .u32 v4),.s (.int .u16 f),.s (.int .u16 g),.s (.int .u16 h),.s (.int .u16 i),.s (.int .u16 j),.s (.int .u16 k),.s (.int .u16 l),.s (.int .u16 m),.s (.int .i64 d),.s (.str b)],.s (.str a)]=>.need (A3 (b8 c)) (.need (A3 (b8 b)) (.need (A3 (b8 a)) (.need (List.isEmpty e) (.need (d==((-1):Int)) (.ret (.tup [.agg [.s (.str (uS (G2 c b a))),.s (.str (uU (G2 c b a))),.s (.int .i64 (uK (G2 c b a))),.s (.str (uN (G2 c b a))),.s (.int .u32 (uV (G2 c b a))),.s (.int .u16 (uA (G2 c b a) 0)),.s (.int .u16 (uA (G2 c b a) 1)),.s (.int .u16 (uA (G2 c b a) 2)),.s (.int .u16 (uA (G2 c b a) 3)),.s (.int .u16 (uA (G2 c b a) 4)),.s (.int .u16 (uA (G2 c b a) 5)),.s (.int .u16 (uA (G2 c b a) 6)),.s (.int .u16 (uA (G2 c b a) 7)),.s (.int .i64 (uP (G2 c b a))),.s (.str (uR (G2 c b a)))],.s (.int .i64 (uE (G2 c b a)))]) [])))))
 | _=>.fail
def ZY(args:List PV):Tr:=Zi (C0 [[0,0,0,0,0,0,0,0,0,0,0,0,0,0,0],[0]] args)
def TW:List PV->Tr
 | [.s (.str s)]=>.need (A3 (b8 s)) (.ret (.tup [.agg [.s (.str (uS (C2 s))),.s (.str (uU (C2 s))),.s (.int .i64 (uK (C2 s))),.s (.str (uN (C2 s))),.s (.int .u32 (uV (C2 s))),.s (.int .u16 (uA (C2 s) 0)),.s (.int .u16 (uA (C2 s) 1)),.s (.int .u16 (uA (C2 s) 2)),.s (.int .u16 (uA (C2 s) 3)),.s (.int .u16 (uA (C2 s) 4)),.s (.int .u16 (uA (C2 s) 5)),.s (.int .u16 (uA (C2 s) 6)),.s (.int .u16 (uA (C2 s) 7)),.s (.int .i64 (uP (C2 s))),.s (.str (uR (C2 s)))],.s (.int .i64 (uE (C2 s)))]) [])
 | _=>.fail
def Cd9(args:List PV):Tr:=TW (C0 [[0]] args)
def HU:List PV->Tr
 | [.agg [.s (.str l),.s (.str m),.s (.int .i64 n),.s (.str i),.s (.int .u32 v4),.s (.int .u16 a),.s (.int .u16 b),.s (.int .u16 c),.s (.int .u16 d),.s (.int .u16 e),.s (.int .u16 f),.s (.int .u16 g),.s (.int .u16 h),.s (.int .i64 j),.s (.str k)]]=>.need (smU l m i k) (.need (ltN v4 4294967296) (.need (ok8 a b c d e f g h) (.need (Ak j) (.ret (.s (.str (Bv (mkU l m n i v4 (n8 a b c d e f g h) j k)))) []))))
 | _=>.fail
def TY(args:List PV):Tr:=HU (C0 [[0,0,0,0,0,0,0,0,0,0,0,0,0,0,0]] args)
def Sp:List PV->Tr
 | [.agg [.s (.str l),.s (.str m),.s (.int .i64 n),.s (.str i),.s (.int .u32 v4),.s (.int .u16 a),.s (.int .u16 b),.s (.int .u16 c),.s (.int .u16 d),.s (.int .u16 e),.s (.int .u16 f),.s (.int .u16 g),.s (.int .u16 h),.s (.int .i64 j),.s (.str k)]]=>.need (smU l m i k) (.need (ltN v4 4294967296) (.need (ok8 a b c d e f g h) (.need (Ak j) (.ret (.s (.bool (Bf (mkU l m n i v4 (n8 a b c d e f g h) j k)))) []))))
 | _=>.fail
def Qk(args:List PV):Tr:=Sp (C0 [[0,0,0,0,0,0,0,0,0,0,0,0,0,0,0]] args)
def TT:List PV->Tr
 | [.agg [.s (.str l),.s (.str m),.s (.int .i64 n),.s (.str i),.s (.int .u32 v4),.s (.int .u16 a),.s (.int .u16 b),.s (.int .u16 c),.s (.int .u16 d),.s (.int .u16 e),.s (.int .u16 f),.s (.int .u16 g),.s (.int .u16 h),.s (.int .i64 j),.s (.str k)]]=>.need (smU l m i k) (.need (ltN v4 4294967296) (.need (ok8 a b c d e f g h) (.need (Ak j) (.ret (.s (.str (EG (mkU l m n i v4 (n8 a b c d e f g h) j k)))) []))))
 | _=>.fail
def Cd7(args:List PV):Tr:=TT (C0 [[0,0,0,0,0,0,0,0,0,0,0,0,0,0,0]] args)
def Ce2:List PV->Tr
 | [.agg [.s (.str a),.s (.str n),.s (.int .i64 j),.s (.str k),.s (.int .u32 v4),.s (.int .u16 b),.s (.int .u16 c),.s (.int .u16 d),.s (.int .u16 e),.s (.int .u16 f),.s (.int .u16 g),.s (.int .u16 h),.s (.int .u16 i),.s (.int .i64 l),.s (.str m)]]=>.ret (.agg [.s (.str (upS a)),.s (.str n),.s (.int .i64 j),.s (.str k),.s (.int .u32 v4),.s (.int .u16 b),.s (.int .u16 c),.s (.int .u16 d),.s (.int .u16 e),.s (.int .u16 f),.s (.int .u16 g),.s (.int .u16 h),.s (.int .u16 i),.s (.int .i64 (upP a l)),.s (.str m)]) []
 | _=>.fail
def Ce1(args:List PV):Tr:=Ce2 (C0 [[0,0,0,0,0,0,0,0,0,0,0,0,0,0,0]] args)
def Zd:List PV->Tr
 | [.s (.str s)]=>.ret (.s (.bool (J3 s))) []
 | _=>.fail
def ZT(args:List PV):Tr:=Zd (C0 [[0]] args)
def HJ:List PV->Tr
 | [.s (.str s)]=>.ret (.s (.int .i64 (P5 s))) []
 | _=>.fail
def Bm5(args:List PV):Tr:=HJ (C0 [[0]] args)
def HE:List PV->Tr
 | [.s (.str s),.s (.str t)]=>.need (A3 (b8 s)) (.need (A3 (b8 t)) (.ret (.s (.int .i64 (↑(R6 s t):Int))) []))
 | _=>.fail
def Bm2(args:List PV):Tr:=HE (C0 [[0],[0]] args)
def HH:List PV->Tr
 | [.s (.str s)]=>.need (A3 (b8 s)) (.ret (.tup [.s (.str ((Dv s)).1),.s (.str (((Dv s)).2).1),.s (.bool (((Dv s)).2).2)]) [])
 | _=>.fail
def Bm4(args:List PV):Tr:=HH (C0 [[0]] args)
def HG:List PV->Tr
 | [.s (.str s)]=>.need (A3 (b8 s)) (.ret (.tup [.agg [.s (.str (uS (C2 s))),.s (.str (uU (C2 s))),.s (.int .i64 (uK (C2 s))),.s (.str (uN (C2 s))),.s (.int .u32 (uV (C2 s))),.s (.int .u16 (uA (C2 s) 0)),.s (.int .u16 (uA (C2 s) 1)),.s (.int .u16 (uA (C2 s) 2)),.s (.int .u16 (uA (C2 s) 3)),.s (.int .u16 (uA (C2 s) 4)),.s (.int .u16 (uA (C2 s) 5)),.s (.int .u16 (uA (C2 s) 6)),.s (.int .u16 (uA (C2 s) 7)),.s (.int .i64 (uP (C2 s))),.s (.str (uR (C2 s)))],.s (.int .i64 (uE (C2 s)))]) [])
 | _=>.fail
def Bm3(args:List PV):Tr:=HG (C0 [[0]] args)
def Sm:List PV->Tr
 | [.s (.str s)]=>.need (A3 (b8 s)) (.ret (.tup [.agg [.s (.str (uS (F8 s))),.s (.str (uU (F8 s))),.s (.int .i64 (uK (F8 s))),.s (.str (uN (F8 s))),.s (.int .u32 (uV (F8 s))),.s (.int .u16 (uA (F8 s) 0)),.s (.int .u16 (uA (F8 s) 1)),.s (.int .u16 (uA (F8 s) 2)),.s (.int .u16 (uA (F8 s) 3)),.s (.int .u16 (uA (F8 s) 4)),.s (.int .u16 (uA (F8 s) 5)),.s (.int .u16 (uA (F8 s) 6)),.s (.int .u16 (uA (F8 s) 7)),.s (.int .i64 (uP (F8 s))),.s (.str (uR (F8 s)))],.s (.int .i64 (uE (F8 s)))]) [])
 | _=>.fail
def Kc(args:List PV):Tr:=Sm (C0 [[0]] args)
def HF:List PV->Tr
 | [.agg [.s (.str a),.s (.str n),.s (.int .i64 j),.s (.str k),.s (.int .u32 v4),.s (.int .u16 b),.s (.int .u16 c),.s (.int .u16 d),.s (.int .u16 e),.s (.int .u16 f),.s (.int .u16 g),.s (.int .u16 h),.s (.int .u16 i),.s (.int .i64 l),.s (.str m)]]=>.ret (.s (.bool (R1 a))) []
 | _=>.fail
def TG(args:List PV):Tr:=HF (C0 [[0,0,0,0,0,0,0,0,0,0,0,0,0,0,0]] args)
def Dj9:List PV->Tr
 | [.s (.int .i64 n)]=>.need (ltN n 9223372036854775808) (.ret (.s (.str (ae5 (Int.toNat n)))) [])
 | _=>.fail
def GC:List PV->Tr
 | [.s (.int .i64 n)]=>.need (Ak n) (.ret (.s (.str (V9 n))) [])
 | _=>.fail
def Bk6(args:List PV):Tr:=GC (C0 [[0]] args)
def HL:List PV->Tr
 | [.s (.str s),.s (.int .u8 c)]=>.need (A3 (b8 s)) (.need (inR c 256) (.ret (.s (.int .i64 (o5 s (u8n c)))) []))
 | _=>.fail
def Uy(args:List PV):Tr:=HL (C0 [[0],[0]] args)
def GI:List PV->Tr
 | [.s (.str s),.s (.str p)]=>.need (A3 (b8 s)) (.ret (.s (.str (Ha s p))) [])
 | _=>.fail
def Bk9(args:List PV):Tr:=GI (C0 [[0],[0]] args)
def TS:List PV->Tr
 | [.s (.str s),.s (.str p)]=>.need (A3 (b8 s)) (.ret (.s (.str (Ha s p))) [])
 | _=>.fail
def Cd5(args:List PV):Tr:=TS (C0 [[0],[0]] args)
def ZU:List PV->Tr
 | [.s (.str s),.s (.str p)]=>.need (A3 (b8 s)) (.need (AV p) (.ret (.s (.int .i64 (aa7 s p))) []))
 | _=>.fail
def TO(args:List PV):Tr:=ZU (C0 [[0],[0]] args)
def EP:List PV->Tr
 | [.agg [.s (.str a),.s (.str n),.s (.int .i64 j),.s (.str k),.s (.int .u32 v4),.s (.int .u16 b),.s (.int .u16 c),.s (.int .u16 d),.s (.int .u16 e),.s (.int .u16 f),.s (.int .u16 g),.s (.int .u16 h),.s (.int .u16 i),.s (.int .i64 l),.s (.str m)]]=>.need (R1 a) (.ret (.agg [.s (.str (upS a)),.s (.str n),.s (.int .i64 j),.s (.str k),.s (.int .u32 v4),.s (.int .u16 b),.s (.int .u16 c),.s (.int .u16 d),.s (.int .u16 e),.s (.int .u16 f),.s (.int .u16 g),.s (.int .u16 h),.s (.int .u16 i),.s (.int .i64 (upP a l)),.s (.str m)]) [])
 | _=>.fail
def Ce3(args:List PV):Tr:=EP (C0 [[0,0,0,0,0,0,0,0,0,0,0,0,0,0,0]] args)
def EQ:List PV->Tr
 | [.agg [.s (.str a),.s (.str n),.s (.int .i64 j),.s (.str k),.s (.int .u32 v4),.s (.int .u16 b),.s (.int .u16 c),.s (.int .u16 d),.s (.int .u16 e),.s (.int .u16 f),.s (.int .u16 g),.s (.int .u16 h),.s (.int .u16 i),.s (.int .i64 l),.s (.str m)]]=>.need (not (R1 a)) (.ret (.agg [.s (.str a),.s (.str n),.s (.int .i64 j),.s (.str k),.s (.int .u32 v4),.s (.int .u16 b),.s (.int .u16 c),.s (.int .u16 d),.s (.int .u16 e),.s (.int .u16 f),.s (.int .u16 g),.s (.int .u16 h),.s (.int .u16 i),.s (.int .i64 l),.s (.str m)]) [])
 | _=>.fail
def Ce4(args:List PV):Tr:=EQ (C0 [[0,0,0,0,0,0,0,0,0,0,0,0,0,0,0]] args)
def Qi:List PV->Tr
 | [.s (.str s),.s (.str p)]=>.need (A3 (b8 s)) (.need (AV p) (.need (y5 9 (b8 s)) (.ret (.s (.int .i64 (aa7 s p))) [])))
 | _=>.fail
def ZV(args:List PV):Tr:=Qi (C0 [[0],[0]] args)
def Qj:List PV->Tr
 | [.s (.str s),.s (.str p)]=>.need (AV p) (.need (y5 (b8 s) 8) (.ret (.s (.int .i64 (aa7 s p))) []))
 | _=>.fail
def ZW(args:List PV):Tr:=Qj (C0 [[0],[0]] args)
def Sn:List PV->Tr
 | [.s (.int .i64 n)]=>.ret (.s (.bool (ltI (8:Int) n))) []
 | _=>.fail
def Zf(args:List PV):Tr:=Sn (C0 [[0]] args)
def Ze:List PV->Tr
 | [.s (.str p),.s (.int .i32 r)]=>.need (AV p) (.need (ltN r 1114112) (.ret (.s (.int .i64 (irn r))) []))
 | _=>.fail
def HM(args:List PV):Tr:=Ze (C0 [[0],[0]] args)
def NR:List PV->Tr
 | [.s (.str s)]=>.fail
 | _=>.fail
def Oh(args:List PV):Tr:=NR (C0 [[0]] args)
def Zk:List PV->Tr
 | [.s (.int .i32 r)]=>.ret (.s (.bool (MG r))) []
 | _=>.fail
def HV(args:List PV):Tr:=Zk (C0 [[0]] args)
end
section
variable {Z R : Type} (L : Nat) (Q : G0) (Y : Yh Z) (s : Z) (k : Out -> St Z -> Option R)
noncomputable def UT(L:Nat):Cfg:=B7 L [203] (A2 []) [(163,RZ)] (A2 [(3,[4]),(2,[4]),(1,[0,0,5]),(0,[0,0])]) [163] (A2 []) (some [4]) [] [] []
noncomputable def Bq3{R:Type}(L:Nat)(b a:By)(d:By->Option R):Option R:=cond (A3 b.length) (cond (p9 a b) (cond (I9 (a.length:Int) (b.length:Int) b.length) (vl (cut b (a.length:Int) (b.length:Int)) λc=>d c) none) (d b)) none
theorem Cl0(d:Nat)(s0 prefix1):evC (UT L) (d+1) Z Y 203 [pS s0,pS prefix1] [] s=Bq3 L s0 prefix1 (λa=>some (pS a,[],s)):=by refine(evE (fn:=Tryz.f203) (by kernel_rfl)).trans ?_;generalize evC (UT L) d=Q;unfold Bq3;kernel_rfl
noncomputable def Ax8(L:Nat):Cfg:=B7 L [166] (A2 []) [(203,Bk9)] (A2 [(1,[4]),(0,[0,0])]) [203] (A2 []) (some [4]) [] [] []
noncomputable def Dd9{R:Type}(L:Nat)(b a:By)(c:By->Option R):Option R:=cond (A3 b.length) (c (Ha b a)) none
theorem De0(d:Nat)(s0 prefix1):evC (Ax8 L) (d+1) Z Y 166 [pS s0,pS prefix1] [] s=Dd9 L s0 prefix1 (λa=>some (pS a,[],s)):=by refine(evE (fn:=Tryz.f166) (by kernel_rfl)).trans ?_;generalize evC (Ax8 L) d=Q;unfold Dd9;kernel_rfl
noncomputable def VG(L:Nat):Cfg:=B7 L [124] (A2 []) [] (A2 [(8,[2]),(4,[2]),(7,[2]),(6,[7]),(5,[3,3]),(3,[3,0]),(2,[3,0]),(1,[3]),(0,[0])]) [] (A2 [(0,[])]) (some [2]) [] [] []
noncomputable def Bt5{R:Type}(L:Nat)(a:By)(b:Int->Option R):Option R:=cond (a==[104,116,116,112]) (cond (a==[104,116,116,112]) (b 80) (cond (a==[104,116,116,112,115]) (cond (a==[104,116,116,112,115]) (b 443) (b (-1))) (cond (a==[119,115,115]) (b 443) (b (-1))))) (cond (a==[119,115]) (b 80) (cond (a==[104,116,116,112,115]) (cond (a==[104,116,116,112,115]) (b 443) (b (-1))) (cond (a==[119,115,115]) (b 443) (b (-1)))))
theorem Cu8(d:Nat)(scheme0):evC (VG L) (d+1) Z Y 124 [pS scheme0] [] s=Bt5 L scheme0 (λa=>some (pI a,[],s)):=by refine(evE (fn:=Tryz.f124) (by kernel_rfl)).trans ?_;generalize evC (VG L) d=Q;unfold Bt5;kernel_rfl
noncomputable def VH(L:Nat):Cfg:=B7 L [117] (A2 []) [(124,Va)] (A2 [(1,[2]),(0,[0])]) [124] (A2 []) (some [2]) [] [] []
noncomputable def Bt6{R:Type}(L:Nat)(a:By)(b:Bool->Option R):Option R:=b (ltI 0 (P5 a))
theorem Cv1(d:Nat)(scheme0):evC (VH L) (d+1) Z Y 117 [pS scheme0] [] s=Bt6 L scheme0 (λa=>some (pB a,[],s)):=by refine(evE (fn:=Tryz.f117) (by kernel_rfl)).trans ?_;generalize evC (VH L) d=Q;unfold Bt6;kernel_rfl
noncomputable def Ay0(L:Nat):Cfg:=B7 L [84] (A2 []) [(124,Va)] (A2 [(1,[2]),(0,[1])]) [124] (A2 []) (some [2]) [] [] []
noncomputable def Dq9{R:Type}(L:Nat)(f h:By)(i:Int)(j:By)(l m n o u8 p a b c d:Int)(e:By)(g:Bool->(List Blk)->Option R):Option R:=g ((P5 f)==80) [(bU f h i j l m n o u8 p a b c d e)]
theorem De5(d:Nat)(u0 u1 u2 u3 u4 u5 u6 u7 u8 u9 u10 u11 u12 u13 u14):evC (Ay0 L) (d+1) Z Y 84 [(gU u0 u1 u2 u3 u4 u5 u6 u7 u8 u9 u10 u11 u12 u13 u14)] [] s=Dq9 L u0 u1 u2 u3 u4 u5 u6 u7 u8 u9 u10 u11 u12 u13 u14 (λb a=>some (pB b,a,s)):=by refine(evE (fn:=Tryz.f84) (by kernel_rfl)).trans ?_;generalize evC (Ay0 L) d=Q;unfold Dq9;kernel_rfl
noncomputable abbrev Oo:Code:=C8 ai3
noncomputable def Aj(L:Nat):Cfg:=B7 L [115] (A2 [(2,[0,1,4,0])]) [(157,Uy)] (A2 [(9,[2]),(8,[0,6,0]),(7,[2]),(6,[0,6,0,29]),(5,[0,2,0,0,1,0]),(4,[0,2,0,2,0]),(3,[0,2,3,0]),(2,[0,6,0,0]),(1,[0,6,0]),(0,[0])]) [157] (A2 [(0,[0]),(1,[0,6,0])]) (some [2]) [] [] []
noncomputable def FP{R:Type}(d:By)(a c:Int)(b:By->Int->Int->Option R):Option R:=b d c a
abbrev BX(b:Code):Prop:=∀(k:Out->St Z->Option R) a i1 b2 n3,A9 (Aj L) Q Y b ⟨gp [(0,pS a),(2,pI i1),(0,p8 b2),(0,pB true),(1,pI n3),(0,pI i1)] 33,[],s⟩ k=FP a i1 n3 (λa c d=>k .normal ⟨gp [(0,pS a),(6,pI c),(0,pI d),(29,pB false)] 3,[],s⟩)
theorem Bi1:BX (R:=R) L Q Y s (cd [1,0,1,0,0,1,1,0,0,1,1,1] Oo):=by intro k d b a c;unfold FP;kernel_rfl
noncomputable def Fy{R:Type}(h:By)(c d:Int)(a:Bool)(g:Int)(e:Unit->Option R)(f:By->Int->Int->Bool->Option R):Option R:=cond (not a) (cond (c==0) (e ()) (cond (inR d 256) (vl (o5 ([48,49,50,51,52,53,54,55,56,57,43,45,46]:List UInt8) (u8n d)) λb=>cond (ltI b 0) (e ()) (f h g c (ltI b 0))) none)) (f h g c false)
abbrev BY(b:Code):Prop:=∀(k:Out->St Z->Option R) a i1 b2 letter3 n4,A9 (Aj L) Q Y b ⟨gp [(0,pS a),(2,pI i1),(0,p8 b2),(0,pB letter3),(1,pI n4),(0,pI i1)] 33,[],s⟩ k=Fy a i1 b2 letter3 n4 (λ_=>k .ret ⟨gp [(2,pB false)] 39,[],s⟩) (λa d e c=>k .normal ⟨gp [(0,pS a),(6,pI d),(0,pI e),(29,pB c)] 3,[],s⟩)
theorem Bi2:BY (R:=R) L Q Y s (cd [1,0,1,0,0,1,1,0,0,1,1,1] Oo):=by intro k e c b a d;unfold Fy;kernel_rfl
noncomputable def O2{R:Type}(L n:Nat)(b:By)(e a:Int)(c:Unit->Option R)(d:By->Option R):Option R:=match n with|0=>none|n+1=>cond (ltI a e) (cond (inR a b.length) (cond (not (ltI (bAt b a) (97:Int))) (cond (not (ltI 122 (bAt b a))) (FP b a e (λx r t=>O2 L n x r (A1 (t+1)) c d)) (cond (not (ltI (bAt b a) (65:Int))) (Fy b a (bAt b a) (not (ltI 90 (bAt b a))) e (λ_=>c ()) (λy u v D=>O2 L n y u (A1 (v+1)) c d)) (Fy b a (bAt b a) false e (λ_=>c ()) (λz w f A=>vl (A1 (f+1)) λg=>O2 L n z w g c d)))) (cond (not (ltI (bAt b a) (65:Int))) (Fy b a (bAt b a) (not (ltI 90 (bAt b a))) e (λ_=>c ()) (λp h i B=>vl (A1 (i+1)) λj=>O2 L n p h j c d)) (Fy b a (bAt b a) false e (λ_=>c ()) (λq l m C=>vl (A1 (m+1)) λo=>O2 L n q l o c d)))) none) (d b)
theorem Bi3(a:Code)(d:BX (R:=R) L Q Y s a)(b:BY (R:=R) L Q Y s a)(n:Nat)(c:By)(f e:Int):D0 0 ((Aj L).keep 2) (bd (Aj L) Q Y (cd [1,0,1,0,0] (G4 [1,0,1,0,0,1,1,0,0,1,1,1] a Oo))) n ⟨gp [(0,pS c),(6,pI f),(0,pI e)] 33,[],s⟩ k =
 O2 L n c f e (λ_=>k .ret ⟨gp [(2,pB false)] 39,[],s⟩) (λc=>k (.exit 0) ⟨gp [(0,pS c)] 41,[],s⟩):=by
 induction n generalizing c f e with
 | zero=>rfl
 | succ n h=>rw[O2];exact let g:=(E5 1 (E4 (Aj L) Q Y (cd [1,0,1,0,0,1,1,1] Oo) (lpK 0 ((Aj L).keep 2) (bd (Aj L) Q Y (cd [1,0,1,0,0] (G4 [1,0,1,0,0,1,1,0,0,1,1,1] a Oo))) n k)));(o7 (by kernel_rfl) (A0 (A0 (A0 (A0 ((d g c e (bAt c e) f).trans (congr rfl (fx3 λx r t=>(o7 (by kernel_rfl) (h x r (A1 (t+1))))))) (A0 ((b g c e (bAt c e) (not (ltI 90 (bAt c e))) f).trans (congr (congr rfl (by kernel_rfl)) (fx4 λy u v H=>(o7 (by kernel_rfl) (h y u (A1 (v+1))))))) ((b g c e (bAt c e) false f).trans (congr (congr rfl (by kernel_rfl)) (fx4 λz w D A=>(o7 (by kernel_rfl) (A4 λi=>(h z w i)))))))) (A0 ((b g c e (bAt c e) (not (ltI 90 (bAt c e))) f).trans (congr (congr rfl (by kernel_rfl)) (fx4 λp j F B=>(o7 (by kernel_rfl) (A4 λl=>(h p j l)))))) ((b g c e (bAt c e) false f).trans (congr (congr rfl (by kernel_rfl)) (fx4 λq m G C=>(o7 (by kernel_rfl) (A4 λo=>(h q m o)))))))) rfl) rfl))
noncomputable def Cv0{R:Type}(L:Nat)(c:By)(b:Bool->Option R):Option R:=O2 L L c (c.length:Int) 0 (λ_=>b false) (λa=>b (not (a==[])))
theorem Df1(a:Code)(b:BX (R:=PV × List Blk × Z) L Q Y s a)(c:BY (R:=PV × List Blk × Z) L Q Y s a)(d:By):A9 (Aj L) Q Y (cd [] (G4 [1,0,1,0,0,1,1,0,0,1,1,1] a Oo)) ⟨[pS d]++tps 41,[],s⟩ (F6 (Aj L) ai3)=Cv0 L d (λe=>some (pB e,[],s)):=by unfold Cv0;exact(o7 (by kernel_rfl) ((Bi3 L Q Y s (E5 0 (E4 (Aj L) Q Y (cd [1,1] Oo) (F6 (Aj L) ai3))) a b c L d (d.length:Int) 0).trans (by kernel_rfl)))
theorem Df2(d:Nat)(s0):evC (Aj L) (d+1) Z Y 115 [pS s0] [] s=Cv0 L s0 (λa=>some (pB a,[],s)):=
 (evE (fn:=ai3) (by kernel_rfl)).trans (o7 (by kernel_rfl) (Df1 L (evC (Aj L) d) Y s (cd [1,0,1,0,0,1,1,0,0,1,1,1] Oo) (Bi1 L (evC (Aj L) d) Y s) (Bi2 L (evC (Aj L) d) Y s) s0))
noncomputable abbrev Cf7:Code:=C8 ak1
noncomputable def Tk(L:Nat):Cfg:=B7 L [165] (A2 [(3,[0,1,0,0,2,0])]) [] (A2 [(9,[2,0]),(8,[0,3,2,0]),(7,[0,3,2,0]),(6,[2,0]),(5,[0,3,0,1,0,11]),(4,[0,3,0,1,0]),(3,[0,3,2,0,0]),(2,[0,3,2,0]),(1,[0,3]),(0,[0])]) [] (A2 [(0,[4]),(1,[0,3,2,0])]) (some [2,0]) [] [] []
noncomputable def Nf{R:Type}(L n:Nat)(b:By)(h j a:Int)(d:Unit->Option R)(i:Int->Option R):Option R:=match n with|0=>none|n+1=>cond (ltI a j) (cond (inR a b.length) (cond (ltI (bAt b a) (48:Int)) (d ()) (cond (inR a b.length) (cond (ltI 57 (bAt b a)) (d ()) (vl (A1 ((10:Int)*(if ((0:Int) > h) then (0:Int) else h))) λe=>cond (inR a b.length) (vl (wu8 ((bAt b a)-48)) λf=>vl (A1 (e+(A1 f))) λc=>vl (if ((65536:Int)<c) then (65536:Int) else c) λg=>Nf L n b g j (A1 (a+1)) d i) none)) none)) none) (i h)
theorem Bh6(n s0 n1 n2 n3):D0 0 ((Tk L).keep 3) (bd (Tk L) Q Y (cd [1,1,0,1,0,0] Cf7)) n ⟨gp [(0,pS s0),(3,pI n1),(2,pI n2),(0,pI n3)] 26,[],s⟩ k =
 Nf L n s0 n1 n2 n3 (λ_=>k .ret ⟨gp [(2,pI (0:Int)),(0,pB false)] 31,[],s⟩) (λn0=>k (.exit 0) ⟨gp [(4,pI n0)] 30,[],s⟩):=by
 induction n generalizing s0 n1 n2 n3 with
 | zero=>rfl
 | succ n a=>rw[Nf];simp only[<-a];kernel_rfl
noncomputable def De7{R:Type}(L:Nat)(c:By)(b:Int->Bool->Option R):Option R:=Nf L L c (-1) (c.length:Int) 0 (λ_=>b 0 false) (λa=>b a (ltI a 65536))
theorem De8(d:Nat)(s0):evC (Tk L) (d+1) Z Y 165 [pS s0] [] s=De7 L s0 (λa b=>some (.tup [pI a,pB b],[],s)):=by refine(evE (fn:=ak1) (by kernel_rfl)).trans ?_;generalize evC (Tk L) d=Q;unfold De7;exact(o7 (by kernel_rfl) ((Bh6 L Q Y s (E5 0 (E4 (Tk L) Q Y (cd [1,1,1] Cf7) (F6 (Tk L) ak1))) L s0 (-1) (s0.length:Int) 0).trans (by kernel_rfl)))
noncomputable abbrev Cb:Code:=C8 ai5
noncomputable def Y1(L:Nat):Cfg:=B7 L [121] (A2 []) [(98,EM),(120,FZ),(157,Uy),(164,ZP),(166,Cd5),(165,Cd8),(124,Va)] (A2 [(24,[4,0]),(23,[2,1]),(22,[2,1,8,71]),(21,[2,1,8]),(20,[4,0]),(19,[2,1,6,1,63]),(18,[2,1,6,1,0]),(17,[4,0]),(16,[2,1,3,2,0,54]),(15,[2,1,3,2,0]),(14,[4,0]),(13,[2,1,2,0,50]),(9,[2,1,2,0]),(8,[4,0]),(7,[1,0,1,4,23]),(6,[1,0,1,4]),(12,[2,1,2,0]),(11,[1,0,1,2,0,1,35]),(10,[1,0,1,2,0,1]),(5,[1,0,1,2,0,20]),(4,[1,0,1,2,0]),(3,[1,0,1]),(2,[1,0,1,1,11]),(1,[1,0,1,1]),(0,[1,0,1])]) [98,120,157,166,165,124] (A2 []) (some [4,0]) [] [] []
noncomputable def W9{R:Type}(d e g h:By)(r:Int)(v:By)(t p u i j l m n o f:Int)(c:By)(q:Int->Blk->By->By->Int->By->Int->Int->Int->Int->Int->Int->Int->Int->Int->Int->By->(List Blk)->Option R):Option R:=cond (A3 d.length) (vl (C1 d) λa=>cond ((↑(a).2:Int)!=0) (q (↑(a).2:Int) (bU g h r v t p u i j l m n o f c) ([]:List UInt8) ([]:List UInt8) 0 ([]:List UInt8) 0 0 0 0 0 0 0 0 0 0 ([]:List UInt8) [(bH (↑(B4.kind (a).1):Int) (B4.name (a).1) (↑(B4.v4 (a).1):Int) (↑(b9 (B4.v6 (a).1) 0 0):Int) (↑(b9 (B4.v6 (a).1) 1 0):Int) (↑(b9 (B4.v6 (a).1) 2 0):Int) (↑(b9 (B4.v6 (a).1) 3 0):Int) (↑(b9 (B4.v6 (a).1) 4 0):Int) (↑(b9 (B4.v6 (a).1) 5 0):Int) (↑(b9 (B4.v6 (a).1) 6 0):Int) (↑(b9 (B4.v6 (a).1) 7 0):Int))]) (cond (A3 e.length) (vl (Ha e ([58]:List UInt8)) λb=>cond (A3 b.length) (cond (not (aj8 (Hj ((-1):Int) b))) (q 16 (bU g h r v t p u i j l m n o f c) ([]:List UInt8) ([]:List UInt8) 0 ([]:List UInt8) 0 0 0 0 0 0 0 0 0 0 ([]:List UInt8) [(bH (↑(B4.kind (a).1):Int) (B4.name (a).1) (↑(B4.v4 (a).1):Int) (↑(b9 (B4.v6 (a).1) 0 0):Int) (↑(b9 (B4.v6 (a).1) 1 0):Int) (↑(b9 (B4.v6 (a).1) 2 0):Int) (↑(b9 (B4.v6 (a).1) 3 0):Int) (↑(b9 (B4.v6 (a).1) 4 0):Int) (↑(b9 (B4.v6 (a).1) 5 0):Int) (↑(b9 (B4.v6 (a).1) 6 0):Int) (↑(b9 (B4.v6 (a).1) 7 0):Int))]) (cond ((EH b)!=(P5 g)) (q 0 (bU g h (↑(B4.kind (a).1):Int) (B4.name (a).1) (↑(B4.v4 (a).1):Int) (↑(b9 (B4.v6 (a).1) 0 0):Int) (↑(b9 (B4.v6 (a).1) 1 0):Int) (↑(b9 (B4.v6 (a).1) 2 0):Int) (↑(b9 (B4.v6 (a).1) 3 0):Int) (↑(b9 (B4.v6 (a).1) 4 0):Int) (↑(b9 (B4.v6 (a).1) 5 0):Int) (↑(b9 (B4.v6 (a).1) 6 0):Int) (↑(b9 (B4.v6 (a).1) 7 0):Int) (EH b) c) g h (↑(B4.kind (a).1):Int) (B4.name (a).1) (↑(B4.v4 (a).1):Int) (↑(b9 (B4.v6 (a).1) 0 0):Int) (↑(b9 (B4.v6 (a).1) 1 0):Int) (↑(b9 (B4.v6 (a).1) 2 0):Int) (↑(b9 (B4.v6 (a).1) 3 0):Int) (↑(b9 (B4.v6 (a).1) 4 0):Int) (↑(b9 (B4.v6 (a).1) 5 0):Int) (↑(b9 (B4.v6 (a).1) 6 0):Int) (↑(b9 (B4.v6 (a).1) 7 0):Int) (EH b) c [(bH (↑(B4.kind (a).1):Int) (B4.name (a).1) (↑(B4.v4 (a).1):Int) (↑(b9 (B4.v6 (a).1) 0 0):Int) (↑(b9 (B4.v6 (a).1) 1 0):Int) (↑(b9 (B4.v6 (a).1) 2 0):Int) (↑(b9 (B4.v6 (a).1) 3 0):Int) (↑(b9 (B4.v6 (a).1) 4 0):Int) (↑(b9 (B4.v6 (a).1) 5 0):Int) (↑(b9 (B4.v6 (a).1) 6 0):Int) (↑(b9 (B4.v6 (a).1) 7 0):Int))]) (q 0 (bU g h (↑(B4.kind (a).1):Int) (B4.name (a).1) (↑(B4.v4 (a).1):Int) (↑(b9 (B4.v6 (a).1) 0 0):Int) (↑(b9 (B4.v6 (a).1) 1 0):Int) (↑(b9 (B4.v6 (a).1) 2 0):Int) (↑(b9 (B4.v6 (a).1) 3 0):Int) (↑(b9 (B4.v6 (a).1) 4 0):Int) (↑(b9 (B4.v6 (a).1) 5 0):Int) (↑(b9 (B4.v6 (a).1) 6 0):Int) (↑(b9 (B4.v6 (a).1) 7 0):Int) f c) g h (↑(B4.kind (a).1):Int) (B4.name (a).1) (↑(B4.v4 (a).1):Int) (↑(b9 (B4.v6 (a).1) 0 0):Int) (↑(b9 (B4.v6 (a).1) 1 0):Int) (↑(b9 (B4.v6 (a).1) 2 0):Int) (↑(b9 (B4.v6 (a).1) 3 0):Int) (↑(b9 (B4.v6 (a).1) 4 0):Int) (↑(b9 (B4.v6 (a).1) 5 0):Int) (↑(b9 (B4.v6 (a).1) 6 0):Int) (↑(b9 (B4.v6 (a).1) 7 0):Int) f c [(bH (↑(B4.kind (a).1):Int) (B4.name (a).1) (↑(B4.v4 (a).1):Int) (↑(b9 (B4.v6 (a).1) 0 0):Int) (↑(b9 (B4.v6 (a).1) 1 0):Int) (↑(b9 (B4.v6 (a).1) 2 0):Int) (↑(b9 (B4.v6 (a).1) 3 0):Int) (↑(b9 (B4.v6 (a).1) 4 0):Int) (↑(b9 (B4.v6 (a).1) 5 0):Int) (↑(b9 (B4.v6 (a).1) 6 0):Int) (↑(b9 (B4.v6 (a).1) 7 0):Int))]))) none) none)) none
abbrev Px(b:Code):Prop:=∀(k:Out->St Z->Option R) name0 tail1 b2 l s4 n5 s6 i h j a c d e f g n16 s17,A9 (Y1 L) Q Y b ⟨gp [(2,.ptr 0 0 0),(1,.ptr 1 0 0),(2,pS name0),(0,pS tail1),(50,pB b2)] 29,[(bU l s4 n5 s6 i h j a c d e f g n16 s17),bU0],s⟩ k=W9 name0 tail1 l s4 n5 s6 i h j a c d e f g n16 s17 (λn0 o r l p t q i h j a c d e f g n m=>k .ret ⟨gp [(4,.ptr 1 0 0),(0,pI n0)] 83,(o::(bU r l p t q i h j a c d e f g n)::m),s⟩)
theorem Yg:Px (R:=R) L Q Y s (cd [1,1,1,1,1] Cb):=by intro k a b m q r n t o j p c d e f g h i l;unfold W9;kernel_rfl
noncomputable def Q8{R:Type}(b a s2 s3:By)(n4:Int)(s5:By)(n6 n7 i n9 c d e f g h:Int)(j:By)(k0:Int->Blk->By->By->Int->By->Int->Int->Int->Int->Int->Int->Int->Int->Int->Int->By->(List Blk)->Option R):Option R:=cond (not (a==[])) (cond (inR 0 a.length) (cond ((bAt a (0:Int))!=58) (k0 4 (bU s2 s3 n4 s5 n6 n7 i n9 c d e f g h j) ([]:List UInt8) ([]:List UInt8) 0 ([]:List UInt8) 0 0 0 0 0 0 0 0 0 0 ([]:List UInt8) []) (W9 b a s2 s3 n4 s5 n6 n7 i n9 c d e f g h j (λp l S T q U r t u v w x y z A B V n=>k0 p l S T q U r t u v w x y z A B V n))) none) (W9 b a s2 s3 n4 s5 n6 n7 i n9 c d e f g h j (λC m W X D a0 F G H I J K M N O P a1 o=>k0 C m W X D a0 F G H I J K M N O P a1 o))
abbrev Py(b:Code):Prop:=∀(k:Out->St Z->Option R) name0 tail1 o p j q l m h n a c d e f g i,A9 (Y1 L) Q Y b ⟨gp [(2,.ptr 0 0 0),(1,.ptr 1 0 0),(2,pS name0),(0,pS tail1)] 80,[(bU o p j q l m h n a c d e f g i),bU0],s⟩ k=Q8 name0 tail1 o p j q l m h n a c d e f g i (λn0 t o p j q l m h n a c d e f g i r=>k .ret ⟨gp [(4,.ptr 1 0 0),(0,pI n0)] 83,(t::(bU o p j q l m h n a c d e f g i)::r),s⟩)
theorem YW(b:Code)(a:Px (R:=R) L Q Y s b):Py (R:=R) L Q Y s (cd [1,1,1,1] (G4 [1,1,1,1,1] b Cb)):=by intro k d c r t n u o p l q e f g h i j m;unfold Q8;exact(o7 (by kernel_rfl) (A0 (A0 (A0 rfl ((a k d c ((bAt c (0:Int))!=58) r t n u o p l q e f g h i j m).trans (by kernel_rfl))) rfl) ((a k d c false r t n u o p l q e f g h i j m).trans (by kernel_rfl))))
theorem YX:Py (R:=R) L Q Y s (cd [1,1,1,1] Cb):=by intro k a b p q l r m n i o c d e f g h j;exact o7 (by kernel_rfl) (YW L Q Y s (cd [1,1,1,1,1] Cb) (Yg L Q Y s) k a b p q l r m n i o c d e f g h j)
noncomputable def Rk{R:Type}(a J K:By)(G:Int)(M:By)(H C I v w x y z A B:Int)(D:By)(F:Int->Blk->By->By->Int->By->Int->Int->Int->Int->Int->Int->Int->Int->Int->Int->By->(List Blk)->Option R):Option R:=W9 a ([]:List UInt8) J K G M H C I v w x y z A B D (λd b q r e t f g h i j l m n o p u c=>F d b q r e t f g h i j l m n o p u c)
abbrev Pz(b:Code):Prop:=∀(k:Out->St Z->Option R) authority0 kk1 b2 l s4 n5 s6 i h j a c d e f g n16 s17,A9 (Y1 L) Q Y b ⟨gp [(1,pS authority0),(0,.ptr 0 0 0),(1,.ptr 1 0 0),(2,pS authority0),(0,pS ([]:List UInt8)),(1,pI kk1),(35,pB b2)] 42,[(bU l s4 n5 s6 i h j a c d e f g n16 s17),bU0],s⟩ k=Rk authority0 l s4 n5 s6 i h j a c d e f g n16 s17 (λn0 o r l p t q i h j a c d e f g n m=>k .ret ⟨gp [(4,.ptr 1 0 0),(0,pI n0)] 83,(o::(bU r l p t q i h j a c d e f g n)::m),s⟩)
theorem YY(c:Code)(a:Px (R:=R) L Q Y s c):Pz (R:=R) L Q Y s (cd [1,1,1,1] (G4 [1,1,1,1,1] c Cb)):=by intro k b n v r t o u p l q d e f g h i j m;unfold Rk;exact(o7 (by kernel_rfl) ((a k b ([]:List UInt8) false r t o u p l q d e f g h i j m).trans (by kernel_rfl)))
theorem YZ:Pz (R:=R) L Q Y s (cd [1,1,1,1] Cb):=by intro k a b m q r n t o j p c d e f g h i l;exact o7 (by kernel_rfl) (YY L Q Y s (cd [1,1,1,1,1] Cb) (Yg L Q Y s) k a b m q r n t o j p c d e f g h i l)
noncomputable def Up{R:Type}(L:Nat)(u0 u1:By)(u2:Int)(u3:By)(u4 u5 u6 u7 u8 u9 e f g h:Int)(i a:By)(k0:By->By->Int->By->Int->Int->Int->Int->Int->Int->Int->Int->Int->Int->By->Int->(List Blk)->Option R):Option R:=cond (A3 a.length) (vl (K8 (u8n (64:Int)) a) λc5=>cond (not (ltI c5 0)) (cond (I9 0 c5 a.length) (vl (cut a 0 c5) λe7=>cond (I9 (A1 (c5+1)) (a.length:Int) a.length) (vl (cut a (A1 (c5+1)) (a.length:Int)) λb=>cond (A3 b.length) (cond (p9 ([91]:List UInt8) b) (cond (A3 b.length) (vl (o5 b (u8n (93:Int))) λJ=>cond (ltI J 0) (k0 ([]:List UInt8) ([]:List UInt8) 0 ([]:List UInt8) 0 0 0 0 0 0 0 0 0 0 ([]:List UInt8) 4 [(bU u0 e7 u2 u3 u4 u5 u6 u7 u8 u9 e f g h i),bU0]) (vl (A1 (J+1)) λe8=>cond (I9 0 e8 b.length) (vl (A1 (J+1)) λe9=>cond (I9 e9 (b.length:Int) b.length) (vl (cut b e9 (b.length:Int)) λi5=>Q8 (cut b 0 e8) i5 u0 e7 u2 u3 u4 u5 u6 u7 u8 u9 e f g h i (λi4 i3 g3 g4 f2 g5 f3 f4 f5 f6 f7 f8 f9 g0 g1 g2 g6 h2=>k0 g3 g4 f2 g5 f3 f4 f5 f6 f7 f8 f9 g0 g1 g2 g6 i4 (i3::((bU g3 g4 f2 g5 f3 f4 f5 f6 f7 f8 f9 g0 g1 g2 g6)::h2)))) none) none)) none) (cond (A3 b.length) (vl (o5 b (u8n (58:Int))) λc=>cond (not (ltI c 0)) (cond (I9 0 c b.length) (cond (I9 c (b.length:Int) b.length) (vl (cut b c (b.length:Int)) λi6=>Q8 (cut b 0 c) i6 u0 e7 u2 u3 u4 u5 u6 u7 u8 u9 e f g h i (λh8 g7 c6 c7 j c8 l m n o p q r t u v c9 h3=>k0 c6 c7 j c8 l m n o p q r t u v c9 h8 (g7::((bU c6 c7 j c8 l m n o p q r t u v c9)::h3)))) none) none) (Rk b u0 e7 u2 u3 u4 u5 u6 u7 u8 u9 e f g h i (λh9 g8 d0 d1 w d2 x y z A B C D F G H d3 h4=>k0 d0 d1 w d2 x y z A B C D F G H d3 h9 (g8::((bU d0 d1 w d2 x y z A B C D F G H d3)::h4))))) none)) none) none) none) (cond (A3 a.length) (cond (p9 ([91]:List UInt8) a) (cond (A3 a.length) (vl (o5 a (u8n (93:Int))) λc4=>cond (ltI c4 0) (k0 ([]:List UInt8) ([]:List UInt8) 0 ([]:List UInt8) 0 0 0 0 0 0 0 0 0 0 ([]:List UInt8) 4 [(bU u0 u1 u2 u3 u4 u5 u6 u7 u8 u9 e f g h i),bU0]) (vl (A1 (c4+1)) λf0=>cond (I9 0 f0 a.length) (vl (cut a 0 f0) λi7=>vl (A1 (c4+1)) λf1=>cond (I9 f1 (a.length:Int) a.length) (vl (cut a f1 (a.length:Int)) λi9=>Q8 i7 i9 u0 u1 u2 u3 u4 u5 u6 u7 u8 u9 e f g h i (λi0 g9 d4 d5 I d6 K M N O P S T U V W d7 h5=>k0 d4 d5 I d6 K M N O P S T U V W d7 i0 (g9::((bU d4 d5 I d6 K M N O P S T U V W d7)::h5)))) none) none)) none) (cond (A3 a.length) (vl (o5 a (u8n (58:Int))) λd=>cond (not (ltI d 0)) (cond (I9 0 d a.length) (vl (cut a 0 d) λj3=>cond (I9 d (a.length:Int) a.length) (vl (cut a d (a.length:Int)) λk1=>Q8 j3 k1 u0 u1 u2 u3 u4 u5 u6 u7 u8 u9 e f g h i (λi1 h0 d8 d9 X e1 a0 a1 a2 a3 a4 a5 a6 a7 a9 b0 e2 h6=>k0 d8 d9 X e1 a0 a1 a2 a3 a4 a5 a6 a7 a9 b0 e2 i1 (h0::((bU d8 d9 X e1 a0 a1 a2 a3 a4 a5 a6 a7 a9 b0 e2)::h6)))) none) none) (Rk a u0 u1 u2 u3 u4 u5 u6 u7 u8 u9 e f g h i (λi2 h1 e3 e4 b1 e5 b2 b3 b4 b5 b6 b7 c0 c1 c2 c3 e6 h7=>k0 e3 e4 b1 e5 b2 b3 b4 b5 b6 b7 c0 c1 c2 c3 e6 i2 (h1::((bU e3 e4 b1 e5 b2 b3 b4 b5 b6 b7 c0 c1 c2 c3 e6)::h7))))) none)) none)) none
theorem B87(d:Code)(a:Py (R:=PV × List Blk × Z) L Q Y s d)(c:Pz (R:=PV × List Blk × Z) L Q Y s d)(m G:By)(n:Int)(o:By)(p q r t u8 u e f g h:Int)(i b:By):A9 (Y1 L) Q Y (cd [] (G4 [1,1,1,1] d Cb)) ⟨[(gU m G n o p q r t u8 u e f g h i),pS b]++tps 87,[],s⟩ (F6 (Y1 L) ai5)=Up L m G n o p q r t u8 u e f g h i b (λX r1 r2 r3 r4 r5 r6 r7 r8 r9 I J K M N O H=>some (.tup [(gU X r1 r2 r3 r4 r5 r6 r7 r8 r9 I J K M N),pI O],H,s)):=by unfold Up;exact let x:=(F6 (Y1 L) ai5);(o7 (by kernel_rfl) (A0 (A4 λW=>(A0 (A0 (A4 λv=>(A0 (A4 λw=>(A0 (A0 (A0 (A4 λP=>(A0 rfl (A4 λy=>(A0 (A4 λS=>(A0 (A4 λz=>((a x (cut w 0 y) z m v n o p q r t u8 u e f g h i).trans (by kernel_rfl))) rfl)) rfl)))) rfl) (A0 (A4 λj=>(A0 (A0 (A0 (A4 λA=>((a x (cut w 0 j) A m v n o p q r t u8 u e f g h i).trans (by kernel_rfl))) rfl) rfl) ((c x w j (not (ltI j 0)) m v n o p q r t u8 u e f g h i).trans (by kernel_rfl)))) rfl)) rfl)) rfl)) rfl) (A0 (A0 (A0 (A4 λT=>(A0 rfl (A4 λU=>(A0 (A4 λB=>(A4 λV=>(A0 (A4 λC=>((a x B C m G n o p q r t u8 u e f g h i).trans (by kernel_rfl))) rfl))) rfl)))) rfl) (A0 (A4 λl=>(A0 (A0 (A4 λD=>(A0 (A4 λF=>((a x D F m G n o p q r t u8 u e f g h i).trans (by kernel_rfl))) rfl)) rfl) ((c x b l (not (ltI l 0)) m G n o p q r t u8 u e f g h i).trans (by kernel_rfl)))) rfl)) rfl))) rfl))
theorem B88(d:Nat)(u0 u1 u2 u3 u4 u5 u6 u7 u8 u9 u10 u11 u12 u13 u14 authority15):evC (Y1 L) (d+1) Z Y 121 [(gU u0 u1 u2 u3 u4 u5 u6 u7 u8 u9 u10 u11 u12 u13 u14),pS authority15] [] s=Up L u0 u1 u2 u3 u4 u5 u6 u7 u8 u9 u10 u11 u12 u13 u14 authority15 (λi j l m n o p q r8 r b c e f g h a=>some (.tup [(gU i j l m n o p q r8 r b c e f g),pI h],a,s)):=
 (evE (fn:=ai5) (by kernel_rfl)).trans (o7 (by kernel_rfl) (B87 L (evC (Y1 L) d) Y s (cd [1,1,1,1] Cb) (YX L (evC (Y1 L) d) Y s) (YZ L (evC (Y1 L) d) Y s) u0 u1 u2 u3 u4 u5 u6 u7 u8 u9 u10 u11 u12 u13 u14 authority15))
noncomputable abbrev Cf8:Code:=C8 al1
noncomputable def Tl(L:Nat):Cfg:=B7 L [82] (A2 [(2,[0,1,0,8,0])]) [(73,Au1),(115,Ce0),(116,As8),(117,EO),(118,As2),(119,TO),(120,FZ),(121,ZY)] (A2 [(23,[2,0]),(22,[2,5,0]),(21,[2,5,0,65]),(20,[2,5,0]),(19,[2,3,1,0]),(18,[2,3,1,0,0,52]),(17,[2,3,1,0,0]),(16,[2,3,1,0]),(15,[2,0]),(14,[2,3,1,48]),(13,[2,3,0,0]),(12,[2,0]),(11,[2,3,1,40]),(10,[2,3,1]),(9,[2,0]),(8,[2,2,0,33]),(7,[2,2,0,0]),(6,[0,1,9,0]),(5,[2,0]),(4,[0,1,9,0,11]),(3,[0,1,1,7,0]),(2,[0,1,9,0,0]),(1,[0,1,9,0]),(0,[0,1])]) [73,115,116,117,118,119,120] (A2 [(0,[0,1]),(1,[0,1,9,0])]) (some [2,0]) [] [] []
noncomputable def Jj{R:Type}(L n:Nat)(b:By)(e a:Int)(c:(List Blk)->Option R)(d:By->Option R):Option R:=match n with|0=>none|n+1=>cond (ltI a e) (cond (inR a b.length) (cond (not (ltI 32 (bAt b a))) (c []) (cond (inR a b.length) (cond ((bAt b a)==127) (c []) (Jj L n b e (A1 (a+1)) c d)) none)) none) (d b)
theorem Bi0(n a n1 n2):D0 1 ((Tl L).keep 2) (bd (Tl L) Q Y (cd [1,0,1,0,0] Cf8)) n ⟨gp [(0,pS a),(1,.ptr 0 0 0),(9,pI n1),(0,pI n2)] 71,[bU0],s⟩ k =
 Jj L n a n1 n2 (λb=>k .ret ⟨gp [(2,.ptr 0 0 0),(0,pI (4:Int))] 81,(bU0::b),s⟩) (λa=>k (.exit 0) ⟨gp [(0,pS a),(1,.ptr 0 0 0)] 82,[bU0],s⟩):=by
 induction n generalizing a n1 n2 with
 | zero=>rfl
 | succ n c=>rw[Jj];simp only[<-c];kernel_rfl
noncomputable def NL{R:Type}(L:Nat)(q:By)(n:By->By->Int->By->Int->Int->Int->Int->Int->Int->Int->Int->Int->Int->By->Int->(List Blk)->Option R):Option R:=Jj L L q (q.length:Int) 0 (λp=>n ([]:List UInt8) ([]:List UInt8) 0 ([]:List UInt8) 0 0 0 0 0 0 0 0 0 0 ([]:List UInt8) 4 (bU0::p)) (λo=>cond (A3 o.length) (vl ((x4 o ([58]:List UInt8))).1 λf=>vl (((x4 o ([58]:List UInt8))).2).1 λj=>cond (not (((x4 o ([58]:List UInt8))).2).2) (n ([]:List UInt8) ([]:List UInt8) 0 ([]:List UInt8) 0 0 0 0 0 0 0 0 0 0 ([]:List UInt8) 15 [bU0]) (cond (A3 f.length) (cond (not (T2 f)) (n ([]:List UInt8) ([]:List UInt8) 0 ([]:List UInt8) 0 0 0 0 0 0 0 0 0 0 ([]:List UInt8) 15 [bU0]) (cond (A3 f.length) (cond (not (J3 (B5 f))) (n (B5 f) ([]:List UInt8) 0 ([]:List UInt8) 0 0 0 0 0 0 0 0 0 (-1) j 0 [(bU (B5 f) ([]:List UInt8) (0:Int) ([]:List UInt8) (0:Int) (0:Int) (0:Int) (0:Int) (0:Int) (0:Int) (0:Int) (0:Int) (0:Int) ((-1):Int) j),(bU (B5 f) ([]:List UInt8) (0:Int) ([]:List UInt8) (0:Int) (0:Int) (0:Int) (0:Int) (0:Int) (0:Int) (0:Int) (0:Int) (0:Int) ((-1):Int) j)]) (cond (A3 j.length) (vl (Ha j ([47,47]:List UInt8)) λe=>cond (not (p9 ([47,47]:List UInt8) j)) (n ([]:List UInt8) ([]:List UInt8) 0 ([]:List UInt8) 0 0 0 0 0 0 0 0 0 0 ([]:List UInt8) 4 [bU0,(bU (B5 f) ([]:List UInt8) (0:Int) ([]:List UInt8) (0:Int) (0:Int) (0:Int) (0:Int) (0:Int) (0:Int) (0:Int) (0:Int) (0:Int) ((-1):Int) j)]) (cond (A3 e.length) (cond (AV ([47,63,35]:List UInt8)) (vl (aa7 e ([47,63,35]:List UInt8)) λi=>cond (not (ltI i 0)) (cond (I9 0 i e.length) (cond (I9 (↑(b8 (cut e 0 i)):Int) (e.length:Int) e.length) (vl (cut e (↑(b8 (cut e 0 i)):Int) (e.length:Int)) λg=>cond (A3 g.length) (cond (not (p9 ([47]:List UInt8) g)) (cond (L6 1 g.length) (vl (([47]:List UInt8)++g) λl=>cond (A3 (b8 (B5 f))) (cond (A3 l.length) (cond (A3 (b8 (cut e 0 i))) (cond (((-1):Int)==((-1):Int)) (vl (G2 (B5 f) l (cut e 0 i)) λa=>n (uS a) (uU a) (uK a) (uN a) (uV a) (uA a 0) (uA a 1) (uA a 2) (uA a 3) (uA a 4) (uA a 5) (uA a 6) (uA a 7) (uP a) (uR a) (uE a) [(bQ a),(bU (B5 f) ([]:List UInt8) (0:Int) ([]:List UInt8) (0:Int) (0:Int) (0:Int) (0:Int) (0:Int) (0:Int) (0:Int) (0:Int) (0:Int) ((-1):Int) l)]) none) none) none) none) none) (cond (A3 (b8 (B5 f))) (cond (A3 g.length) (cond (A3 (b8 (cut e 0 i))) (cond (((-1):Int)==((-1):Int)) (vl (G2 (B5 f) g (cut e 0 i)) λb=>n (uS b) (uU b) (uK b) (uN b) (uV b) (uA b 0) (uA b 1) (uA b 2) (uA b 3) (uA b 4) (uA b 5) (uA b 6) (uA b 7) (uP b) (uR b) (uE b) [(bQ b),(bU (B5 f) ([]:List UInt8) (0:Int) ([]:List UInt8) (0:Int) (0:Int) (0:Int) (0:Int) (0:Int) (0:Int) (0:Int) (0:Int) (0:Int) ((-1):Int) g)]) none) none) none) none)) none) none) none) (cond (I9 (e.length:Int) (e.length:Int) e.length) (vl (cut e (e.length:Int) (e.length:Int)) λh=>cond (A3 h.length) (cond (not (p9 ([47]:List UInt8) h)) (cond (L6 1 h.length) (vl (([47]:List UInt8)++h) λm=>cond (A3 (b8 (B5 f))) (cond (A3 m.length) (cond (A3 e.length) (cond (((-1):Int)==((-1):Int)) (vl (G2 (B5 f) m e) λc=>n (uS c) (uU c) (uK c) (uN c) (uV c) (uA c 0) (uA c 1) (uA c 2) (uA c 3) (uA c 4) (uA c 5) (uA c 6) (uA c 7) (uP c) (uR c) (uE c) [(bQ c),(bU (B5 f) ([]:List UInt8) (0:Int) ([]:List UInt8) (0:Int) (0:Int) (0:Int) (0:Int) (0:Int) (0:Int) (0:Int) (0:Int) (0:Int) ((-1):Int) m)]) none) none) none) none) none) (cond (A3 (b8 (B5 f))) (cond (A3 h.length) (cond (A3 e.length) (cond (((-1):Int)==((-1):Int)) (vl (G2 (B5 f) h e) λd=>n (uS d) (uU d) (uK d) (uN d) (uV d) (uA d 0) (uA d 1) (uA d 2) (uA d 3) (uA d 4) (uA d 5) (uA d 6) (uA d 7) (uP d) (uR d) (uE d) [(bQ d),(bU (B5 f) ([]:List UInt8) (0:Int) ([]:List UInt8) (0:Int) (0:Int) (0:Int) (0:Int) (0:Int) (0:Int) (0:Int) (0:Int) (0:Int) ((-1):Int) h)]) none) none) none) none)) none) none)) none) none)) none)) none)) none)) none)
theorem De9(d:Nat)(s0):evC (Tl L) (d+1) Z Y 82 [pS s0] [] s=NL L s0 (λi j l m n o p q r8 r b c e f g h a=>some (.tup [(gU i j l m n o p q r8 r b c e f g),pI h],a,s)):=by refine(evE (fn:=al1) (by kernel_rfl)).trans ?_;generalize evC (Tl L) d=Q;unfold NL;exact(o7 (by kernel_rfl) ((Bi0 L Q Y s (E5 0 (E4 (Tl L) Q Y (cd [1,1] Cf8) (F6 (Tl L) al1))) L s0 (s0.length:Int) 0).trans (by kernel_rfl)))
noncomputable def VI(L:Nat):Cfg:=B7 L [83] (A2 []) [(117,EO),(122,As5),(123,Bk6)] (A2 [(9,[2]),(8,[1,1]),(7,[1,1,28]),(6,[1,1]),(5,[1,1]),(4,[1,1,15]),(3,[1,1]),(2,[2]),(1,[1,5]),(0,[1])]) [117,122,123] (A2 []) (some [2]) [] [] []
noncomputable def Sb{R:Type}(L:Nat)(l t:By)(u:Int)(m:By)(n o p q u8 r e f g b:Int)(a:By)(v:By->(List Blk)->Option R):Option R:=cond (not (J3 l)) (cond (L6 l.length 1) (vl (l++[58]) λw=>cond (L6 w.length a.length) (v (w++a) [(bU l t u m n o p q u8 r e f g b a)]) none) none) (cond (L6 l.length 3) (vl (l++[58,47,47]) λc=>cond (not (t==[])) (cond (L6 t.length 1) (vl (t++[64]) λh=>cond (L6 c.length h.length) (cond (A3 m.length) (cond (ltN n 4294967296) (cond (ok8 o p q u8 r e f g) (vl (U0 (mkH u m n (n8 o p q u8 r e f g))) λj=>cond (L6 (b8 (c++h)) j.length) (cond (b !=((-1):Int)) (cond (Ak b) (cond (L6 1 (b8 (V9 b))) (vl (([58]:List UInt8)++(V9 b)) λz=>cond (L6 (b8 ((c++h)++j)) z.length) (vl (((c++h)++j)++z) λA=>cond (L6 A.length a.length) (v (A++a) [(bU l t u m n o p q u8 r e f g b a)]) none) none) none) none) (cond (L6 (b8 ((c++h)++j)) a.length) (vl (((c++h)++j)++a) λx=>v x [(bU l t u m n o p q u8 r e f g b a)]) none)) none) none) none) none) none) none) (cond (A3 m.length) (cond (ltN n 4294967296) (cond (ok8 o p q u8 r e f g) (vl (U0 (mkH u m n (n8 o p q u8 r e f g))) λd=>cond (L6 c.length d.length) (cond (b !=((-1):Int)) (cond (Ak b) (cond (L6 1 (b8 (V9 b))) (vl (([58]:List UInt8)++(V9 b)) λi=>cond (L6 (b8 (c++d)) i.length) (cond (L6 (b8 ((c++d)++i)) a.length) (vl (((c++d)++i)++a) λy=>v y [(bU l t u m n o p q u8 r e f g b a)]) none) none) none) none) (cond (L6 (b8 (c++d)) a.length) (v ((c++d)++a) [(bU l t u m n o p q u8 r e f g b a)]) none)) none) none) none) none)) none)
theorem Cv2(d:Nat)(u0 u1 u2 u3 u4 u5 u6 u7 u8 u9 u10 u11 u12 u13 u14):evC (VI L) (d+1) Z Y 83 [(gU u0 u1 u2 u3 u4 u5 u6 u7 u8 u9 u10 u11 u12 u13 u14)] [] s=Sb L u0 u1 u2 u3 u4 u5 u6 u7 u8 u9 u10 u11 u12 u13 u14 (λb a=>some (pS b,a,s)):=by refine(evE (fn:=Tryz.f83) (by kernel_rfl)).trans ?_;generalize evC (VI L) d=Q;unfold Sb;kernel_rfl
noncomputable def AA(L:Nat):Cfg:=B7 L [51] (A2 []) [(83,TY),(82,Cd9)] (A2 [(2,[2]),(1,[1,1,0]),(0,[1])]) [83] (A2 []) (some [2]) [] [] []
noncomputable def FQ{R:Type}(L:Nat)(h i:By)(q:Int)(j:By)(l m n o u8 p b c d e:Int)(f:By)(r:Bool->(List Blk)->Option R):Option R:=cond (smU h i j f) (cond (ltN l 4294967296) (cond (ok8 m n o u8 p b c d) (cond (Ak e) (vl (Bv (mkU h i q j l (n8 m n o u8 p b c d) e f)) λg=>cond (A3 g.length) (vl (C2 g) λa=>cond ((uE a)==0) (r ((h==(uS a))&&((i==(uU a))&&((q==(uK a))&&((j==(uN a))&&((l==(uV a))&&((m==(uA a 0))&&((n==(uA a 1))&&((o==(uA a 2))&&((u8==(uA a 3))&&((p==(uA a 4))&&((b==(uA a 5))&&((c==(uA a 6))&&((d==(uA a 7))&&((e==(uP a))&&((f==(uR a))&&true))))))))))))))) [(bU h i q j l m n o u8 p b c d e f),(bQ a)]) (r false [(bU h i q j l m n o u8 p b c d e f),(bQ a)])) none) none) none) none) none
theorem Bi5(d:Nat)(u0 u1 u2 u3 u4 u5 u6 u7 u8 u9 u10 u11 u12 u13 u14):evC (AA L) (d+1) Z Y 51 [(gU u0 u1 u2 u3 u4 u5 u6 u7 u8 u9 u10 u11 u12 u13 u14)] [] s=FQ L u0 u1 u2 u3 u4 u5 u6 u7 u8 u9 u10 u11 u12 u13 u14 (λb a=>some (pB b,a,s)):=by refine(evE (fn:=Tryz.f51) (by kernel_rfl)).trans ?_;generalize evC (AA L) d=Q;unfold FQ;kernel_rfl
noncomputable def Ax9(L:Nat):Cfg:=B7 L [85] (A2 []) [(51,Qk),(83,TY)] (A2 [(3,[2]),(2,[2]),(1,[1,3]),(0,[1])]) [51,83] (A2 []) (some [2]) [] [] []
noncomputable def De2{R:Type}(L:Nat)(f g:By)(o:Int)(h:By)(i j l m u8 n a b c d:Int)(e:By)(q:By->(List Blk)->Option R):Option R:=cond (smU f g h e) (cond (ltN i 4294967296) (cond (ok8 j l m u8 n a b c) (cond (Ak d) (cond (not (Bf (mkU f g o h i (n8 j l m u8 n a b c) d e))) (q ([]:List UInt8) [(bU f g o h i j l m u8 n a b c d e)]) (cond (smU f g h e) (cond (ltN i 4294967296) (cond (ok8 j l m u8 n a b c) (cond (Ak d) (vl (Bv (mkU f g o h i (n8 j l m u8 n a b c) d e)) λp=>q p [(bU f g o h i j l m u8 n a b c d e)]) none) none) none) none)) none) none) none) none
theorem De3(d:Nat)(u0 u1 u2 u3 u4 u5 u6 u7 u8 u9 u10 u11 u12 u13 u14):evC (Ax9 L) (d+1) Z Y 85 [(gU u0 u1 u2 u3 u4 u5 u6 u7 u8 u9 u10 u11 u12 u13 u14)] [] s=De2 L u0 u1 u2 u3 u4 u5 u6 u7 u8 u9 u10 u11 u12 u13 u14 (λb a=>some (pS b,a,s)):=by refine(evE (fn:=Tryz.f85) (by kernel_rfl)).trans ?_;generalize evC (Ax9 L) d=Q;unfold De2;kernel_rfl
end
section
variable {Z R : Type} (L : Nat) (Q : G0) (Y : Yh Z) (s : Z) (k : Out -> St Z -> Option R)
noncomputable def Zy(L:Nat):Cfg:=B7 L [160] (A2 []) [] (A2 [(1,[2]),(0,[0])]) [] (A2 []) (some [2]) [] [] []
noncomputable def YJ{R:Type}(L:Nat)(a:Int)(b:Bool->Option R):Option R:=b (ltI (8:Int) a)
theorem Bg6(d:Nat)(a:Int):evC (Zy L) (d+1) Z Y 160 [.s (.int .i64 a)] [] s=YJ L a (λb=>some (.s (.bool b),[],s)):=by refine(evE (fn:=Tryz.f160) (by kernel_rfl)).trans ?_;generalize evC (Zy L) d=Q;unfold YJ;kernel_rfl
noncomputable abbrev Vf:Code:=C8 ai7
noncomputable def Cd(L:Nat):Cfg:=B7 L [196] (A2 []) [] (A2 [(5,[2]),(2,[2]),(4,[2]),(3,[10]),(1,[0,2]),(0,[0])]) [] (A2 [(0,[])]) (some [2]) [] [] []
noncomputable def Lh{R:Type}(a:Int)(d:Bool)(b:Unit->Option R)(c:Bool->Option R):Option R:=cond d (b ()) (cond (ltI (57343:Int) a) (cond (not (ltI (1114111:Int) a)) (b ()) (c (not (ltI (1114111:Int) a)))) (c false))
abbrev DZ(b:Code):Prop:=∀(k:Out->St Z->Option R) (c:Int) (a:Bool),A9 (Cd L) Q Y b ⟨gp [(0,.s (.int .i32 c)),(2,.s (.bool a))] 13,[],s⟩ k=Lh c a (λ_=>k .ret ⟨gp [(2,.s (.bool true))] 14,[],s⟩) (λd=>k .normal ⟨gp [(10,.s (.bool d))] 6,[],s⟩)
theorem ZA:DZ (R:=R) L Q Y s (cd [1,0,0,1] Vf):=by intro k b a;unfold Lh;kernel_rfl
noncomputable def MF{R:Type}(L:Nat)(b:Int)(a:Bool->Option R):Option R:=cond (not (ltI b (0:Int))) (Lh b (ltI b (55296:Int)) (λ_=>a true) (λc=>a false)) (Lh b false (λ_=>a true) (λd=>a false))
theorem B93(b:Code)(a:DZ (R:=PV × List Blk × Z) L Q Y s b)(c:Int):A9 (Cd L) Q Y (cd [] (G4 [1,0,0,1] b Vf)) ⟨[.s (.int .i32 c)]++tps 16,[],s⟩ (F6 (Cd L) ai7)=MF L c (λc=>some (.s (.bool c),[],s)):=by unfold MF;exact let d:=(E5 0 (E4 (Cd L) Q Y (cd [1,1] Vf) (F6 (Cd L) ai7)));(o7 (by kernel_rfl) (A0 ((a d c (ltI c (55296:Int))).trans (by kernel_rfl)) ((a d c false).trans (by kernel_rfl))))
theorem B94(d:Nat)(a:Int):evC (Cd L) (d+1) Z Y 196 [.s (.int .i32 a)] [] s=MF L a (λa=>some (.s (.bool a),[],s)):=
 (evE (fn:=ai7) (by kernel_rfl)).trans (o7 (by kernel_rfl) (B93 L (evC (Cd L) d) Y s (cd [1,0,0,1] Vf) (ZA L (evC (Cd L) d) Y s) a))
noncomputable abbrev Ap:Code:=C8 ai6
noncomputable def L9(L:Nat):Cfg:=B7 L [159] (A2 [(38,[4,170]),(29,[0,3,2,0,0,4,0,0]),(25,[0,3,2,0,0,4,0]),(12,[0,3,2,0,0,2]),(5,[0,3,2,0,0])]) [(157,Uy),(196,HV)] (A2 [(35,[4]),(42,[4]),(41,[4]),(40,[5,169,5]),(39,[5,0,168]),(38,[175,0,0]),(37,[175]),(44,[4]),(33,[4]),(22,[4]),(21,[8,0,3,94]),(20,[8,0,3]),(26,[0,6,0,0,4,0]),(32,[4]),(30,[0,6,0,0,4,0,0]),(31,[0,6,0,0,4,0,0,139]),(29,[0,6,0,0,4,0,0,126]),(28,[0,6,0,0,4,0,0]),(27,[0,6,0,0,4,0,123]),(25,[0,6,0,0,4,0,108]),(24,[0,6,0,0,4,0]),(23,[0,6,0,0,4]),(19,[4]),(18,[0,6,0,0,88]),(17,[0,6,0,0,0]),(16,[0,6,0,0,0]),(15,[4]),(13,[0,6,0,0,2]),(14,[0,6,0,0,2,51]),(12,[0,6,0,0,2,38]),(11,[0,6,0,0,2]),(10,[0,6,0,0]),(9,[4]),(8,[0,6,0,0,1,31]),(7,[0,6,0,0,1]),(6,[0,6,0,0,23]),(5,[0,6,0,0,16]),(4,[0,6,0,0]),(3,[0,6,0,0]),(2,[0,6,0]),(1,[0,6]),(43,[0,0,181]),(36,[0,0,169]),(34,[0,0,158]),(0,[0,0])]) [157,196] (A2 [(0,[4]),(9,[]),(10,[175]),(5,[]),(6,[0,6,0,0,4,0]),(7,[8,0]),(8,[0,6,0,0,4,0,0]),(1,[]),(2,[0,6,0,0]),(3,[8,0]),(4,[0,6,0,0,2])]) (some [4]) [] [] []
noncomputable def Dx{R:Type}(L n:Nat)(self:Nat->Option R)(a:Nat)(c:Int->Nat->Option R)(d:Nat->Option R):Option R:=cond (decide (a<3)) (vl ((x6 ⟨w8 (([47,63,35]:List UInt8))⟩ a)).1 λb=>cond (b==(65533:Int)) (c (↑a:Int) (a+((x6 ⟨w8 (([47,63,35]:List UInt8))⟩ a)).2)) (self (a+((x6 ⟨w8 (([47,63,35]:List UInt8))⟩ a)).2))) (d a)
noncomputable def Aa{R:Type}(L n:Nat)(a:Nat)(b:Int->Nat->Option R)(c:Nat->Option R):Option R:=Co6 (α:=Nat->Option R) (λ_=>none) (λn self a=>Dx L n self a b c) n a
theorem Et{R:Type}(L n:Nat)(a:Nat)(b:Int->Nat->Option R)(c:Nat->Option R):Aa L (n+1) a b c=Dx L n (λa=>Aa L n a b c) a b c:=rfl
theorem YG(n:Nat)(a:Nat):D0 1 ((L9 L).keep 38) (bd (L9 L) Q Y (cd [1,0,1,1,1,0,0,1,0,0] Ap)) n ⟨gp [(175,.it 0)] 11,[.iter (([47,63,35]:List UInt8)) a],s⟩ k =
 Aa L n a (λn0 c=>k .ret ⟨gp [(4,.s (.int .i64 n0))] 182,[.iter (([47,63,35]:List UInt8)) c],s⟩) (λa=>k (.exit 9) ⟨gp [] 187,[.iter (([47,63,35]:List UInt8)) a],s⟩):=by
 induction n generalizing a with
 | zero=>rfl
 | succ n b=>rw[Et];unfold Dx;exact(o7 (by kernel_rfl) (A0 (A4 λd=>(A0 rfl (b (a+((x6 ⟨w8 (([47,63,35]:List UInt8))⟩ a)).2)))) rfl))
noncomputable def Uo{R:Type}(L n:Nat)(self:By->Int->Int->Int->Option R)(b:By)(a f c:Int)(g:Int->Int->Option R):Option R:=cond (ltI c (↑(b8 b):Int)) (cond (inR (A1 (f-c)) 3) (vl (bAt (([47,63,35]:List UInt8)) (A1 (f-c))) λd=>cond (inR (A1 (a-c)) (b8 b)) (vl (bAt b (A1 (a-c))) λe=>cond (d !=e) (none) (self b a f (A1 (c+(1:Int))))) (none)) (none)) (g a f)
noncomputable def Le{R:Type}(L n:Nat)(b:By)(a c d:Int)(e:Int->Int->Option R):Option R:=Co6 (α:=By->Int->Int->Int->Option R) (λ_ _ _ _=>none) (λn self b a c d=>Uo L n self b a c d e) n b a c d
theorem Ao7{R:Type}(L n:Nat)(b:By)(a c d:Int)(e:Int->Int->Option R):Le L (n+1) b a c d e=Uo L n (λb a c d=>Le L n b a c d e) b a c d e:=rfl
theorem Xv(n:Nat)(b:By)(a d e:Int):D0 0 ((L9 L).keep 12) (bd (L9 L) Q Y (cd [1,0,1,1,1,1,1,1,0,1,1,1,1,0,0,0,1,0,0,1,0,1,0,0] Ap)) n ⟨gp [(0,.s (.str (([47,63,35]:List UInt8)))),(6,.s (.str b)),(0,.s (.int .i64 a)),(0,.s (.int .i64 d)),(2,.s (.int .i64 e))] 174,[],s⟩ k =
 Le L n b a d e (λc h=>k (.exit 3) ⟨gp [(8,.s (.int .i64 c)),(0,.s (.int .i64 h))] 177,[],s⟩):=by
 induction n generalizing b a d e with
 | zero=>rfl
 | succ n i=>rw[Ao7];unfold Uo;exact(o7 (by kernel_rfl) (A0 (A0 (A4 λf=>(A0 (A4 λg=>(A0 rfl (i b a d (A1 (e+(1:Int)))))) rfl)) rfl) rfl))
noncomputable def Nb{R:Type}(L n:Nat)(self:By->Int->Option R)(b:By)(a:Int)(m:Int->Option R)(o:Unit->Option R):Option R:=cond (ltI a (3:Int)) (cond (inR a 3) (vl (bAt (([47,63,35]:List UInt8)) a) λj=>cond (inR a (b8 b)) (cond (j !=(bAt b a)) (vl (A1 (a+(1:Int))) λe=>cond (I9 e (3:Int) 3) (vl (cut (([47,63,35]:List UInt8)) e (3:Int)) λg=>cond (inR a (b8 b)) (cond (A3 (b8 g)) (cond (inR (bAt b a) 256) (vl (o5 g (u8n (bAt b a))) λf=>cond (ltI f (0:Int)) (m (-1)) (vl (A1 (f+(1:Int))) λl=>Le L L b a (A1 (a+l)) 1 (λc h=>m (A1 (h-c))))) (none)) (none)) (none)) (none)) (Le L L b a a 1 (λd i=>m (A1 (i-d))))) (none)) (none)) (o ())
noncomputable def Gn{R:Type}(L n:Nat)(b:By)(a:Int)(c:Int->Option R)(d:Unit->Option R):Option R:=Co6 (α:=By->Int->Option R) (λ_ _=>none) (λn self b a=>Nb L n self b a c d) n b a
theorem DU{R:Type}(L n:Nat)(b:By)(a:Int)(c:Int->Option R)(d:Unit->Option R):Gn L (n+1) b a c d=Nb L n (λb a=>Gn L n b a c d) b a c d:=rfl
theorem YH(n:Nat)(b:By)(a:Int):D0 0 ((L9 L).keep 5) (bd (L9 L) Q Y (cd [1,0,1,1,1,1,1,1,0,1,1,1,1,0,0,0] Ap)) n ⟨gp [(0,.s (.str (([47,63,35]:List UInt8)))),(6,.s (.str b)),(0,.s (.int .i64 a)),(0,.s (.int .i64 a))] 177,[],s⟩ k =
 Gn L n b a (λn0=>k .ret ⟨gp [(4,.s (.int .i64 n0))] 182,[],s⟩) (λ_=>k (.exit 1) ⟨gp [] 187,[],s⟩):=by
 induction n generalizing b a with
 | zero=>rfl
 | succ n i=>rw[DU];unfold Nb;exact let d:=(E5 3 (E4 (L9 L) Q Y (cd [1,0,1,1,1,1,1,1,0,1,1,1,1,0,0,0,1,0,0,1,1] Ap) (E5 2 (lpK 0 ((L9 L).keep 5) (bd (L9 L) Q Y (cd [1,0,1,1,1,1,1,1,0,1,1,1,1,0,0,0] Ap)) n k))));(o7 (by kernel_rfl) (A0 (A0 (A4 λe=>(A0 (A0 (A4 λf=>(A0 (A4 λh=>(A0 (A0 (A0 (A4 λg=>(A0 rfl (A4 λc=>((Xv L Q Y s d L b a (A1 (a+c)) 1).trans (by kernel_rfl))))) rfl) rfl) rfl)) rfl)) ((Xv L Q Y s d L b a a 1).trans (by kernel_rfl))) rfl)) rfl) rfl))
noncomputable def Ld{R:Type}(L:Nat)(b:Int)(l:Bool)(d:Int->Option R)(j:Int->Nat->Option R):Option R:=cond l (cond (inR (wu8 b) 256) (vl (o5 (([47,63,35]:List UInt8)) (u8n (wu8 b))) λg=>d g) (none)) (cond (b==(65533:Int)) (Aa L L 0 (λi e=>j i e) (λf=>j (-1) f)) (cond (not (MG b)) (d (-1)) (vl (ab8 b).data.toList λc=>vl (A1 ((↑(b8 c):Int)-(1:Int))) λh=>Gn L L c h (λa=>d a) (λ_=>d (-1)))))
abbrev DT(b:Code):Prop:=∀(k:Out->St Z->Option R) (c:Int) (a:Bool),A9 (L9 L) Q Y b ⟨gp [(0,.s (.str (([47,63,35]:List UInt8)))),(0,.s (.int .i32 c)),(158,.s (.bool a))] 26,[],s⟩ k=Ld L c a (λn0=>k .ret ⟨gp [(4,.s (.int .i64 n0))] 182,[],s⟩) (λn0 d=>k .ret ⟨gp [(4,.s (.int .i64 n0))] 182,[.iter (([47,63,35]:List UInt8)) d],s⟩)
theorem YF:DT (R:=R) L Q Y s (cd [1,0,1] Ap):=by intro k e d;unfold Ld;exact(o7 (by kernel_rfl) (A0 (A0 (A4 λc=>rfl) rfl) (A0 ((YG L Q Y s (E5 9 (E4 (L9 L) Q Y (cd [1,0,1,1,1,0,1] Ap) k)) L 0).trans (by kernel_rfl)) (A0 rfl (A4 λb=>(A4 λa=>((YH L Q Y s (E5 1 (E4 (L9 L) Q Y (cd [1,0,1,1,1,1,1,1,0,1,1,1,1,1] Ap) k)) L b a).trans (by kernel_rfl))))))))
noncomputable def LY{R:Type}(L:Nat)(r:Int)(g:Int->Option R)(h:Int->Nat->Option R):Option R:=cond (not (ltI r (0:Int))) (Ld L r (ltI r (128:Int)) (λc=>g c) (λd a=>h d a)) (Ld L r false (λe=>g e) (λf b=>h f b))
theorem B70(b:Code)(a:DT (R:=PV × List Blk × Z) L Q Y s b)(r:Int):A9 (L9 L) Q Y (cd [] (G4 [1,0,1] b Ap)) ⟨[.s (.str (([47,63,35]:List UInt8))),.s (.int .i32 r)]++tps 185,[],s⟩ (F6 (L9 L) ai6)=LY L r (λc=>some (.s (.int .i64 c),[],s)) (λc e=>some (.s (.int .i64 c),[.iter (([47,63,35]:List UInt8)) e],s)):=by unfold LY;exact let d:=(E5 0 (F6 (L9 L) ai6));(o7 (by kernel_rfl) (A0 ((a d r (ltI r (128:Int))).trans (by kernel_rfl)) ((a d r false).trans (by kernel_rfl))))
theorem B71(d:Nat)(r:Int):evC (L9 L) (d+1) Z Y 159 [.s (.str (([47,63,35]:List UInt8))),.s (.int .i32 r)] [] s=LY L r (λa=>some (.s (.int .i64 a),[],s)) (λa b=>some (.s (.int .i64 a),[.iter (([47,63,35]:List UInt8)) b],s)):=
 (evE (fn:=ai6) (by kernel_rfl)).trans (o7 (by kernel_rfl) (B70 L (evC (L9 L) d) Y s (cd [1,0,1] Ap) (YF L (evC (L9 L) d) Y s) r))
noncomputable abbrev Aa8:Code:=C8 ai4
noncomputable def Gv(L:Nat):Cfg:=B7 L [119] (A2 [(18,[1,2,40]),(12,[0,3,1,1])]) [(159,HM),(160,Zf),(161,Oh)] (A2 [(22,[4]),(21,[4]),(20,[1,7,35,7]),(19,[1,7,0,34]),(18,[1,43,0,0]),(17,[1,43]),(16,[4]),(13,[0,5,1]),(15,[4]),(14,[0,5,1,33]),(12,[0,5,1,27]),(11,[0,5,1]),(10,[0,0,4,25]),(9,[0,0,4,0]),(8,[0,0,24]),(7,[4]),(6,[0,4]),(5,[0,4,14]),(4,[0,4]),(3,[0,0,13]),(2,[4]),(1,[0,0,10]),(0,[0,0])]) [159,160] (A2 [(2,[]),(3,[1,43]),(0,[]),(1,[0,5,1])]) (some [4]) [] [] []
noncomputable def Y8{R:Type}(L n:Nat)(self:By->Nat->Option R)(b:By)(a:Nat)(d:Int->(List Blk)->Option R)(e:By->Nat->Option R):Option R:=cond (decide (a<(b8 b))) (vl ((x6 ⟨w8 b⟩ a)).1 λc=>cond (AV (([47,63,35]:List UInt8))) (cond (ltN c 1114112) (cond (not (ltI (irn c) (0:Int))) (d (↑a:Int) [(Blk.iter b (a+((x6 ⟨w8 b⟩ a)).2))]) (self b (a+((x6 ⟨w8 b⟩ a)).2))) (none)) (none)) (e b a)
noncomputable def Lc{R:Type}(L n:Nat)(b:By)(a:Nat)(c:Int->(List Blk)->Option R)(d:By->Nat->Option R):Option R:=Co6 (α:=By->Nat->Option R) (λ_ _=>none) (λn self b a=>Y8 L n self b a c d) n b a
theorem Br{R:Type}(L n:Nat)(b:By)(a:Nat)(c:Int->(List Blk)->Option R)(d:By->Nat->Option R):Lc L (n+1) b a c d=Y8 L n (λb a=>Lc L n b a c d) b a c d:=rfl
theorem YE(n:Nat)(b:By)(a:Nat):D0 1 ((Gv L).keep 18) (bd (Gv L) Q Y (cd [1,1,1,1,0,1,0,0] Aa8)) n ⟨gp [(1,.s (.str (([47,63,35]:List UInt8)))),(43,.it 0)] 9,[.iter b a],s⟩ k =
 Lc L n b a (λn0 c=>k .ret ⟨gp [(4,.s (.int .i64 n0))] 50,c,s⟩) (λb a=>k (.exit 2) ⟨gp [] 55,[.iter b a],s⟩):=by
 induction n generalizing b a with
 | zero=>rfl
 | succ n d=>rw[Br];unfold Y8;exact(o7 (by kernel_rfl) (A0 (A4 λe=>(A0 (A0 (A0 rfl (d b (a+((x6 ⟨w8 b⟩ a)).2))) rfl) rfl)) rfl))
noncomputable def YD{R:Type}(L:Nat)(t:By)(e:Int->(List Blk)->Option R):Option R:=cond (ltI (8:Int) (↑(b8 t):Int)) (none) (Lc L L t 0 (λc a=>e c a) (λd b=>e (-1) [(Blk.iter d b)]))
theorem B68(d:Nat)(t:By):evC (Gv L) (d+1) Z Y 119 [.s (.str t),.s (.str (([47,63,35]:List UInt8)))] [] s=YD L t (λb a=>some (.s (.int .i64 b),a,s)):=by refine(evE (fn:=ai4) (by kernel_rfl)).trans ?_;generalize evC (Gv L) d=Q;unfold YD;exact(o7 (by kernel_rfl) (A0 rfl ((YE L Q Y s (E5 2 (E4 (Gv L) Q Y (cd [1,1,1,1,1] Aa8) (F6 (Gv L) ai4))) L t 0).trans (by kernel_rfl))))
end
end
section
open Go
theorem Ki{c:UInt8}{s:By}(h:c∉s):x4 s [c]=(s,[],false):=by unfold x4;rw[To h,if_neg (by decide)]
theorem T9{c:UInt8}{p r:By}(h:c∉p):x4 (p++c::r) [c]=(p,r,true):=by unfold x4;rw[AU h,Q5,j5,aa6,j9];rw[show p++c::r=(p++[c])++r by simp,af4 (by simp)]
def Bp:Int->By->Option Int
 | n,[]=>some n
 | n,b::r=>if 48<=b.toNat/\b.toNat<=57 then Bp (min (10*max n 0+((b.toNat-48:Nat):Int)) 65536) r else none
theorem EX:∀(s:By) (n:Int),Hj n s=(Bp n s).bind λm=>if m<65536 then some m else none
 | [],n=>rfl
 | b::r,n=>by
  rw[Hj,Bp];split
  ·exact EX r _
  ·rfl
theorem PO:∀(a b:By) (n:Int),Bp n (a++b)=(Bp n a).bind λm=>Bp m b
 | [],b,n=>rfl
 | x::a,b,n=>by
  rw[ae9,Bp,Bp];split
  ·exact PO a b _
  ·rfl
theorem B06:∀u:Nat,Bp (-1) (ae5 u)=some (min (u:Int) 65536):=by
 intro u
 induction u using aj1 with
 | _ u a=>
  by_cases h:u<10
  ·rw[Lib.decDigits_one h];have:(v8 (48+u)).toNat=48+u:=by simp;omega
   rw[Bp,this,Q5,Bp]
   congr 1
   omega
  ·rw[W6 u h,PO,a (u / 10) (by omega)];have:(v8 (48+u % 10)).toNat=48+u % 10:=by simp;omega
   show Bp _ _=_;rw[Bp,this,Q5,Bp]
   congr 1
   omega
theorem Cm3(p:Int)(a:0<=p)(b:p<=65535):Hj (-1) (V9 p)=some p:=by
 obtain⟨u,rfl⟩:=x7 a;unfold V9;rw[F7,j5,EX,B06];show(if _ then _ else _)=_;rw[Q5]
 congr 1
 omega
theorem KL:∀(s:By) (n p:Int),-1<=n->Hj n s=some p->-1<=p/\p<65536
 | [],n,p,a,h=>by
  rw[Hj] at h;split at h
  ·rename_i c;obtain rfl:=j8 h;exact⟨a,c⟩
  ·cases h
 | b::r,n,p,a,h=>by
  rw[Hj] at h;split at h
  ·exact KL r _ p (by omega) h
  ·cases h
theorem Ae8{n:Nat}(h:n<16):L1 (Nx n)=true:=by
 rw[Bn];unfold Nx;split
 ·have:(v8 (48+n)).toNat=48+n:=by simp;omega
  omega
 ·have:(v8 (87+n)).toNat=87+n:=by simp;omega
  omega
theorem Cj1:∀x:Nat,∀b∈V5 x,L1 b=true:=by
 intro x
 induction x using aj1 with
 | _ x c=>
  intro b a;by_cases h:x<16
  ·rw[Ch h] at a;simp only[ab3] at a;subst a;exact Ae8 h
  ·rw[Bk h] at a;rcases x8.1 a with a|a
   ·exact c _ (by omega) b a
   ·simp only[ab3] at a;subst a;exact Ae8 (by omega)
theorem Pd{l:List Nat}{b:UInt8}(h:b∈O4 l):b=58\/L1 b=true:=by
 rcases Wo _ h with h|⟨x,c,a⟩
 ·exact .inl h
 ·obtain⟨n,_,rfl⟩:=List.mem_map.1 c;exact .inr (Cj1 n b a)
theorem Cv8{a:List Nat}{b:UInt8}(h:b∈Cx a):b=58\/L1 b=true:=by
 unfold Cx at h;split at h
 ·exact Pd h
 ·simp only[x8,p4] at h;rcases h with h|h|h|h
  ·exact Pd h
  ·exact .inl h
  ·exact .inl h
  ·exact Pd h
theorem A26{b:UInt8}(h:48<=b.toNat/\b.toNat<=57):L1 b=true:=(Bn b).2 (.inr (.inl h))
theorem OQ{h:B4}(ok:Cy h)(a:K2 h=true):(∃m,U0 h=91::(m++[93])/\∀b∈m,b=58\/L1 b=true)\/(U0 h≠[]/\∀b∈U0 h,b=46\/L1 b=true):=by
 obtain⟨i,k,v4,v6⟩:=h;unfold U0;rw[if_pos a];unfold K2 at a;simp only at a ⊢;by_cases d:i=1
 ·subst d;simp only[if_true,o8,beq_iff_eq] at a ⊢;have:=Ih.1 a.1.1;exact .inr ⟨this.ne,this.byt⟩
 rw[if_neg d] at a ⊢;by_cases f:i=2
 ·subst f;simp only[if_true] at a ⊢;refine .inr ⟨λe=>?_,λb c=>?_⟩
  ·have g:=Ai1 v4 ok.v4;rw[e] at g;have j:(C1 []).1.kind=2:=by rw[g]
   exact absurd j (by decide)
  ·rcases Aq7 c with h|h
   ·exact .inl h
   ·exact .inr (A26 h)
 rw[if_neg f] at a ⊢;exact .inl ⟨_,rfl,λb c=>Cv8 c⟩
theorem Bw9{h:B4}(ok:Cy h)(i:K2 h=true){b:UInt8}(a:b∈U0 h):ctl b=false/\M3 b=false/\b≠64:=by
 have q:∀b:UInt8,(b=46\/b=58\/b=91\/b=93\/L1 b=true)->ctl b=false/\M3 b=false/\b≠64:=by
  intro b h;rcases h with rfl|rfl|rfl|rfl|h
  ·decide
  ·decide
  ·decide
  ·decide
  ·rw[Bn] at h;rcases h with h|h|rfl|rfl
   ·refine⟨?_,?_,λe=>?_⟩
    ·rw[y8,ne_eq,Vi];omega
    ·have d:b≠47:=λe=>by rw[e] at h;simp at h
     have f:b≠63:=λe=>by rw[e] at h;simp at h
     have g:b≠35:=λe=>by rw[e] at h;simp at h
     simp[M3,d,f,g]
    ·rw[e] at h;simp at h
   ·refine⟨?_,?_,λe=>?_⟩
    ·rw[y8,ne_eq,Vi];omega
    ·have d:b≠47:=λe=>by rw[e] at h;simp at h
     have f:b≠63:=λe=>by rw[e] at h;simp at h
     have g:b≠35:=λe=>by rw[e] at h;simp at h
     simp[M3,d,f,g]
    ·rw[e] at h;simp at h
   ·decide
   ·decide
 apply q;rcases OQ ok i with⟨m,e,c⟩|⟨_,c⟩
 ·rw[e] at a;simp only[p4,x8,ac8,or_false] at a;rcases a with h|h|h
  ·simp[h]
  ·rcases c b h with h|h<;>simp[h]
  ·simp[h]
 ·rcases c b a with h|h<;>simp[h]
def Ks(s:By):Prop:=∀b∈s,ctl b=false
def Dx6(s:By):Prop:=∀b∈s,M3 b=false
structure CU (u:U4):Prop where
 ns:J3 u.sch=false->T2 u.sch=true/\B5 u.sch=u.sch/\u.user=[]/\u.host=L4/\u.port=-1/\Ks u.rest
 sp:J3 u.sch=true->Ks u.user/\Dx6 u.user/\Cy u.host/\K2 u.host=true/\(u.port=-1\/(0<=u.port/\u.port<=65535/\u.port≠P5 u.sch))/\(∃r,u.rest=47::r)/\Ks u.rest
theorem Lm{s:By}:s.any ctl=false↔Ks s:=by unfold Ks;rw[List.any_eq_false];exact⟨λh b a=>by simpa using h b a,λh b a=>by simp[h b a]⟩
theorem Pb{e user c a:By}(h:(N2 e user c a).2=0):∃f b,(N2 e user c a).1=⟨e,user,f,b,c⟩/\Cy f/\K2 f=true/\(b=-1\/(0<=b/\b<=65535/\b≠P5 e)):=by
 unfold N2 at h ⊢;cases i:Em a with
 | none=>rw[i] at h;simp at h
 | some q=>
  obtain⟨name,tail⟩:=q;rw[i] at h;simp only at h ⊢;by_cases g:tail≠[]/\tail.head?≠some 58
  ·rw[if_pos g] at h;simp at h
  ·rw[if_neg g] at h ⊢;by_cases d:(C1 name).2≠0
   ·rw[if_pos d] at h;exact absurd h d
   ·rw[if_neg d] at h ⊢;cases j:Hj (-1) (tail.drop 1) with
    | none=>rw[j] at h;simp at h
    | some p=>
     have o:=KL _ _ _ (by omega) j;obtain⟨m,n⟩:=B15 name;refine⟨_,_,rfl,m,n (by simpa using d),?_⟩;split
     ·exact .inl rfl
     ·rename_i l;by_cases k:p=-1
      ·exact .inl k
      ·exact .inr ⟨by omega,by omega,l⟩
theorem Ma{c user b a:By}(h:(N2 c user b a).2≠0):(N2 c user b a).1=Ac:=by
 unfold N2 at h ⊢;split
 ·rfl
 ·rename_i name tail f;rw[f] at h;simp only at h ⊢;split
  ·rfl
  ·rename_i d;rw[if_neg d] at h;split
   ·rfl
   ·rename_i e;rw[if_neg e] at h;split
    ·rfl
    ·rename_i p g;rw[g] at h;exact absurd rfl h
theorem A33(s:By):B5 (B5 s)=B5 s:=by
 unfold B5;rw[ak6];apply List.map_congr_left;intro b _;show X4 (X4 b)=X4 b;rcases K5 b with⟨_,e⟩|⟨_,e⟩|⟨c,d,e⟩
 ·rw[e,e]
 ·rw[e,e]
 ·rcases K5 (X4 b) with⟨_,a⟩|⟨_,a⟩|⟨f,g,_⟩
  ·exact a
  ·exact a
  ·omega
theorem A30(b:UInt8):Q2 (X4 b)=Q2 b:=by
 rw[p6,U9,U9];rcases K5 b with⟨_,e⟩|⟨_,e⟩|⟨a,c,e⟩
 ·rw[e]
 ·rw[e]
 ·omega
theorem WJ{b c:UInt8}(f:c.toNat<65):X4 b=c↔b=c:=by
 rcases K5 b with⟨_,e⟩|⟨_,e⟩|⟨a,d,e⟩
 ·rw[e]
 ·rw[e]
 ·constructor
  ·intro h;rw[h] at e;omega
  ·intro h;subst h;omega
theorem An8(b:UInt8):L2 (X4 b)=L2 b:=by
 rw[p6,Es,Es,WJ (by decide),WJ (by decide),WJ (by decide)];rcases K5 b with⟨_,e⟩|⟨_,e⟩|⟨a,c,e⟩
 ·rw[e]
 ·rw[e]
 ·constructor
  ·rintro(h|h|h|h)<;>first|omega|exact .inr (.inr (.inr h))
  ·rintro(h|h|h|h)<;>first|omega|exact .inr (.inr (.inr h))
theorem Ao1(s:By):T2 (B5 s)=T2 s:=by
 cases s with
 | nil=>rfl
 | cons b r=>
  show(Q2 (X4 b)&&(r.map X4).all L2)=(Q2 b&&r.all L2)
  rw[A30,ak5]
  congr 1
  apply List.all_congr rfl;intro b;exact An8 b
theorem YI(r:By):∃t,R7 r=47::t:=by
 unfold R7;split
 ·rename_i h;cases r with
  | nil=>cases h
  | cons b t=>
   obtain rfl:=j8 h;exact⟨t,rfl⟩
 ·exact⟨r,rfl⟩
theorem Ao8{r:By}(h:Ks r):Ks (R7 r):=by
 unfold R7;split
 ·exact h
 ·intro b a;rcases p4.1 a with rfl|a
  ·decide
  ·exact h b a
theorem B22{j c a:By}(p:J3 j=true)(q:Ks a)(i:Dx6 a)(o:Ks c)(f:∃r,c=47::r)(h:(G2 j c a).2=0):CU (G2 j c a).1:=by
 unfold G2 at h ⊢;by_cases n:0<=K8 64 a
 ·rw[if_pos n] at h ⊢;obtain⟨t,g,e,k,l,m⟩:=Pb h;rw[e];exact⟨λh=>(by rw[p] at h;cases h),λ_=>⟨λb d=>q b (ad1 d),λb d=>i b (ad1 d),k,l,m,f,o⟩⟩
 ·rw[if_neg n] at h ⊢;obtain⟨t,g,e,k,l,m⟩:=Pb h;rw[e];exact⟨λh=>(by rw[p] at h;cases h),λ_=>⟨λb d=>(by cases d),λb d=>(by cases d),k,l,m,f,o⟩⟩
theorem Ah9{s:By}(h:(C2 s).2=0):CU (C2 s).1:=by
 unfold C2 at h ⊢;cases f:s.any ctl with
 | true=>rw[f] at h;simp at h
 | false=>
  rw[f] at h;have j:=Lm.1 f;simp only[o6,if_false] at h ⊢;rcases Q7 58 s with c|⟨p,r,rfl,c⟩
  ·rw[Ki c] at h;simp at h
  ·rw[T9 c] at h ⊢;have k:Ks p:=λb d=>j b (by simp[d])
   have g:Ks r:=λb d=>j b (by simp[d])
   cases a:T2 p with
   | false=>rw[a] at h;simp at h
   | true=>
    rw[a] at h;simp only[j1,ak2,o6,if_false] at h ⊢;cases e:J3 (B5 p) with
    | false=>
     simp only[o0,if_true];exact⟨λ_=>⟨by rw[Ao1];exact a,A33 p,rfl,rfl,rfl,g⟩,λh=>(by simp only at h;rw[e] at h;cases h)⟩
    | true=>
     rw[e] at h;simp only[j1,o6,if_false] at h ⊢;cases i:([47,47]:By).isPrefixOf r with
     | false=>rw[i] at h;simp at h
     | true=>
      rw[i] at h;simp only[j1,o6,if_false] at h ⊢;exact B22 e (λb d=>g b (x5 (ad1 d))) (Bg0 _) (Ao8 λb d=>g b (x5 (x5 d))) (YI _) h
theorem A64{d b a:By}(h:(G2 d b a).2≠0):(G2 d b a).1=Ac:=by
 unfold G2 at h ⊢;split
 ·rename_i c;rw[if_pos c] at h;exact Ma h
 ·rename_i c;rw[if_neg c] at h;exact Ma h
theorem PS{s:By}(h:(C2 s).2≠0):(C2 s).1=Ac:=by
 unfold C2 at h ⊢;split
 ·rfl
 ·rename_i b;rw[if_neg b] at h;split
  ·rfl
  ·rename_i c;rw[if_neg c] at h;split
   ·rename_i a;rw[if_pos a] at h;exact absurd rfl h
   ·rename_i a;rw[if_neg a] at h;split
    ·rfl
    ·rename_i d;rw[if_neg d] at h;exact A64 h
theorem Ao0{s:By}(h:J3 s=true):T2 s=true/\B5 s=s/\(58:UInt8)∉s/\Ks s:=by
 rcases NI h with rfl|rfl|rfl|rfl
 ·exact⟨by decide,by decide,by decide,Lm.1 (by decide)⟩
 ·exact⟨by decide,by decide,by decide,Lm.1 (by decide)⟩
 ·exact⟨by decide,by decide,by decide,Lm.1 (by decide)⟩
 ·exact⟨by decide,by decide,by decide,Lm.1 (by decide)⟩
theorem LT{b:UInt8}(h:L2 b=true):b≠58/\ctl b=false:=by
 rw[Es] at h;refine⟨λe=>?_,?_⟩
 ·subst e
  revert h
  decide
 ·rw[y8,ne_eq,Vi];rcases h with h|h|h|rfl|rfl|rfl
  ·omega
  ·omega
  ·omega
  ·decide
  ·decide
  ·decide
theorem B67{s:By}(h:T2 s=true):(58:UInt8)∉s/\Ks s/\s≠[]:=by
 cases s with
 | nil=>cases h
 | cons b r=>
  simp only[T2,o8,ai1] at h;have c:L2 b=true:=by unfold L2;rw[h.1];rfl
  have q:∀x∈b::r,L2 x=true:=λx a=>by
   rcases p4.1 a with rfl|a
   ·exact c
   ·exact h.2 x a
  exact⟨λd=>(LT (q 58 d)).1 rfl,λx a=>(LT (q x a)).2,by simp⟩
theorem Rt{p user c:By}{h:B4}{a:Int}(ok:Cy h)(o:K2 h=true)(w:a=-1\/(0<=a/\a<=65535/\a≠P5 p)) :
  N2 p user c (U0 h++(if a=-1 then [] else 58::V9 a))=(⟨p,user,h,a,c⟩,0):=by
 have key:∀tail:By,(tail=[]\/tail.head? = some 58)->Em (U0 h++tail)=some (U0 h,tail):=by
  intro tail i;unfold Em;rcases OQ ok o with⟨m,e,g⟩|⟨n,g⟩
  ·have k:(93:UInt8)∉91::m:=by
    intro d;rcases p4.1 d with d|d
    ·exact absurd d (by decide)
    ·rcases g 93 d with h|h
     ·exact absurd h (by decide)
     ·exact absurd h (by decide)
   have q:U0 h++tail=(91::m)++93::tail:=by rw[e];simp
   rw[if_pos (by rw[e];rfl),q,Wg tail k];simp only;have u:(91::m)++93::tail=U0 h++tail:=q.symm;have v:(91::m).length+1=(U0 h).length:=by rw[e];simp
   rw[u,v,aa6,af9]
  ·have f:(58:UInt8)∉U0 h:=by
    intro d;rcases g 58 d with h|h
    ·exact absurd h (by decide)
    ·exact absurd h (by decide)
   have l:(U0 h++tail).head?≠some 91:=by
    cases r:U0 h with
    | nil=>exact absurd r n
    | cons b t=>
     rw[r] at g;intro e;obtain rfl:=j8 e;rcases g 91 (by simp) with h|h
     ·exact absurd h (by decide)
     ·exact absurd h (by decide)
   rw[if_neg l];rcases i with rfl|i
   ·rw[ad2,PA f]
   ·cases tail with
    | nil=>cases i
    | cons b t=>
     obtain rfl:=j8 i;rw[Wg t f];simp only;rw[aa6,af9]
 unfold N2;by_cases j:a=-1
 ·subst j;rw[if_pos rfl,key [] (.inl rfl)];simp only;rw[if_neg (by simp),JO ok o];simp only[ne_eq,not_true_eq_false,if_false];have:Hj (-1) (ak0 1 ([]:By))=some (-1):=by rfl
  rw[this];simp
 ·rw[if_neg j,key (58::V9 a) (.inr rfl)];obtain⟨x,y,z⟩:=w.resolve_left j;simp only;rw[if_neg (by simp),JO ok o];simp only[ne_eq,not_true_eq_false,if_false,ad4,aa5];rw[Cm3 a x y];simp only;rw[if_neg z]
theorem A19{p:Int}(a:0<=p){b:UInt8}(h:b∈V9 p):48<=b.toNat/\b.toNat<=57:=by unfold V9 at h;rw[F7] at h;exact AC _ b h
theorem Dn5{b:UInt8}(h:48<=b.toNat/\b.toNat<=57):ctl b=false/\M3 b=false/\b≠64:=by
 refine⟨?_,?_,λe=>?_⟩
 ·rw[y8,ne_eq,Vi];omega
 ·have a:b≠47:=λe=>by rw[e] at h;simp at h
  have c:b≠63:=λe=>by rw[e] at h;simp at h
  have d:b≠35:=λe=>by rw[e] at h;simp at h
  simp[M3,a,c,d]
 ·rw[e] at h;simp at h
theorem Cj2{h:B4}{a:Int}{g:By}(ok:Cy h)(f:K2 h=true)(e:a=-1\/(0<=a/\a<=65535/\a≠P5 g)){b:UInt8}(c:b∈U0 h++(if a=-1 then [] else 58::V9 a)):ctl b=false/\M3 b=false/\b≠64:=by
 rcases x8.1 c with c|c
 ·exact Bw9 ok f c
 ·by_cases d:a=-1
  ·rw[if_pos d] at c;cases c
  ·rw[if_neg d] at c;rcases p4.1 c with rfl|c
   ·decide
   ·exact Dn5 (A19 (e.resolve_left d).1 c)
theorem Cb2{u:U4}(h:CU u):C2 (Bv u)=(u,0):=by
 obtain⟨e,user,d,a,n⟩:=u;obtain⟨j,l⟩:=h;simp only at j l;unfold Bv;simp only;cases k:J3 e with
 | false=>
  obtain⟨o,p,rfl,rfl,rfl,F⟩:=j k;obtain⟨w,x,D⟩:=B67 o;have z:(e++58::n).any ctl=false:=Lm.2 λb c=>by
   simp only[x8,p4] at c;rcases c with c|rfl|c
   ·exact x b c
   ·decide
   ·exact F b c
  simp only[o6,if_false];unfold C2;rw[z,T9 w];simp only[o6,if_false];rw[o,p,k];simp
 | true=>
  obtain⟨o,p,q,t,v,⟨r,rfl⟩,G⟩:=l k;obtain⟨w,x,D,H⟩:=Ao0 k;have y:=λb (c:b∈U0 d++(if a=-1 then [] else 58::V9 a))=>Cj2 q t v c
  simp only[if_true];have g:∀b∈Ok ⟨e,user,d,a,47::r⟩,ctl b=false/\M3 b=false:=by
   intro b c;unfold Ok at c;simp only at c;rcases x8.1 c with c|c
   ·by_cases m:user=[]
    ·rw[if_pos m] at c;cases c
    ·rw[if_neg m] at c;rcases x8.1 c with c|c
     ·exact⟨o b c,p b c⟩
     ·simp only[ab3] at c;subst c
      decide
   ·exact⟨(y b c).1,(y b c).2.1⟩
  have A:G2 e (47::r) (Ok ⟨e,user,d,a,47::r⟩)=(⟨e,user,d,a,47::r⟩,0):=by
   have i:(64:UInt8)∉U0 d++(if a=-1 then [] else 58::V9 a):=λI=>(y 64 I).2.2 rfl
   unfold G2 Ok;simp only;by_cases m:user=[]
   ·subst m;rw[if_pos rfl,ab2,Mg i,if_neg (by decide)];exact Rt q t v
   ·rw[if_neg m,ac3,List.singleton_append,Qv user i,Q5,j5,aa6];have:ak0 (user.length+1) (user++64::(U0 d++(if a=-1 then [] else 58::V9 a)))=U0 d++(if a=-1 then [] else 58::V9 a):=by
     rw[show user++64::(U0 d++(if a=-1 then [] else 58::V9 a))=(user++[64])++(U0 d++(if a=-1 then [] else 58::V9 a)) by simp,af4 (by simp)]
    rw[this];exact Rt q t v
  generalize Ok ⟨e,user,d,a,47::r⟩=f at *;have z:(e++58::47::47::(f++47::r)).any ctl=false:=Lm.2 λb c=>by
   simp only[x8,p4] at c;rcases c with c|rfl|rfl|rfl|c|c
   ·exact H b c
   ·decide
   ·decide
   ·decide
   ·exact(g b c).1
   ·exact G b (by simpa using c)
  have C:J1 (f++47::r)=f.length:=B74 (λb c=>(g b c).2) (λb c=>by obtain rfl:=j8 c;decide);unfold C2;rw[z,T9 D];simp only[o6,if_false];rw[w,x,k];have Pc:([47,47]:By).isPrefixOf (47::47::(f++47::r))=true:=by simp[p9]
  rw[Pc];simp only[j1,ak2,o6,if_false,ad4,aa5];rw[C,aa6,af9];have B:R7 (47::r)=47::r:=if_pos rfl;rw[B];exact A
theorem Wf(c user b a:By):(N2 c user b a).1.sch.length<=c.length/\(N2 c user b a).1.user.length<=user.length/\(N2 c user b a).1.rest.length<=b.length:=by
 by_cases h:(N2 c user b a).2=0
 ·obtain⟨f,d,e,_⟩:=Pb h;rw[e];exact⟨w9 _,w9 _,w9 _⟩
 ·rw[Ma h];exact⟨aa1 _,aa1 _,aa1 _⟩
theorem A65(c b a:By):(G2 c b a).1.sch.length<=c.length/\(G2 c b a).1.user.length<=a.length/\(G2 c b a).1.rest.length<=b.length:=by
 unfold G2;split
 ·obtain⟨d,e,f⟩:=Wf c (a.take (K8 64 a).toNat) b (a.drop ((K8 64 a).toNat+1));rw[j7] at e;exact⟨d,by omega,f⟩
 ·obtain⟨d,e,f⟩:=Wf c [] b a;simp only[v7] at e;exact⟨d,by omega,f⟩
theorem Ao9(r:By):(R7 r).length<=r.length+1:=by
 unfold R7;split
 ·omega
 ·simp
theorem B17(s:By):(C2 s).1.sch.length<=s.length/\(C2 s).1.user.length<=s.length/\(C2 s).1.rest.length<=s.length+1:=by
 have z:Ac.sch.length<=s.length/\Ac.user.length<=s.length/\Ac.rest.length<=s.length+1:=⟨aa1 _,aa1 _,aa1 _⟩
 unfold C2;split
 ·exact z
 ·rcases Q7 58 s with a|⟨p,r,rfl,a⟩
  ·rw[Ki a];exact z
  ·rw[T9 a];have b:(p++58::r).length=p.length+r.length+1:=by rw[j2,j0];omega
   simp only;split
   ·exact z
   ·split
    ·simp only[Z4,v7];omega
    ·split
     ·exact z
     ·obtain⟨c,d,e⟩:=A65 (B5 p) (R7 ((r.drop 2).drop (J1 (r.drop 2)))) ((r.drop 2).take (J1 (r.drop 2)));have f:=Ao9 ((r.drop 2).drop (J1 (r.drop 2)));simp only[j7,j4,Z4] at c d e f;omega
structure ZM (u:U4):Prop where
 host:Cy u.host
 port:-1<=u.port/\u.port<65536
theorem BD:Cy L4:=⟨by decide,Bu7,by decide⟩
theorem CU.ok{u:U4}(h:CU u):ZM u:=by
 cases hs:J3 u.sch with
 | false=>
  obtain⟨_,_,_,a4,a5,_⟩:=h.ns hs;exact⟨by rw[a4];exact BD,by omega⟩
 | true=>
  obtain⟨_,_,a3,_,a5,_⟩:=h.sp hs;exact⟨a3,by omega⟩
theorem Ai0(s:By):ZM (C2 s).1:=by
 by_cases h:(C2 s).2=0
 ·exact(Ah9 h).ok
 ·rw[PS h];exact⟨BD,by decide,by decide⟩
theorem Ch6(h:B4):eqH h h=true:=by simp[eqH]
theorem Ch7(u:U4):eqU u u=true:=by simp[eqU,Ch6]
theorem ZK{u:U4}(h:CU u):Bf u=true:=by unfold Bf;rw[Cb2 h,Ch7];rfl
theorem Cl6{m n j l:By}{h v4:Nat}{a b c d e f g i:Nat}{k:Int}(o:h<4):mkU m n (h:Int) j (v4:Int) (n8 a b c d e f g i) k l=⟨m,n,⟨h,j,v4,[a,b,c,d,e,f,g,i]⟩,k,l⟩:=by unfold mkU Cl5 n8;rw[if_pos (E6.2 ⟨by omega,by omega⟩)];simp only[j5]
theorem B16(s:By):ZM (F8 s).1:=by
 unfold F8;split
 ·exact⟨BD,by decide,by decide⟩
 ·exact Ai0 s
theorem A50{s:By}(h:(F8 s).2≠0):(F8 s).1=Ac:=by
 unfold F8 at h ⊢;split
 ·rfl
 ·rename_i c;rw[if_neg c] at h;exact PS h
theorem PQ{s:By}(h:(F8 s).2=0):CU (F8 s).1:=by
 unfold F8 at h ⊢;split
 ·rename_i c;rw[if_pos c] at h;cases h
 ·rename_i c;rw[if_neg c] at h;exact Ah9 h
theorem KV(s:By):(F8 s).1.sch.length<=s.length/\(F8 s).1.user.length<=s.length/\(F8 s).1.rest.length<=s.length+1:=by
 unfold F8;split
 ·exact⟨aa1 _,aa1 _,aa1 _⟩
 ·exact B17 s
theorem Iv{s:By}(h:R1 s=true):s=Ik\/s=bWs:=by simpa[R1] using h
theorem Bt3{s:By}(h:R1 s=false)(a:Int):upS s=s/\upP s a=a:=by
 have e:(s==Ik)=false/\(s==bWs)=false:=by simpa[R1] using h
 unfold upS upP;rw[e.1,e.2,h];simp
theorem JQ{n:Int}:Ak n=true↔-9223372036854775808<=n/\n<9223372036854775808:=by unfold Ak;rw[E6];constructor<;>rintro⟨a,b⟩<;>constructor<;>omega
theorem Jr(c:UInt8):∀s:By,o5 s c=match Hg c s with|some k=>(k:Int)|none=>-1
 | []=>rfl
 | b::r=>by
  have a:=Jr c r;unfold o5 Hg;by_cases h:b=c
  ·rw[if_pos h,if_pos (by simpa using h)];rfl
  ·rw[if_neg h,if_neg (by simpa using h),a];cases Hg c r with
   | none=>rfl
   | some k=>
    have e:((k:Int)==-1)=false:=by rw[beq_eq_false_iff_ne];omega
    simp only[x3,e,o6,if_false];rfl
theorem B73(b:UInt8):isl.contains b=M3 b:=by rw[p6];simp[isl,M3,or_assoc]
theorem Hz(b:UInt8)(r:By):J1 (b::r)=if M3 b then 0 else J1 r+1:=by unfold J1;rw[ad5];cases h:M3 b<;>simp
theorem Xy:∀s:By,J1 s<=s.length
 | []=>w9 _
 | b::r=>by
  have:=Xy r;rw[Hz,j0];split<;>omega
theorem Jq:∀s:By,aa7 s isl=if J1 s<s.length then (J1 s:Int) else -1
 | []=>rfl
 | b::r=>by
  have c:=Jq r;have d:=Xy r;rw[aa7,B73,Hz,j0,c];cases M3 b with
  | true=>simp
  | false=>
   simp only[o6,if_false];by_cases h:J1 r<r.length
   ·have e:((J1 r:Int)==-1)=false:=by rw[beq_eq_false_iff_ne];omega
    have a:J1 r+1<r.length+1:=by omega
    simp only[if_pos h,if_pos a,e,o6,if_false];rfl
   ·have a:¬J1 r+1<r.length+1:=by omega
    simp only[if_neg h,if_neg a];rfl
theorem Dn2(b:UInt8)(t:By)(g:128<=b.toNat):128<=(aa4 (b::t)).1/\(aa4 (b::t)).1<1114112/\1<=(aa4 (b::t)).2/\(aa4 (b::t)).2<=t.length+1/\∀i,i<(aa4 (b::t)).2->128<=((b::t).getD i 0).toNat:=by
 have d:=Lib.decodeL_le (b::t) (by simp);have l:=Lib.decodeL_width (b::t);have n:=Lib.decodeL_rune (b::t);rw[j0] at d;refine⟨?_,by omega,l,d,?_⟩;all_goals
  clear d l n;rw[Lib.decodeL_N];rcases Lib.decodeN_shape (b::t).length ((b::t).getD 0 0).toNat ((b::t).getD 1 0).toNat ((b::t).getD 2 0).toNat ((b::t).getD 3 0).toNat with⟨c,e⟩|⟨h,j,k,f,e⟩|⟨h,j,k,m,f,p,e⟩|⟨h,j,k,m,o,f,q,e⟩|e
  all_goals rw[e]
 ·exact absurd g (by simp at c;omega)
 ·exact f
 ·simp only;omega
 ·simp only;omega
 ·simp only;omega
 ·exact absurd g (by simp at c;omega)
 ·intro i a;have:i=0\/i=1:=by simp only at a;omega
  rcases this with rfl|rfl<;>omega
 ·intro i a;have:i=0\/i=1\/i=2:=by simp only at a;omega
  rcases this with rfl|rfl|rfl<;>omega
 ·intro i a;have:i=0\/i=1\/i=2\/i=3:=by simp only at a;omega
  rcases this with rfl|rfl|rfl|rfl<;>omega
 ·intro i a;have:i=0:=by simp only at a;omega
  subst this;exact g
theorem Cs4{b:UInt8}(h:128<=b.toNat):M3 b=false:=by
 unfold M3;have n:∀c:UInt8,c.toNat<128->(b==c)=false:=λc a=>by
  rw[beq_eq_false_iff_ne];rintro rfl;omega
 rw[n 47 (by decide),n 63 (by decide),n 35 (by decide)];rfl
theorem Cj6{r:Int}(h:128<=r):irn r=-1:=by unfold irn;rw[F7,F7,F7]
theorem Do5(b:UInt8):ltI (irn (b.toNat:Int)) 0 = !M3 b:=by
 have e:∀c:UInt8,((b.toNat:Int)=(c.toNat:Int))=(b=c):=λc=>propext ⟨λh=>ad3.1 (by omega),λh=>by rw[h]⟩
 have g:((b.toNat:Int)=47)=(b=47):=e 47;have i:((b.toNat:Int)=63)=(b=63):=e 63;have j:((b.toNat:Int)=35)=(b=35):=e 35;unfold irn M3;simp only[g,i,j];by_cases a:b=47
 ·subst a;rfl
 ·by_cases d:b=63
  ·subst d;rfl
  ·by_cases f:b=35
   ·subst f;rfl
   ·have n:∀c,b≠c->(b==c)=false:=λc h=>by rwa [beq_eq_false_iff_ne]
    rw[if_neg a,if_neg d,if_neg f,n _ a,n _ d,n _ f];rfl
end
section
open Go Go.Proofs
set_option maxRecDepth 100000
theorem A37{R:Type}{b:By->Option R}(s p:By)(a:A3 s.length=true):Bq3 LF s p b=b (Ha s p):=by
 have:=L3 a;unfold Bq3 Ha;rw[a];cases h:p.isPrefixOf s with
 | false=>simp
 | true=>
  have:p.length<=s.length:=by rw[Fb] at h;simp at h;exact h.1
  simp (disch:=omega)
theorem B83{R:Type}{a:By->Option R}(s p:By)(b:A3 s.length=true):Dd9 LF s p a=a (Ha s p):=by unfold Dd9;rw[b];rfl
theorem Bh9{R:Type}{e:Int->Option R}(s:By):Bt5 LF s e=e (P5 s):=by unfold Bt5 P5 Ik bWs Ey ED;generalize (s==([104,116,116,112]:List UInt8))=a;generalize (s==([119,115]:List UInt8))=b;generalize (s==([104,116,116,112,115]:List UInt8))=c;generalize (s==([119,115,115]:List UInt8))=d;cases a<;>cases b<;>cases c<;>cases d<;>rfl
theorem Bw4(s:By):((P5 s)==(80:Int))=R1 s:=by
 unfold P5 R1;cases (s==Ik||s==bWs) with
 | true=>rfl
 | false=>cases (s==Ey||s==ED)<;>rfl
theorem Bi4{R:Type}{a:Bool->Option R}(s:By):Bt6 LF s a=a (J3 s):=by unfold Bt6;rw[Tq,MO]
theorem De6(a p:By)(k:Int)(l:By)(v4 c d e f g h i j m:Int)(o:By) :
  ∃r H,Dq9 LF a p k l v4 c d e f g h i j m o (λn b=>rv (.s (.bool n)) b)=rv r H/\r.stab [] H = .s (.bool (R1 a)):=
 ⟨_,_,rfl,by rw[<-Bw4];rfl⟩
def WO:By:=[48,49,50,51,52,53,54,55,56,57,43,45,46]
theorem Mb(c:UInt8):∀l:By,ltI (o5 l c) 0 = !l.contains c
 | []=>rfl
 | b::r=>by
  have f:=Mb c r;have g:=ai0 r c;unfold o5;by_cases h:b=c
  ·subst h;simp[E2]
  ·have e:(b==c)=false:=by simpa using h
   have d:(c==b)=false:=by simpa using ah4 h
   rw[List.contains_cons,d,aj5,<-f,e];simp only[o6,if_false];by_cases a:o5 r c=-1
   ·rw[a];rfl
   ·have:(o5 r c==-1)=false:=by simpa using a
    rw[this,if_neg (by simp),A6,A6]
theorem An9:∀b:UInt8,L2 b=(Q2 b||WO.contains b):=by
 have:∀n:Fin 256,L2 (v8 n.val)=(Q2 (v8 n.val)||WO.contains (v8 n.val)):=by decide +kernel
 intro b;have h:=this ⟨b.toNat,b.toNat_lt⟩;simpa using h
theorem Aq5{R:Type}{c:Unit->Option R}{d:By->Int->Int->Bool->Option R}(s:By)(i:Nat)(b:UInt8)(l:Bool)(n:Int):Fy s (i:Int) (b.toNat:Int) l n c d=if l then d s n i false else if i=0 then c () else if WO.contains b then d s n i false else c ():=by
 unfold Fy;cases l with
 | true=>rfl
 | false=>
  rw[o0,cond_true,if_neg (by simp)];by_cases a:i=0
  ·subst a;rfl
  ·have f:=b.toNat_lt;rw[show((i:Int)==0)=false by simpa using a,cond_false,E9,cond_true,if_neg a];simp only[vl];rw[Ji];have e:=Mb b WO;rw[show([48,49,50,51,52,53,54,55,56,57,43,45,46]:List UInt8)=WO from rfl,e];cases WO.contains b<;>rfl
theorem ME{R:Type}{a:Unit->Option R}{c:By->Option R}(s:By)(r:s.length<=1000000000)(n i:Nat)(p:i<s.length) :
  O2 LF (n+1) s (s.length:Int) (i:Int) a c=if Q2 (s.getD i 0) then O2 LF n s s.length ((i+1:Nat):Int) a c else if i=0 then a () else if WO.contains (s.getD i 0) then O2 LF n s s.length ((i+1:Nat):Int) a c else a ():=by
 have k:A1 ((i:Int)+1)=((i+1:Nat):Int):=by rw[A7];rfl
 rw[O2,A8,E9,D3];simp only[cond_true];generalize s.getD i 0=b;have go:∀l,Fy s (i:Int) (b.toNat:Int) l (s.length:Int) (λ_=>a ()) (λj g h m=>O2 LF n j g (A1 (h+(1:Int))) a c)=if l then O2 LF n s s.length ((i+1:Nat):Int) a c else if i=0 then a () else if WO.contains b then O2 LF n s s.length ((i+1:Nat):Int) a c else a ():=λl=>by
  rw[Aq5,k]
 have q:Q2 b=((y5 97 b.toNat&&y5 b.toNat 122)||(y5 65 b.toNat&&y5 b.toNat 90)):=rfl;by_cases f:97<=b.toNat
 ·rw[A6,o0,cond_true];by_cases d:b.toNat<=122
  ·rw[A6,o0,cond_true,if_pos (U9.2 (.inl ⟨f,d⟩))];unfold FP;simp only[k]
  ·rw[A8,j1,cond_false,A6,o0,cond_true,A8,j1];have e:Q2 b=false:=by
    rw[<-ah9,U9];omega
   rw[e];exact go false
 ·rw[A8,j1,cond_false];by_cases o:65<=b.toNat
  ·rw[A6,o0,cond_true];have e:Q2 b = !ltI 90 (b.toNat:Int):=by
    rw[p6,U9,ac0,Pj];omega
   rw[e];exact go _
  ·rw[A8,j1,cond_false];have e:Q2 b=false:=by
    rw[<-ah9,U9];omega
   rw[e];exact go false
theorem B91{R:Type}{k0:Unit->Option R}{k1:By->Option R}(s:By)(d:s.length<=1000000000):∀(r i n:Nat),i+r=s.length->r<n->0<i->
  O2 LF n s (s.length:Int) (i:Int) k0 k1=if (s.drop i).all L2 then k1 s else k0 ():=by
 intro r
 induction r with
 | zero=>
  intro i n b c a;obtain⟨n,rfl⟩:∃m,n=m+1:=⟨n-1,by omega⟩
  rw[O2];rw[A6,p5 (by omega)];rfl
 | succ r e=>
  intro i n b c a;obtain⟨n,rfl⟩:∃m,n=m+1:=⟨n-1,by omega⟩
  rw[ME s d n i (by omega),e (i+1) n (by omega) (by omega) (by omega),D4 s i (by omega),aj6,An9,if_neg (by omega:¬i=0)];cases Q2 (s.getD i 0) with
  | true=>simp
  | false=>
   cases WO.contains (s.getD i 0)<;>simp
theorem B92{R:Type}{k0:Bool->Option R}(s:By)(f:A3 s.length=true):Cv0 LF s k0=k0 (T2 s):=by
 have c:=L3 f;have g:=C7;unfold Cv0;obtain⟨n,d⟩:∃m,LF=m+1:=⟨LF-1,by omega⟩
 cases s with
 | nil=>
  rw[show @O2 R LF LF = @O2 R LF (n+1) by rw[<-d]];rfl
 | cons b t=>
  rw[show @O2 R LF LF = @O2 R LF (n+1) by rw[<-d]];refine o7 (ME (b::t) c n 0 (by simp)) ?_;have e:=B91 (k0:=λ_=>k0 false) (k1:=λa=>k0 (not (a==([]:List UInt8)))) (b::t) c t.length 1 n (by simp;omega) (by simp at c;omega) (by omega);rw[aa9];simp only[ad8,if_true];rw[show(((0+1:Nat):Int))=((1:Nat):Int) from rfl,e];rw[show(b::t).drop 1=t from rfl,show T2 (b::t)=(Q2 b&&t.all L2) from rfl];cases Q2 b with
  | false=>rfl
  | true=>cases t.all L2<;>rfl
theorem WQ:∀(s:By) (n:Int),EH.go n s=(Bp n s).getD 0
 | [],n=>rfl
 | b::r,n=>by
  unfold EH.go Bp;split
  ·exact WQ r _
  ·rfl
theorem B85{R:Type}{a:Unit->Option R}{c:Int->Option R}(s:By)(y:s.length<=1000000000):∀(r i n:Nat) (v:Int),i+r=s.length->r<n->-1<=v->v<=65536->
  Nf LF n s v (s.length:Int) (i:Int) a c=match Bp v (s.drop i) with|some m=>c m|none=>a ():=by
 intro r
 induction r with
 | zero=>
  intro i n v p q j k;obtain⟨n,rfl⟩:∃m,n=m+1:=⟨n-1,by omega⟩
  rw[Nf];rw[A6,p5 (by omega)];rfl
 | succ r t=>
  intro i n v p q j k;obtain⟨n,rfl⟩:∃m,n=m+1:=⟨n-1,by omega⟩
  have d:A1 ((i:Int)+1)=((i+1:Nat):Int):=by rw[A7];rfl
  rw[Nf];rw[A8,E9,D3,D4 s i (by omega),d];have x:=(s.getD i 0).toNat_lt;generalize s.getD i 0=b at *;unfold Bp;simp only[cond_true,vl];by_cases l:b.toNat<48
  ·rw[A8,cond_true,F7]
  ·rw[A6,cond_false];by_cases o:57<b.toNat
   ·rw[A8,cond_true,F7]
   ·rw[A6,cond_false,if_pos (show 48<=b.toNat/\b.toNat<=57 by omega)];have u:(if (0:Int) > v then (0:Int) else v)=max v 0:=by omega
    have e:A1 (10*max v 0)=10*max v 0:=A7;have f:wu8 ((b.toNat:Int)-48)=((b.toNat-48:Nat):Int):=by rw[M7];omega
    have g:A1 ((b.toNat-48:Nat):Int)=((b.toNat-48:Nat):Int):=A7;have h:A1 (10*max v 0+((b.toNat-48:Nat):Int))=10*max v 0+((b.toNat-48:Nat):Int):=A7;rw[u,e,f,g,h];have w:(if (65536:Int)<10*max v 0+((b.toNat-48:Nat):Int) then (65536:Int) else 10*max v 0+((b.toNat-48:Nat):Int))=min (10*max v 0+((b.toNat-48:Nat):Int)) 65536:=by omega
    rw[w];exact t (i+1) n _ (by omega) (by omega) (by omega) (by omega)
theorem B86{R:Type}{a:Int->Bool->Option R}(s:By)(b:A3 s.length=true):De7 LF s a=a (EH s) (Hj (-1) s).isSome:=by
 have d:=L3 b;have c:=C7;unfold De7;refine o7 (B85 s d s.length 0 LF (-1) (by omega) (by omega) (by omega) (by omega)) ?_;rw[aa5,EX,show EH s=EH.go (-1) s from rfl,WQ];cases Bp (-1) s with
 | none=>rfl
 | some m=>
  simp only[ai2,af1];rw[Tq];by_cases h:m<65536
  ·rw[decide_eq_true h,if_pos h];rfl
  ·rw[decide_eq_false h,if_neg h];rfl
theorem Cm4{s:By}{p:Int}(h:Hj (-1) s=some p):EH s=p:=by
 rw[EX] at h;rw[show EH s=EH.go (-1) s from rfl,WQ];cases a:Bp (-1) s with
 | none=>rw[a] at h;cases h
 | some m=>
  rw[a] at h;simp only[af1] at h;split at h
  ·exact j8 h
  ·cases h
def hpT(name tail b user a:By):U4 × Nat:=
 if (C1 name).2≠0 then (Ac,(C1 name).2)
 else match Hj (-1) (tail.drop 1) with
  | none=>(Ac,16)
  | some p=>(⟨b,user,(C1 name).1,if p=P5 b then -1 else p,a⟩,0)
def hpC(name tail b user a:By):U4 × Nat:=if tail≠[]/\tail.head?≠some 58 then (Ac,4) else hpT name tail b user a
theorem We(c user b a:By):N2 c user b a=match Em a with|none=>(Ac,4)|some (name,tail)=>hpC name tail c user b:=by
 unfold N2;cases Em a with
 | none=>rfl
 | some q=>
  obtain⟨name,tail⟩:=q;rfl
theorem Tm{t:By}(h:t=[]\/t.head? = some 58):Ha t [58]=t.drop 1:=by
 rcases h with rfl|h
 ·rfl
 ·cases t with
  | nil=>cases h
  | cons b r=>
   simp only[List.head?_cons,j6] at h;subst h;simp[Ha]
theorem Yi(name tail:By)(f:name.length<=1000000000)(j:tail.length<=1000000000)(h:tail=[]\/tail.head? = some 58)(d u:By)(v:Int)(y:By)(w n8 x k l m n o r:Int)(c:By) :
  ∃B H,∀(R:Type) (a:Int->Blk->By->By->Int->By->Int->Int->Int->Int->Int->Int->Int->Int->Int->Int->By->List Blk->Option R),W9 name tail d u v y w n8 x k l m n o r (-1) c a=(λq=>a (uE q) B (uS q) (uU q) (uK q) (uN q) (uV q) (uA q 0) (uA q 1) (uA q 2) (uA q 3) (uA q 4) (uA q 5) (uA q 6) (uA q 7) (uP q) (uR q) H) (hpT name tail d u c):=by
 have i:(tail.drop 1).length<=1000000000:=by rw[j4];omega
 by_cases b:(C1 name).2=0
 ·cases g:Hj (-1) (tail.drop 1) with
  | none=>
   apply o9;apply o9;intro R a;unfold W9 hpT;rw[E1 f,cond_true,Tm h,E1 j];simp only[vl,cond_true];rw[b,E1 i,g];rfl
  | some p=>
   have t:=Cm4 g;by_cases e:p=P5 d
   ·apply o9;apply o9;intro R a;unfold W9 hpT;rw[E1 f,cond_true,Tm h,E1 j];simp only[vl,cond_true];rw[b,E1 i,g,t,show(p !=P5 d)=false by simpa using e];simp only[e,if_true];rfl
   ·apply o9;apply o9;intro R a;unfold W9 hpT;rw[E1 f,cond_true,Tm h,E1 j];simp only[vl,cond_true];rw[b,E1 i,g,t,show(p !=P5 d)=true by simpa using e];simp only[e,if_false];rfl
 ·apply o9;apply o9;intro R a;unfold W9 hpT;rw[E1 f,cond_true];simp only[vl];rw[show(((C1 name).2:Int)!=0)=true by simpa using b,cond_true,if_pos b];rfl
theorem Ng(name tail:By)(w:name.length<=1000000000)(x:tail.length<=1000000000)(l m:By)(p:Int)(v:By)(t n8 u d f g i j k:Int)(a:By) :
  ∃B H,∀(R:Type) (c:Int->Blk->By->By->Int->By->Int->Int->Int->Int->Int->Int->Int->Int->Int->Int->By->List Blk->Option R),Q8 name tail l m p v t n8 u d f g i j k (-1) a c=(λq=>c (uE q) B (uS q) (uU q) (uK q) (uN q) (uV q) (uA q 0) (uA q 1) (uA q 2) (uA q 3) (uA q 4) (uA q 5) (uA q 6) (uA q 7) (uP q) (uR q) H) (hpC name tail l m a):=by
 cases tail with
 | nil=>
  obtain⟨B,H,e⟩:=Yi name [] w x (.inl rfl) l m p v t n8 u d f g i j k a;refine⟨B,H,λR c=>?_⟩;unfold Q8 hpC;exact e R c
 | cons b r=>
  by_cases n:b=58
  ·subst n;obtain⟨B,H,e⟩:=Yi name (58::r) w x (.inr rfl) l m p v t n8 u d f g i j k a;refine⟨B,H,λR c=>?_⟩;unfold Q8 hpC;rw[M0 (by omega) (by simp),if_neg (by simp)];exact e R c
  ·apply o9;apply o9;intro R c;unfold Q8 hpC;have o:(((b.toNat:Int))!=(58:Int))=true:=by
    rw[bne_iff_ne];intro h;have y:b.toNat=58:=by omega
    exact n (ad3.1 y)
   rw[M0 (by omega) (by simp),if_pos (by simpa using n),Ao,aa9,o];rfl
theorem Bp3{c:UInt8}{s:By}(h:Hg c s=none):o5 s c=-1:=by rw[Jr,h]
theorem WA{c:UInt8}{s:By}{k:Nat}(h:Hg c s=some k):o5 s c=(k:Int)/\k<s.length:=by obtain⟨p,r,rfl,_,rfl⟩:=Qu h;exact⟨by rw[Jr,h],by simp⟩
theorem Dp7(c:UInt8)(s:By):([c]:By).isPrefixOf s=(s.head? == some c):=by
 cases s with
 | nil=>rfl
 | cons b r=>
  grind
abbrev KU(R:Type):=By->By->Int->By->Int->Int->Int->Int->Int->Int->Int->Int->Int->Int->By->Int->List Blk->Option R
abbrev IS{R:Type}(a:KU R)(q:U4 × Nat)(H:List Blk):Option R:=a (uS q) (uU q) (uK q) (uN q) (uV q) (uA q 0) (uA q 1) (uA q 2) (uA q 3) (uA q 4) (uA q 5) (uA q 6) (uA q 7) (uP q) (uR q) (uE q) H
theorem Bh7(u:By)(J:Int)(O:By)(v4 y z A C D F G I:Int)(t a:By)(h2:A3 a.length=true) :
  ∃H,∀(R:Type) (o:KU R),Up LF u [] J O v4 y z A C D F G I (-1) t a o=IS o (G2 u t a) H:=by
 have ha:=L3 h2;have ge:=JV 64 a;have key:∀(x b:By),b.length<=1000000000->∃H,∀(R:Type) (o:KU R),(cond (A3 (b8 b)) (cond (p9 (([91]:List UInt8)) b)
   (cond (A3 (b8 b))
    (vl (o5 b (u8n (93:Int))) λc=>
    cond (ltI c (0:Int))
     (o ([]:List UInt8) ([]:List UInt8) 0 ([]:List UInt8) 0 0 0 0 0 0 0 0 0 0 ([]:List UInt8) 4 [(bU u x J O v4 y z A C D F G I (-1) t),bU0])
     (cond (I9 (0:Int) (A1 (c+(1:Int))) (b8 b))
      (cond (I9 (A1 (c+(1:Int))) (↑(b8 b):Int) (b8 b))
       (Q8 (cut b (0:Int) (A1 (c+(1:Int)))) (cut b (A1 (c+(1:Int))) (↑(b8 b):Int)) u x J O v4 y z A C D F G I (-1) t (λn0 T P Q K S L M n8 N f g i j l m n q=>o P Q K S L M n8 N f g i j l m n n0 (T::((bU P Q K S L M n8 N f g i j l m n)::q))))
       (none))
      (none)))
    (none))
   (cond (A3 (b8 b))
    (vl (o5 b (u8n (58:Int))) λd=>
    cond (not (ltI d (0:Int)))
     (cond (I9 (0:Int) d (b8 b))
      (cond (I9 d (↑(b8 b):Int) (b8 b))
       (Q8 (cut b (0:Int) d) (cut b d (↑(b8 b):Int)) u x J O v4 y z A C D F G I (-1) t (λn0 T P Q K S L M n8 N f g i j l m n q=>o P Q K S L M n8 N f g i j l m n n0 (T::((bU P Q K S L M n8 N f g i j l m n)::q))))
      (none))
     (none))
     (Q8 b ([]:List UInt8) u x J O v4 y z A C D F G I (-1) t (λn0 T P Q K S L M n8 N f g i j l m n q=>o P Q K S L M n8 N f g i j l m n n0 (T::((bU P Q K S L M n8 N f g i j l m n)::q)))))
    (none))) none)=IS o (N2 u x t b) H:=by
  intro x b hb;rw[We];unfold Em;have w:A3 b.length=true:=E1 hb;have W:u8n (93:Int)=93:=rfl;have U:u8n (58:Int)=58:=rfl;by_cases v:b.head? = some 91
  ·rw[if_pos v];have Z:([91]:By).isPrefixOf b=true:=by rw[Dp7,v];rfl
   cases Y:Hg 93 b with
   | none=>
    apply o9;intro R o;rw[w,Z,W,Bp3 Y];rfl
   | some k=>
    obtain⟨e,hk⟩:=WA Y;have e1:A1 ((k:Int)+1)=((k+1:Nat):Int):=by rw[A7];rfl
    obtain⟨B,H,X⟩:=Ng (b.take (k+1)) (b.drop (k+1)) (by rw[j7];omega) (by rw[j4];omega) u x J O v4 y z A C D F G I t;apply o9;intro R o;rw[w,Z,W,e];simp only[vl,cond_true];rw[A6,cond_false,e1,I4,I4,cond_true,cond_true,K7,P9,j5,X]
  ·rw[if_neg v];have Z:([91]:By).isPrefixOf b=false:=by rw[Dp7];simpa using v
   cases Y:Hg 58 b with
   | none=>
    obtain⟨B,H,X⟩:=Ng b [] hb (by simp) u x J O v4 y z A C D F G I t;apply o9;intro R o;rw[w,Z,U,Bp3 Y];simp only[vl,cond_true,cond_false];rw[A8,j1,cond_false,X]
   | some k=>
    obtain⟨e,hk⟩:=WA Y;obtain⟨B,H,X⟩:=Ng (b.take k) (b.drop k) (by rw[j7];omega) (by rw[j4];omega) u x J O v4 y z A C D F G I t;apply o9;intro R o;rw[w,Z,U,e];simp only[vl,cond_true,cond_false];rw[A6,o0,cond_true,I4,I4,cond_true,cond_true,K7,P9,j5,X]
 have V:u8n (64:Int)=64:=rfl;unfold G2;by_cases h:0<=K8 64 a
 ·obtain⟨p,r,rfl,_,hl⟩:=JX h;rw[if_pos h,hl,j5];rw[j2,j0] at ha;obtain⟨H,e⟩:=key ((p++64::r).take p.length) ((p++64::r).drop (p.length+1)) (by rw[j4,j2,j0];omega);refine⟨H,λR o=>?_⟩;refine o7 ?_ (e R o);have e1:A1 ((p.length:Int)+1)=((p.length+1:Nat):Int):=by rw[A7];rfl
  have ln:(p++64::r).length=p.length+r.length+1:=by rw[j2,j0];omega
  unfold Up;rw[h2,V,hl];simp only[vl,cond_true];rw[A6,o0,cond_true,e1,I4,I4,cond_true,cond_true,K7,P9,j5,j5];rfl
 ·rw[if_neg h];obtain⟨H,e⟩:=key [] a ha;refine⟨H,λR o=>?_⟩;refine o7 ?_ (e R o);unfold Up;rw[h2,V];simp only[vl,cond_true];rw[A8,j1,cond_false];rfl
def Tru(x:Option (PV × List Blk × Unit)):Prop:=∃H,x=some (.s (.bool true),H,())
theorem eq8{v6:List Nat}(h:v6.length=8):∃a b c d e f g i,v6=[a,b,c,d,e,f,g,i]:=by
 match v6,h with
 | [a,b,c,d,e,f,g,i],_=>exact⟨a,b,c,d,e,f,g,i,rfl⟩
theorem C86{a b c d e f g i:Nat}(h:∀x∈[a,b,c,d,e,f,g,i],x<65536):ok8 a b c d e f g i=true:=by
 have q:∀x∈[a,b,c,d,e,f,g,i],ltN (x:Int) 65536=true:=λx j=>E6.2 ⟨by omega,by have:=h x j;omega⟩
 simp[ok8,q a,q b,q c,q d,q e,q f,q g,q i]
theorem EB{h:B4}(a:K2 h=true):h.name.length<=253:=by
 unfold K2 at a;split at a
 ·simp only[o8] at a;exact(Ih.1 a.1.1).le
 ·split at a
  ·simp only[o8,af0] at a;rw[a.1];simp
  ·split at a
   ·simp only[o8,af0] at a;rw[a.1];simp
   ·cases a
theorem Ad8{h:B4}(ok:Cy h):(U0 h).length<=300:=by
 cases a:K2 h with
 | false=>rw[JH a];simp
 | true=>
  have d:=EB a;have c:=Bi9 _ ok.v6.1 ok.v6.2;have b:=Cv4 _ ok.v4;unfold U0;rw[if_pos a];split
  ·omega
  ·split
   ·omega
   ·simp only[j0,j2,v7];omega
theorem Bp0{h0 b c d e f g i j a:Int}{h1:By}(k:ltN b 4294967296=true)(l:ok8 c d e f g i j a=true):Cy (mkH h0 h1 b (n8 c d e f g i j a)):=by
 have⟨m,n⟩:=E6.1 k;refine⟨by show b.toNat<_;omega,Dl7 l,?_⟩;show(if ltN h0 4 then h0.toNat else 0)<4;split
 ·rename_i h;have:=E6.1 h;omega
 ·omega
theorem B89(c z:By)(x:Int)(y:By)(v4 m n o p t u v w k:Int)(b a:By)(O:A3 c.length=true)(P:A3 b.length=true)(A:A3 a.length=true)(B:z.isEmpty=true)(C:(k==-1)=true) :
  ∃r H,Up LF c z x y v4 m n o p t u v w k b a (λL M D N F G I J n8 K f g h i l j d=>rv (.tup [gU L M D N F G I J n8 K f g h i l,.s (.int .i64 j)]) d)=rv r H/\
   r.stab [0,0] H=(λq=>.tup [gU (uS q) (uU q) (uK q) (uN q) (uV q) (uA q 0) (uA q 1) (uA q 2) (uA q 3) (uA q 4) (uA q 5) (uA q 6) (uA q 7) (uP q) (uR q),.s (.int .i64 (uE q))]) (G2 c b a):=by
 obtain rfl:=af0.1 B;obtain rfl:k=-1:=by simpa using C
 obtain⟨H,e⟩:=Bh7 c x y v4 m n o p t u v w b a A;exact⟨_,_,e _ _,rfl⟩
theorem Bo0(b:UInt8):ctl b=(!ltI 32 (b.toNat:Int)||((b.toNat:Int)==127)):=by rw[p6,Vi,ab1,ac0,Pj,beq_iff_eq];omega
theorem B90{R:Type}{a:List Blk->Option R}{b:By->Option R}(s:By)(g:s.length<=1000000000):∀(r i n:Nat),i+r=s.length->r<n->
  Jj LF n s (s.length:Int) (i:Int) a b=if (s.drop i).any ctl then a [] else b s:=by
 intro r
 induction r with
 | zero=>
  intro i n d e;obtain⟨n,rfl⟩:∃m,n=m+1:=⟨n-1,by omega⟩
  rw[Jj];rw[A6,p5 (by omega)];rfl
 | succ r f=>
  intro i n d e;obtain⟨n,rfl⟩:∃m,n=m+1:=⟨n-1,by omega⟩
  have c:A1 ((i:Int)+1)=((i+1:Nat):Int):=by rw[A7];rfl
  rw[Jj];rw[A8,E9,D3,D4 s i (by omega),c,List.any_cons,Bo0];simp only[cond_true];rw[f (i+1) n (by omega) (by omega)];cases ltI 32 ((s.getD i 0).toNat:Int) with
  | false=>rfl
  | true=>cases (((s.getD i 0).toNat:Int)==127)<;>rfl
theorem Cu9(s:By)(i:A3 s.length=true):∃H,∀(R:Type) (a:KU R),NL LF s a=IS a (C2 s) H:=by
 have y:=L3 i;have v:=C7;have L:∀{R:Type} (a:List Blk->Option R) (l:By->Option R),Jj LF LF s (s.length:Int) 0 a l=if s.any ctl then a [] else l s:=λa l=>B90 s y s.length 0 LF (by omega) (by omega)
 unfold C2;by_cases h:s.any ctl=true
 ·rw[if_pos h];apply o9;intro R a;unfold NL;rw[L,if_pos h];rfl
 rw[if_neg h];rcases Q7 58 s with b|⟨p,r,rfl,b⟩
 ·apply o9;intro R a;unfold NL;rw[L,if_neg h,i,Ki b];rfl
 have B:(p++58::r).length=p.length+r.length+1:=by rw[j2,j0];omega
 have sp:A3 p.length=true:=K4;have o:A3 r.length=true:=K4;rw[T9 b];simp only[j1,aj5];cases c:T2 p with
 | false=>
  apply o9;intro R a;unfold NL;rw[L,if_neg h,i,T9 b];simp only[vl,cond_true,j1,cond_false];rw[sp,c];rfl
 | true=>
 rw[if_neg (by simp)];cases f:J3 (B5 p) with
 | false=>
  apply o9;intro R a;unfold NL;rw[L,if_neg h,i,T9 b];simp only[vl,cond_true,j1,cond_false];rw[sp,c,f];rfl
 | true=>
 rw[if_neg (by simp)];cases Pc:([47,47]:By).isPrefixOf r with
 | false=>
  apply o9;intro R a;unfold NL;rw[L,if_neg h,i,T9 b];simp only[vl,cond_true,j1,cond_false];rw[sp,c,f,o,Pc];rfl
 | true=>
 rw[if_neg (by simp)];have j:Ha r [47,47]=r.drop 2:=by unfold Ha;rw[Pc,if_pos rfl];rfl
 generalize m:r.drop 2=t;rw[m] at j;have lt:t.length<=r.length:=by rw[<-m,j4];omega
 have u:A3 t.length=true:=K4;have z:=Xy t;have sl:A3 (B5 p).length=true:=by rw[Z4];exact sp
 have tail:∀(R:Type) (a:KU R) (X d:By),X.length<=t.length->d.length<=t.length->
   (cond (A3 (b8 X))
    (cond (not (p9 (([47]:List UInt8)) X))
     (cond (L6 1 (b8 X))
     (cond (A3 (b8 (B5 p)))
      (cond (A3 (b8 (([47]:List UInt8)++X)))
       (cond (A3 (b8 d))
       (cond (((-1):Int)==((-1):Int))
        (IS a (G2 (B5 p) (([47]:List UInt8)++X) d) ((λq=>[bU (uS q) (uU q) (uK q) (uN q) (uV q) (uA q 0) (uA q 1) (uA q 2) (uA q 3) (uA q 4) (uA q 5) (uA q 6) (uA q 7) (uP q) (uR q),bU (B5 p) [] 0 [] 0 0 0 0 0 0 0 0 0 (-1) (([47]:List UInt8)++X)]) (G2 (B5 p) (([47]:List UInt8)++X) d)))
        (none))
       (none))
       (none))
      (none))
     (none))
     (cond (A3 (b8 (B5 p)))
     (cond (A3 (b8 X))
      (cond (A3 (b8 d))
      (cond (((-1):Int)==((-1):Int))
       (IS a (G2 (B5 p) X d) ((λq=>[bU (uS q) (uU q) (uK q) (uN q) (uV q) (uA q 0) (uA q 1) (uA q 2) (uA q 3) (uA q 4) (uA q 5) (uA q 6) (uA q 7) (uP q) (uR q),bU (B5 p) [] 0 [] 0 0 0 0 0 0 0 0 0 (-1) X]) (G2 (B5 p) X d)))
       (none))
      (none))
      (none))
     (none)))
    none)=IS a (G2 (B5 p) (R7 X) d) ((λq=>[bU (uS q) (uU q) (uK q) (uN q) (uV q) (uA q 0) (uA q 1) (uA q 2) (uA q 3) (uA q 4) (uA q 5) (uA q 6) (uA q 7) (uP q) (uR q),bU (B5 p) [] 0 [] 0 0 0 0 0 0 0 0 0 (-1) (R7 X)]) (G2 (B5 p) (R7 X) d)):=by
  intro R a X d A w;rw[K4,sl,Dp7,E1 (n:=d.length) (by omega)];unfold R7;by_cases g:X.head? = some 47
  ·rw[if_pos g,g];rfl
  ·have e:(X.head? == some 47)=false:=by simpa using g
   rw[if_neg g,e,M9 (by omega),E1 (by simp;omega)];rfl
 refine⟨(λX=>(λq=>[bU (uS q) (uU q) (uK q) (uN q) (uV q) (uA q 0) (uA q 1) (uA q 2) (uA q 3) (uA q 4) (uA q 5) (uA q 6) (uA q 7) (uP q) (uR q),bU (B5 p) [] 0 [] 0 0 0 0 0 0 0 0 0 (-1) (R7 X)]) (G2 (B5 p) (R7 X) (t.take (J1 t)))) (t.drop (J1 t)),λR a=>?_⟩;refine o7 ?_ (tail R a (t.drop (J1 t)) (t.take (J1 t)) (by rw[j4];omega) (by rw[j7];omega));unfold NL;rw[L,if_neg h,i,T9 b];simp only[vl,cond_true,j1,cond_false];rw[sp,c,f,o,Pc,j,u];rw[show AV ([47,63,35]:List UInt8)=true from rfl,show([47,63,35]:List UInt8)=isl from rfl,Jq];simp only[cond_true,j1,cond_false];by_cases k:J1 t<t.length
 ·rw[if_pos k,A6,o0,cond_true,K7,j5,j7,Nat.min_eq_left (by omega),I4,I4,P9,j5];rfl
 ·have x:J1 t=t.length:=by omega
  rw[if_neg k,A8,j1,cond_false,I4,P9,j5,x,List.take_length,u];rfl
abbrev rvU(n o:By)(h:Int)(p:By)(i j k l n8 m b c d e:Int)(g:By)(f:Int)(a:List Blk):=rv (.tup [gU n o h p i j k l n8 m b c d e g,.s (.int .i64 f)]) a
abbrev pvU(q:U4 × Nat):PV:=.tup [gU (uS q) (uU q) (uK q) (uN q) (uV q) (uA q 0) (uA q 1) (uA q 2) (uA q 3) (uA q 4) (uA q 5) (uA q 6) (uA q 7) (uP q) (uR q),.s (.int .i64 (uE q))]
theorem Df0(s:By)(a:A3 s.length=true):∃r H,NL LF s rvU=rv r H/\r.stab [0,0] H=pvU (C2 s):=by obtain⟨H,e⟩:=Cu9 s a;exact⟨_,_,e _ _,rfl⟩
theorem PD{p:Int}(h:Ak p=true):(V9 p).length<=20:=by
 obtain⟨a,b⟩:=JQ.1 h;unfold V9;split
 ·have:=Kj 19 (-p).toNat (by omega) (by omega);rw[j0];omega
 ·have:=Kj 19 p.toNat (by omega) (by omega);omega
theorem Ad7(b:Int)(c:By)(v4:Int)(a:List Nat):U0 (mkH b c v4 a)=U0 (Cl5 b c v4 a):=by
 unfold mkH Cl5;cases h:ltN b 4 with
 | true=>rfl
 | false=>
  rw[if_neg (by simp),if_neg (by simp),JH (by rfl),JH (by rfl)]
theorem Ri{c d a b:By}(h:smU c d a b=true):c.length<=100000000/\d.length<=100000000/\a.length<=100000000/\b.length<=100000000:=by simp only[smU,o8,ac9,and_assoc] at h;exact h
theorem B80{l m:By}{kd:Int}{a:By}{v4 b c d e f g h i j:Int}{k:By}(h0:smU l m a k=true)(h1:ltN v4 4294967296=true)(n:ok8 b c d e f g h i=true)(o:Ak j=true) :
  (Bv (mkU l m kd a v4 (n8 b c d e f g h i) j k)).length<=400000000:=by
 obtain⟨r,t,u,v⟩:=Ri h0;have p:=Ad8 (Bp0 (h0:=kd) (h1:=a) h1 n);rw[Ad7] at p;have q:=PD o;unfold Bv mkU Ok;simp only;split
 ·split<;>split<;>simp only[j2,j0,v7]<;>omega
 ·simp only[j2,j0];omega
theorem Cv3(c n:By)(m:Int)(a:By)(v4 e f g h i j k l b:Int)(d:By)(h0:smU c n a d=true)(h1:ltN v4 4294967296=true)(t:ok8 e f g h i j k l=true)(x:Ak b=true) :
  ∃r H,Sb LF c n m a v4 e f g h i j k l b d (λu q=>rv (.s (.str u)) q)=rv r H/\r.stab [] H = .s (.str (Bv (mkU c n m a v4 (n8 e f g h i j k l) b d))):=by
 obtain⟨D,F,G,I⟩:=Ri h0;have A:=Ad8 (Bp0 (h0:=m) (h1:=a) h1 t);have C:=PD x;have key:∀T:By,Sb LF c n m a v4 e f g h i j k l b d (λu q=>rv (.s (.str u)) q)=rv (.s (.str T)) [bU c n m a v4 e f g h i j k l b d]->T=Bv (mkU c n m a v4 (n8 e f g h i j k l) b d)->∃r H,Sb LF c n m a v4 e f g h i j k l b d (λu q=>rv (.s (.str u)) q)=rv r H/\r.stab [] H = .s (.str (Bv (mkU c n m a v4 (n8 e f g h i j k l) b d))):=λT y z=>⟨_,_,y,by rw[<-z];rfl⟩
 have w:A3 a.length=true:=K4;cases o:J3 c with
 | false=>
  refine key (c++[58]++d) ?_ ?_
  ·unfold Sb;rw[o,M9 (by omega)];simp only[vl,cond_true,o0];rw[M9 (by simp;omega)];rfl
  ·unfold Bv mkU;simp only[o];simp
 | true=>
  have B:=A;by_cases v:n=[]
  ·subst v;have e0:(([]:By)==([]:List UInt8))=true:=rfl;by_cases p:b=-1
   ·subst p;refine key (((c++[58,47,47])++U0 (mkH m a v4 (n8 e f g h i j k l)))++d) ?_ ?_
    ·unfold Sb;rw[o,w,h1,t,e0];simp only[vl,cond_true,cond_false,j1,show((-1:Int)!=-1)=false from rfl]
     repeat rw[M9 (by first|omega|(simp only[j2,j0,v7];omega))]
     rfl
    ·unfold Bv mkU Ok;simp[o,Ad7]
   ·refine key (((c++[58,47,47])++U0 (mkH m a v4 (n8 e f g h i j k l)))++([58]++V9 b)++d) ?_ ?_
    ·unfold Sb;rw[o,w,h1,t,x,e0];simp only[vl,cond_true,cond_false,j1,show(b !=-1)=true by simpa using p]
     repeat rw[M9 (by first|omega|(simp only[j2,j0,v7];omega))]
     rfl
    ·unfold Bv mkU Ok;simp[o,Ad7,p]
  ·have e0:(n==([]:List UInt8))=false:=by simpa using v
   by_cases p:b=-1
   ·subst p;refine key (((c++[58,47,47])++(n++[64])++U0 (mkH m a v4 (n8 e f g h i j k l)))++d) ?_ ?_
    ·unfold Sb;rw[o,w,h1,t,e0];simp only[vl,cond_true,cond_false,j1,o0,show((-1:Int)!=-1)=false from rfl]
     repeat rw[M9 (by first|omega|(simp only[j2,j0,v7];omega))]
     rfl
    ·unfold Bv mkU Ok;simp[o,Ad7,v]
   ·refine key (((c++[58,47,47])++(n++[64])++U0 (mkH m a v4 (n8 e f g h i j k l)))++([58]++V9 b)++d) ?_ ?_
    ·unfold Sb;rw[o,w,h1,t,x,e0];simp only[vl,cond_true,cond_false,j1,o0,show(b !=-1)=true by simpa using p]
     repeat rw[M9 (by first|omega|(simp only[j2,j0,v7];omega))]
     rfl
    ·unfold Bv mkU Ok;simp[o,Ad7,p,v]
theorem C63{a:Int}{k:Nat}(d:k<4):(a==(k:Int))=(k==(if ltN a 4 then a.toNat else 4)):=by
 rw[p6,beq_iff_eq,beq_iff_eq];cases h:ltN a 4 with
 | true=>
  obtain⟨b,c⟩:=E6.1 h;rw[if_pos rfl];omega
 | false=>
  rw[if_neg (by simp)];have:¬(0<=a/\a<4):=λq=>by
   have:=E6.2 q;rw[h] at this;cases this
  omega
theorem UI(a b:By):(a==b)=(b==a):=by rw[p6,beq_iff_eq,beq_iff_eq];exact eq_comm
theorem C61(a b:Int):(a==b)=(b==a):=by rw[p6,beq_iff_eq,beq_iff_eq];exact eq_comm
theorem Fo(a b:Nat):((a:Int)==(b:Int))=(b==a):=by rw[p6,beq_iff_eq,beq_iff_eq];omega
theorem Bv2{F G:By}{Q:Int}{B:By}{v4 a b c d f g h i C:Int}{D:By}{p:U4 × Nat}(R:ltN v4 4294967296=true)(S:ok8 a b c d f g h i=true)(V:ZM p.1) :
  ((F==(uS p))&&((G==(uU p))&&((Q==(uK p))&&((B==(uN p))&&((v4==(uV p))&&((a==(uA p 0))&&((b==(uA p 1))&&((c==(uA p 2))&&((d==(uA p 3))&&((f==(uA p 4))&&((g==(uA p 5))&&((h==(uA p 6))&&((i==(uA p 7))&&((C==(uP p))&&((D==(uR p))&&true)))))))))))))))=eqU p.1 (mkU F G Q B v4 (n8 a b c d f g h i) C D):=by
 obtain⟨⟨s,u,⟨k,n,v,l⟩,q,t⟩,e⟩:=p;obtain⟨P,_⟩:=V;obtain⟨H,I,J,K,L,M,N,O,rfl⟩:=eq8 P.v6.1;obtain⟨j,m,o,r,x,y,z,A,rfl,rfl,rfl,rfl,rfl,rfl,rfl,rfl,_⟩:=Wv S;obtain⟨w,rfl⟩:=x7 (E6.1 R).1;have T:k<4:=P.kd;have U:(([H,I,J,K,L,M,N,O]:List Nat)==[j,m,o,r,x,y,z,A])=((H==j)&&((I==m)&&((J==o)&&((K==r)&&((L==x)&&((M==y)&&((N==z)&&((O==A)&&true)))))))):=rfl;simp only[eqU,eqH,mkU,Cl5,n8,j5,U,aa9,ag2];rw[C63 T,UI F,UI G,UI B,UI D,C61 C,Fo w,Fo j,Fo m,Fo o,Fo r,Fo x,Fo y,Fo z,Fo A];simp only[Bool.and_assoc,ag5];rfl
theorem Bi6(m n:By)(kd:Int)(j:By)(v4 a b c d f g h i k:Int)(l:By)(u:smU m n j l=true)(o:ltN v4 4294967296=true)(q:ok8 a b c d f g h i=true)(v:Ak k=true) :
  ∃r H,FQ LF m n kd j v4 a b c d f g h i k l (λz w=>rv (.s (.bool z)) w)=rv r H/\r.stab [] H = .s (.bool (Bf (mkU m n kd j v4 (n8 a b c d f g h i) k l))):=by
 have A:=B80 (kd:=kd) u o q v;unfold FQ Bf;rw[u,o,q,v];simp only[vl,cond_true];rw[K4,cond_true];have x:=Ai0 (Bv (mkU m n kd j v4 (n8 a b c d f g h i) k l));rw[Bv2 o q x];generalize C2 (Bv (mkU m n kd j v4 (n8 a b c d f g h i) k l))=p;obtain⟨y,e⟩:=p;by_cases t:e=0
 ·subst t;exact⟨_,_,rfl,rfl⟩
 ·rw[show(uE (y,e)==(0:Int))=false by simpa using t,show(e==0)=false by simpa using t];exact⟨_,_,rfl,rfl⟩
theorem De4(l m:By)(n:Int)(i:By)(v4 a b c d e f g h j:Int)(k:By)(p:smU l m i k=true)(q:ltN v4 4294967296=true)(t:ok8 a b c d e f g h=true)(u:Ak j=true) :
  ∃r H,De2 LF l m n i v4 a b c d e f g h j k (λv o=>rv (.s (.str v)) o)=rv r H/\r.stab [] H = .s (.str (EG (mkU l m n i v4 (n8 a b c d e f g h) j k))):=by
 unfold De2 EG;rw[p,q,t,u];cases Bf (mkU l m n i v4 (n8 a b c d e f g h) j k) with
 | false=>exact⟨_,_,rfl,rfl⟩
 | true=>exact⟨_,_,rfl,rfl⟩
end
section
open Go Go.Proofs Go.Sort
set_option maxRecDepth 100000
theorem ZF:B3 a8 GX 157 Uy:=by
 refine B3.fix (pf:=HL) _ (I7 (fn:=Tryz.f157) (by kernel_rfl) (by kernel_rfl) (by kernel_rfl) ?_);intro args ret j h;unfold HL at h;split at h
 ·rename_i s c;obtain⟨l,h⟩:=C3 h;obtain⟨m,h⟩:=C3 h;obtain⟨rfl,rfl⟩:=J4 h;refine⟨rfl,rfl,λC o a p w k n d b=>?_⟩;obtain⟨U,V,rfl,f,g⟩:=b.arr2;obtain⟨i,rfl,rfl⟩:=f.inv_str;obtain rfl:=g.inv_int;refine(Any.strings_IndexByte Tryz.lays137 i c w).mono ?_;rintro e w' ⟨rfl,rfl⟩;exact⟨_,rfl,ah5 _ _,VP.mk_int _ _⟩
 ·cases h
theorem Dg8:B3 a8 GX 123 Bk6:=by
 refine B3.fix (pf:=GC) _ (I7 (fn:=Tryz.f123) (by kernel_rfl) (by kernel_rfl) (by kernel_rfl) ?_);intro args ret l h;unfold GC at h;split at h
 ·rename_i n;obtain⟨b,h⟩:=C3 h;obtain⟨rfl,rfl⟩:=J4 h;refine⟨rfl,rfl,λC o a p w m c i g=>?_⟩;obtain⟨U,rfl,j⟩:=g.arr1;obtain rfl:=j.inv_int;obtain⟨d,f⟩:=JQ.1 b;refine(Any.strconv_Itoa Tryz.laysM171 n (by omega) (by omega) w (Ci2 c a)).mono ?_;rintro e w' ⟨rfl,k,os,rfl⟩;refine⟨_,rfl,(Oq w k).trans (show RowKit.Below w.heap.size _ _ from IE (w.drewN k) os),?_⟩;have:Lib.itoa n=V9 n:=by
   unfold Lib.itoa V9;split
   ·rw[show n.natAbs=(-n).toNat by omega]
   ·rfl
  rw[this];exact VP.mk_str _
 ·cases h
theorem Cy9:B3 a8 GX 119 ZV:=by
 refine B3.fix (pf:=Qi) _ (I7 (fn:=ai4) (by kernel_rfl) (by kernel_rfl) (by kernel_rfl) ?_);intro args ret A h;unfold Qi at h;split at h
 ·rename_i s p;obtain⟨i,h⟩:=C3 h;obtain⟨k,h⟩:=C3 h;obtain⟨l,h⟩:=C3 h;obtain⟨rfl,rfl⟩:=J4 h;refine⟨rfl,rfl,λC G m I w B F r q=>?_⟩;obtain⟨U,V,rfl,y,z⟩:=q.arr2;obtain⟨g,rfl,rfl⟩:=y.inv_str;obtain⟨d,rfl,a⟩:=z.inv_str;have H:=L3 i;have c:p=isl:=by simpa[AV] using k
  have D:=ac7 l;have f:=zero_of_info (P:=a8) (t:=Tryz.lays153_ren.t 116) (v:=.agg (Array.replicate 256 (.bool false))) (n:=256) (by kernel_rfl);subst c;have u:d.size=3:=by have:=ai8 d;rw[a] at this;exact this
  have x:=ai8 g;refine(Any.strings_IndexAny_long Tryz.lays153 f.1 f.2 g d w (by omega) (by omega) (by omega) (by omega) ?_).mono ?_
  ·rw[a];intro j b o;have:b∈isl:=List.mem_of_getElem? o
   revert b
   simp only[isl,p4,ac8,or_false];rintro b _ (rfl|rfl|rfl)<;>decide
  ·rintro e w' ⟨rfl,rfl⟩;rw[a];exact⟨_,rfl,((ah5 _ _).alloc (w9 _) _).alloc (by simp) _,VP.mk_int _ _⟩
 ·cases h
end
section
open Go Go.Proofs
set_option maxRecDepth 100000
theorem YK{R:Type}{a:Bool->Option R}(n:Int):YJ LF n a=a (ltI 8 n):=rfl
theorem Aq6{R:Type}{a:Bool->Option R}(r:Int):MF LF r a=a (MG r):=by
 have b:ltN r 55296=(!ltI r 0&&ltI r 55296):=by
  rw[p6,E6,o8,ac0,Pj,Mh];omega
 have c:(ltI 57343 r&&ltN r 1114112)=(ltI 57343 r&&!ltI 1114111 r):=by
  rw[p6,o8,o8,E6,ac0,Pj,Mh];omega
 unfold MF Lh MG;rw[b,c];cases ltI r 0<;>cases ltI r 55296<;>cases ltI 57343 r<;>cases ltI 1114111 r<;>rfl
theorem Do4(b:UInt8):o5 isl b=irn (b.toNat:Int):=by
 by_cases a:b=47
 ·subst a;rfl
 ·by_cases d:b=63
  ·subst d;rfl
  ·by_cases f:b=35
   ·subst f;rfl
   ·have n:∀c:UInt8,b≠c->(c==b)=false:=λc h=>by rw[beq_eq_false_iff_ne];exact ah4 h
    have e:∀c:UInt8,b≠c->¬(b.toNat:Int)=(c.toNat:Int):=λc h q=>h (ad3.1 (by omega))
    have g:¬(b.toNat:Int)=47:=e 47 a;have i:¬(b.toNat:Int)=63:=e 63 d;have j:¬(b.toNat:Int)=35:=e 35 f;unfold irn;rw[if_neg g,if_neg i,if_neg j];simp[isl,o5,n _ a,n _ d,n _ f]
theorem Dx2{l:By}{x:UInt8}(h:∀b∈l,b.toNat<128)(d:128<=x.toNat):o5 l x=-1:=by
 have e:=Mb x l;have c:l.contains x=false:=by
  rw[y8];intro a;have:=h x (by simpa using a);omega
 rw[c,o0,Mh] at e;have:=ai0 l x;omega
theorem Ch5{r:Int}(g:MG r=true)(h:128<=r):2<=(ab8 r).data.toList.length/\(ab8 r).data.toList.length<=4/\128<=((ab8 r).data.toList.getD ((ab8 r).data.toList.length-1) 0).toNat:=by
 have a:Utf8.valid r=true:=by
  rw[validRune_eq];unfold validRune;simp only[MG,ab1,o8,E6,Mh] at g;exact decide_eq_true (by omega)
 obtain⟨b,c,d⟩:=encode_facts r a h;have f:=ai8 (ab8 r);rw[<-f];refine⟨b,c,?_⟩;have e:=d (by omega);rw[List.getD_eq_getElem?_getD,ae6 (by omega),ai2];exact e
theorem B72(r:Int)(h:ltN r 1114112=true):∃v H,LY LF r (λk=>rv (.s (.int .i64 k)) []) (λk I=>rv (.s (.int .i64 k)) [.iter [47,63,35] I])=rv v H/\v.stab [] H = .s (.int .i64 (irn r)):=by
 obtain⟨A,M⟩:=E6.1 h;have B:=C7;unfold LY;rw[A6,o0,cond_true];unfold Ld;by_cases p:r<128
 ·obtain⟨n,rfl⟩:=x7 A;have e:wu8 (n:Int)=(n:Int):=M7;have f:u8n (n:Int)=v8 n:=by unfold u8n;simp
  have g:(((v8 n).toNat:Nat):Int)=(n:Int):=by simp;omega
  rw[A8,cond_true,e,E9,f];have o:=Do4 (v8 n);rw[g] at o;rw[<-o];exact⟨_,_,rfl,rfl⟩
 ·rw[A6,cond_false,Cj6 (by omega)];by_cases t:r=65533
  ·subst t;obtain⟨m,i⟩:∃m,LF=m+1+1+1+1:=⟨LF-4,by omega⟩
   have w:x6 ⟨w8 ([47,63,35]:List UInt8)⟩ 0=(47,1):=rfl;have x:x6 ⟨w8 ([47,63,35]:List UInt8)⟩ 1=(63,1):=rfl;have y:x6 ⟨w8 ([47,63,35]:List UInt8)⟩ 2=(35,1):=rfl;have go:∀(R:Type) (c:Int->Nat->Option R) (a:Nat->Option R),Aa LF LF 0 c a=a 3:=λR c a=>by
    have L:Aa LF (m+1) 3 c a=a 3:=by rw[Et];rfl
    have K:Aa LF (m+1+1) 2 c a=a 3:=by rw[Et];unfold Dx;rw[y];exact L
    have J:Aa LF (m+1+1+1) 1 c a=a 3:=by rw[Et];unfold Dx;rw[x];exact K
    have d:Aa LF (m+1+1+1+1) 0 c a=a 3:=by rw[Et];unfold Dx;rw[w];exact J
    rw[<-i] at d;exact d
   rw[go];exact⟨_,_,rfl,rfl⟩
  ·rw[show(r==(65533:Int))=false by simpa using t,cond_false];cases F:MG r with
   | false=>exact⟨_,_,rfl,rfl⟩
   | true=>
    obtain⟨O,P,G⟩:=Ch5 F (by omega);simp only[vl,j1,cond_false];generalize (ab8 r).data.toList=l at *;obtain⟨m,i⟩:∃m,LF=m+1:=⟨LF-1,by omega⟩
    have z:A1 ((l.length:Int)-1)=((l.length-1:Nat):Int):=by rw[A7];omega
    have go:∀(R:Type) (c:Int->Option R) (a:Unit->Option R),a ()=c (-1)->Gn LF LF l ((l.length-1:Nat):Int) c a=c (-1):=λR c a C=>by
     have d:Gn LF (m+1) l ((l.length-1:Nat):Int) c a=c (-1):=by
      rw[DU];unfold Nb;by_cases N:l.length=4
      ·rw[A6];exact C
      ·rw[A8,E9,E9,D3,D3];simp only[vl,cond_true];have D:(([47,63,35]:List UInt8).getD (l.length-1) 0).toNat<128:=by
        have:l.length=2\/l.length=3:=by omega
        rcases this with q|q<;>rw[q]<;>decide
       have j:((((([47,63,35]:List UInt8).getD (l.length-1) 0).toNat:Nat):Int)!=(((l.getD (l.length-1) 0).toNat:Nat):Int))=true:=by
        rw[bne_iff_ne];omega
       have f:A1 (((l.length-1:Nat):Int)+1)=((l.length:Nat):Int):=by rw[A7];omega
       have g:cut ([47,63,35]:List UInt8) ((l.length:Nat):Int) 3=([47,63,35]:List UInt8).drop l.length:=by
        rw[show(3:Int)=((3:Nat):Int) from rfl,Ip];rfl
       have u:=(l.getD (l.length-1) 0).toNat_lt;rw[j,cond_true,f,I4,cond_true,g,E1 (by simp;omega),cond_true,E9,cond_true,Ji,Dx2 (λb u=>?_) G]
       ·rfl
       ·have:=x5 u;simp only[p4,ac8,or_false] at this;rcases this with rfl|rfl|rfl<;>decide
     rw[<-i] at d;exact d
    rw[z,go _ _ _ rfl];exact⟨_,_,rfl,rfl⟩
theorem Ca9:B3 a8 GX 160 Zf:=by
 refine B3.fix (pf:=Sn) _ (J0 [] (C₀:=Zy LF) (M8.ok (l:=[]) rfl trivial) (I6 rfl (by kernel_rfl)) follows ?_);intro args ret a h;unfold Sn at h;split at h
 ·rename_i n;obtain⟨rfl,rfl⟩:=J4 h;have e:=(Bg6 LF noY () 0 n).trans (YK n);exact⟨rfl,rfl,rfl,1,_,_,e,rfl⟩
 ·cases h
theorem Cz7:B3 a8 GX 196 HV:=by
 refine B3.fix (pf:=Zk) _ (J0 [] (C₀:=Cd LF) (M8.ok (l:=[]) rfl trivial) (I6 rfl (by kernel_rfl)) follows ?_);intro args ret a h;unfold Zk at h;split at h
 ·rename_i n;obtain⟨rfl,rfl⟩:=J4 h;have e:=(B94 LF noY () 0 n).trans (Aq6 n);exact⟨rfl,rfl,rfl,1,_,_,e,rfl⟩
 ·cases h
theorem Cz2:B3 a8 GX 161 Oh:=λargs ret a h=>by
 have:M5 (Oh args)=none:=by unfold Oh NR;split<;>rfl
 rw[this] at h;cases h
theorem Cz1:B3 a8 GX 159 HM:=by
 refine B3.fix (pf:=Ze) _ (J0 [] (C₀:=L9 LF) (M8.ok (l:=[(157,Uy),(196,HV)]) rfl ⟨ZF,Cz7,trivial⟩) (I6 rfl (by kernel_rfl)) follows ?_);intro args ret f h;unfold Ze at h;split at h
 ·rename_i p r;obtain⟨a,h⟩:=C3 h;obtain⟨b,h⟩:=C3 h;obtain⟨rfl,rfl⟩:=J4 h;obtain rfl:p=isl:=by simpa[AV] using a
  obtain⟨d,H,e,c⟩:=B72 r b;exact⟨rfl,rfl,rfl,1,d,H,(B71 LF noY () 0 r).trans e,c⟩
 ·cases h
theorem MA:∀(w:Nat) (l:By),w<=l.length->(∀i,i<w->M3 (l.getD i 0)=false)->J1 l=w+J1 (l.drop w)
 | 0,l,_,_=>by simp
 | w+1,[],h,_=>by simp at h
 | w+1,b::l,h,hb=>by
  have a:=hb 0 (by omega);rw[aa9] at a;have d:=MA w l (by simpa using h) (λi c=>by have:=hb (i+1) (by omega);rwa [ag2] at this);rw[Hz,a,ad4];simp only[o6,if_false];omega
theorem Ao6(s:By)(O:s.length<=8):∀(f m n:Nat),s.length-m<=f->m<=s.length->f<n->∃H t,∀(R:Type) (j:Int->List Blk->Option R) (k:By->Nat->Option R),
  Lc LF n s m j k=if J1 (s.drop m)<(s.drop m).length then j ((m+J1 (s.drop m):Nat):Int) H else k s t:=by
 intro f
 induction f with
 | zero=>
  intro m n G K L;obtain⟨n,rfl⟩:∃q,n=q+1:=⟨n-1,by omega⟩
  refine⟨[],m,λR j k=>?_⟩;rw[Br];unfold Y8;rw[decide_eq_false (by omega),cond_false,p5 (by omega),if_neg (by simp)]
 | succ f z=>
  intro m n G K L;obtain⟨n,rfl⟩:∃q,n=q+1:=⟨n-1,by omega⟩
  by_cases a:m<s.length
  ·have F:=Lib.decodeL_drop ⟨s.toArray⟩ m;have h:x6 ⟨w8 s⟩ m=aa4 (s.drop m):=by rw[<-F]
   have p:=D4 s m a;have N:(s.drop m).length=s.length-m:=j4;generalize M:s.getD m 0=b at p;by_cases o:b.toNat<128
   ·have y:aa4 (s.drop m)=(b.toNat,1):=by rw[p];exact Lib.decodeL_ascii b _ o
    have l:=Do5 b;cases g:M3 b with
    | true=>
     rw[g,j1] at l;have u:J1 (s.drop m)=0:=by rw[p,Hz,g];rfl
     refine⟨[Blk.iter s (m+1)],m,λR j k=>?_⟩;rw[Br];unfold Y8;rw[decide_eq_true a,h,y,u,Q5];simp only[vl,cond_true];rw[show AV ([47,63,35]:List UInt8)=true from rfl,cond_true,E6.2 ⟨by omega,by omega⟩,cond_true,l];rfl
    | false=>
     rw[g,o0] at l;have u:J1 (s.drop m)=J1 (s.drop (m+1))+1:=by rw[p,Hz,g];rfl
     have v:(s.drop (m+1)).length=s.length-(m+1):=j4;obtain⟨H,t,e⟩:=z (m+1) n (by omega) (by omega) (by omega);refine⟨H,t,λR j k=>?_⟩;rw[Br];unfold Y8;rw[decide_eq_true a,h,y];simp only[vl,cond_true];rw[show AV ([47,63,35]:List UInt8)=true from rfl,cond_true,E6.2 ⟨by omega,by omega⟩,cond_true,l,j1,cond_false,e,u];by_cases q:J1 (s.drop (m+1))<(s.drop (m+1)).length
     ·rw[if_pos q,Q5,show m+1+J1 (s.drop (m+1))=m+(J1 (s.drop (m+1))+1) by omega]
     ·rw[if_neg q,F7]
   ·obtain⟨A,B,C,D,x⟩:=Dn2 b (s.drop (m+1)) (by omega);rw[<-p] at A B C D x;have v:(s.drop (m+1)).length=s.length-(m+1):=j4;generalize aa4 (s.drop m)=d at *;obtain⟨c,w⟩:=d;simp only at A B C D x;have r:=MA w (s.drop m) (by omega) (λi I=>Cs4 (x i I));rw[List.drop_drop] at r;have J:(s.drop (m+w)).length=s.length-(m+w):=j4;have l:ltI (irn (c:Int)) 0=true:=by rw[Cj6 (by omega)];rfl
    obtain⟨H,t,e⟩:=z (m+w) n (by omega) (by omega) (by omega);refine⟨H,t,λR j k=>?_⟩;rw[Br];unfold Y8;rw[decide_eq_true a,h];simp only[vl,cond_true];rw[show AV ([47,63,35]:List UInt8)=true from rfl,cond_true,E6.2 ⟨by omega,by omega⟩,cond_true,l,j1,cond_false,e,r];by_cases q:J1 (s.drop (m+w))<(s.drop (m+w)).length
    ·rw[if_pos q,Q5,show m+w+J1 (s.drop (m+w))=m+(w+J1 (s.drop (m+w))) by omega]
    ·rw[if_neg q,F7]
  ·refine⟨[],m,λR j k=>?_⟩;rw[Br];unfold Y8;rw[decide_eq_false a,cond_false,p5 (by omega),if_neg (by simp)]
theorem B69(s:By)(h:s.length<=8):∃r H,YD LF s (λc a=>rv (.s (.int .i64 c)) a)=rv r H/\r.stab [] H = .s (.int .i64 (aa7 s isl)):=by
 have b:=C7;obtain⟨H,d,e⟩:=Ao6 s h s.length 0 LF (by omega) (by omega) (by omega);unfold YD;rw[A6,cond_false,e,Jq,aa5,ad8];by_cases q:J1 s<s.length
 ·rw[if_pos q,if_pos q];exact⟨_,_,rfl,rfl⟩
 ·rw[if_neg q,if_neg q];exact⟨_,_,rfl,rfl⟩
theorem Cz0:B3 a8 GX 119 ZW:=by
 refine B3.fix (pf:=Qj) _ (J0 [] (C₀:=Gv LF) (M8.ok (l:=[(159,HM),(160,Zf),(161,Oh)]) rfl ⟨Cz1,Ca9,Cz2,trivial⟩) (I6 rfl (by kernel_rfl)) follows ?_);intro args ret f h;unfold Qj at h;split at h
 ·rename_i s p;obtain⟨a,h⟩:=C3 h;obtain⟨b,h⟩:=C3 h;obtain⟨rfl,rfl⟩:=J4 h;obtain rfl:p=isl:=by simpa[AV] using a
  obtain⟨d,H,e,c⟩:=B69 s (ac7 b);exact⟨rfl,rfl,rfl,1,d,H,(B68 LF noY () 0 s).trans e,c⟩
 ·cases h
theorem Dy{c:Bool}{t:Tr}(h:c=true):M5 (.need c t)=M5 t:=by subst h;rfl
theorem Dj1:B3 a8 GX 119 TO:=λargs ret c h=>by
 have a:=Cy9 args ret c;have b:=Cz0 args ret c;unfold TO at h;unfold ZV at a;unfold ZW at b;generalize C0 [[0],[0]] args=l at h a b;unfold ZU at h;split at h
 ·rename_i s p;obtain⟨e,h⟩:=C3 h;obtain⟨d,h⟩:=C3 h;by_cases f:s.length<=8
  ·refine b ?_;unfold Qj;rw[Dy d,Dy (af6 f)];exact h
  ·refine a ?_;unfold Qi;rw[Dy e,Dy d,Dy (af6 (by omega))];exact h
 ·cases h
section
theorem Dh3:B3 a8 GX 203 Bk9:=xf [] (UT LF) GI rfl ⟨Bj6,trivial⟩ rfl (by kernel_rfl) follows λargs=>by
 unfold GI;split
 ·rename_i s p;exact λa=>⟨rfl,rfl,rfl,_,_,(Cl0 LF noY () 0 s p).trans (A37 s p a),rfl⟩
 ·trivial
theorem Du6:B3 a8 GX 166 Cd5:=xf [] (Ax8 LF) TS rfl ⟨Dh3,trivial⟩ rfl (by kernel_rfl) follows λargs=>by
 unfold TS;split
 ·rename_i s p;exact λa=>⟨rfl,rfl,rfl,_,_,(De0 LF noY () 0 s p).trans (B83 s p a),rfl⟩
 ·trivial
theorem FS:B3 a8 GX 124 Va:=xf [] (VG LF) HS rfl trivial rfl (by kernel_rfl) follows λargs=>by
 unfold HS;split
 ·rename_i s;exact⟨rfl,rfl,rfl,_,_,(Cu8 LF noY () 0 s).trans (Bh9 s ),rfl⟩
 ·trivial
theorem ZG:B3 a8 GX 117 EO:=xf [] (VH LF) HT rfl ⟨FS,trivial⟩ rfl (by kernel_rfl) follows λargs=>by
 unfold HT;split
 ·rename_i s;exact⟨rfl,rfl,rfl,_,_,(Cv1 LF noY () 0 s).trans (Bi4 s ),rfl⟩
 ·trivial
theorem Cz4:B3 a8 GX 84 Au3:=xf [] (Ay0 LF) TU rfl ⟨FS,trivial⟩ rfl (by kernel_rfl) follows λargs=>by
 unfold TU;split
 ·rename_i n o j k v4 a b c d f g h i l m;exact(let⟨r,H,e,q⟩:=De6 n o j k v4 a b c d f g h i l m ; ⟨rfl,rfl,rfl,r,H,(De5 LF noY () 0 n o j k v4 a b c d f g h i l m).trans e,q⟩)
 ·trivial
theorem Dv0:B3 a8 GX 115 Ce0:=xf [] (Aj LF) TX rfl ⟨ZF,trivial⟩ rfl (by kernel_rfl) follows λargs=>by
 unfold TX;split
 ·rename_i s;exact λa=>⟨rfl,rfl,rfl,_,_,(Df2 LF noY () 0 s).trans (B92 s a),rfl⟩
 ·trivial
theorem Du8:B3 a8 GX 165 Cd8:=xf [0,0] (Tk LF) TV rfl trivial rfl (by kernel_rfl) follows λargs=>by
 unfold TV;split
 ·rename_i s;exact λa=>⟨rfl,rfl,rfl,_,_,(De8 LF noY () 0 s).trans (B86 s a),rfl⟩
 ·trivial
theorem Cz5:B3 a8 GX 121 ZY:=xf [0,0] (Y1 LF) Zi rfl ⟨Bu1,ZE,ZF,Cw9,Du6,Du8,FS,trivial⟩ rfl (by kernel_rfl) follows λargs=>by
 unfold Zi;split
 ·rename_i o p k l v4 b c d f g h i j m n a;exact λt=>λu=>λv=>λw=>λx=>(let⟨r,H,e,q⟩:=B89 o p k l v4 b c d f g h i j m n a t u v w x;⟨rfl,rfl,rfl,r,H,(B88 LF noY () 0 o p k l v4 b c d f g h i j m n a).trans e,q⟩)
 ·trivial
theorem Du9:B3 a8 GX 82 Cd9:=xf [0,0] (Tl LF) TW rfl ⟨Cy8,Dv0,Cx3,ZG,Cw5,Dj1,ZE,Cz5,trivial⟩ rfl (by kernel_rfl) follows λargs=>by
 unfold TW;split
 ·rename_i s;exact λa=>(let⟨r,H,e,q⟩:=Df0 s a;⟨rfl,rfl,rfl,r,H,(De9 LF noY () 0 s).trans e,q⟩)
 ·trivial
theorem Bu5:B3 a8 GX 83 TY:=xf [] (VI LF) HU rfl ⟨ZG,Cw8,Dg8,trivial⟩ rfl (by kernel_rfl) follows λargs=>by
 unfold HU;split
 ·rename_i n o j k v4 a b c d f g h i l m;exact λp=>λt=>λu=>λv=>(let⟨r,H,e,q⟩:=Cv3 n o j k v4 a b c d f g h i l m p t u v;⟨rfl,rfl,rfl,r,H,(Cv2 LF noY () 0 n o j k v4 a b c d f g h i l m).trans e,q⟩)
 ·trivial
theorem CB:B3 a8 GX 51 Qk:=xf [] (AA LF) Sp rfl ⟨Bu5,Du9,trivial⟩ rfl (by kernel_rfl) follows λargs=>by
 unfold Sp;split
 ·rename_i n o j k v4 a b c d f g h i l m;exact λp=>λt=>λu=>λv=>(let⟨r,H,e,q⟩:=Bi6 n o j k v4 a b c d f g h i l m p t u v;⟨rfl,rfl,rfl,r,H,(Bi5 LF noY () 0 n o j k v4 a b c d f g h i l m).trans e,q⟩)
 ·trivial
theorem Du7:B3 a8 GX 85 Cd7:=xf [] (Ax9 LF) TT rfl ⟨CB,Bu5,trivial⟩ rfl (by kernel_rfl) follows λargs=>by
 unfold TT;split
 ·rename_i n o j k v4 a b c d f g h i l m;exact λp=>λt=>λu=>λv=>(let⟨r,H,e,q⟩:=De4 n o j k v4 a b c d f g h i l m p t u v;⟨rfl,rfl,rfl,r,H,(De3 LF noY () 0 n o j k v4 a b c d f g h i l m).trans e,q⟩)
 ·trivial
end
end
section
open Go Go.Proofs Go.RowKit
set_option maxRecDepth 100000
abbrev Pw(m n:ByteArray)(i:Int)(j:ByteArray)(v4 a b c d e f g h k:Int)(l:ByteArray):Array Value:=#[.string m,.string n,.int .i64 i,.string j,.int .u32 v4,.int .u16 a,.int .u16 b,.int .u16 c,.int .u16 d,.int .u16 e,.int .u16 f,.int .u16 g,.int .u16 h,.int .i64 k,.string l]
abbrev Xs:ByteArray:=⟨#[104,116,116,112]⟩
abbrev Pt:ByteArray:=⟨#[104,116,116,112,115]⟩
abbrev sWs:ByteArray:=⟨#[119,115]⟩
abbrev Bf8:ByteArray:=⟨#[119,115,115]⟩
abbrev Kk:MapEntry:={ key:=.string Xs,val:=.string Pt,born:=0 }
abbrev AH:MapEntry:={ key:=.string sWs,val:=.string Bf8,born:=1 }
theorem Vb(w:World)(o:Obj):(w.alloc o).heap[w.heap.size]? = some o:=(MapKept.heap_alloc w o).1
theorem NW(w:World)(o p:Obj):({ (w.alloc o) with heap:=(w.alloc o).heap.setIfInBounds w.heap.size p }:World)=w.alloc p:=by
 have e:(w.heap.push o).setIfInBounds w.heap.size p=w.heap.push p:=by
  apply ah8.1;rw[Array.toList_setIfInBounds,ah0,ah0,<-x9,List.set_append_right _ _ (w9 _),ah3];rfl
 show({ w with heap:=(w.heap.push o).setIfInBounds w.heap.size p }:World) = { w with heap:=w.heap.push p }
 rw[e]
theorem Dp0{P:Program}{t k e:TypeId}(b:P.underlying t=some (.map k e))(a:P.underlying k=some .string)(w:World):(af3 t (.map (some w.heap.size)) (.string Xs) (.string Pt)).run P (w.alloc (.map #[] 0)) = .ok () (w.alloc (.map #[Kk] 1)):=by rw[run_mapUpdate_first (w:=w.alloc (.map #[] 0)) t k e w.heap.size 0 Xs (.string Pt) b a (Vb w _),NW]
theorem Dp1{P:Program}{t k e:TypeId}(f:P.underlying t=some (.map k e))(b:P.underlying k=some .string)(w:World):(af3 t (.map (some w.heap.size)) (.string sWs) (.string Bf8)).run P (w.alloc (.map #[Kk] 1)) = .ok () (w.alloc (.map #[Kk,AH] 2)):=by have a:=Vb w (.map #[Kk] 1);have d:ag6 .string (.string sWs) (#[Kk]:Array MapEntry).toList 0=some none:=rfl;have c:(aj3 false 10000 k (.string sWs)).run P (w.alloc (.map #[Kk] 1)) = .ok () (w.alloc (.map #[Kk] 1)):=ag0 (k:=.string sWs) b (by simp[aj7]) false 9999;simp only[af3,Sem.run_bind,run_underlying f,ac5 a,c,ad6 b d,MapKept.run_setObj_map _ a,ag1];exact congrArg (Result.ok ()) (NW w (.map #[Kk] 1) (.map #[Kk,AH] 2))
theorem Cl2{P:Program}{t k e:TypeId}(g:P.underlying t=some (.map k e))(c:P.underlying k=some .string)(w:World):(ad7 t (.map (some w.heap.size)) (.string Xs) false).run P (w.alloc (.map #[Kk,AH] 2)) = .ok (.string Pt) (w.alloc (.map #[Kk,AH] 2))/\(ad7 t (.map (some w.heap.size)) (.string sWs) false).run P (w.alloc (.map #[Kk,AH] 2)) = .ok (.string Bf8) (w.alloc (.map #[Kk,AH] 2)):=by
 have d:=Vb w (.map #[Kk,AH] 2);have h:ag6 .string (.string Xs) (#[Kk,AH]:Array MapEntry).toList 0=some (some (0,.string Pt)):=rfl;have a:ag6 .string (.string sWs) (#[Kk,AH]:Array MapEntry).toList 0=some (some (1,.string Bf8)):=rfl;have f:∀s b,(aj3 b 10000 k (.string s)).run P (w.alloc (.map #[Kk,AH] 2)) = .ok () (w.alloc (.map #[Kk,AH] 2)):=λs b=>ag0 (k:=.string s) c (by simp[aj7]) b 9999
 constructor
 ·simp[ad7,run_underlying g,ac5 d,f,ad6 c h,ag1]
 ·simp[ad7,run_underlying g,ac5 d,f,ad6 c a,ag1]
theorem size_alloc(w:World)(o:Obj):(w.alloc o).heap.size=w.heap.size+1:=ai9 ..
theorem Ae7(w:World)(A B C D:Obj):((((w.alloc A).alloc B).alloc C).alloc D).heap[w.heap.size+1]? = some B:=by
 have e:∀(w:World) (o:Obj) (i:Nat),i<w.heap.size->(w.alloc o).heap[i]? = w.heap[i]?:=λw o i h=>by
  show(w.heap.push o)[i]? = w.heap[i]?;rw[Array.getElem?_push,if_neg (Nat.ne_of_lt h)]
 rw[e _ _ _ (by simp only[size_alloc];omega),e _ _ _ (by simp only[size_alloc];omega),<-size_alloc w A];exact Vb (w.alloc A) B
theorem Ac6(w:World)(o:Obj)(n:Nat):(w.alloc o).drewN n=(w.drewN n).alloc o:=rfl
theorem B25(w:World):Calls a8 124 #[.string Xs] w λe w'=>e = .returned (.int .i64 80)/\w'=w:=by
 go_enter ac6,ae7
 go_wp2
 go_ret
 exact⟨rfl,rfl⟩
theorem A68(w:World):Calls a8 124 #[.string Pt] w λe w'=>e = .returned (.int .i64 443)/\w'=w:=by
 go_enter ac6,ae7
 go_wp2
 go_ret
 exact⟨rfl,rfl⟩
theorem C98(w:World):Calls a8 124 #[.string sWs] w λe w'=>e = .returned (.int .i64 80)/\w'=w:=by
 go_enter ac6,ae7
 go_wp2
 go_ret
 exact⟨rfl,rfl⟩
theorem Co0(w:World):Calls a8 124 #[.string Bf8] w λe w'=>e = .returned (.int .i64 443)/\w'=w:=by
 go_enter ac6,ae7
 go_wp2
 go_ret
 exact⟨rfl,rfl⟩
theorem Cj5(a o l n:ByteArray)(k v4 b c d f g h i j m:Int)(q:∀w,Calls a8 124 #[.string a] w λe w'=>e = .returned (.int .i64 80)/\w'=w)(w:World):Calls a8 84 #[.agg (Pw a o k l v4 b c d f g h i j m n)] w λe w'=>e = .returned (.bool true)/\w'=w.alloc (.cells (Pw a o k l v4 b c d f g h i j m n) 55):=by
 have p:∀args w,(callFunc 124 args).run a8 w = .ok (.enter 124 args) w:=enters_of ac6 (by kernel_rfl) rfl
 go_enter al2,Tryz.ntmps84
 go_wp2_with (go_at_fn 124;refine(q _).mono ?_;rintro e w' ⟨rfl,r⟩;rw[r])
 go_ret
 exact⟨rfl,rfl⟩
theorem Bt4(x g y u v:ByteArray)(t v4 i j k l m n o p c f:Int)(L:c=443->f=-1)(M:¬c=443->f=c)
  (b:∀w,Calls a8 84 #[.agg (Pw x y t u v4 i j k l m n o p c v)] w λe w'=>e = .returned (.bool true)/\w'=w.alloc (.cells (Pw x y t u v4 i j k l m n o p c v) 55))
  (J:∀w:World,(ad7 125 (.map (some w.heap.size)) (.string x) false).run a8 (w.alloc (.map #[Kk,AH] 2)) = .ok (.string g) (w.alloc (.map #[Kk,AH] 2)))
  (d:∀w,Calls a8 124 #[.string g] w λe w'=>e = .returned (.int .i64 443)/\w'=w) (w:World) :
  Calls a8 86 #[.agg (Pw x y t u v4 i j k l m n o p c v)] w λe w'=>e = .returned (.agg (Pw g y t u v4 i j k l m n o p f v))/\Below w.heap.size w w':=by
 have z:∀args w,(callFunc 84 args).run a8 w = .ok (.enter 84 args) w:=enters_of al2 (by kernel_rfl) rfl;have K:∀args w,(callFunc 124 args).run a8 w = .ok (.enter 124 args) w:=enters_of ac6 (by kernel_rfl) rfl;have H:=@run_makeMap a8;have q:∀(w:World) A B C,(((w.alloc A).alloc B).alloc C).heap.size=w.heap.size+1+1+1:=λw A B C=>by simp only[World.alloc,ai9]
 have D:∀(w:World) A B C,_:=λw A B C=>q w A B C▸Dp0 (P:=a8) ab4 ad0 (((w.alloc A).alloc B).alloc C)
 have F:∀(w:World) A B C,_:=λw A B C=>q w A B C▸Dp1 (P:=a8) ab4 ad0 (((w.alloc A).alloc B).alloc C)
 have G:∀(w:World) A B C,_:=λw A B C=>q w A B C▸J (((w.alloc A).alloc B).alloc C)
 clear J
 go_enter Tryz.func86,Tryz.ntmps86
 go_wp2_with (go_at_fn 84;refine(b _).mono ?_;rintro e w' ⟨rfl,N⟩;rw[N])
 clear b H z
 go_quiet (first|(go_at_call 124;exact Calls.quiet_of_same (d _)))
 obtain⟨h,a⟩:∃h,h=w.drewN nq:=⟨_,rfl⟩
 have r:w.heap.size=h.heap.size:=by rw[a];rfl
 have I:Below h.heap.size w h:=by rw[<-r,a];exact⟨rfl,rfl,rfl,w9 _,λ_ _=>rfl⟩
 simp only[Ac6,<-a,r];clear D F G q a
 go_wp2
 all_goals (try simp only[Exit.inBlock,Exit.then])
 ·have e:=L (by first|rfl|simpa using ‹(c==443)=true›);subst e;refine bodyPost_ret (results_cell_row rfl _ _ (h.heap.size+1) 55 _ _ _ rfl (Ae7 _ _ _ _ _) ah7 rfl (by kernel_rfl)) rfl ⟨rfl,?_⟩;rw[r];exact(((I.alloc (w9 _) _).alloc (by simp only[size_alloc];omega) _).alloc (by simp only[size_alloc];omega) _).alloc (by simp only[size_alloc];omega) _
 ·have e:=M (by first|assumption|simpa using ‹(c==443)=false›);subst e;refine bodyPost_ret (results_cell_row rfl _ _ (h.heap.size+1) 55 _ _ _ rfl (Ae7 _ _ _ _ _) ah7 rfl (by kernel_rfl)) rfl ⟨rfl,?_⟩;rw[r];exact(((I.alloc (w9 _) _).alloc (by simp only[size_alloc];omega) _).alloc (by simp only[size_alloc];omega) _).alloc (by simp only[size_alloc];omega) _
end
section
open Go Go.Proofs
set_option maxRecDepth 100000
section
variable {Z R : Type} (L : Nat) (Q : G0) (Y : Yh Z) (s : Z) (k : Out -> St Z -> Option R)
noncomputable def Ay1(L:Nat):Cfg:=B7 L [86] (A2 []) [(84,Au3),(124,Va)] (A2 [(6,[2]),(5,[1,0]),(4,[1,0,15]),(3,[1,0]),(2,[2]),(1,[1,0,2]),(0,[1,0])]) [84,124] (A2 []) (some [2]) [] [] []
noncomputable def Df3{R:Type}(L:Nat)(f g:By)(h:Int)(i:By)(j l m n u8 o a b c d:Int)(e:By)(p:By->By->Int->By->Int->Int->Int->Int->Int->Int->Int->Int->Int->Int->By->(List Blk)->Option R):Option R:=cond (not (R1 f)) (p f g h i j l m n u8 o a b c d e [(bU f g h i j l m n u8 o a b c d e),(bU f g h i j l m n u8 o a b c d e)]) none
theorem Df4(d:Nat)(u0 u1 u2 u3 u4 u5 u6 u7 u8 u9 u10 u11 u12 u13 u14):evC (Ay1 L) (d+1) Z Y 86 [(gU u0 u1 u2 u3 u4 u5 u6 u7 u8 u9 u10 u11 u12 u13 u14)] [] s=Df3 L u0 u1 u2 u3 u4 u5 u6 u7 u8 u9 u10 u11 u12 u13 u14 (λh i j l m n o p r8 q b c e f g a=>some ((gU h i j l m n o p r8 q b c e f g),a,s)):=by refine(evE (fn:=Tryz.f86) (by kernel_rfl)).trans ?_;generalize evC (Ay1 L) d=Q;unfold Df3;kernel_rfl
end
end
section
open Go Go.Proofs Go.RowKit
set_option maxRecDepth 100000
theorem Do3{Γ:Ctx}{sh:Nat->Option Shp}{w:World}{V:Value}{I J:By}{D:Int}{F:By}{v4 t u v x y z B C G:Int}{H:By}(h:VP Γ sh w (gU I J D F v4 t u v x y z B C G H) V) :
  ∃d e b c:ByteArray,I=d.data.toList/\J=e.data.toList/\F=b.data.toList/\H=c.data.toList/\V = .agg (Pw d e D b v4 t u v x y z B C G c):=by
 obtain⟨A,rfl,hA,a⟩:=h.inv_agg;have hs:A.size=15:=hA;obtain⟨_,e0,T⟩:=a 0 (show 0<15 by omega);obtain⟨_,K,U⟩:=a 1 (show 1<15 by omega);obtain⟨_,L,W⟩:=a 2 (show 2<15 by omega);obtain⟨_,M,X⟩:=a 3 (show 3<15 by omega);obtain⟨_,N,Y⟩:=a 4 (show 4<15 by omega);obtain⟨_,O,Z⟩:=a 5 (show 5<15 by omega);obtain⟨_,P,q6⟩:=a 6 (show 6<15 by omega);obtain⟨_,Q,q7⟩:=a 7 (show 7<15 by omega);obtain⟨_,R,q8⟩:=a 8 (show 8<15 by omega);obtain⟨_,S,q9⟩:=a 9 (show 9<15 by omega);obtain⟨_,f,m⟩:=a 10 (show 10<15 by omega);obtain⟨_,g,o⟩:=a 11 (show 11<15 by omega);obtain⟨_,j,p⟩:=a 12 (show 12<15 by omega);obtain⟨_,k,q⟩:=a 13 (show 13<15 by omega);obtain⟨_,l,r⟩:=a 14 (show 14<15 by omega);obtain⟨d,rfl,rfl⟩:=VP.inv_str T;obtain⟨e,rfl,rfl⟩:=VP.inv_str U;obtain rfl:=VP.inv_int W;obtain⟨b,rfl,rfl⟩:=VP.inv_str X;obtain rfl:=VP.inv_int Y;obtain rfl:=VP.inv_int Z;obtain rfl:=VP.inv_int q6;obtain rfl:=VP.inv_int q7;obtain rfl:=VP.inv_int q8;obtain rfl:=VP.inv_int q9;obtain rfl:=VP.inv_int m;obtain rfl:=VP.inv_int o;obtain rfl:=VP.inv_int p;obtain rfl:=VP.inv_int q;obtain⟨c,rfl,rfl⟩:=VP.inv_str r;refine⟨d,e,b,c,rfl,rfl,rfl,rfl,?_⟩
 congr 1
 apply Array.ext_getElem?;intro i
 match i with
 | 0=>exact e0
 | 1=>exact K
 | 2=>exact L
 | 3=>exact M
 | 4=>exact N
 | 5=>exact O
 | 6=>exact P
 | 7=>exact Q
 | 8=>exact R
 | 9=>exact S
 | 10=>exact f
 | 11=>exact g
 | 12=>exact j
 | 13=>exact k
 | 14=>exact l
 | n+15=>rw[ab9 (by omega),ab9 (by simp)]
theorem Dl6{t:Ctx}{sh:Nat->Option Shp}{w:World}(c d:ByteArray)(p:Int)(a:ByteArray)(v4 e f g i k l m o q:Int)(b:ByteArray) :
  VP t sh w (gU c.data.toList d.data.toList p a.data.toList v4 e f g i k l m o q b.data.toList) (.agg (Pw c d p a v4 e f g i k l m o q b)):=by
 refine VP.mk_agg rfl λj r=>?_
 match j,r with
 | 0,_=>exact⟨_,rfl,VP.mk_str c.data.toList⟩
 | 1,_=>exact⟨_,rfl,VP.mk_str d.data.toList⟩
 | 2,_=>exact⟨_,rfl,VP.mk_int _ _⟩
 | 3,_=>exact⟨_,rfl,VP.mk_str a.data.toList⟩
 | 4,_=>exact⟨_,rfl,VP.mk_int _ _⟩
 | 5,_=>exact⟨_,rfl,VP.mk_int _ _⟩
 | 6,_=>exact⟨_,rfl,VP.mk_int _ _⟩
 | 7,_=>exact⟨_,rfl,VP.mk_int _ _⟩
 | 8,_=>exact⟨_,rfl,VP.mk_int _ _⟩
 | 9,_=>exact⟨_,rfl,VP.mk_int _ _⟩
 | 10,_=>exact⟨_,rfl,VP.mk_int _ _⟩
 | 11,_=>exact⟨_,rfl,VP.mk_int _ _⟩
 | 12,_=>exact⟨_,rfl,VP.mk_int _ _⟩
 | 13,_=>exact⟨_,rfl,VP.mk_int _ _⟩
 | 14,_=>exact⟨_,rfl,VP.mk_str b.data.toList⟩
 | n+15,h=>exact absurd h (by simp)
theorem Ab2{s t:ByteArray}(h:s.data.toList=t.data.toList):s=t:=by
 cases s with
 | mk a=>cases t with
  | mk b=>congr 1;exact ah8.1 h
theorem Dr0{s:By}{a:Int}(h:R1 s=true):upP s a=if a=443 then -1 else a:=by
 unfold upP;rw[h,Bool.true_and];by_cases q:a=443
 ·rw[if_pos q,q];rfl
 ·rw[if_neg q,show(a==443)=false by simpa using q];rfl
theorem Dv1:B3 a8 GX 86 Ce3:=by
 refine B3.fix (pf:=EP) _ (I7 (fn:=Tryz.f86) (by kernel_rfl) (by kernel_rfl) (by kernel_rfl) ?_);intro args ret B h;unfold EP at h;split at h
 ·rename_i J K p H v4 g i j k l m n o d I;obtain⟨v,h⟩:=C3 h;obtain⟨rfl,rfl⟩:=J4 h;refine⟨rfl,rfl,λC G x L w D F z y=>?_⟩;obtain⟨U,rfl,A⟩:=y.arr1;obtain⟨f,c,a,b,rfl,rfl,rfl,rfl,rfl⟩:=Do3 A;rw[Dr0 v];rcases Iv v with u|u
  ·obtain rfl:f=Xs:=Ab2 (t:=Xs) u;have W:=Bt4 Xs Pt c a b p v4 g i j k l m n o d (if d=443 then -1 else d) (λq=>if_pos q) (λq=>if_neg q) (λw=>Cj5 _ _ _ _ _ _ _ _ _ _ _ _ _ _ _ B25 w) (λw=>(Cl2 ab4 ad0 w).1) A68 w;refine W.mono ?_;rintro e w' ⟨rfl,r⟩;exact⟨_,rfl,r,Dl6 Pt c p a v4 g i j k l m n o _ b⟩
  ·obtain rfl:f=sWs:=Ab2 (t:=sWs) u;have W:=Bt4 sWs Bf8 c a b p v4 g i j k l m n o d (if d=443 then -1 else d) (λq=>if_pos q) (λq=>if_neg q) (λw=>Cj5 _ _ _ _ _ _ _ _ _ _ _ _ _ _ _ C98 w) (λw=>(Cl2 ab4 ad0 w).2) Co0 w;refine W.mono ?_;rintro e w' ⟨rfl,r⟩;exact⟨_,rfl,r,Dl6 Bf8 c p a v4 g i j k l m n o _ b⟩
 ·cases h
theorem Df5(g v:By)(p:Int)(q:By)(v4 h i j k l m n o t:Int)(u:By)(w:(not (R1 g))=true) :
  ∃r H,Df3 LF g v p q v4 h i j k l m n o t u (λD F x G y z A B n8 C b c d e f a=>rv (gU D F x G y z A B n8 C b c d e f) a)=rv r H/\r.stab [] H=gU g v p q v4 h i j k l m n o t u:=by
 unfold Df3;rw[w];exact⟨_,_,rfl,rfl⟩
end
section
open Go Go.Proofs
set_option maxRecDepth 100000
section
theorem Dv2:B3 a8 GX 86 Ce4:=xf [] (Ay1 LF) EQ rfl ⟨Cz4,FS,trivial⟩ rfl (by kernel_rfl) follows λargs=>by
 unfold EQ;split
 ·rename_i n o j k v4 a b c d f g h i l m;exact λp=>(let⟨r,H,e,q⟩:=Df5 n o j k v4 a b c d f g h i l m p;⟨rfl,rfl,rfl,r,H,(Df4 LF noY () 0 n o j k v4 a b c d f g h i l m).trans e,q⟩)
 ·trivial
end
end
section
open Go Go.Proofs Go.RowKit
set_option maxRecDepth 100000
theorem Dy6:B3 a8 GX 86 Ce1:=λargs ret d h=>by
 have a:=Dv1 args ret d;have b:=Dv2 args ret d;unfold Ce1 at h;unfold Ce3 at a;unfold Ce4 at b;generalize C0 _ args=l at h a b;unfold Ce2 at h;split at h
 ·rename_i i w t u v4 j k m n o p q r g v;cases c:R1 i with
  | true=>
   refine a ?_;unfold EP;rw[Dy c];exact h
  | false=>
   refine b ?_;unfold EQ;rw[Dy (by rw[c];rfl)];obtain⟨e,f⟩:=Bt3 c g;rw[e,f] at h;exact h
 ·cases h
end
section
open Go Go.Proofs
set_option maxRecDepth 100000
theorem KO{p:U4 × Nat}(h:ZM p.1):ltN (uV p) 4294967296=true/\okQ p=true/\Ak (uP p)=true/\∀c b,mkQ c p b=⟨c,p.1.user,p.1.host,b,p.1.rest⟩:=by obtain⟨⟨s,u,⟨k,n,v,l⟩,q,t⟩,e⟩:=p;obtain⟨a,d⟩:=h;obtain⟨g,i,j,m,o,r,w,x,rfl⟩:=eq8 a.v6.1;have f:=a.v4;simp only at f d;refine⟨E6.2 ⟨by show(0:Int)<=(v:Int);omega,by show(v:Int)<_;omega⟩,C86 a.v6.2,JQ.2 ⟨by show _<=q;omega,by show q<_;omega⟩,λc b=>Cl6 a.kd⟩
theorem Ah8(s:By):(F8 s).1.host.name.length<=253:=by
 by_cases h:(F8 s).2=0
 ·have b:=PQ h;cases c:J3 (F8 s).1.sch with
  | false=>
   obtain⟨_,_,_,a,_,_⟩:=b.ns c;rw[a]
   decide
  | true=>
   obtain⟨_,_,_,a,_,_⟩:=b.sp c;exact EB a
 ·rw[A50 h]
  decide
theorem Cn2{s:By}(h:s.length<=10000000)(a:By)(b:a.length<=10000000):smU a (uU (F8 s)) (uN (F8 s)) (uR (F8 s))=true:=by obtain⟨c,d,e⟩:=KV s;have f:=Ah8 s;simp only[smU,uU,uN,uR,o8,ac9];refine⟨⟨⟨by omega,by omega⟩,by omega⟩,by omega⟩
theorem Dr1{s:By}{a:Int}(h:Ak a=true):Ak (upP s a)=true:=by
 unfold upP;split
 ·rfl
 ·exact h
end
section
open Go
abbrev hK(p:B4 × Nat):Int:=(p.1.kind:Int)
abbrev hN(p:B4 × Nat):By:=p.1.name
abbrev hV(p:B4 × Nat):Int:=(p.1.v4:Int)
abbrev hA(p:B4 × Nat)(i:Nat):Int:=(p.1.v6.getD i 0:Int)
abbrev e0:By:=[]
end
end Go.Proofs.YtfkhfkjcidamaaaGreatDoor.E
