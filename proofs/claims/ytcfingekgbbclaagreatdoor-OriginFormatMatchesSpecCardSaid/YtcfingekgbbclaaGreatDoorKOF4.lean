/-
  Parts of the proof, merged by a program of the prover's own; no condition.
-/
import Derived.Test.YtcfingekgbbclaaGreatDoorKOF3
import Derived.Lib.JoinLaws
import Derived.Lib.TrimAscii
import Derived.Lib.TrimUEq
import Derived.Lib.ValidLaws
import Derived.Shelf.LaysM
import Derived.Shelf.Small.Strs
import Derived.Shelf.Spec.SlicesInsert
import Derived.Shelf.Spec.SlicesInsertGrow
import Derived.Shelf.Spec.TrailingZeros
import Derived.Shelf.Strconv.Itoa3
import Derived.Shelf.Strings.Count
import Derived.Shelf.Strings.Cut
import Derived.Shelf.Strings.IndexAnyAll
import Derived.Shelf.Strings.OnBuilder
import Derived.Shelf.Strings.Search3
import Derived.Shelf.Unicode.ValidAny
import Derived.Shelf.Utf8.RuneCount
import Derived.Test.YtcfingekgbbclaaGreatDoorProg
open List renaming getD_eq_getElem?_getD->a8,replicate->b9,drop_of_length_le->j1,getElem?_eq_getElem->j4,length_drop->j6,drop_zero->j9,length_cons->k9,length->p4,length_eq_zero_iff->p5,getD->p6,length_map->s7,length_take->s8,nil_append->s9,take_of_length_le->v7,append_assoc->w6,append_nil->w8,length_append->y7,all_eq_true->y9,getElem_cons_drop->aa2,length_pos_iff->aa3,length_nil->aa4,countP_le_length->aa7,map_congr_left->ab6,map->ac0,flatten->ac4,all_cons->ac8,take->ad0,drop->ad6,mem_of_mem_take->ad9,take_zero->ae0,isPrefixOf->ae6,map_map->ae9,mem_of_mem_drop->af5,map_append->af7,all->ag2,countP_cons_of_neg->ah3,map_id->ai1,set->ai2,countP_pos_iff->ai8,replicate_succ->ai9,any_cons->aj0,map_drop->aj1,mem_cons->aj2,all_map->ak4,getElem?_map->ak5,take_add_one->ak6,toArray->ak7,cons_append->al5,take_length->al6,append->am2,drop_drop->am9,map_take->an5,isEmpty->ap3,map_nil->ap4,mem_map->ap5
open Bool renaming not_false->b8,not_true->j0,and_eq_true->p9,false_eq_true->x4,eq_false_iff->aa1,and_true->ad4,true_and->ad5,false_or->af2,false_and->ah9,not_eq_true'->aj8,or_eq_true->am4,and_false->am6
open Int renaming toNat_natCast->c9,toNat->j5,eq_ofNat_of_zero_le->j8,tdiv->ac9,add->ae5,tmod->af4,mul_nonneg->am7
open Option.some renaming injEq->j2
open Eq renaming trans->j7
open Go.Proofs.Tryz renaming prog->p7,underlying3->w9,zeroValue3->x7,underlying4->x8,zeroValue4->y5,underlying5->z7,underlying9->aa0,zeroValue5->aa5,zeroValue9->aa6,underlying0->ab0,sizeOf3->ab2,underlying53->ab4,zeroValue0->ab5,sizeOf4->ab7,isAgg3->ab8,zeroValue53->ab9,isAgg4->ac5,sizeOf5->ac6,sizeOf9->ac7,isAgg5->ad1,isAgg9->ad2,sizeOf0->ad3,sizeOf53->ad7,underlying23->ad8,isAgg0->ae1,isAgg53->ae2,zeroValue23->ae3,sizeOf23->af3,func100->af8,func134->af9,isAgg23->ag0,underlying112->ag3,underlying140->ag4,zeroValue112->ag8,zeroValue140->ag9,func102->ah5,func103->ah6,sizeOf112->ai5,sizeOf140->ai6,f155->ai7,isAgg112->aj3,isAgg140->aj4,underlying161->aj6,underlying162->aj7,func133->al0,func163->al1,underlying20->al2,underlying38->al3,zeroValue161->al4,f136->al7,f141->al8,zeroValue20->al9,zeroValue38->am0,func99->am3,sizeOf161->an1,sizeOf162->an2,isAgg161->an7,isAgg162->an8,sizeOf20->an9,sizeOf38->ao0,f104->ao1,f106->ao2,f110->ao3,f126->ao4,f132->ao5,f169->ao6,f186->ao7,func140->ap8,func154->ap9,func162->aq0,func177->aq1,func178->aq2,isAgg20->aq3,isAgg38->aq4,f81->aq7,f92->aq8,func73->aq9
open Option renaming getD_some->v8,isSome_some->x5,map_some->x6,isSome_none->ae8,isSome_map->ag7,isSome->ah1
open Go.Lib renaming decodeL->x3,index->aa9,cut->ac2,join->ac3,runeCountL->ag1,decodeL_width->ag6,decodeL_drop->ah2,deBruijn64tab->ak0,decodeL_ascii->ak1,firstTab->ak2,runeCountFrom->ak3,decodeN->am1,decodeL_le->am8,decodeL_N->an3,join_cons->an4,index_ge->ao8,joinTail->ao9,join_one->ap0,pow10Tab->ap1,validGoD->ap2
open Nat renaming ble->x9,ble_eq->y8,ble_eq_true_of_le->aa8,le_of_ble_eq_true->ac1,div_le_self->ae7,pow_succ->af0,le_refl->af6,zero_add->ah4,min_eq_left->ah7,strongRecOn->ah8,mul_le_mul->ai3,mul_le_mul_right->ai4,blt_eq->aj5,add_zero->ak8,le_trans->ak9,mod_lt->an0,add_assoc->an6,sub_self->ap6
open Go.Shelf renaming Ren->ab1
open UInt8 renaming ofNat->ab3,toNat->ar0
open Classical renaming byContradiction->ae4
open Go.RowKit.Below renaming refl->af1
open Function renaming comp_def->ag5
open Go.Utf8 renaming decode->ah0
open Go.IntKind renaming u16->ai0,bits->aj9
open UInt8.toNat renaming inj->am5
open Go.RowKit renaming Below->ap7
open Go.Proofs.LaysM renaming n171->aq5
open Go.Proofs.Lays renaming n137->ar1,n138->ar2,n143->ar3,n145->ar4,n153->ar5,n156->ar6,n195->ar7,n196->ar8
open Go.Proofs.Lays2 renaming n21->ar9
open Go.Proofs.Lays7 renaming n27->as0
namespace Go.Proofs.YtcfingekgbbclaaGreatDoor.E
set_option linter.all false
section
open Go Go.Proofs
theorem Dc4(a b:Nat)(c:a<65536)(d:b<65536):bOr .u16 (a:Int) (b:Int)=((a ||| b:Nat):Int):=by
 unfold bOr;rw[show aj9 .u16=16 from rfl,C43 16 a b (by omega) (by omega)];have:a ||| b<2 ^ 16:=Nat.or_lt_two_pow (by omega) (by omega)
 exact Jb
theorem De2(a m:Nat)(h:a*2 ^ m<65536)(b:m<=16):Qq .u16 (a:Int) (m:Int)=((a*2 ^ m:Nat):Int):=by
 unfold Qq;rw[c9,show aj9 .u16=16 from rfl,ah7 b];have:(a:Int)*2 ^ m=((a*2 ^ m:Nat):Int):=by simp
 rw[this];exact Jb
theorem A54(v d:Nat)(b:v<4096)(a:d<16):bOr .u16 (Qq .u16 (v:Int) 4) (d:Int)=((v*16+d:Nat):Int):=by have:=De2 v 4 (by omega) (by omega);rw[show((4:Nat):Int)=4 from rfl] at this;rw[this,Dc4 _ _ (by omega) (by omega),CZ v d 4 (by omega)]
theorem B38{R:Type}{c:Unit->Option R}{f:Int->Option R}(s:By)(B:s.length<=4):∀(r i v n:Nat),i+r=s.length->r<n->v<16 ^ i->
  Ei LF n s (v:Int) (s.length:Int) (i:Int) c f=match Ge v (s.drop i) with|some w=>f (w:Int)|none=>c ():=by
 intro r
 induction r with
 | zero=>
  intro i v n l o p;obtain⟨n,rfl⟩:∃m,n=m+1:=⟨n-1,by omega⟩
  rw[Ei];rw[A5,j1 (by omega)];rfl
 | succ r q=>
  intro i v n l o p;obtain⟨n,rfl⟩:∃m,n=m+1:=⟨n-1,by omega⟩
  rw[Ei,D2 s i (by omega)];rw[C9];have k:=(s.getD i 0).toNat_lt;generalize s.getD i 0=b at *;have j:((i:Int)+1)=((i+1:Nat):Int):=by omega
  have A:16 ^ i<=4096:=by
   have:i=0\/i=1\/i=2\/i=3:=by omega
   rcases this with rfl|rfl|rfl|rfl<;>decide
  simp (disch:=omega) only[B5,J6,cond_true,vl,C5,Uu,Ut,Ur];rw[j];simp only[Ge];have go:∀d:Nat,d<16->Ei LF n s ((v*16+d:Nat):Int) (s.length:Int) ((i+1:Nat):Int) c f=match Ge (v*16+d) (s.drop (i+1)) with|some w=>f (w:Int)|none=>c ():=
   λd z=>q (i+1) _ n (by omega) (by omega) (by rw[af0];omega)
  rcases Cg b with⟨g,h,e⟩|⟨g,h,e⟩|⟨g,h,e⟩|⟨g,h,y,e⟩
  ·have a:Cx (wu8 ((b.toNat:Int)-48))=((dig b:Nat):Int):=by rw[L6,Jb];omega
   simp (disch:=omega) only[B5,E3,j0,b8,cond_false,cond_true,a,A54,if_pos (show dig b<16 by omega)];exact go _ (by omega)
  ·have a:Cx (wu8 (wu8 ((b.toNat:Int)-97)+10))=((dig b:Nat):Int):=by rw[VW (n:=(b.toNat:Int)-97) (by omega) (by omega),L6,Jb];omega
   simp (disch:=omega) only[B5,E3,j0,b8,cond_false,cond_true,a,A54,if_pos (show dig b<16 by omega)];exact go _ (by omega)
  ·have a:Cx (wu8 (wu8 ((b.toNat:Int)-65)+10))=((dig b:Nat):Int):=by rw[VW (n:=(b.toNat:Int)-65) (by omega) (by omega),L6,Jb];omega
   simp (disch:=omega) only[B5,E3,j0,b8,cond_false,cond_true,a,A54,if_pos (show dig b<16 by omega)];exact go _ (by omega)
  ·rw[if_neg (show ¬dig b<16 by omega)];by_cases t:b.toNat<48
   ·simp (disch:=omega) only[B5,E3,j0,b8,cond_false,cond_true]
   ·by_cases u:b.toNat<65
    ·simp (disch:=omega) only[B5,E3,j0,b8,cond_false,cond_true]
    ·by_cases x:b.toNat<97
     ·simp (disch:=omega) only[B5,E3,j0,b8,cond_false,cond_true]
     ·simp (disch:=omega) only[B5,E3,j0,b8,cond_false,cond_true]
theorem Bk2{R:Type}{c:Int->Bool->Option R}(s:By)(d:A3 s.length=true):B40 LF s c=c (M3 (grp s):Int) (grp s).isSome:=by
 have:=C1;unfold B40 grp;by_cases a:s=[]
 ·subst a;rfl
 ·rw[show(s==([]:By))=false from beq_eq_false_iff_ne.2 a];by_cases b:4<s.length
  ·rw[A8,if_pos (.inr b)];rfl
  ·rw[A5,if_neg (by intro h;rcases h with h|h;exact a h;exact b h)];refine j7 (B38 s (by omega) s.length 0 0 LF (by omega) (by omega) (by decide)) ?_;rw[j9];cases Ge 0 s<;>rfl
theorem YB:∀(s:By) (v w m:Nat),v<16 ^ m->Ge v s=some w->w<16 ^ (m+s.length)
 | [],v,w,m,a,h=>by simp only[Ge,j2] at h;subst h;simpa using a
 | b::r,v,w,m,a,h=>by
  simp only[Ge] at h;split at h
  ·have:=YB r (v*16+dig b) w (m+1) (by rw[af0];omega) h;grind
  ·cases h
theorem B39{s:By}{v:Nat}(h:grp s=some v):v<65536:=by
 unfold grp at h;split at h
 ·cases h
 ·rename_i a;have:=YB s 0 v 0 (by decide) h;have b:s.length<=4:=by omega
  have:16 ^ (0+s.length)<=16 ^ 4:=Nat.pow_le_pow_right (by omega) (by omega);omega
theorem Bq1{R:Type}{c:Unit->Option R}{f:Int->Option R}(s:By)(B:s.length<=4):∀(r i v n:Nat),i+r=s.length->r<n->v<16 ^ i->
  Es LF n s (v:Int) (i:Int) c f=match Ge v (s.drop i) with|some w=>f (w:Int)|none=>c ():=by
 intro r
 induction r with
 | zero=>
  intro i v n l o p;obtain⟨n,rfl⟩:∃m,n=m+1:=⟨n-1,by omega⟩
  rw[Es];rw[A5,j1 (by omega)];rfl
 | succ r q=>
  intro i v n l o p;obtain⟨n,rfl⟩:∃m,n=m+1:=⟨n-1,by omega⟩
  rw[Es,D2 s i (by omega)];rw[C9];have k:=(s.getD i 0).toNat_lt;generalize s.getD i 0=b at *;have j:((i:Int)+1)=((i+1:Nat):Int):=by omega
  have A:16 ^ i<=4096:=by
   have:i=0\/i=1\/i=2\/i=3:=by omega
   rcases this with rfl|rfl|rfl|rfl<;>decide
  simp (disch:=omega) only[B5,J6,cond_true,vl,C5,Vw,Vv,Vu];rw[j];simp only[Ge];have go:∀d:Nat,d<16->Es LF n s ((v*16+d:Nat):Int) ((i+1:Nat):Int) c f=match Ge (v*16+d) (s.drop (i+1)) with|some w=>f (w:Int)|none=>c ():=
   λd z=>q (i+1) _ n (by omega) (by omega) (by rw[af0];omega)
  rcases Cg b with⟨g,h,e⟩|⟨g,h,e⟩|⟨g,h,e⟩|⟨g,h,y,e⟩
  ·have a:wu8 ((b.toNat:Int)-48)=(b.toNat:Int)-48:=L6;simp (disch:=omega) only[B5,E3,j0,b8,cond_false,cond_true,a,C5,if_pos (show dig b<16 by omega)];rw[show(v:Int)*16+((b.toNat:Int)-48)=((v*16+dig b:Nat):Int) by omega];exact go _ (by omega)
  ·have a:wu8 ((b.toNat:Int)-97)=(b.toNat:Int)-97:=L6;simp (disch:=omega) only[B5,E3,j0,b8,cond_false,cond_true,a,C5,if_pos (show dig b<16 by omega)];rw[show(v:Int)*16+((b.toNat:Int)-97)+10=((v*16+dig b:Nat):Int) by omega];exact go _ (by omega)
  ·have a:wu8 ((b.toNat:Int)-65)=(b.toNat:Int)-65:=L6;simp (disch:=omega) only[B5,E3,j0,b8,cond_false,cond_true,a,C5,if_pos (show dig b<16 by omega)];rw[show(v:Int)*16+((b.toNat:Int)-65)+10=((v*16+dig b:Nat):Int) by omega];exact go _ (by omega)
  ·rw[if_neg (show ¬dig b<16 by omega)];by_cases t:b.toNat<48
   ·simp (disch:=omega) only[B5,E3,j0,b8,cond_false,cond_true]
   ·by_cases u:b.toNat<65
    ·simp (disch:=omega) only[B5,E3,j0,b8,cond_false,cond_true]
    ·by_cases x:b.toNat<97
     ·simp (disch:=omega) only[B5,E3,j0,b8,cond_false,cond_true]
     ·simp (disch:=omega) only[B5,E3,j0,b8,cond_false,cond_true]
theorem Bq2{R:Type}{b:Int->Bool->Option R}(s:By)(f:A3 s.length=true):B91 LF s b=b (M3 (grp s):Int) (grp s).isSome:=by
 have:=C1;unfold B91;by_cases a:s=[]
 ·subst a;rfl
 ·have g:0<s.length:=aa3.2 a;rw[A5];by_cases c:4<s.length
  ·rw[A8];unfold grp;rw[if_pos (.inr c)];rfl
  ·rw[A5];refine j7 (Bq1 s (by omega) s.length 0 0 LF (by omega) (by omega) (by decide)) ?_;have e:grp s=Ge 0 s:=by
    unfold grp;grind
   rw[j9,<-e];cases d:grp s with
   | none=>rfl
   | some w=>
    have:=B39 d;simp only[M3,v8,x5];rw[Jb]
theorem G7(l:List Nat):(C8 l).length=l.length:=by simp[C8]
theorem Kg(a b:List Nat):C8 (a++b)=C8 a++C8 b:=by simp[C8]
theorem Wu(l:List Nat):(C8 l).isEmpty=l.isEmpty:=by cases l<;>rfl
theorem Lh{l:List Nat}{i:Nat}(h:i<l.length):okE ⟨true,false,[.int .u16]⟩ (C8 l) i 0=true:=by unfold okE C8;simp[a8,h,okS,SV.has]
theorem Sm(l:List Nat)(i:Nat):gE (C8 l) i 0=(l.getD i 0:Int):=by
 unfold gE gC C8;by_cases h:i<l.length
 ·simp[a8,j4 h,SV.gI]
 ·simp[a8,List.getElem?_eq_none (show l.length<=i by omega),SV.gI]
theorem Jm:∀(last:Bool) (l:List By) (r:List Nat),Dk last l=some r->r.length<=2*l.length
 | last,[],r,h=>by simp only[Dk,j2] at h;subst h;simp
 | last,x::l,r,h=>by
  simp only[Dk] at h;split at h
  ·cases a:Dk last l with
   | none=>simp[a] at h
   | some q=>
    simp only[a,x6,j2] at h;subst h;have:=Jm last l q a;grind
  grind
theorem A72{s:By}{v:Nat}(h:v4B s=some v):v<4294967296:=by
 unfold v4B at h;split at h
 ·rename_i a;have:=Be5 (pcs 46 s) 0 v 0 (by decide) h;grind
 ·cases h
theorem Bc3:∀(last:Bool) (l:List By) (r:List Nat),Dk last l=some r->∀x∈r,x<65536
 | last,[],r,h,x,a=>by simp only[Dk,j2] at h;subst h;simp at a
 | last,y::l,r,h,x,a=>by
  simp only[Dk] at h;split at h
  ·rename_i v c;cases b:Dk last l with
   | none=>simp[b] at h
   | some q=>
    simp only[b,x6,j2] at h;subst h;rcases aj2.1 a with rfl|a
    ·exact B39 c
    ·exact Bc3 last l q b x a
  ·split at h
   ·rename_i v c;split at h
    ·simp only[j2] at h;subst h;have:=A72 c;grind
    grind
   ·cases h
theorem Aq2{R:Type}{k0:LL->Option R}{k1:LL->Option R}(last:Bool)(l:List By)(C:l.length<=1000000001)(w:∀x∈l,x.length<=1000000000):∀(r i n:Nat) (d:List Nat),i+r=l.length->r<n->d.length<=2*i->
  (∀q,Dk last (l.drop i)=some q->Dl LF n last (D4 l) (l.length:Int) (i:Int) (C8 d) k0 k1=k1 (C8 (d++q)))/\
  (Dk last (l.drop i)=none->∃k,Dl LF n last (D4 l) (l.length:Int) (i:Int) (C8 d) k0 k1=k0 k):=by
 intro r
 induction r with
 | zero=>
  intro i n d u y t;obtain⟨n,rfl⟩:∃m,n=m+1:=⟨n-1,by omega⟩
  rw[Dl,j1 (by omega)];rw[A5];refine⟨λq a=>?_,λh=>(by cases h)⟩;simp only[Dk,j2] at a;subst a;simp
 | succ r B=>
  intro i n d u y t;obtain⟨n,rfl⟩:∃m,n=m+1:=⟨n-1,by omega⟩
  rw[Dl,Iv l i (by omega)];have G:=w _ (MR (show i<l.length by omega));have f:((i:Int)+1)=((i+1:Nat):Int):=by omega
  simp (disch:=omega) only[B5,F5,J6,cond_true,c9,Q8,V5,E1,vl,G7,F0,C5];rw[f];simp only[Dk];cases D:grp (l.getD i []) with
  | some v=>
   simp only[x5,cond_true,M3,v8];have c:C8 d++[[SV.int .u16 (v:Int)]]=C8 (d++[v]):=by rw[Kg];rfl
   rw[c];have:=B (i+1) n (d++[v]) (by omega) (by omega) (by simp<;>omega);refine⟨λq a=>?_,λh=>?_⟩
   ·cases b:Dk last (l.drop (i+1)) with
    | none=>simp[b] at a
    | some j=>
     simp only[b,x6,j2] at a;subst a;rw[this.1 j b];simp
   ·cases b:Dk last (l.drop (i+1)) with
    | none=>exact this.2 b
    | some j=>simp[b] at h
  | none=>
   simp only[ae8,cond_false];cases z:v4B (l.getD i []) with
   | none=>
    simp only[ae8,b8,cond_true];exact⟨λq a=>(by cases a),λ_=>⟨_,rfl⟩⟩
   | some v=>
    have A:=A72 z;simp only[x5,j0,cond_false,M3,v8];cases last with
    | false=>
     simp only[b8,cond_true,x4,false_and,if_false];exact⟨λq a=>(by cases a),λ_=>⟨_,rfl⟩⟩
    | true=>
     simp only[j0,cond_false,true_and];by_cases F:r=0
     ·have e:l.drop (i+1)=[]:=j1 (by omega);rw[A5,e,if_pos rfl,show(16:Int)=((16:Nat):Int) from rfl,Qh .u32 v 16 (by decide)];refine⟨λq a=>?_,λh=>(by cases h)⟩;simp only[j2] at a;subst a;have o:Cx ((v / 2 ^ 16:Nat):Int)=((v / 65536:Nat):Int):=Jb;have p:Cx (v:Int)=((v % 65536:Nat):Int):=Ag9 v;rw[o,p,Kg];rfl
     ·have g:l.drop (i+1)≠[]:=by
       rw[Iv l (i+1) (by omega)];simp
      rw[A8,if_neg g];exact⟨λq a=>(by cases a),λ_=>⟨_,rfl⟩⟩
theorem X9(c:UInt8){s:By}(a:s.length<=1000000000):(pcs c s).length<=1000000001:=by have:=Hp c s;grind
theorem Aq3(s:By)(last:Bool)(f:A3 s.length=true):∃r H,Bc4 LF s last (λl=>rv (.tup [.fl 0,.s (.bool true)]) [.arr true 24 1 l]) (λl=>rv (.tup [.fl 1,.s (.bool false)]) [.arr true 24 1 l,.arr true 24 1 []])=rv r H/\
  r.stab [1,0] H = .tup [.s (.sl (gvs s last).isEmpty (gvs s last).isEmpty 1 (C8 (gvs s last))),.s (.bool (P2 s last).isSome)]:=by
 have d:=L4 f;have:=C1;unfold Bc4 gvs P2;by_cases c:s=[]
 ·subst c;exact⟨_,_,rfl,rfl⟩
 ·rw[show(s==([]:By))=false from beq_eq_false_iff_ne.2 c,f,if_neg c];simp only[cond_false,cond_true,vl,List.getD_cons_zero,F5,show((1:Nat)==1)=true from rfl];obtain⟨a,b⟩:=Aq2 (k0:=λl=>rv (.tup [.fl 1,.s (.bool false)]) [.arr true 24 1 l,.arr true 24 1 []]) (k1:=λl=>rv (.tup [.fl 0,.s (.bool true)]) [.arr true 24 1 l]) last (pcs 58 s) (X9 58 d) (λx h=>ak9 (Db h).2 d) (pcs 58 s).length 0 LF [] (by omega) (by have:=X9 58 d;omega) (by simp);rw[j9] at a b;cases g:Dk last (pcs 58 s) with
  | some q=>
   refine⟨_,_,a q g,?_⟩;simp[PV.stab,Nw,Qm,PV.snap,L5,Wu]
  | none=>
   obtain⟨i,e⟩:=b g;refine⟨_,_,e,?_⟩;simp[PV.stab,Nw,Qm,PV.snap,L5,C8]
theorem HB:∀(s:By) (v:Nat) (b:UInt8),b∈s->16<=dig b->Ge v s=none
 | c::r,v,b,h,a=>by
  simp only[Ge];rcases aj2.1 h with rfl|h
  ·grind
  ·split
   ·exact HB r _ b h a
   ·rfl
theorem A73{s:By}{v:Nat}(h:v4B s=some v):grp s=none:=by
 unfold v4B at h;split at h
 ·rename_i a;have b:(46:UInt8)∈s:=by
   apply ae4;intro c;rw[Oh c] at a;simp at a
  unfold grp;split
  ·rfl
  ·exact HB s 0 46 b (by decide)
 ·cases h
theorem Ay4{R:Type}{k0:LL->Option R}{k1:LL->Option R}(last:Bool)(l:List By)(I:l.length<=1000000001)(D:∀x∈l,x.length<=1000000000):∀(r i n:Nat) (d:List Nat),i+r=l.length->r<n->d.length<=2*i->
  (∀q,Dk last (l.drop i)=some q->P7 LF n last (D4 l) (i:Int) (C8 d) k0 k1=k1 (C8 (d++q)))/\
  (Dk last (l.drop i)=none->∃k,P7 LF n last (D4 l) (i:Int) (C8 d) k0 k1=k0 k):=by
 intro r
 induction r with
 | zero=>
  intro i n d C F B;obtain⟨n,rfl⟩:∃m,n=m+1:=⟨n-1,by omega⟩
  rw[P7,j1 (by omega)];rw[F5,A5];refine⟨λq a=>?_,λh=>(by cases h)⟩;simp only[Dk,j2] at a;subst a;simp
 | succ r y=>
  intro i n d C F B;obtain⟨n,rfl⟩:∃m,n=m+1:=⟨n-1,by omega⟩
  rw[P7,Iv l i (by omega)];have L:=D _ (MR (show i<l.length by omega));have t:((i:Int)+1)=((i+1:Nat):Int):=by omega
  have w:A1 ((l.length:Int)-1)=((l.length-1:Nat):Int):=by rw[A7];omega
  simp (disch:=omega) only[B5,F5,J6,cond_true,c9,Q8,V5,E1,vl,Ju,Jv,G7,F0,C5,cond_false];rw[t];simp only[Dk];have e:∀(f:v4B (l.getD i [])=none\/(last=false\/l.drop (i+1)≠[])),
    (∀q,(match grp (l.getD i []) with|some v=>(Dk last (l.drop (i+1))).map (v::·)|none=>match v4B (l.getD i []) with|some v=>if last=true/\l.drop (i+1)=[] then some [v / 65536,v % 65536] else none|none=>none)=some q->
     (cond (!(grp (l.getD i [])).isSome) (k0 (C8 d)) (P7 LF n last (D4 l) ((i+1:Nat):Int) (C8 d++[[SV.int .u16 (M3 (grp (l.getD i [])):Int)]]) k0 k1))=k1 (C8 (d++q)))/\
    ((match grp (l.getD i []) with|some v=>(Dk last (l.drop (i+1))).map (v::·)|none=>match v4B (l.getD i []) with|some v=>if last=true/\l.drop (i+1)=[] then some [v / 65536,v % 65536] else none|none=>none)=none->
     ∃k,(cond (!(grp (l.getD i [])).isSome) (k0 (C8 d)) (P7 LF n last (D4 l) ((i+1:Nat):Int) (C8 d++[[SV.int .u16 (M3 (grp (l.getD i [])):Int)]]) k0 k1))=k0 k):=by
   intro f;cases J:grp (l.getD i []) with
   | some v=>
    simp only[x5,j0,cond_false,M3,v8];have c:C8 d++[[SV.int .u16 (v:Int)]]=C8 (d++[v]):=by rw[Kg];rfl
    rw[c];have:=y (i+1) n (d++[v]) (by omega) (by omega) (by simp<;>omega);refine⟨λq a=>?_,λh=>?_⟩
    ·cases b:Dk last (l.drop (i+1)) with
     | none=>simp[b] at a
     | some z=>
      simp only[b,x6,j2] at a;subst a;rw[this.1 z b];simp
    ·cases b:Dk last (l.drop (i+1)) with
     | none=>exact this.2 b
     | some z=>simp[b] at h
   | none=>
    simp only[ae8,b8,cond_true];refine⟨λq a=>?_,λ_=>⟨_,rfl⟩⟩;exfalso;cases g:v4B (l.getD i []) with
    | none=>rw[g] at a;cases a
    | some v=>
     rw[g] at a;rcases f with h|h|h
     ·rw[g] at h;cases h
     ·simp only[h,x4,false_and,if_false] at a;cases a
     ·simp only[if_neg (λhc:last=true/\l.drop (i+1)=[]=>h hc.2)] at a;cases a
  cases f:v4B (l.getD i []) with
  | none=>
   simp only[ae8,cond_false];have:=e (.inl f);simp only[f] at this;exact this
  | some v=>
   have H:=A72 f;have p:=A73 f;simp only[x5,cond_true,M3,v8];cases last with
   | false=>
    simp only[cond_false];have:=e (.inr (.inl rfl));simp only[f,M3] at this;exact this
   | true=>
    simp only[cond_true];by_cases K:r=0
    ·have j:l.drop (i+1)=[]:=j1 (by omega);have o:((i:Int)==(l.length:Int)-1)=true:=by rw[beq_iff_eq];omega
     rw[o,p,j];simp only[cond_true,and_self,if_true,j2];refine⟨λq a=>?_,λh=>(by cases h)⟩;subst a;rw[show(16:Int)=((16:Nat):Int) from rfl,Qh .u32 v 16 (by decide)];have w:Cx ((v / 2 ^ 16:Nat):Int)=((v / 65536:Nat):Int):=Jb;have A:Cx (v:Int)=((v % 65536:Nat):Int):=Ag9 v;rw[w,A];have c:C8 d++[[SV.int .u16 ((v / 65536:Nat):Int)],[SV.int .u16 ((v % 65536:Nat):Int)]]=C8 (d++[v / 65536,v % 65536]):=by rw[Kg];rfl
     rw[c];have G:0<n:=by omega
     exact(y (i+1) n (d++[v / 65536,v % 65536]) (by omega) (by omega) (by simp<;>omega)).1 [] (by rw[j];rfl) |>.trans (by simp)
    ·have u:l.drop (i+1)≠[]:=by
      rw[Iv l (i+1) (by omega)];simp
     have o:((i:Int)==(l.length:Int)-1)=false:=by rw[beq_eq_false_iff_ne];omega
     rw[o];simp only[cond_false];have:=e (.inr (.inr u));simp only[f,M3] at this;exact this
theorem Ay5(s:By)(last:Bool)(f:A3 s.length=true):∃r H,ZR LF s last (λl=>rv (.tup [.fl 0,.s (.bool true)]) [.arr true 24 1 l]) (λl=>rv (.tup [.fl 1,.s (.bool false)]) [.arr true 24 1 l,.arr true 24 1 []])=rv r H/\
  r.stab [1,0] H = .tup [.s (.sl (gvs s last).isEmpty (gvs s last).isEmpty 1 (C8 (gvs s last))),.s (.bool (P2 s last).isSome)]:=by
 have d:=L4 f;have:=C1;unfold ZR gvs P2;by_cases c:s=[]
 ·subst c;exact⟨_,_,rfl,rfl⟩
 ·rw[show(s==([]:By))=false from beq_eq_false_iff_ne.2 c,f,if_neg c];simp only[cond_false,cond_true,vl,show u8n 58=58 from rfl];obtain⟨a,b⟩:=Ay4 (k0:=λl=>rv (.tup [.fl 1,.s (.bool false)]) [.arr true 24 1 l,.arr true 24 1 []]) (k1:=λl=>rv (.tup [.fl 0,.s (.bool true)]) [.arr true 24 1 l]) last (pcs 58 s) (X9 58 d) (λx h=>ak9 (Db h).2 d) (pcs 58 s).length 0 LF [] (by omega) (by have:=X9 58 d;omega) (by simp);rw[j9] at a b;cases g:Dk last (pcs 58 s) with
  | some q=>
   refine⟨_,_,a q g,?_⟩;simp[PV.stab,Nw,Qm,PV.snap,L5,Wu]
  | none=>
   obtain⟨i,e⟩:=b g;refine⟨_,_,e,?_⟩;simp[PV.stab,Nw,Qm,PV.snap,L5,C8]
theorem Cp4{j:Type}{W:List j}(h:W.length=8):∃a b c d e f g i,W=[a,b,c,d,e,f,g,i]:=by
 match W,h with
 | [a,b,c,d,e,f,g,i],_=>exact⟨a,b,c,d,e,f,g,i,rfl⟩
def r8(n:Nat):LL:=b9 n [SV.int .u16 0]
theorem Av8(n:Nat):r8 n=C8 (b9 n 0):=by simp[r8,C8]
theorem HE{s:By}{last:Bool}{q:List Nat}(h:P2 s last=some q):gvs s last=q:=by unfold gvs;rw[h];rfl
theorem Cl4(s:By):(ac2 s [58,58]).1.length<=s.length/\(ac2 s [58,58]).2.1.length<=s.length:=by unfold ac2;grind
theorem Bh0{R:Type}{K:LL->LL->Option R}(X Y:List Nat)(h:X.length+Y.length<=8) :
  Ox (C8 X) (C8 Y) (r8 8) K=K (C8 (X++b9 (8-X.length-Y.length) 0++Y)) (C8 (X++b9 (8-X.length-Y.length) 0++Y)):=by
 unfold Ox;have n:(ad0 0 (r8 8)++(ad0 8 (C8 X)++ad6 (0+min (C8 X).length 8) (r8 8)))=C8 (X++b9 (8-X.length) 0):=by
  rw[G7,ah7 (show X.length<=8 by omega),v7 (l:=C8 X) (i:=8) (by rw[G7];omega),Kg,ah4,Av8,ae0,s9];unfold C8;rw[<-aj1,List.drop_replicate]
 have m:A1 (8-(Y.length:Int))=((8-Y.length:Nat):Int):=by rw[A7];omega
 have o:(C8 (X++b9 (8-X.length) 0)).length=8:=by simp[G7]<;>omega
 have j:(ad0 (8-Y.length) (C8 (X++b9 (8-X.length) 0))++(ad0 (8-(8-Y.length)) (C8 Y)++ad6 (8-Y.length+min Y.length (8-(8-Y.length))) (C8 (X++b9 (8-X.length) 0))))=C8 (X++b9 (8-X.length-Y.length) 0++Y):=by
  rw[j1 (by rw[o];omega),v7 (l:=C8 Y) (by rw[G7];omega),Kg (X++_) Y,w8]
  congr 1
  unfold C8;rw[<-an5,List.take_append,v7 (by omega),List.take_replicate];grind
 have k:(X++b9 (8-X.length-Y.length) 0++Y).length=8:=by simp<;>omega
 simp only[vl];rw[n];simp only[G7,m,c9];rw[j];simp only[G7];rw[show(r8 8).length=8 from rfl,show p4 (X++b9 (8-X.length) (0:Nat))=8 by simp<;>omega,H9,decide_eq_true (show 8-Y.length+(8-(8-Y.length))<=8 by omega)];simp only[decide_true,cond_true,af6,k];generalize (X++b9 (8-X.length-Y.length) 0++Y)=W at *;obtain⟨a,b,c,d,e,f,g,i,rfl⟩:=Cp4 k;rfl
theorem Cg3{R:Type}{k0:Int->Int->Int->Int->Int->Int->Int->Int->Bool->LL->LL->Option R}(s:By)(r:A3 s.length=true) :
  ∃l q,v6p LF s k0=k0 (v6c 0 s) (v6c 1 s) (v6c 2 s) (v6c 3 s) (v6c 4 s) (v6c 5 s) (v6c 6 s) (v6c 7 s) (v6B s).isSome l q:=by
 have C:=L4 r;have w:=Cl4 s;unfold v6p v6c;rw[r];have bad:∀(h:v6B s=none),k0 0 0 0 0 0 0 0 0 false (r8 8) (r8 8)=k0 ((((v6B s).getD z8).getD 0 0:Nat):Int) ((((v6B s).getD z8).getD 1 0:Nat):Int) ((((v6B s).getD z8).getD 2 0:Nat):Int) ((((v6B s).getD z8).getD 3 0:Nat):Int) ((((v6B s).getD z8).getD 4 0:Nat):Int) ((((v6B s).getD z8).getD 5 0:Nat):Int) ((((v6B s).getD z8).getD 6 0:Nat):Int) ((((v6B s).getD z8).getD 7 0:Nat):Int) (v6B s).isSome (r8 8) (r8 8):=by
  intro h;rw[h];rfl
 simp (disch:=omega) only[cond_true,vl,E1];have j:v6B s=match P2 (ac2 s [58,58]).1 (!(ac2 s [58,58]).2.2),P2 (ac2 s [58,58]).2.1 true with
  | some x,some y=>if (ac2 s [58,58]).2.2 then (if x.length+y.length<=7 then some (x++b9 (8-x.length-y.length) 0++y) else none)
   else if x.length+y.length=8 then some (x++y) else none
  | _,_=>none:=rfl
 generalize (ac2 s [58,58]).1=A at *;generalize (ac2 s [58,58]).2.1=B at *;generalize (ac2 s [58,58]).2.2=o at *;cases k:P2 A (!o) with
 | none=>exact⟨_,_,bad (by rw[j,k])⟩
 | some X=>
  cases m:P2 B true with
  | none=>exact⟨_,_,bad (by rw[j,k,m])⟩
  | some Y=>
   have u:X.length<=2000000002:=by
    unfold P2 at k;split at k
    ·grind
    ·have:=Jm _ _ _ k;have:=X9 58 (s:=A) (by omega);omega
   have v:Y.length<=2000000002:=by
    unfold P2 at m;split at m
    ·grind
    ·have:=Jm _ _ _ m;have:=X9 58 (s:=B) (by omega);omega
   rw[k,m] at j;simp only[HE k,HE m,G7,x5,j0,cond_false];rw[A7];have n:∀(W:List Nat),W.length=8->v6B s=some W->∃l q,(cond ((decide (8=(C8 W).length*1))&&(okS ⟨true,true,[.int .u16,.int .u16,.int .u16,.int .u16,.int .u16,.int .u16,.int .u16,.int .u16]⟩ (ac4 (C8 W)) 0))
     (k0 (SV.gI (p6 (ac4 (C8 W)) 0 SV.nilp)) (SV.gI (p6 (ac4 (C8 W)) 1 SV.nilp)) (SV.gI (p6 (ac4 (C8 W)) 2 SV.nilp)) (SV.gI (p6 (ac4 (C8 W)) 3 SV.nilp)) (SV.gI (p6 (ac4 (C8 W)) 4 SV.nilp)) (SV.gI (p6 (ac4 (C8 W)) 5 SV.nilp)) (SV.gI (p6 (ac4 (C8 W)) 6 SV.nilp)) (SV.gI (p6 (ac4 (C8 W)) 7 SV.nilp)) true (C8 W) (C8 W)) none) =
     k0 ((((v6B s).getD z8).getD 0 0:Nat):Int) ((((v6B s).getD z8).getD 1 0:Nat):Int) ((((v6B s).getD z8).getD 2 0:Nat):Int) ((((v6B s).getD z8).getD 3 0:Nat):Int) ((((v6B s).getD z8).getD 4 0:Nat):Int) ((((v6B s).getD z8).getD 5 0:Nat):Int) ((((v6B s).getD z8).getD 6 0:Nat):Int) ((((v6B s).getD z8).getD 7 0:Nat):Int) (v6B s).isSome l q:=by
    intro W t h;rw[h];obtain⟨a,b,c,d,e,f,g,i,rfl⟩:=Cp4 t;exact⟨_,_,rfl⟩
   cases o with
   | false=>
    simp only[b8,cond_true,x4,if_false] at j ⊢;by_cases p:X.length+Y.length=8
    ·rw[if_pos p] at j;rw[show((X.length:Int)+(Y.length:Int)!=8)=false by simp;omega];simp only[cond_false];rw[show(b9 8 [SV.int ai0 0])=r8 8 from rfl,Bh0 X Y (by omega)];have z:8-X.length-Y.length=0:=by omega
     rw[z];simp only[List.replicate_zero,w8];exact n (X++Y) (by simp<;>omega) j
    ·rw[if_neg p] at j;rw[show((X.length:Int)+(Y.length:Int)!=8)=true by simp;omega];exact⟨_,_,bad j⟩
   | true=>
    simp only[j0,cond_false,cond_true,if_true] at j ⊢;by_cases p:X.length+Y.length<=7
    ·rw[if_pos p] at j;rw[A5];simp only[cond_false];rw[show(b9 8 [SV.int ai0 0])=r8 8 from rfl,Bh0 X Y (by omega)];exact n _ (by simp<;>omega) j
    ·rw[if_neg p] at j;rw[A8];exact⟨_,_,bad j⟩
theorem UR(P T:List Nat)(t v:Nat):ai2 (C8 (P++t::T)) P.length (F8 (p6 (C8 (P++t::T)) P.length []) 0 [SV.int .u16 (v:Int)])=C8 (P++v::T):=by
 have a:p6 (C8 (P++t::T)) P.length []=[SV.int .u16 (t:Int)]:=by
  simp[C8,a8]
 rw[a];simp only[F8,List.set_cons_zero];simp[C8]
theorem Cd7(X T:List Nat)(i:Nat)(h:i<X.length):X.take (i+1)++T=X.take i++X.getD i 0::T:=by rw[ak6,j4 h,a8,j4 h,w6];rfl
theorem C69{R:Type}{k0:LL->LL->Option R}(z:Bool)(X:List Nat)(h:X.length=8)(c:LL):∀(r i n:Nat),i+r=8->r<n->Lw LF n z (C8 X) (i:Int) c (C8 (X.take i++b9 r 0)) k0=k0 c (C8 X):=by
 intro r
 induction r with
 | zero=>
  intro i n d f;obtain⟨n,rfl⟩:∃m,n=m+1:=⟨n-1,by omega⟩
  rw[Lw];rw[A5,v7 (by omega)];simp
 | succ r g=>
  intro i n d f;obtain⟨n,rfl⟩:∃m,n=m+1:=⟨n-1,by omega⟩
  rw[Lw];have a:((i:Int)+1)=((i+1:Nat):Int):=by omega
  have e:(X.take i).length=i:=by rw[s8];omega
  have b:=UR (X.take i) (b9 r 0) 0 (X.getD i 0);rw[e] at b;simp (disch:=first|omega|(simp[G7];omega)) only[B5,G7,J6,cond_true,c9,Lh,Sm,vl,C5,ai9,b];rw[decide_eq_true (show i<p4 (X.take i++(0:Nat)::b9 r (0:Nat)) by simp<;>omega),a];simp only[cond_true];have:=g (i+1) n (by omega) (by omega);rw[Cd7 X _ i (by omega)] at this;exact this
theorem C70{R:Type}{k0:Bool->LL->LL->LL->Option R}(z:Bool)(X:List Nat)(k:X.length<=8)(e:Bool)(d c:LL):∀(r i n:Nat),i+r=X.length->r<n->Lx LF n z (C8 X) e d (i:Int) c (C8 (X.take i++b9 (8-i) 0)) k0=k0 e d c (C8 (X++b9 (8-X.length) 0)):=by
 intro r
 induction r with
 | zero=>
  intro i n f h;obtain⟨n,rfl⟩:∃m,n=m+1:=⟨n-1,by omega⟩
  rw[Lx];rw[G7,A5,v7 (by omega),show i=X.length by omega];rfl
 | succ r j=>
  intro i n f h;obtain⟨n,rfl⟩:∃m,n=m+1:=⟨n-1,by omega⟩
  rw[Lx];have a:((i:Int)+1)=((i+1:Nat):Int):=by omega
  have g:(X.take i).length=i:=by rw[s8];omega
  have b:=UR (X.take i) (b9 (7-i) 0) 0 (X.getD i 0);rw[g] at b;rw[show 8-i=7-i+1 by omega,ai9];simp (disch:=first|omega|(simp[G7];omega)) only[B5,G7,J6,cond_true,c9,Lh,Sm,vl,C5,b];rw[decide_eq_true (show i<p4 (X.take i++(0:Nat)::b9 (7-i) (0:Nat)) by simp<;>omega),a];simp only[cond_true];have:=j (i+1) n (by omega) (by omega);rw[Cd7 X _ i (by omega),show 8-(i+1)=7-i by omega] at this;exact this
theorem C71{R:Type}{k0:LL->LL->Option R}(z:Bool)(Y P:List Nat)(o:P.length+Y.length=8)(e:LL):∀(r i n:Nat) (T:List Nat),i+r=Y.length->r<n->T.length=r->Ly LF n z (C8 Y) (i:Int) e (C8 (P++Y.take i++T)) k0=k0 e (C8 (P++Y)):=by
 intro r
 induction r with
 | zero=>
  intro i n T h k a;obtain⟨n,rfl⟩:∃m,n=m+1:=⟨n-1,by omega⟩
  rw[Ly];rw[G7,A5,v7 (by omega),p5.1 a];simp
 | succ r l=>
  intro i n T h k a;obtain⟨n,rfl⟩:∃m,n=m+1:=⟨n-1,by omega⟩
  obtain⟨t,T,rfl⟩:∃t b,T=t::b:=by
   match T,a with
   | t::b,_=>exact⟨t,b,rfl⟩
  rw[Ly];have c:((i:Int)+1)=((i+1:Nat):Int):=by omega
  have j:(P++Y.take i).length=P.length+i:=by simp<;>omega
  have d:=UR (P++Y.take i) T t (Y.getD i 0);rw[j] at d;have f:A1 (8-(Y.length:Int))=(P.length:Int):=by rw[A7];omega
  have g:A1 ((P.length:Int)+(i:Int))=((P.length+i:Nat):Int):=by rw[A7];rfl
  simp (disch:=first|omega|(simp[G7];omega)) only[B5,G7,J6,cond_true,c9,Lh,Sm,vl,f,g,C5,d];rw[decide_eq_true (show P.length+i<p4 (P++Y.take i++t::T) by simp<;>omega),c];simp only[cond_true];have:=l (i+1) n T (by omega) (by omega) (by simpa using a);rw[w6,Cd7 Y _ i (by omega),<-w6] at this;exact this
theorem Bs9{R:Type}{k0:Int->Int->Int->Int->Int->Int->Int->Int->Bool->LL->LL->Option R}(s:By)(B:A3 s.length=true) :
  ∃l L,Cc6 LF s k0=k0 (v6c 0 s) (v6c 1 s) (v6c 2 s) (v6c 3 s) (v6c 4 s) (v6c 5 s) (v6c 6 s) (v6c 7 s) (v6B s).isSome l L:=by
 have M:=L4 B;have F:=C1;unfold Cc6 v6c;rw[B];have bad:∀(h:v6B s=none),k0 0 0 0 0 0 0 0 0 false (r8 8) (r8 8)=k0 ((((v6B s).getD z8).getD 0 0:Nat):Int) ((((v6B s).getD z8).getD 1 0:Nat):Int) ((((v6B s).getD z8).getD 2 0:Nat):Int) ((((v6B s).getD z8).getD 3 0:Nat):Int) ((((v6B s).getD z8).getD 4 0:Nat):Int) ((((v6B s).getD z8).getD 5 0:Nat):Int) ((((v6B s).getD z8).getD 6 0:Nat):Int) ((((v6B s).getD z8).getD 7 0:Nat):Int) (v6B s).isSome (r8 8) (r8 8):=by
  intro h;rw[h];rfl
 have j:v6B s=match P2 (ac2 s [58,58]).1 (!(ac2 s [58,58]).2.2),P2 (ac2 s [58,58]).2.1 true with
  | some x,some y=>if (ac2 s [58,58]).2.2 then (if x.length+y.length<=7 then some (x++b9 (8-x.length-y.length) 0++y) else none)
   else if x.length+y.length=8 then some (x++y) else none
  | _,_=>none:=rfl
 have J:=Lib.index_room s [58,58];have I:=ao8 s [58,58];simp only[cond_true];by_cases C:GO s<0
 ·have n:ac2 s [58,58]=(s,[],false):=by
   unfold ac2;rw[if_neg (by unfold GO at C;omega)]
  rw[n] at j;simp only[b8,x4,if_false] at j;rw[B5 C];simp only[cond_true];cases m:P2 s true with
  | none=>
   rw[m] at j;exact⟨_,_,bad j⟩
  | some X=>
   have o:P2 [] true=some []:=rfl;have A:X.length<=2000000002:=by
    unfold P2 at m;split at m
    ·cases m;simp
    ·have:=Jm _ _ _ m;have:=X9 58 (s:=s) (by omega);omega
   rw[m,o] at j;simp only[aa4,ak8,w8] at j;simp only[x5,j0,cond_false,HE m,G7];by_cases p:X.length=8
   ·rw[if_pos p] at j;rw[show((X.length:Int)!=8)=false by simp;omega];simp only[cond_false];rw[show(b9 8 [SV.int ai0 0])=r8 8 from rfl];have h:=λK=>C69 (R:=R) (k0:=K) X.isEmpty X p (r8 8) 8 0 LF (by omega) (by omega)
    simp only[ae0,s9] at h;rw[<-Av8] at h;rw[show((0:Nat):Int)=0 from rfl] at h;rw[h];rw[j];clear h j m bad;obtain⟨a,b,c,d,e,f,g,i,rfl⟩:=Cp4 p;exact⟨_,_,rfl⟩
   ·rw[if_neg p] at j;rw[show((X.length:Int)!=8)=true by simp;omega];exact⟨_,_,bad j⟩
 ·have r:0<=GO s:=by omega
  have q:=J r;obtain⟨k,t⟩:=j8 r;have w:k+2<=s.length:=by
   have:GO s+2<=(s.length:Int):=q;omega
  have n:ac2 s [58,58]=(s.take k,s.drop (k+2),true):=by
   unfold ac2;have:aa9 s [58,58]=(k:Int):=t;rw[S6,this];rfl
  rw[n] at j;simp only[j0,if_true] at j;have D:A1 ((k:Int)+2)=((k+2:Nat):Int):=by rw[A7];rfl
  rw[t,A5,H9];simp only[cond_false,cond_true,vl,D,J8,P9,c9];rw[E1 (by simp<;>omega),H9,E1 (by simp<;>omega)];simp only[cond_true];cases m:P2 (s.take k) false with
  | none=>
   rw[m] at j;exact⟨_,_,bad j⟩
  | some X=>
   cases o:P2 (s.drop (k+2)) true with
   | none=>
    rw[m,o] at j;exact⟨_,_,bad j⟩
   | some Y=>
    have A:X.length<=2000000002:=by
     unfold P2 at m;split at m
     ·cases m;simp
     ·have:=Jm _ _ _ m;have:=X9 58 (s:=s.take k) (by simp<;>omega);omega
    have H:Y.length<=2000000002:=by
     unfold P2 at o;split at o
     ·cases o;simp
     ·have:=Jm _ _ _ o;have:=X9 58 (s:=s.drop (k+2)) (by simp<;>omega);omega
    rw[m,o] at j;simp only[x5,j0,cond_false,HE m,HE o,G7];rw[A7];by_cases p:X.length+Y.length<=7
    ·simp only[if_pos p] at j;rw[A5];simp only[cond_false];rw[show(b9 8 [SV.int ai0 0])=r8 8 from rfl];have v:=λK=>C70 (R:=R) (k0:=K) X.isEmpty X (by omega) Y.isEmpty (C8 Y) (r8 8) X.length 0 LF (by omega) (by omega)
     simp only[ae0,s9] at v;rw[show(8-0:Nat)=8 from rfl,<-Av8,show((0:Nat):Int)=0 from rfl] at v;rw[v];have u:X++b9 (8-X.length) 0=(X++b9 (8-X.length-Y.length) 0)++ad0 0 Y++b9 Y.length 0:=by
      simp only[ae0,w8,w6];rw[List.replicate_append_replicate]
      congr 2
      omega
     have z:=λK=>C71 (R:=R) (k0:=K) Y.isEmpty Y (X++b9 (8-X.length-Y.length) 0) (by simp<;>omega) (r8 8) Y.length 0 LF (b9 Y.length 0) (by omega) (by omega) (by simp)
     rw[<-u,show((0:Nat):Int)=0 from rfl] at z;rw[z];rw[j];have G:p4 (X++b9 (8-X.length-Y.length) 0++Y)=8:=by simp<;>omega
     clear v z u j m o bad;generalize (X++b9 (8-X.length-Y.length) 0++Y)=W at *;obtain⟨a,b,c,d,e,f,g,i,rfl⟩:=Cp4 G;exact⟨_,_,rfl⟩
    ·simp only[if_neg p] at j;rw[A8];exact⟨_,_,bad j⟩
theorem Ab4{x:Nat}{r:List Nat}:Ok (x::r)=if x=0 then Ok r+1 else 0:=by unfold Ok;by_cases h:x=0<;>simp[h]
theorem UO(l:List Nat):Ok l<=l.length:=by unfold Ok;exact(List.takeWhile_sublist _).length_le
theorem Cj8{R:Type}{k0:Int->Int->Int->Int->LL->Option R}(W:List Nat)(l:W.length=8)(b a:Int)(i:Nat):∀(r j n:Nat),i+j+r=8->r<n->
  Hf LF n b a (i:Int) (j:Int) (C8 W) k0=k0 b a (i:Int) ((j+Ok (W.drop (i+j)):Nat):Int) (C8 W):=by
 intro r
 induction r with
 | zero=>
  intro j n f g;obtain⟨n,rfl⟩:∃m,n=m+1:=⟨n-1,by omega⟩
  rw[Hf];rw[A7,A5,j1 (by omega)];rfl
 | succ r k=>
  intro j n f g;obtain⟨n,rfl⟩:∃m,n=m+1:=⟨n-1,by omega⟩
  rw[Hf];have c:A1 ((i:Int)+(j:Int))=((i+j:Nat):Int):=by rw[A7];rfl
  have d:A1 ((j:Int)+1)=((j+1:Nat):Int):=by rw[A7];rfl
  have e:W.drop (i+j)=W.getD (i+j) 0::W.drop (i+(j+1)):=by
   rw[a8,j4 (by omega),v8,<-an6,aa2]
  simp (disch:=first|omega|(simp[G7];omega)) only[c,d,B5,J6,cond_true,c9,Lh,Sm,vl];rw[e,Ab4];by_cases h:W.getD (i+j) 0=0
  ·rw[h,if_pos rfl,show(((0:Nat):Int)==0)=true from rfl,cond_true,k (j+1) n (by omega) (by omega)]
   congr 2
   omega
  ·rw[if_neg h,show(((W.getD (i+j) 0:Nat):Int)==0)=false by rw[beq_eq_false_iff_ne];omega];rfl
theorem Bx2{R:Type}{k0:Int->Int->LL->Option R}(W:List Nat)(f:W.length=8):∀(r i n z m:Nat),i+r=8->r<n->z<=8->m<=8->
  Dv LF n (z:Int) (m:Int) (i:Int) (C8 W) k0=k0 ((zGo (W.drop i) i z m).1:Nat) ((zGo (W.drop i) i z m).2:Nat) (C8 W):=by
 intro r
 induction r with
 | zero=>
  intro i n z m j o c l;obtain⟨n,rfl⟩:∃m,n=m+1:=⟨n-1,by omega⟩
  rw[Dv];rw[A5,j1 (by omega)];rfl
 | succ r d=>
  intro i n z m j o c l;obtain⟨n,rfl⟩:∃m,n=m+1:=⟨n-1,by omega⟩
  have e:=C1;rw[Dv];have a:=λK=>Cj8 (R:=R) (k0:=K) W f (z:Int) (m:Int) i r.succ 0 LF (by omega) (by omega)
  rw[show((0:Nat):Int)=0 from rfl] at a;simp only[ah4,ak8] at a;rw[A8,cond_true,a];have g:W.drop i=W.getD i 0::W.drop (i+1):=by
   rw[a8,j4 (by omega),v8,aa2]
  have k:=UO (W.drop i);rw[j6] at k;have b:A1 ((i:Int)+1)=((i+1:Nat):Int):=by rw[A7];rfl
  rw[b];have c:zGo (W.drop i) i z m=if m<Ok (W.drop i) then zGo (W.drop (i+1)) (i+1) i (Ok (W.drop i)) else zGo (W.drop (i+1)) (i+1) z m:=by
   rw[g];rfl
  rw[c];by_cases h:m<Ok (W.drop i)
  ·rw[if_pos h,A8,cond_true];exact d (i+1) n i (Ok (W.drop i)) (by omega) (by omega) (by omega) (by omega)
  ·rw[if_neg h,A5,cond_false];exact d (i+1) n z m (by omega) (by omega) (by omega) (by omega)
theorem Pv{a b c d e f g i:Int}(h:ok8 a b c d e f g i=true):∃j k l m n o p q:Nat,a=j/\b=k/\c=l/\d=m/\e=n/\f=o/\g=p/\i=q/\j<65536/\k<65536/\l<65536/\m<65536/\n<65536/\o<65536/\p<65536/\q<65536:=by simp only[ok8,ac8,List.all_nil,ad4,p9,E0] at h;exact⟨a.toNat,b.toNat,c.toNat,d.toNat,e.toNat,f.toNat,g.toNat,i.toNat,by omega,by omega,by omega,by omega,by omega,by omega,by omega,by omega,by omega,by omega,by omega,by omega,by omega,by omega,by omega,by omega⟩
theorem A84{R:Type}{j:Int->Int->LL->Option R}(a b c d e f g i:Int)(t:ok8 a b c d e f g i=true):Bi4 LF a b c d e f g i j=j ((zGo (n8 a b c d e f g i) 0 0 0).1:Nat) ((zGo (n8 a b c d e f g i) 0 0 0).2:Nat) (C8 (n8 a b c d e f g i)):=by obtain⟨k,l,m,n,o,p,q,r,rfl,rfl,rfl,rfl,rfl,rfl,rfl,rfl,h⟩:=Pv t;have:=C1;unfold Bi4;exact Bx2 [k,l,m,n,o,p,q,r] rfl 8 0 LF 0 0 rfl (by omega) (by omega) (by omega)
theorem Gf{n:Nat}(h:n<16):R3 n=[Qo n]:=by rw[R3,dif_pos h]
theorem Fe{n:Nat}(h:¬n<16):R3 n=R3 (n / 16)++[Qo (n % 16)]:=by rw[R3,dif_neg h]
theorem HF:∀n:Nat,n<65536->1<=(R3 n).length/\(R3 n).length<=4:=by
 intro n d;by_cases a:n<16
 ·rw[Gf a];simp
 rw[Fe a];by_cases b:n / 16<16
 ·rw[Gf b];simp
 rw[Fe b];by_cases c:n / 16 / 16<16
 ·rw[Gf c];simp
 rw[Fe c,Gf (show n / 16 / 16 / 16<16 by omega)];simp
theorem Bc6(d:Nat)(h:d<16):Qo d≠58:=by
 have:∀d:Fin 16,Qo d.val≠58:=by decide
 exact this ⟨d,h⟩
theorem Bk6(n:Nat):∃p d,R3 n=p++[d]/\d≠58:=by
 by_cases a:n<16
 ·exact⟨[],_,by rw[Gf a];rfl,Bc6 n a⟩
 ·exact⟨_,_,Fe a,Bc6 _ (by omega)⟩
theorem B46(d:Nat)(h:d<16):cut ([48,49,50,51,52,53,54,55,56,57,97,98,99,100,101,102]:By) (d:Int) ((d+1:Nat):Int)=[Qo d]:=by
 have:∀d:Fin 16,(([48,49,50,51,52,53,54,55,56,57,97,98,99,100,101,102]:By).take (d.val+1)).drop d.val=[Qo d.val]:=by decide
 rw[Ef];exact this ⟨d,h⟩
theorem Ay7{R:Type}{c:By->Option R}:∀(v n:Nat) (s:By),v<65536->v+1<n->s.length+v<=70000->(0<v\/s=[])->
  Aa LF n s (v:Int) c=c (R3 v++s):=by
 intro v
 induction v using ah8 with
 | _ v q=>
  intro n s w r u h;obtain⟨n,rfl⟩:∃m,n=m+1:=⟨n-1,by omega⟩
  have l:af4 (v:Int) 16=((v % 16:Nat):Int):=Br v 16;have k:ac9 (v:Int) 16=((v / 16:Nat):Int):=L2 v 16;have i:Cx (((v % 16:Nat):Int)+1)=((v % 16+1:Nat):Int):=by rw[Jb];rfl
  have j:Cx ((v / 16:Nat):Int)=((v / 16:Nat):Int):=Jb;have last:∀(m:Nat) (t:By),t≠[]->Aa LF (m+1) t 0 c=c t:=by
   intro m t o;rw[Aa];rw[A5,show(t==([]:By))=false from beq_eq_false_iff_ne.2 o];rfl
  have a:(vl (Cx ((af4 (v:Int) 16)+1)) λd=>
    cond (I2 (af4 (v:Int) 16) d 16)
    (vl (cut (([48,49,50,51,52,53,54,55,56,57,97,98,99,100,101,102]:List UInt8)) (af4 (v:Int) 16) d) λe=>
     cond (F3 (p4 e) (p4 s))
     (vl (Cx (ac9 (v:Int) 16)) λg=>Aa LF n (e++s) g c) none) none)=c (R3 v++s):=by
   simp only[vl,l,k,i,j];rw[H9,B46 _ (by omega),E6 (by simp;omega)];simp only[cond_true];by_cases b:v<16
   ·rw[Gf b,Nat.mod_eq_of_lt b,show v / 16=0 by omega];obtain⟨n,rfl⟩:∃m,n=m+1:=⟨n-1,by omega⟩
    exact last n _ (by simp)
   ·rw[q (v / 16) (by omega) n _ (by omega) (by omega) (by simp;omega) (.inl (by omega)),Fe b];simp
  rw[Aa];by_cases p:0<v
  ·rw[A8,cond_true];exact a
  ·have f:s=[]:=by rcases h with h|h;omega;exact h
   rw[A5,cond_false,show(s==([]:By))=true by simpa using f,cond_true];exact a
theorem Ay8{R:Type}{b:By->Option R}(v:Int)(c:ltN v 65536=true):Bf4 LF v b=b (R3 v.toNat):=by obtain⟨a,d⟩:=E0.1 c;obtain⟨m,rfl⟩:=j8 a;have:=C1;unfold Bf4;refine j7 (Ay7 m LF [] (by omega) (by omega) (by simp<;>omega) (.inr rfl)) ?_;grind
theorem UE{R:Type}{c:Int->Option R}{d:Unit->Option R}(s:By)(x:s.length<=1000000000):∀(r i n:Nat),i+r=s.length->r<n->
  T7 LF n s (i:Int) c d=if aa9 (s.drop i) [58,58]=-1 then d () else c ((i:Int)+aa9 (s.drop i) [58,58]):=by
 intro r
 induction r with
 | zero=>
  intro i n q u;obtain⟨n,rfl⟩:∃m,n=m+1:=⟨n-1,by omega⟩
  rw[T7];rw[A7,A5,j1 (by omega)];rfl
 | succ r h=>
  intro i n q u;obtain⟨n,rfl⟩:∃m,n=m+1:=⟨n-1,by omega⟩
  rw[T7];have f:A1 ((i:Int)+1)=((i+1:Nat):Int):=by rw[A7];rfl
  rw[f];by_cases t:i+1<s.length
  ·have h:=h (i+1) n (by omega) (by omega);rw[D2 s i (by omega)];have e:=D2 s (i+1) t;have p:=ao8 (s.drop (i+1)) [58,58];have l:aa9 (s.getD i 0::s.drop (i+1)) [58,58]=if ([58,58]:By).isPrefixOf (s.getD i 0::s.drop (i+1)) then 0 else if aa9 (s.drop (i+1)) [58,58]==-1 then -1 else aa9 (s.drop (i+1)) [58,58]+1:=by
    rw[aa9]
   have o:([58,58]:By).isPrefixOf (s.getD i 0::s.drop (i+1))=(s.getD i 0==58&&s.getD (i+1) 0==58):=by
    rw[e];simp only[ae6,ad4];rw[BEq.comm (a:=(58:UInt8)),BEq.comm (a:=(58:UInt8)) (b:=s.getD (i+1) 0)]
   have j:=P8 (s.getD i 0) 58 (by omega);have k:=P8 (s.getD (i+1) 0) 58 (by omega);rw[show((58:Nat):Int)=58 from rfl,show ab3 58=(58:UInt8) from rfl] at j k;have next:T7 LF n s ((i+1:Nat):Int) c d=if (if aa9 (s.drop (i+1)) [58,58]==-1 then (-1:Int) else aa9 (s.drop (i+1)) [58,58]+1)=-1 then d () else c ((i:Int)+(if aa9 (s.drop (i+1)) [58,58]==-1 then -1 else aa9 (s.drop (i+1)) [58,58]+1)):=by
    rw[h];by_cases g:aa9 (s.drop (i+1)) [58,58]=-1
    ·rw[g];rfl
    ·rw[if_neg g,show(aa9 (s.drop (i+1)) [58,58]==-1)=false from beq_eq_false_iff_ne.2 g];simp only[x4,if_false];rw[F9]
     congr 1
     omega
   rw[l,o,A8,E5,E5];simp only[cond_true,C9,vl,j,k];cases v:(s.getD i 0==58) with
   | false=>
    simp only[cond_false,ah9,x4,if_false];exact next
   | true=>
    cases w:(s.getD (i+1) 0==58) with
    | false=>
     simp only[cond_true,cond_false,am6,x4,if_false];exact next
    | true=>
     simp
  ·rw[A5,D2 s i (by omega),j1 (show s.length<=i+1 by omega)];have:aa9 [s.getD i 0] [58,58]=-1:=by
    rw[aa9];simp[ae6,aa9]
   rw[this];rfl
theorem UF{R:Type}{a:Int->Option R}(s:By)(b:A3 s.length=true):DD LF s a=a (GO s):=by have c:=L4 b;have:=C1;unfold DD GO;refine j7 (UE s c s.length 0 LF (by omega) (by omega)) ?_;grind
theorem Lk(n:Nat):ptI (n:Int)=U2 n:=rfl
theorem ZJ{R:Type}{a:Bool->Option R}(n:Int):TZ LF n a=a (ptI n):=by
 unfold TZ;by_cases h:n<0
 ·rw[B5 h];have:ptI n=false:=by
   cases n with
   | ofNat m=>exact absurd h (by simp)
   | negSucc m=>rfl
  grind
 ·obtain⟨m,rfl⟩:=j8 (show 0<=n by omega);rw[A5,Lk];unfold U2;by_cases b:1114111<m
  ·rw[A8];have:x9 m 1114111=false:=by rw[aa1,ne_eq,y8];omega
   grind
  ·rw[A5];have:x9 m 1114111=true:=by rw[y8];omega
   rw[this];by_cases c:m<55296
   ·rw[A8];have:Nat.blt m 55296=true:=by rw[aj5];omega
    grind
   ·rw[A5];have e:Nat.blt m 55296=false:=by rw[aa1,ne_eq,aj5];omega
    rw[e];simp only[b8,cond_true,cond_false,af2,ad5]
    congr 1
theorem FP{d k:Nat}(h:455<d):Yc d k=Yc (d / 35) (k+36):=by rw[Yc,dif_pos h]
theorem Ro{d k:Nat}(h:¬ 455<d):Yc d k=k+36*d / (d+38):=by rw[Yc,dif_neg h]
theorem ZE{R:Type}{k0:Int->Int->Option R}:∀(d n k:Nat),d<2305843009213693952->d<n->k+d<=4611686018427387904->
  ∃a b,a<=455/\b<=k+d/\Yc d k=b+36*a / (a+38)/\Fj LF n (d:Int) (k:Int) k0=k0 (a:Int) (b:Int):=by
 intro d
 induction d using ah8 with
 | _ d l=>
  intro n k p r q;obtain⟨n,rfl⟩:∃m,n=m+1:=⟨n-1,by omega⟩
  rw[Fj];by_cases h:455<d
  ·obtain⟨a,b,g,o,i,j⟩:=l (d / 35) (by omega) n (k+36) (by omega) (by omega) (by omega);refine⟨a,b,g,by omega,by rw[FP h];exact i,?_⟩;have e:ac9 (d:Int) 35=((d / 35:Nat):Int):=L2 d 35;have c:A1 ((d / 35:Nat):Int)=((d / 35:Nat):Int):=A7;have f:A1 ((k:Int)+36)=((k+36:Nat):Int):=by rw[A7];rfl
   rw[A8];simp only[cond_true,vl,e,c,f];exact j
  ·refine⟨d,k,by omega,by omega,Ro h,?_⟩;rw[A5];rfl
theorem ZF{R:Type}{k0:Int->Option R}(d c:Int)(f:Bool)(z:ltN d 1152921504606846976=true)(A:ltN c 1000000=true)(B:ltI 0 c=true):IF LF d c f k0=k0 (P5 d.toNat c.toNat f:Nat):=by
 obtain⟨k,F⟩:=E0.1 z;obtain⟨j,D⟩:=E0.1 A;obtain⟨d,rfl⟩:=j8 k;obtain⟨c,rfl⟩:=j8 j;have J:=Le.1 B;have C:=C1;have key:∀x:Nat,x<1152921504606846976->Fi LF (x:Int) (c:Int) k0=k0 ((Yc (x+x / c) 0:Nat):Int):=by
  intro x L;have G:x / c<=x:=ae7 _ _;unfold Fi;have g:ac9 (x:Int) (c:Int)=((x / c:Nat):Int):=L2 x c;generalize x / c=q at *;have h:A1 (q:Int)=(q:Int):=A7;have o:A1 ((x:Int)+(q:Int))=((x+q:Nat):Int):=by rw[A7];rfl
  rw[show((c:Int)!=0)=true by simp;omega];simp only[cond_true,vl,g,h,o];obtain⟨a,n,H,I,w,y⟩:=ZE (R:=R) (k0:=λb l=>vl (A1 ((36)*b)) λm=>vl (A1 (b+(38))) λe=>cond (e !=(0)) (vl (A1 (ac9 m e)) λi=>k0 (A1 (l+i))) none) (x+q) LF 0 (by omega) (by omega) (by omega);refine j7 y ?_;have K:36*a / (a+38)<=36*a:=ae7 _ _;have p:A1 (36*(a:Int))=((36*a:Nat):Int):=by rw[A7];rfl
  have r:A1 ((a:Int)+38)=((a+38:Nat):Int):=by rw[A7];rfl
  have t:ac9 ((36*a:Nat):Int) ((a+38:Nat):Int)=((36*a / (a+38):Nat):Int):=L2 _ _;have u:A1 ((36*a / (a+38):Nat):Int)=((36*a / (a+38):Nat):Int):=A7;have v:A1 ((n:Int)+((36*a / (a+38):Nat):Int))=((n+36*a / (a+38):Nat):Int):=by rw[A7];rfl
  simp only[vl,p,r,t,u,v];rw[show(((a+38:Nat):Int)!=0)=true by simp;omega,w];rfl
 unfold IF P5;rw[c9,c9];cases f with
 | true=>
  have g:ac9 (d:Int) 700=((d / 700:Nat):Int):=L2 d 700;have h:A1 ((d / 700:Nat):Int)=((d / 700:Nat):Int):=A7;simp only[cond_true,vl,g,h,if_true];exact key _ (by omega)
 | false=>
  have g:ac9 (d:Int) 2=((d / 2:Nat):Int):=L2 d 2;have h:A1 ((d / 2:Nat):Int)=((d / 2:Nat):Int):=A7;simp only[cond_false,vl,g,h,x4,if_false];exact key _ (by omega)
theorem LU{d:Nat}(h:d<36):(Z8 d).toNat=if d<26 then 97+d else 22+d:=by unfold Z8;split<;>simp<;>omega
theorem Bo5{R:Type}{b:Int->Option R}(d:Int)(c:ltN d 36=true):Cr6 LF d b=b ((Z8 d.toNat).toNat:Nat):=by
 obtain⟨a,e⟩:=E0.1 c;obtain⟨d,rfl⟩:=j8 a;unfold Cr6;rw[c9,LU (by omega)];by_cases h:d<26
 ·rw[A8,if_pos h];simp only[cond_true,vl]
  congr 1
  rw[A7,L6];rfl
 ·rw[A5,if_neg h];simp only[cond_false,vl]
  congr 1
  rw[C5 (n:=48+(d:Int)) (by omega) (by omega),A7,L6];omega
theorem CD(b:UInt8):(97<=b.toNat/\b.toNat<=122/\Mx b=some (b.toNat-97))\/(65<=b.toNat/\b.toNat<=90/\Mx b=some (b.toNat-65))\/(48<=b.toNat/\b.toNat<=57/\Mx b=some (b.toNat-22))\/(¬(97<=b.toNat/\b.toNat<=122)/\¬(65<=b.toNat/\b.toNat<=90)/\¬(48<=b.toNat/\b.toNat<=57)/\Mx b=none):=by unfold Mx;grind
theorem Bp2{R:Type}{g:Int->Option R}(b:Int)(h:inR b 256=true):B82 LF b g=g (D8 (u8n b)):=by
 simp only[inR,p9,decide_eq_true_eq] at h;have j:b=((u8n b).toNat:Int):=by
  unfold u8n;simp;omega
 generalize u8n b=c at *;subst j;have i:=c.toNat_lt;unfold B82 D8;simp only[Vp,Vo,vl];rcases CD c with⟨d,f,e⟩|⟨d,f,e⟩|⟨d,f,e⟩|⟨d,f,o,e⟩
 ·have a:A1 (wu8 ((c.toNat:Int)-97))=((c.toNat-97:Nat):Int):=by
   rw[L6,A7];omega
  simp (disch:=omega) only[B5,E3,j0,b8,cond_false,cond_true,a,e]
 ·have a:A1 (wu8 ((c.toNat:Int)-65))=((c.toNat-65:Nat):Int):=by
   rw[L6,A7];omega
  simp (disch:=omega) only[B5,E3,j0,b8,cond_false,cond_true,a,e]
 ·have a:A1 (A1 (wu8 ((c.toNat:Int)-48))+26)=((c.toNat-22:Nat):Int):=by
   rw[L6,C5 (n:=(c.toNat:Int)-48) (by omega) (by omega),A7];omega
  simp (disch:=omega) only[B5,E3,j0,b8,cond_false,cond_true,a,e]
 ·rw[e];by_cases k:c.toNat<48
  ·simp (disch:=omega) only[B5,E3,j0,b8,cond_false,cond_true]
  ·by_cases l:c.toNat<65
   ·simp (disch:=omega) only[B5,E3,j0,b8,cond_false,cond_true]
   ·by_cases m:c.toNat<97
    ·simp (disch:=omega) only[B5,E3,j0,b8,cond_false,cond_true]
    ·simp (disch:=omega) only[B5,E3,j0,b8,cond_false,cond_true]
theorem Cw8{l:LL}(h:l.all Vb=true):∃W:List Nat,l=C8 W/\(∀x∈W,x<65536):=by
 induction l with
 | nil=>exact⟨[],rfl,by simp⟩
 | cons x r c=>
  simp only[ac8,p9] at h;obtain⟨W,rfl,e⟩:=c h.2;have a:=h.1;unfold Vb at a;split at a
  ·rename_i n;obtain⟨b,d⟩:=E0.1 a;obtain⟨m,rfl⟩:=j8 b;refine⟨m::W,rfl,?_⟩;grind
  ·cases a
theorem VJ{W:List Nat}(h:∀x∈W,x<65536):(C8 W).all Vb=true:=by rw[y9];intro x a;simp only[C8,ap5] at a;obtain⟨n,b,rfl⟩:=a;have:=h n b;exact Qu (v:=(n:Int)) (n:=65536) (by omega) (by omega)
theorem Uk(W:List Nat):(C8 W).map elN=W:=by
 unfold C8;rw[ae9]
 conv=>rhs;rw[<-ai1 W]
 apply ab6;intro x _;simp[elN,SV.gI]
theorem XR(l:List By):(D4 l).map elS=l:=by
 unfold D4;rw[ae9]
 conv=>rhs;rw[<-ai1 l]
 apply ab6;intro x _;simp[elS,SV.gS]
theorem Cd3(l:List By):(D4 l).all isS=true:=by rw[y9];intro x a;simp only[D4,ap5] at a;obtain⟨n,b,rfl⟩:=a;rfl
theorem Ae8{P:List Nat->Prop}(a:P [])(b:∀l x,P l->P (l++[x]))(l:List Nat):P l:=by
 have:∀r:List Nat,P r.reverse:=by
  intro r
  induction r with
  | nil=>exact a
  | cons x r c=>rw[List.reverse_cons];exact b _ _ c
 have:=this l.reverse;grind
theorem Bl8(l:List By)(x p:By)(h:l≠[]):ac3 (l++[x]) p=ac3 l p++p++x:=by
 cases l with
 | nil=>exact absurd rfl h
 | cons y r=>
  rw[al5,an4,an4];unfold ao9;simp
theorem Jn:S9 []=[]:=rfl
theorem Zi(n:Nat):S9 [n]=R3 n:=by unfold S9;exact ap0 _ _
theorem Sp(l:List Nat)(n:Nat)(h:l≠[]):S9 (l++[n])=S9 l++[58]++R3 n:=by unfold S9;rw[af7,List.map_singleton,Bl8 _ _ _ (by simpa using h)]
theorem Au:∀l:List Nat,(∀x∈l,x<65536)->(S9 l).length<=5*l.length:=by
 refine Ae8 ?_ ?_
 ·intro _;simp[Jn]
 ·intro l n c h;have d:=c (λx b=>h x (by simp[b]));have e:=HF n (h n (by simp));by_cases a:l=[]
  ·subst a;rw[s9,Zi];simp;omega
  ·rw[Sp l n a];simp;omega
theorem Ar0:∀(l:List Nat) (h:l≠[]),∃q d,S9 l=q++[d]/\d≠58:=by
 refine Ae8 ?_ ?_
 ·grind
 ·intro l n _ _;obtain⟨q,d,c,a⟩:=Bk6 n;by_cases b:l=[]
  ·subst b;exact⟨q,d,by rw[s9,Zi,c],a⟩
  ·exact⟨S9 l++[58]++q,d,by rw[Sp l n b,c];simp,a⟩
theorem Cg1{R:Type}{c:LL->Option R}(z t:Bool)(W:List Nat)(l:∀x∈W,x<65536)(p:W.length<=8):∀(r i n:Nat) (d:List By),i+r=W.length->r<n->d.length=i->
  To LF n z t (C8 W) (W.length:Int) (i:Int) (D4 d) c=c (D4 (d++(W.drop i).map R3)):=by
 intro r
 induction r with
 | zero=>
  intro i n d h j f;obtain⟨n,rfl⟩:∃m,n=m+1:=⟨n-1,by omega⟩
  rw[To];rw[A5,j1 (by omega)];simp
 | succ r k=>
  intro i n d h j f;obtain⟨n,rfl⟩:∃m,n=m+1:=⟨n-1,by omega⟩
  rw[To];have b:W.drop i=W.getD i 0::W.drop (i+1):=by
   rw[a8,j4 (by omega),v8,aa2]
  have o:W.getD i 0<65536:=by
   rw[a8,j4 (by omega),v8];simp_all
  have e:A1 ((i:Int)+1)=((i+1:Nat):Int):=by rw[A7];rfl
  rw[b];generalize g:W.getD i 0=x at *;simp (disch:=omega) only[B5,J6,cond_true,G7,c9,Lh,Sm,vl,e,g,VV,Qu,F5,F0,show((16:Int)==16)=true from rfl];have a:D4 d++[[SV.str (R3 x)]]=D4 (d++[R3 x]):=by rw[Wr];rfl
  rw[a,k (i+1) n _ (by omega) (by omega) (by simp;omega)];simp
theorem Cg2{R:Type}{k0:By->LL->Option R}(z t:Bool)(l:LL)(c:l.all Vb=true)(a:x9 l.length 8=true):∃g,v6j LF z t l k0=k0 (S9 (l.map elN)) g:=by
 obtain⟨W,rfl,b⟩:=Cw8 c;have f:W.length<=8:=by rw[G7] at a;exact ac1 a
 have d:=C1;refine⟨D4 (W.map R3),?_⟩;unfold v6j;rw[G7];refine j7 (Cg1 z t W b f W.length 0 LF [] (by omega) (by omega) rfl) ?_;have e:=Au W b;unfold S9 at e;rw[s9,j9,Cd3,XR,Uk,F5,N0,E1 (by simp;omega)];rfl
theorem WB:∀(l:List Nat) (i z m:Nat),z+m<=i+l.length->(zGo l i z m).1+(zGo l i z m).2<=i+l.length
 | [],i,z,m,h=>by simpa[zGo] using h
 | x::r,i,z,m,h=>by
  have a:=UO (x::r);simp only[zGo];simp only[k9] at h a ⊢;split
  ·have:=WB r (i+1) i (Ok (x::r)) (by omega);omega
  ·have:=WB r (i+1) z m (by omega);omega
theorem Cg0{R:Type}{k0:By->LL->Option R}(p r t u v w y A:Int)(G:ok8 p r t u v w y A=true):∃l,v6f LF p r t u v w y A k0=k0 (Mw (n8 p r t u v w y A)) l:=by
 obtain⟨a,b,c,d,e,f,g,j,rfl,rfl,rfl,rfl,rfl,rfl,rfl,rfl,h⟩:=Pv G;have C:n8 a b c d e f g j=[a,b,c,d,e,f,g,j]:=rfl;refine⟨C8 [a,b,c,d,e,f,g,j],?_⟩;unfold v6f;rw[G,C,cond_true];have o:([[SV.int .u16 (a:Int)],[SV.int .u16 (b:Int)],[SV.int .u16 (c:Int)],[SV.int .u16 (d:Int)],[SV.int .u16 (e:Int)],[SV.int .u16 (f:Int)],[SV.int .u16 (g:Int)],[SV.int .u16 (j:Int)]]:LL)=C8 [a,b,c,d,e,f,g,j]:=rfl;rw[o];have B:∀x∈[a,b,c,d,e,f,g,j],x<65536:=by simp_all
 have n:[a,b,c,d,e,f,g,j].length=8:=rfl;have k:=WB [a,b,c,d,e,f,g,j] 0 0 0 (by simp);unfold Mw;generalize [a,b,c,d,e,f,g,j]=W at *;generalize zGo W 0 0 0=q at *;obtain⟨z,m⟩:=q;rw[n] at k;simp only[vl] at k ⊢;have N:∀i,(C8 W).take i=C8 (W.take i):=λi=>by unfold C8;rw[an5]
 have J:∀i,(C8 W).drop i=C8 (W.drop i):=λi=>by unfold C8;rw[aj1]
 by_cases I:m<2
 ·rw[if_pos I,A8,cond_true,VJ B,Uk];rfl
 ·have K:A1 ((z:Int)+(m:Int))=((z+m:Nat):Int):=by rw[A7];rfl
  have hA:∀x∈W.take z,x<65536:=λx D=>B x (ad9 D)
  have H:∀x∈W.drop (z+m),x<65536:=λx D=>B x (af5 D)
  have O:=Au _ hA;have P:=Au _ H;have L:(W.take z).length<=8:=by rw[s8];omega
  have M:(W.drop (z+m)).length<=8:=by rw[j6];omega
  rw[if_neg I,A5,cond_false,H9,K];simp only[c9,Nat.sub_zero];rw[N,J,VJ hA,Uk,G7,aa8 L,E6 (by omega),H9];have F:(C8 (W.drop (z+m))).take (8-(z+m))=C8 (W.drop (z+m)):=v7 (by rw[G7,j6];omega);rw[F,VJ H,Uk,G7,aa8 M,E6 (by simp;omega)];simp
theorem Cv7{R:Type}{k0:Int->Int->Int->Int->LL->Option R}(W:List Nat)(l:W.length=8)(b a:Int)(i:Nat):∀(r j n:Nat),i+j+r=8->r<n->
  Lv LF n b a (i:Int) (j:Int) (C8 W) k0=k0 b a (i:Int) ((j+Ok (W.drop (i+j)):Nat):Int) (C8 W):=by
 intro r
 induction r with
 | zero=>
  intro j n f g;obtain⟨n,rfl⟩:∃m,n=m+1:=⟨n-1,by omega⟩
  rw[Lv];rw[A7,A5,j1 (by omega)];rfl
 | succ r k=>
  intro j n f g;obtain⟨n,rfl⟩:∃m,n=m+1:=⟨n-1,by omega⟩
  rw[Lv];have c:A1 ((i:Int)+(j:Int))=((i+j:Nat):Int):=by rw[A7];rfl
  have d:A1 ((j:Int)+1)=((j+1:Nat):Int):=by rw[A7];rfl
  have e:W.drop (i+j)=W.getD (i+j) 0::W.drop (i+(j+1)):=by
   rw[a8,j4 (by omega),v8,<-an6,aa2]
  simp (disch:=first|omega|(simp[G7];omega)) only[c,d,B5,J6,cond_true,c9,Lh,Sm,vl];rw[e,Ab4];by_cases h:W.getD (i+j) 0=0
  ·rw[h,if_pos rfl,show(((0:Nat):Int)==0)=true from rfl,cond_true,k (j+1) n (by omega) (by omega)]
   congr 2
   omega
  ·rw[if_neg h,show(((W.getD (i+j) 0:Nat):Int)==0)=false by rw[beq_eq_false_iff_ne];omega];rfl
def RR(z m:Nat)(a b:Int):Prop:=(2<=m/\a=z/\b=m)\/(m<2/\a=-1/\b=1)
theorem Cc5{R:Type}{k0:Int->Int->LL->Option R}(W:List Nat)(o:W.length=8):∀(r i n z m:Nat) (a b:Int),i+r=8->r<n->z<=8->m<=8->RR z m a b->
  ∃g j,RR (zGo (W.drop i) i z m).1 (zGo (W.drop i) i z m).2 g j/\Hw LF n a b (i:Int) (C8 W) k0=k0 g j (C8 W):=by
 intro r
 induction r with
 | zero=>
  intro i n z m a b t w e v h;obtain⟨n,rfl⟩:∃m,n=m+1:=⟨n-1,by omega⟩
  rw[Hw];rw[A5,j1 (by omega)];exact⟨a,b,h,rfl⟩
 | succ r f=>
  intro i n z m a b t w e v h;obtain⟨n,rfl⟩:∃m,n=m+1:=⟨n-1,by omega⟩
  have l:=C1;rw[Hw];have c:=λK=>Cv7 (R:=R) (k0:=K) W o a b i r.succ 0 LF (by omega) (by omega)
  rw[show((0:Nat):Int)=0 from rfl] at c;simp only[ah4,ak8] at c;rw[A8,cond_true,c];have p:W.drop i=W.getD i 0::W.drop (i+1):=by
   rw[a8,j4 (by omega),v8,aa2]
  have u:=UO (W.drop i);rw[j6] at u;have d:A1 ((i:Int)+1)=((i+1:Nat):Int):=by rw[A7];rfl
  rw[d];have e:zGo (W.drop i) i z m=if m<Ok (W.drop i) then zGo (W.drop (i+1)) (i+1) i (Ok (W.drop i)) else zGo (W.drop (i+1)) (i+1) z m:=by
   rw[p];rfl
  rw[e];generalize Ok (W.drop i)=q at *;unfold RR at h;by_cases k:m<q
  ·rw[if_pos k];by_cases x:q<2
   ·rw[A5,cond_false];exact f (i+1) n i q a b (by omega) (by omega) (by omega) (by omega) (by unfold RR;omega)
   ·rw[A8,cond_true];exact f (i+1) n i q i q (by omega) (by omega) (by omega) (by omega) (by unfold RR;omega)
  ·rw[if_neg k,A5,cond_false];exact f (i+1) n z m a b (by omega) (by omega) (by omega) (by omega) h
theorem MA(q:By)(d:UInt8):(q++[d]).getD q.length 0=d:=by simp
theorem Bs8{R:Type}{k:By->LL->Option R}(W:List Nat)(u:W.length=8)(v:∀x∈W,x<65536)(a b:Int)(s c:By)(i n:Nat)(w:i<8)(o:(i:Int)≠a)(j:s.length<=1000)
  (h:(s=[]/\c=R3 (W.getD i 0))\/(∃q d,s=q++[d]/\d≠58/\c=s++[58]++R3 (W.getD i 0))\/(∃q,s=q++[58]/\c=s++R3 (W.getD i 0))) :
  R6 LF (n+1) a b s (i:Int) (C8 W) k=R6 LF n a b c ((i+1:Nat):Int) (C8 W) k:=by
 rw[R6];have t:W.getD i 0<65536:=by simp_all
 have m:A1 ((i:Int)+1)=((i+1:Nat):Int):=by rw[A7];rfl
 have y:=HF _ t;rw[A8,show((i:Int)==a)=false from beq_eq_false_iff_ne.2 o];generalize r:W.getD i 0=x at *;have ok:=Lh (l:=W) (i:=i) (by omega);simp (disch:=omega) only[cond_true,cond_false,J6,c9,ok,Sm,r,Qu,vl,m];rcases h with⟨rfl,rfl⟩|⟨q,d,rfl,p,rfl⟩|⟨q,rfl,rfl⟩
 ·have e:F3 ([]:By).length (R3 x).length=true:=E6 (by simp;omega);rw[e];rfl
 ·have f:A1 (((q++[d]).length:Int)-1)=((q.length:Nat):Int):=by rw[A7];simp
  rw[show((q++[d])==([]:By))=false by simp,f,J6 (by omega) (by simp<;>omega),C9,MA];have g:(d.toNat:Int)≠58:=by
   intro h;apply p;apply am5;grind
  rw[show((d.toNat:Int)!=58)=true from bne_iff_ne.2 g,E6 (by simp at j ⊢;omega),E6 (by simp at j ⊢;omega)];rfl
 ·have f:A1 (((q++[58]).length:Int)-1)=((q.length:Nat):Int):=by rw[A7];simp
  rw[show((q++[(58:UInt8)])==([]:By))=false by simp,f,J6 (by omega) (by simp<;>omega),C9,MA];have e:F3 (q++[(58:UInt8)]).length (R3 x).length=true:=E6 (by simp at j ⊢;omega);rw[e];rfl
theorem Bu2(W:List Nat)(i:Nat)(h:i<W.length):W.take (i+1)=W.take i++[W.getD i 0]:=by simp_all
theorem IZ{R:Type}{k0:By->LL->Option R}(W:List Nat)(m:W.length=8)(f:∀x∈W,x<65536)(a b:Int)(e:Nat)(I:e<=8)(p:By)(z:p=[]\/∃q,p=q++[58])(A:p.length<=100)(o:Nat)(w:o<=8) :
  ∀(r i n:Nat),i+r=e->o<=i->(∀j:Nat,i<=j->j<e->(j:Int)≠a)->
   R6 LF (n+r) a b (p++S9 ((W.take i).drop o)) (i:Int) (C8 W) k0=R6 LF n a b (p++S9 ((W.take e).drop o)) (e:Int) (C8 W) k0:=by
 intro r
 induction r with
 | zero=>
  intro i n u w _;rw[show i=e by omega];rfl
 | succ r G=>
  intro i n u y g;rw[show n+(r+1)=(n+r)+1 by omega];have h:((W.take i).drop o).length=i-o:=by rw[j6,s8];omega
  have v:=Au ((W.take i).drop o) (λx F=>f x (ad9 (af5 F)));have D:(W.take (i+1)).drop o=(W.take i).drop o++[W.getD i 0]:=by
   rw[Bu2 W i (by omega),List.drop_append_of_le_length (by rw[s8];omega)]
  have C:(p++S9 ((W.take i).drop o)).length<=1000:=by rw[y7];omega
  rw[Bs8 W m f a b (p++S9 ((W.take i).drop o)) (p++S9 ((W.take (i+1)).drop o)) i (n+r) (by omega) (g i (by omega) (by omega)) C]
  ·exact G (i+1) n (by omega) (by omega) (λj H k=>g j (by omega) k)
  ·rw[D];generalize (W.take i).drop o=l at *;by_cases c:l=[]
   ·subst c;rw[s9,Zi,Jn,w8];rcases z with rfl|⟨q,rfl⟩
    ·exact .inl ⟨rfl,rfl⟩
    ·exact .inr (.inr ⟨q,rfl,rfl⟩)
   ·obtain⟨q,d,B,t⟩:=Ar0 l c;refine .inr (.inl ⟨p++q,d,by rw[B,w6],t,?_⟩);rw[Sp l _ c];simp
theorem Bs7{R:Type}{k0:By->LL->Option R}(A B C D F G H I:Int)(V:ok8 A B C D F G H I=true):Cv5 LF A B C D F G H I k0=k0 (Mw (n8 A B C D F G H I)) (C8 (n8 A B C D F G H I)):=by
 obtain⟨g,i,k,l,o,p,r,t,rfl,rfl,rfl,rfl,rfl,rfl,rfl,rfl,h⟩:=Pv V;have K:n8 g i k l o p r t=[g,i,k,l,o,p,r,t]:=rfl;unfold Cv5;rw[K];have y:([[SV.int .u16 (g:Int)],[SV.int .u16 (i:Int)],[SV.int .u16 (k:Int)],[SV.int .u16 (l:Int)],[SV.int .u16 (o:Int)],[SV.int .u16 (p:Int)],[SV.int .u16 (r:Int)],[SV.int .u16 (t:Int)]]:LL)=C8 [g,i,k,l,o,p,r,t]:=rfl;rw[y];have J:∀x∈[g,i,k,l,o,p,r,t],x<65536:=by simp_all
 have e:[g,i,k,l,o,p,r,t].length=8:=rfl;have w:=WB [g,i,k,l,o,p,r,t] 0 0 0 (by simp);have X:=C1;generalize [g,i,k,l,o,p,r,t]=W at *;obtain⟨a,b,L,Y⟩:=Cc5 (R:=R) (k0:=λv f M=>R6 LF LF v f [] 0 M (λd c=>k0 d c)) W e 8 0 LF 0 0 (-1) 1 (by omega) (by omega) (by omega) (by omega) (.inr ⟨by omega,rfl,rfl⟩);refine j7 Y ?_;rw[j9] at L;unfold Mw;generalize zGo W 0 0 0=q at *;obtain⟨z,m⟩:=q;rw[e] at w;simp only at w L ⊢;have stop:∀(n:Nat) (s:By),0<n->R6 LF n a b s ((8:Nat):Int) (C8 W) (λd c=>k0 d c)=k0 s (C8 W):=by
  intro n s O;obtain⟨n,rfl⟩:∃m,n=m+1:=⟨n-1,by omega⟩
  rw[R6];simp_all
 rcases L with⟨N,rfl,rfl⟩|⟨N,rfl,rfl⟩
 ·rw[F9];have u:=IZ (R:=R) (k0:=λd c=>k0 d c) W e J (z:Int) (m:Int) z (by omega) [] (.inl rfl) (by simp) 0 (by omega) z 0 (LF-z) (by omega) (by omega) (λj _ h2=>by omega);rw[show LF-z+z=LF by omega] at u;simp only[ae0,j9,Jn,s9] at u;refine j7 u ?_;obtain⟨n,O⟩:∃n,LF-z=n+8+1:=⟨LF-z-9,by omega⟩
  rw[O,R6];have hA:∀x∈W.take z,x<65536:=λx Z=>J x (ad9 Z)
  have la:=Au _ hA;have l1:(W.take z).length<=8:=by rw[s8];omega
  have S:A1 ((m:Int)-1)=((m-1:Nat):Int):=by rw[A7];omega
  have T:A1 ((z:Int)+((m-1:Nat):Int))=((z+(m-1):Nat):Int):=by rw[A7];omega
  have U:A1 (((z+(m-1):Nat):Int)+1)=((z+m:Nat):Int):=by rw[A7];omega
  rw[A8,E6 (by omega)];simp only[beq_self_eq_true,cond_true,vl,S,T,U];have P:=IZ (R:=R) (k0:=λd c=>k0 d c) W e J (z:Int) (m:Int) 8 (by omega) (S9 (W.take z)++[58,58]) (.inr ⟨S9 (W.take z)++[58],by simp⟩) (by simp;omega) (z+m) (by omega) (8-(z+m)) (z+m) (n+(z+m)) (by omega) (by omega) (λj h1 _=>by omega);rw[show n+(z+m)+(8-(z+m))=n+8 by omega] at P;have Q:(W.take (z+m)).drop (z+m)=[]:=j1 (by rw[s8];omega);rw[Q,Jn,w8] at P;grind
 ·rw[if_pos N];have u:=IZ (R:=R) (k0:=λd c=>k0 d c) W e J (-1) 1 8 (by omega) [] (.inl rfl) (by simp) 0 (by omega) 8 0 (LF-8) (by omega) (by omega) (λj _ _=>by omega);rw[show LF-8+8=LF by omega] at u;simp only[ae0,j9,Jn,s9] at u;grind
set_option maxRecDepth 100000
section
variable {Z R : Type} (L : Nat) (Q : G1) (Y : Yh Z) (s : Z) (k : Out -> St Z -> Option R)
noncomputable def RH(L:Nat):Cfg:=B4 L [161] (A2 []) [] (A2 [(1,[2]),(0,[0])]) [] (A2 []) (some [2]) [] [] []
noncomputable def C27{R:Type}(L:Nat)(a:Unit->Option R):Option R:=a ()
theorem B52(d:Nat):evC (RH L) (d+1) Z Y 161 [pI (16:Int)] [] s=C27 L  (λ_=>some (pB true,[],s)):=by refine(evE (fn:=Tryz.f161) (by kernel_rfl)).trans ?_;generalize evC (RH L) d=Q;unfold C27;kernel_rfl
noncomputable abbrev QX:Code:=C3 ao5
noncomputable def Hi(L:Nat):Cfg:=B4 L [132] (A2 [(11,[0,0,1,0,5,0,0,0,0,0,0]),(18,[0,0,1,0,5,0,0,0,3])]) [(161,OO),(162,C35)] (A2 [(30,[10,0]),(29,[10,0]),(28,[0,9,0,0,0,80]),(27,[0,3,5,0,0,0]),(26,[0,3,5,0,0,0]),(25,[0,3,5,0,0,0,75]),(16,[0,2,0,5,0,0,0]),(15,[0,0,1,0,5,0,0,0]),(14,[0,0,1,0,5,0,0,0,0,0,0]),(13,[0,0,1,0,5,0,0,0,0,0,0]),(12,[0,0,1,0,5,0,0,0,0,0,0]),(11,[0,0,1,0,5,0,0,0,0,0,0,29]),(10,[0,0,1,0,5,0,0,0,0,0,0]),(9,[0,0,0,0,0,5,0,0,0,0,0]),(8,[0,0,0,0,0,5,0,0,0,0]),(24,[0,2,0,5,0,0,0]),(23,[0,0,1,0,5,0,0,0]),(22,[0,0,1,0,5,0,0,0,3]),(21,[0,2,0,5,0,0,0,3,0]),(20,[0,0,1,0,5,0,0,0,3,0]),(19,[0,0,1,0,5,0,0,0,3]),(18,[0,0,1,0,5,0,0,0,3,50]),(17,[0,0,1,0,5,0,0,0,3]),(7,[0,0,0,0,0,5,0,0,0,20]),(6,[0,0,0,0,0,5,0,0,0]),(5,[0,0,0,0,0,5,0,0,0,16]),(4,[0,0,0,0,0,5,0,0,0]),(3,[0,0,0,0,0,5,0,0]),(2,[0,0,0,0,0,5,0]),(1,[0,0,0,0,0,5,0,16]),(0,[0,0,0,0,0,5,0])]) [161,162] (A2 [(0,[0,0,1,0,5,0,0,0]),(1,[0,0,1,0,5,0,0,0,0,0,0]),(2,[0,0,1,0,5,0,0,0]),(3,[0,0,1,0,5,0,0,0,3])]) (some [10,0]) [] [] []
noncomputable def Jl{R:Type}(L n:Nat)(b a:Bool)(c:LL)(g d:Int)(f:LL)(j:Bool->Bool->LL->Int->Int->LL->Option R):Option R:=match n with|0=>none|n+1=>cond (not (ltI g 16)) (vl (Al0 .u64 g (15:Int)) λe=>cond (inR e 36) (vl (bAt (([48,49,50,51,52,53,54,55,56,57,97,98,99,100,101,102,103,104,105,106,107,108,109,110,111,112,113,114,115,116]:List UInt8)++[117,118,119,120,121,122]) e) λi=>cond (inR (A1 (d-1)) 65) (cond (decide ((j5 (A1 (d-1)))<f.length)) (vl (ai2 f (j5 (A1 (d-1))) (F8 (p6 f (j5 (A1 (d-1))) []) 0 [(SV.int .u8 i)])) λh=>Jl L n b a c (On .u64 g (4:Int)) (A1 (d-1)) h j) none) none) none) (j b a c g d f)
theorem XU(n b a c f d e):C4 2 ((Hi L).keep 11) (bd (Hi L) Q Y (cd [1,1,1,1,1,0,1,0,1,1,1,0,0,0] QX)) n ⟨gp [(0,.s (.sl b a 0 c)),(0,p64 f),(1,pB false),(0,pB false),(5,.fl 0),(0,pS ([]:List UInt8)),(0,.ptr 1 0 0),(0,pI d),(0,p64 (4:Int)),(0,p64 (16:Int)),(0,p64 (15:Int))] 85,[.arr true 5 1 [],.arr false 138 1 e],s⟩ k =
 Jl L n b a c f d e (λb a c f d e=>k (.exit 0) ⟨gp [(0,.s (.sl b a 0 c)),(0,p64 f),(1,pB false),(0,pB false),(5,.fl 0),(0,pS ([]:List UInt8)),(0,.ptr 1 0 0),(0,pI d)] 88,[.arr true 5 1 [],.arr false 138 1 e],s⟩):=by
 induction n generalizing b a c f d e with
 | zero=>rfl
 | succ n g=>rw[Jl];simp only[<-g];kernel_rfl
noncomputable def XT{R:Type}(L:Nat)(e d:Bool)(ds:LL)(v:Int)(m:By->LL->Option R):Option R:=cond ((16:Int)==16) (cond ((16:Int)==16) (Jl L L e d ds v 65 (b9 65 [(SV.int .u8 (0:Int))]) (λg f j i a c=>cond (inR i 36) (vl (bAt (([48,49,50,51,52,53,54,55,56,57,97,98,99,100,101,102,103,104,105,106,107,108,109,110,111,112,113,114,115,116]:List UInt8)++[117,118,119,120,121,122]) i) λl=>cond (inR (A1 (a-1)) 65) (cond (decide ((j5 (A1 (a-1)))<c.length)) (vl (ai2 c (j5 (A1 (a-1))) (F8 (p6 c (j5 (A1 (a-1))) []) 0 [(SV.int .u8 l)])) λb=>cond (decide (b.length=65)) (cond (I2 (A1 (a-1)) (65:Int) 65) (cond (ag2 (ad0 (65-(j5 (A1 (a-1)))) (ad6 (j5 (A1 (a-1))) b)) Mz) (vl (ac0 Kv (ad0 (65-(j5 (A1 (a-1)))) (ad6 (j5 (A1 (a-1))) b))) λh=>m h b) none) none) none) none) none) none)) none) none
theorem B33(d:Nat)(ds_z ds_t ds v):evC (Hi L) (d+1) Z Y 132 [.s (.sl ds_z ds_t 0 ds),p64 v,pI (16:Int),pB false,pB false] [] s=XT L ds_z ds_t ds v (λb a=>some (.tup [.fl 0,pS b],[.arr true 5 1 [],.arr false 138 1 a],s)):=by refine(evE (fn:=ao5) (by kernel_rfl)).trans ?_;generalize evC (Hi L) d=Q;unfold XT;exact(j7 (by kernel_rfl) (A0 (A0 ((XU L Q Y s (E2 0 (D9 (Hi L) Q Y (cd [1,1,1,1,1,0,1,0,1,1,1,1] QX) (D9 (Hi L) Q Y (cd [1,1,1,1,1,1] QX) (F2 (Hi L) ao5)))) L ds_z ds_t ds v 65 (b9 65 [(SV.int .u8 (0:Int))])).trans (by kernel_rfl)) rfl) rfl))
noncomputable def RG(L:Nat):Cfg:=B4 L [157] (A2 []) [(132,OA)] (A2 [(9,[4]),(8,[8]),(7,[4]),(6,[5,0]),(5,[0,4,0]),(4,[0,4]),(3,[4]),(2,[0,11]),(1,[0,0,8]),(0,[0,0])]) [] (A2 []) (some [4]) [] [] []
noncomputable def Bd1{R:Type}(L:Nat)(v:Int)(a:By->Option R):Option R:=cond (ltN v 65536) (cond ((16:Int)==16) (a (R3 (j5 v))) none) none
theorem B47(d:Nat)(v):evC (RG L) (d+1) Z Y 157 [p64 v,pI (16:Int)] [] s=Bd1 L v (λa=>some (pS a,[],s)):=by refine(evE (fn:=Tryz.f157) (by kernel_rfl)).trans ?_;generalize evC (RG L) d=Q;unfold Bd1;kernel_rfl
noncomputable def Al8(L:Nat):Cfg:=B4 L [128] (A2 []) [(157,ON)] (A2 [(1,[4]),(0,[0,0])]) [157] (A2 []) (some [4]) [] [] []
noncomputable def Cm7{R:Type}(L:Nat)(v:Int)(a:By->Option R):Option R:=cond (ltN v 65536) (cond ((16:Int)==16) (a (R3 (j5 v))) none) none
theorem Cm8(d:Nat)(v):evC (Al8 L) (d+1) Z Y 128 [p64 v,pI (16:Int)] [] s=Cm7 L v (λa=>some (pS a,[],s)):=by refine(evE (fn:=Tryz.f128) (by kernel_rfl)).trans ?_;generalize evC (Al8 L) d=Q;unfold Cm7;kernel_rfl
end
end
end Go.Proofs.YtcfingekgbbclaaGreatDoor.E
namespace Go.Proofs
open Go.Shelf
def Tryz.lays156_ren:ab1:=⟨fun|156=>111|165=>142|166=>143|169=>144|240=>171|241=>172|276=>184|277=>185|n=>n,fun|31=>54|9=>9|3=>3|4=>4|0=>0|20=>20|72=>121|76=>125|70=>119|37=>38|75=>124|127=>149|164=>157|5=>5|80=>127|n=>n,fun|n=>n⟩
theorem Tryz.lays156:ar6 p7 Tryz.lays156_ren:={
 mixed:=by kernel_rfl
 f156:=Tryz.func111.trans (congrArg some (by kernel_rfl))
 f165:=Tryz.func142.trans (congrArg some (by kernel_rfl))
 f166:=Tryz.func143.trans (congrArg some (by kernel_rfl))
 f169:=Tryz.func144.trans (congrArg some (by kernel_rfl))
 f240:=Tryz.func171.trans (congrArg some (by kernel_rfl))
 f241:=Tryz.func172.trans (congrArg some (by kernel_rfl))
 f276:=Tryz.func184.trans (congrArg some (by kernel_rfl))
 f277:=Tryz.func185.trans (congrArg some (by kernel_rfl))
 t0:=ab0
 a0:=ae1
 z0:=ad3
 v0:=ab5
 t3:=w9
 a3:=ab8
 z3:=ab2
 v3:=x7
 t4:=x8
 a4:=ac5
 z4:=ab7
 v4:=y5
 t9:=aa0
 a9:=ad2
 z9:=ac7
 v9:=aa6
 t20:=al2
 a20:=aq3
 z20:=an9
 v20:=al9
 t31:=Tryz.underlying54
 a31:=Tryz.isAgg54
 z31:=Tryz.sizeOf54
 v31:=Tryz.zeroValue54
 t37:=al3
 a37:=aq4
 z37:=ao0
 v37:=am0
 t70:=Tryz.underlying119
 a70:=Tryz.isAgg119
 z70:=Tryz.sizeOf119
 v70:=Tryz.zeroValue119
 t72:=Tryz.underlying121
 a72:=Tryz.isAgg121
 z72:=Tryz.sizeOf121
 v72:=Tryz.zeroValue121
 t75:=Tryz.underlying124
 a75:=Tryz.isAgg124
 z75:=Tryz.sizeOf124
 v75:=Tryz.zeroValue124
 t76:=Tryz.underlying125
 a76:=Tryz.isAgg125
 z76:=Tryz.sizeOf125
 v76:=Tryz.zeroValue125
 t127:=Tryz.underlying149
 a127:=Tryz.isAgg149
 z127:=Tryz.sizeOf149
 v127:=Tryz.zeroValue149
 t164:=Tryz.underlying157
 a164:=Tryz.isAgg157
 z164:=Tryz.sizeOf157
 v164:=Tryz.zeroValue157 }
theorem Tryz.Builder_Extra_156:Builder.Extra p7 Tryz.lays156_ren:={
 sizeBuilder:=by kernel_rfl
 liesBuilder:=by kernel_rfl
 t5:=z7
 a5:=ad1
 z5:=ac6
 v5:=aa5
 infoByte:=by kernel_rfl
 cellsByte:=by kernel_rfl
 sizeByte:=by kernel_rfl
 neB5:=by decide }
def Tryz.lays195_ren:ab1:=⟨fun|195=>140|n=>n,fun|9=>9|3=>3|0=>0|4=>4|n=>n,fun|n=>n⟩
theorem Tryz.lays195:ar7 p7 Tryz.lays195_ren:={
 mixed:=by kernel_rfl
 f195:=ap8.trans (congrArg some (by kernel_rfl))
 t0:=ab0
 a0:=ae1
 z0:=ad3
 v0:=ab5
 t3:=w9
 a3:=ab8
 z3:=ab2
 v3:=x7
 t4:=x8
 a4:=ac5
 z4:=ab7
 v4:=y5
 t9:=aa0
 a9:=ad2
 z9:=ac7
 v9:=aa6 }
def Tryz.laysM171_ren:ab1:=⟨fun|171=>51|243=>69|246=>97|283=>129|284=>130|285=>131|286=>132|129=>159|317=>158|318=>160|319=>161|320=>162|337=>177|338=>178|n=>n,fun|3=>3|9=>9|2=>2|4=>4|171=>113|0=>0|53=>112|37=>38|5=>5|173=>116|212=>137|51=>23|20=>20|213=>138|46=>53|232=>161|233=>162|n=>n,fun|17=>1|18=>4|19=>5|n=>n⟩
theorem Tryz.laysM171:aq5 p7 Tryz.laysM171_ren:={
 mixed:=by kernel_rfl
 f129:=Tryz.func159.trans (congrArg some (by kernel_rfl))
 f171:=Tryz.func51.trans (congrArg some (by kernel_rfl))
 f243:=Tryz.func69.trans (congrArg some (by kernel_rfl))
 f246:=Tryz.func97.trans (congrArg some (by kernel_rfl))
 f283:=Tryz.func129.trans (congrArg some (by kernel_rfl))
 f284:=Tryz.func130.trans (congrArg some (by kernel_rfl))
 f285:=Tryz.func131.trans (congrArg some (by kernel_rfl))
 f286:=Tryz.func132.trans (congrArg some (by kernel_rfl))
 f317:=Tryz.func158.trans (congrArg some (by kernel_rfl))
 f318:=Tryz.func160.trans (congrArg some (by kernel_rfl))
 f319:=Tryz.func161.trans (congrArg some (by kernel_rfl))
 f320:=aq0.trans (congrArg some (by kernel_rfl))
 f337:=aq1.trans (congrArg some (by kernel_rfl))
 f338:=aq2.trans (congrArg some (by kernel_rfl))
 t0:=ab0
 a0:=ae1
 z0:=ad3
 v0:=ab5
 t2:=Tryz.underlying2
 a2:=Tryz.isAgg2
 z2:=Tryz.sizeOf2
 v2:=Tryz.zeroValue2
 t3:=w9
 a3:=ab8
 z3:=ab2
 v3:=x7
 t4:=x8
 a4:=ac5
 z4:=ab7
 v4:=y5
 t5:=z7
 a5:=ad1
 z5:=ac6
 v5:=aa5
 t9:=aa0
 a9:=ad2
 z9:=ac7
 v9:=aa6
 t20:=al2
 a20:=aq3
 z20:=an9
 v20:=al9
 t37:=al3
 a37:=aq4
 z37:=ao0
 v37:=am0
 t46:=ab4
 a46:=ae2
 z46:=ad7
 v46:=ab9
 t51:=ad8
 a51:=ag0
 z51:=af3
 v51:=ae3
 t53:=ag3
 a53:=aj3
 z53:=ai5
 v53:=ag8
 t171:=Tryz.underlying113
 a171:=Tryz.isAgg113
 z171:=Tryz.sizeOf113
 v171:=Tryz.zeroValue113
 t173:=Tryz.underlying116
 a173:=Tryz.isAgg116
 z173:=Tryz.sizeOf116
 v173:=Tryz.zeroValue116
 t212:=Tryz.underlying137
 a212:=Tryz.isAgg137
 z212:=Tryz.sizeOf137
 v212:=Tryz.zeroValue137
 t213:=Tryz.underlying138
 a213:=Tryz.isAgg138
 z213:=Tryz.sizeOf138
 t232:=aj6
 a232:=an7
 z232:=an1
 v232:=al4
 t233:=aj7
 a233:=an8
 z233:=an2
 v233:=Tryz.zeroValue162
 g17:=by kernel_rfl
 g18:=by kernel_rfl
 g19:=by kernel_rfl
 i0:=by kernel_rfl
 i2:=by kernel_rfl
 i3:=by kernel_rfl
 i4:=by kernel_rfl
 i5:=by kernel_rfl
 i9:=by kernel_rfl
 i20:=by kernel_rfl
 i37:=by kernel_rfl
 i46:=by kernel_rfl
 i51:=by kernel_rfl
 i53:=by kernel_rfl
 i171:=by kernel_rfl
 i173:=by kernel_rfl
 i212:=by kernel_rfl
 i232:=by kernel_rfl
 i233:=by kernel_rfl
 m17:=by kernel_rfl
 m18:=by kernel_rfl
 m19:=by kernel_rfl }
def Tryz.lays143_ren:ab1:=⟨fun|143=>154|219=>99|217=>100|225=>103|224=>102|267=>133|266=>134|314=>163|n=>n,fun|9=>9|3=>3|4=>4|5=>5|46=>53|146=>140|51=>23|n=>n,fun|1=>0|n=>n⟩
theorem Tryz.lays143:ar3 p7 Tryz.lays143_ren:={
 mixed:=by kernel_rfl
 f143:=ap9.trans (congrArg some (by kernel_rfl))
 f217:=af8.trans (congrArg some (by kernel_rfl))
 f219:=am3.trans (congrArg some (by kernel_rfl))
 f224:=ah5.trans (congrArg some (by kernel_rfl))
 f225:=ah6.trans (congrArg some (by kernel_rfl))
 f266:=af9.trans (congrArg some (by kernel_rfl))
 f267:=al0.trans (congrArg some (by kernel_rfl))
 f314:=al1.trans (congrArg some (by kernel_rfl))
 t3:=w9
 a3:=ab8
 z3:=ab2
 v3:=x7
 t4:=x8
 a4:=ac5
 z4:=ab7
 v4:=y5
 t5:=z7
 a5:=ad1
 z5:=ac6
 v5:=aa5
 t9:=aa0
 a9:=ad2
 z9:=ac7
 v9:=aa6
 t46:=ab4
 a46:=ae2
 z46:=ad7
 v46:=ab9
 t51:=ad8
 a51:=ag0
 z51:=af3
 v51:=ae3
 t146:=ag4
 a146:=aj4
 z146:=ai6
 v146:=ag9
 g1:=by kernel_rfl }
def Tryz.lays145_ren:ab1:=⟨fun|145=>54|220=>72|219=>99|217=>100|225=>103|224=>102|267=>133|266=>134|314=>163|n=>n,fun|9=>9|4=>4|59=>57|3=>3|5=>5|46=>53|146=>140|51=>23|n=>n,fun|1=>0|n=>n⟩
theorem Tryz.lays145:ar4 p7 Tryz.lays145_ren:={
 mixed:=by kernel_rfl
 f145:=Tryz.func54.trans (congrArg some (by kernel_rfl))
 f217:=af8.trans (congrArg some (by kernel_rfl))
 f219:=am3.trans (congrArg some (by kernel_rfl))
 f220:=Tryz.func72.trans (congrArg some (by kernel_rfl))
 f224:=ah5.trans (congrArg some (by kernel_rfl))
 f225:=ah6.trans (congrArg some (by kernel_rfl))
 f266:=af9.trans (congrArg some (by kernel_rfl))
 f267:=al0.trans (congrArg some (by kernel_rfl))
 f314:=al1.trans (congrArg some (by kernel_rfl))
 t3:=w9
 a3:=ab8
 z3:=ab2
 v3:=x7
 t4:=x8
 a4:=ac5
 z4:=ab7
 v4:=y5
 t5:=z7
 a5:=ad1
 z5:=ac6
 v5:=aa5
 t9:=aa0
 a9:=ad2
 z9:=ac7
 v9:=aa6
 t46:=ab4
 a46:=ae2
 z46:=ad7
 v46:=ab9
 t51:=ad8
 a51:=ag0
 z51:=af3
 v51:=ae3
 t59:=Tryz.underlying57
 a59:=Tryz.isAgg57
 z59:=Tryz.sizeOf57
 v59:=Tryz.zeroValue57
 t146:=ag4
 a146:=aj4
 z146:=ai6
 v146:=ag9
 g1:=by kernel_rfl }
def Tryz.lays138_ren:ab1:=⟨fun|138=>166|195=>140|218=>181|143=>154|219=>99|217=>100|225=>103|224=>102|267=>133|266=>134|314=>163|n=>n,fun|9=>9|3=>3|4=>4|5=>5|0=>0|46=>53|146=>140|51=>23|n=>n,fun|1=>0|n=>n⟩
theorem Tryz.lays138:ar2 p7 Tryz.lays138_ren:={
 mixed:=by kernel_rfl
 f138:=Tryz.func166.trans (congrArg some (by kernel_rfl))
 f143:=ap9.trans (congrArg some (by kernel_rfl))
 f195:=ap8.trans (congrArg some (by kernel_rfl))
 f217:=af8.trans (congrArg some (by kernel_rfl))
 f218:=Tryz.func181.trans (congrArg some (by kernel_rfl))
 f219:=am3.trans (congrArg some (by kernel_rfl))
 f224:=ah5.trans (congrArg some (by kernel_rfl))
 f225:=ah6.trans (congrArg some (by kernel_rfl))
 f266:=af9.trans (congrArg some (by kernel_rfl))
 f267:=al0.trans (congrArg some (by kernel_rfl))
 f314:=al1.trans (congrArg some (by kernel_rfl))
 t0:=ab0
 a0:=ae1
 z0:=ad3
 v0:=ab5
 t3:=w9
 a3:=ab8
 z3:=ab2
 v3:=x7
 t4:=x8
 a4:=ac5
 z4:=ab7
 v4:=y5
 t5:=z7
 a5:=ad1
 z5:=ac6
 v5:=aa5
 t9:=aa0
 a9:=ad2
 z9:=ac7
 v9:=aa6
 t46:=ab4
 a46:=ae2
 z46:=ad7
 v46:=ab9
 t51:=ad8
 a51:=ag0
 z51:=af3
 v51:=ae3
 t146:=ag4
 a146:=aj4
 z146:=ai6
 v146:=ag9
 g1:=by kernel_rfl }
def Tryz.lays196_ren:ab1:=⟨fun|196=>139|259=>167|n=>n,fun|9=>9|4=>4|3=>3|5=>5|12=>12|119=>144|0=>0|46=>53|139=>147|138=>146|53=>112|n=>n,fun|3=>2|4=>3|n=>n⟩
theorem Tryz.lays196:ar8 p7 Tryz.lays196_ren:={
 mixed:=by kernel_rfl
 f196:=Tryz.func139.trans (congrArg some (by kernel_rfl))
 f259:=Tryz.func167.trans (congrArg some (by kernel_rfl))
 t0:=ab0
 a0:=ae1
 z0:=ad3
 v0:=ab5
 t3:=w9
 a3:=ab8
 z3:=ab2
 v3:=x7
 t4:=x8
 a4:=ac5
 z4:=ab7
 v4:=y5
 t5:=z7
 a5:=ad1
 z5:=ac6
 v5:=aa5
 t9:=aa0
 a9:=ad2
 z9:=ac7
 v9:=aa6
 t12:=Tryz.underlying12
 a12:=Tryz.isAgg12
 z12:=Tryz.sizeOf12
 v12:=Tryz.zeroValue12
 t46:=ab4
 a46:=ae2
 z46:=ad7
 v46:=ab9
 t53:=ag3
 a53:=aj3
 z53:=ai5
 v53:=ag8
 t119:=Tryz.underlying144
 a119:=Tryz.isAgg144
 z119:=Tryz.sizeOf144
 t138:=Tryz.underlying146
 a138:=Tryz.isAgg146
 z138:=Tryz.sizeOf146
 v138:=Tryz.zeroValue146
 t139:=Tryz.underlying147
 a139:=Tryz.isAgg147
 z139:=Tryz.sizeOf147
 v139:=Tryz.zeroValue147
 g3:=by kernel_rfl
 g4:=by kernel_rfl }
def Tryz.lays2_21_ren:ab1:=⟨fun|21=>187|27=>190|28=>191|35=>192|39=>193|n=>n,fun|22=>105|3=>3|4=>4|0=>0|n=>n,fun|n=>n⟩
theorem Tryz.lays2_21:ar9 p7 Tryz.lays2_21_ren:={
 mixed:=by kernel_rfl
 f21:=Tryz.func187.trans (congrArg some (by kernel_rfl))
 f27:=Tryz.func190.trans (congrArg some (by kernel_rfl))
 f28:=Tryz.func191.trans (congrArg some (by kernel_rfl))
 f35:=Tryz.func192.trans (congrArg some (by kernel_rfl))
 f39:=Tryz.func193.trans (congrArg some (by kernel_rfl))
 t0:=ab0
 a0:=ae1
 z0:=ad3
 v0:=ab5
 t3:=w9
 a3:=ab8
 z3:=ab2
 v3:=x7
 t4:=x8
 a4:=ac5
 z4:=ab7
 v4:=y5
 t22:=Tryz.underlying105
 a22:=Tryz.isAgg105
 z22:=Tryz.sizeOf105
 v22:=Tryz.zeroValue105
 i3:=by kernel_rfl }
def Tryz.lays7_27_ren:ab1:=⟨fun|27=>162|28=>177|29=>178|n=>n,fun|25=>53|3=>3|27=>23|22=>112|4=>4|53=>161|0=>0|5=>5|54=>162|n=>n,fun|0=>4|1=>5|n=>n⟩
theorem Tryz.lays7_27:as0 p7 Tryz.lays7_27_ren:={
 mixed:=by kernel_rfl
 f27:=aq0.trans (congrArg some (by kernel_rfl))
 f28:=aq1.trans (congrArg some (by kernel_rfl))
 f29:=aq2.trans (congrArg some (by kernel_rfl))
 t0:=ab0
 a0:=ae1
 z0:=ad3
 v0:=ab5
 i0:=by kernel_rfl
 t3:=w9
 a3:=ab8
 z3:=ab2
 v3:=x7
 i3:=by kernel_rfl
 t4:=x8
 a4:=ac5
 z4:=ab7
 v4:=y5
 i4:=by kernel_rfl
 t5:=z7
 a5:=ad1
 z5:=ac6
 v5:=aa5
 i5:=by kernel_rfl
 t22:=ag3
 a22:=aj3
 z22:=ai5
 v22:=ag8
 i22:=by kernel_rfl
 t25:=ab4
 a25:=ae2
 z25:=ad7
 v25:=ab9
 i25:=by kernel_rfl
 t27:=ad8
 a27:=ag0
 z27:=af3
 v27:=ae3
 i27:=by kernel_rfl
 t53:=aj6
 a53:=an7
 z53:=an1
 v53:=al4
 i53:=by kernel_rfl
 t54:=aj7
 a54:=an8
 z54:=an2
 g0:=by kernel_rfl
 g1:=by kernel_rfl }
def Tryz.lays137_ren:ab1:=⟨fun|137=>73|217=>100|266=>134|n=>n,fun|9=>9|5=>5|3=>3|n=>n,fun|n=>n⟩
theorem Tryz.lays137:ar1 p7 Tryz.lays137_ren:={
 mixed:=by kernel_rfl
 f137:=aq9.trans (congrArg some (by kernel_rfl))
 f217:=af8.trans (congrArg some (by kernel_rfl))
 f266:=af9.trans (congrArg some (by kernel_rfl))
 t3:=w9
 a3:=ab8
 z3:=ab2
 v3:=x7
 t5:=z7
 a5:=ad1
 z5:=ac6
 v5:=aa5
 t9:=aa0
 a9:=ad2
 z9:=ac7
 v9:=aa6 }
def Tryz.lays153_ren:ab1:=⟨fun|153=>58|152=>75|226=>76|227=>77|228=>78|137=>73|119=>101|224=>102|225=>103|217=>100|266=>134|n=>n,fun|9=>9|3=>3|4=>4|5=>5|21=>21|117=>73|116=>72|0=>0|46=>53|124=>98|n=>n,fun|n=>n⟩
theorem Tryz.lays153:ar5 p7 Tryz.lays153_ren:={
 mixed:=by kernel_rfl
 f119:=Tryz.func101.trans (congrArg some (by kernel_rfl))
 f137:=aq9.trans (congrArg some (by kernel_rfl))
 f152:=Tryz.func75.trans (congrArg some (by kernel_rfl))
 f153:=Tryz.func58.trans (congrArg some (by kernel_rfl))
 f217:=af8.trans (congrArg some (by kernel_rfl))
 f224:=ah5.trans (congrArg some (by kernel_rfl))
 f225:=ah6.trans (congrArg some (by kernel_rfl))
 f226:=Tryz.func76.trans (congrArg some (by kernel_rfl))
 f227:=Tryz.func77.trans (congrArg some (by kernel_rfl))
 f228:=Tryz.func78.trans (congrArg some (by kernel_rfl))
 f266:=af9.trans (congrArg some (by kernel_rfl))
 t0:=ab0
 a0:=ae1
 z0:=ad3
 v0:=ab5
 t3:=w9
 a3:=ab8
 z3:=ab2
 v3:=x7
 t4:=x8
 a4:=ac5
 z4:=ab7
 v4:=y5
 t5:=z7
 a5:=ad1
 z5:=ac6
 v5:=aa5
 t9:=aa0
 a9:=ad2
 z9:=ac7
 v9:=aa6
 t21:=Tryz.underlying21
 a21:=Tryz.isAgg21
 z21:=Tryz.sizeOf21
 v21:=Tryz.zeroValue21
 t46:=ab4
 a46:=ae2
 z46:=ad7
 v46:=ab9
 t116:=Tryz.underlying72
 a116:=Tryz.isAgg72
 z116:=Tryz.sizeOf72
 t117:=Tryz.underlying73
 a117:=Tryz.isAgg73
 z117:=Tryz.sizeOf73
 v117:=Tryz.zeroValue73
 t124:=Tryz.underlying98
 a124:=Tryz.isAgg98
 z124:=Tryz.sizeOf98
 v124:=Tryz.zeroValue98 }
end Go.Proofs
namespace Go.Proofs.YtcfingekgbbclaaGreatDoor.E
set_option linter.all false
section
open Go Go.Proofs Go.Sort
set_option maxRecDepth 100000
theorem SP{C:Cfg}{St:Nat->Prop}{w:World}{g:Nat}{k:IntKind}{zs:List Int}(a:GOK C St w)(b:C.G=GX)(h:GX.tab g=some (k,zs)):∃e x,w.heap[g]? = some (.cells (zs.map λz=>Value.int k z).toArray e x):=(a.1 g k zs (by rw[b];exact h)).2
theorem B36{C:Cfg}{St:Nat->Prop}{w:World}(a:GOK C St w)(b:C.G=GX):∃m,w.cell? ⟨0,0,none⟩=some (.int .i64 m):=(a.2 _ (by rw[b];rfl)).2
theorem CS{w:World}{g:Nat}{a:List Int}{k:IntKind}{e:TypeId}{x}(h:w.heap[g]? = some (.cells (a.map λz=>Value.int k z).toArray e x))(i:Nat)(b:i<a.length):w.cell? ⟨g,i,none⟩=some (.int k (a.getD i 0)):=by simp[World.cell?,h,a8,j4 b]
theorem Cn0{C:Cfg}{St:Nat->Prop}{w:World}(f:GOK C St w)(a:C.G=GX):Lib.Utf8Tabs 2 3 w:=by
 obtain⟨j,m,h⟩:=SP (g:=2) (k:=.u8) (zs:=ak2) f a rfl;obtain⟨b,n,d⟩:=SP (g:=3) (k:=.u8) (zs:=Fp) f a rfl;refine⟨λc a=>?_,λi l=>⟨?_,?_⟩⟩
 ·rw[CS h c (by simp[ak2];omega)];simp[ak2,a8,j4,a]
 ·rw[CS d (2*i) (by simp[Fp];omega)];have:2*i<32:=by omega
  simp[Fp,a8,this]
 ·rw[CS d (2*i+1) (by simp[Fp];omega)];have:2*i+1<32:=by omega
  have e:(2*i+1) / 2=i:=by omega
  have b:¬(2*i+1) % 2=0:=by omega
  simp[Fp,a8,this,e,b]
theorem B37{C:Cfg}{St:Nat->Prop}{w:World}(b:GOK C St w)(c:C.G=GX):Lib.TabIs p7 w "internal/strconv.uint64pow10" .u64 ap1:=by
 obtain⟨d,e,a⟩:=SP (g:=1) (k:=.u64) (zs:=ap1) b c rfl;unfold Lib.TabIs World.var?
 rw [show p7.globalNamed "internal/strconv.uint64pow10" = some 1 by kernel_rfl]
 simp only[Option.bind_some,a]
theorem A81:B0 p7 GX 154 FF:=by
 refine B0.fix (pf:=QH) _ (J1 (fn:=Tryz.f154) (by kernel_rfl) (by kernel_rfl) (by kernel_rfl) ?_);intro args ret o h;unfold QH at h;split at h
 ·rename_i s p;obtain⟨b,h⟩:=B9 h;obtain⟨rfl,rfl⟩:=J0 h;refine⟨rfl,rfl,λC r a t w q c f d=>?_⟩;obtain⟨U,V,rfl,j,k⟩:=d.arr2;obtain⟨n,rfl,rfl⟩:=j.inv_str;obtain⟨l,rfl,rfl⟩:=k.inv_str;obtain⟨m,g⟩:=B36 c a;have i:=L4 b;refine(Any.strings_Index Tryz.lays143 n l m w (by simp at i;omega) g).mono ?_;rintro e w' ⟨rfl,rfl⟩;exact⟨_,rfl,af1 _ _,VP.mk_int _ _⟩
 ·cases h
theorem Ci6:B0 p7 GX 54 Aj7:=by
 refine B0.fix (pf:=QG) _ (J1 (fn:=Tryz.f54) (by kernel_rfl) (by kernel_rfl) (by kernel_rfl) ?_);intro args ret q h;unfold QG at h;split at h
 ·rename_i s p;obtain⟨b,h⟩:=B9 h;obtain⟨rfl,rfl⟩:=J0 h;refine⟨rfl,rfl,λC t a u w r c f d=>?_⟩;obtain⟨U,V,rfl,j,k⟩:=d.arr2;obtain⟨o,rfl,rfl⟩:=j.inv_str;obtain⟨l,rfl,rfl⟩:=k.inv_str;obtain⟨m,g⟩:=B36 c a;have i:=L4 b;refine(Any.strings_Cut Tryz.lays145 o l m w (by simp at i;omega) g).mono ?_;rintro e w' ⟨rfl,n,rfl⟩;exact⟨_,rfl,Nq _ _,VP.mk_tup3 (VP.mk_str _) (VP.mk_str _) (VP.mk_bool _)⟩
 ·cases h
theorem Ci5:B0 p7 GX 166 Aj6:=by
 refine B0.fix (pf:=QE) _ (J1 (fn:=Tryz.f166) (by kernel_rfl) (by kernel_rfl) (by kernel_rfl) ?_);intro args ret o h;unfold QE at h;split at h
 ·rename_i s p;obtain⟨f,h⟩:=B9 h;obtain⟨rfl,rfl⟩:=J0 h;refine⟨rfl,rfl,λC t g u w q r j i=>?_⟩;obtain⟨U,V,rfl,l,m⟩:=i.arr2;obtain⟨n,rfl,rfl⟩:=l.inv_str;obtain⟨b,rfl,k⟩:=m.inv_str;obtain⟨c,rfl⟩:∃c,p=[c]:=by
   match p,f with
   | [c],_=>exact⟨c,rfl⟩
  have a:b=⟨#[c]⟩:=by
   cases b with
   | mk d=>congr 1;exact Array.toList_inj.1 k
  subst a;refine(Any.strings_Count_one Tryz.lays138 n c w).mono ?_;rintro e w' ⟨rfl,rfl⟩;exact⟨_,rfl,af1 _ _,VP.mk_int _ _⟩
 ·cases h
theorem Ch2:B0 p7 GX 51 Ai3:=by
 refine B0.fix (pf:=OP) _ (J1 (fn:=Tryz.f51) (by kernel_rfl) (by kernel_rfl) (by kernel_rfl) ?_);intro args ret l h;unfold OP at h;split at h
 ·rename_i n;obtain⟨b,h⟩:=B9 h;obtain⟨rfl,rfl⟩:=J0 h;refine⟨rfl,rfl,λC o a p w m c i g=>?_⟩;obtain⟨U,rfl,j⟩:=g.arr1;obtain rfl:=j.inv_int;obtain⟨d,f⟩:=E0.1 b;refine(Any.strconv_Itoa Tryz.laysM171 n (by omega) (by omega) w (B37 c a)).mono ?_;rintro e w' ⟨rfl,k,os,rfl⟩;refine⟨_,rfl,(Nq w k).trans (show ap7 w.heap.size _ _ from FX (w.drewN k) os),?_⟩;have:Lib.itoa n=Lib.decDigits n.toNat:=by unfold Lib.itoa;rw[F9]
  rw[this];exact VP.mk_str _
 ·cases h
theorem Bg5{l:LL}(h:l.all isS=true):l=D4 (l.map elS):=by
 unfold D4;rw[ae9]
 symm
 rw[ab6 (g:=id)]
 ·simp
 ·intro x a;have:=y9.1 h x a;unfold isS at this;split at this
  ·rfl
  grind
theorem Bi1:B0 p7 GX 111 QK:=by
 refine B0.fix (pf:=FI) _ (J1 (fn:=Tryz.f111) (by kernel_rfl) (by kernel_rfl) (by kernel_rfl) ?_);intro args ret Hc h;unfold FI at h;split at h
 ·rename_i z t l p;obtain⟨L,h⟩:=B9 h;obtain⟨O,h⟩:=B9 h;obtain⟨P,h⟩:=B9 h;obtain⟨rfl,rfl⟩:=J0 h;refine⟨rfl,rfl,λC hP Q Γ w Vs hG H R=>?_⟩;obtain⟨U,V,rfl,Z,hv⟩:=R.arr2;obtain⟨u,rfl,rfl⟩:=hv.inv_str;have m:=L4 O;have hn:=L4 P;have Y:=Z.inv_s;have c:∀(a:Option Addr) (cap:Nat),l=[]->Calls p7 111 #[.slice a 0 cap,.string u] w λe w'=>∃V,e = .returned V/\ap7 w.heap.size w w'/\VP Γ (A6 []) w' (.s (.str (ac3 (l.map elS) u.data.toList))) V:=by
   intro a cap T;subst T;refine(Any.strings_Join_none Tryz.lays156 Tryz.Builder_Extra_156 a cap u w).mono ?_;rintro e w' ⟨rfl,rfl⟩;exact⟨_,rfl,af1 _ _,VP.mk_str _⟩
  cases Y with
  | nil=>exact c _ _ rfl
  | emp=>exact c _ _ rfl
  | sl _ _ g off n cap sz Vc I M hm ht S W y K=>
   subst I;have N:=Bg5 L;have J:∀i (h:i<l.length),∃b:ByteArray,(l[i])=[SV.str b.data.toList]/\w.cell? ⟨g,off+i,none⟩=some (.string b):=by
    intro i B;have d:=y9.1 L (l[i]) (List.getElem_mem B);unfold isS at d;split at d
    ·rename_i x r;have k:=y i B 0 (by rw[r];simp);have o:=K i B 0 (by rw[r];simp);simp only[r,List.getElem_cons_zero] at o;obtain⟨b,f,rfl⟩:=o.inv_str;rw[f] at k;exact⟨b,r,by simpa using k⟩
    ·cases d
   obtain⟨xs,q,A⟩:∃xs:List ByteArray,xs.map (·.data.toList)=l.map elS/\∀(j:Nat) x,xs[j]? = some x->w.cell? ⟨g,off+j,none⟩=some (.string x):=by
    refine⟨(l.map elS).map λs=>⟨s.toArray⟩,by simp[ag5],?_⟩;intro j x d;simp only[ak5] at d;cases D:l[j]? with
    | none=>simp[D] at d
    | some el=>
     obtain⟨F,rfl⟩:=List.getElem?_eq_some_iff.1 D;obtain⟨b,f,v⟩:=J j F;simp only[D,x6,j2] at d;rw[f] at d;simp[elS,SV.gS] at d;rw[<-d];exact v
   have G:xs.length=l.length:=by
    have:=congrArg p4 q;simpa using this
   rw[<-q] at m ⊢;have f:g<w.heap.size:=H g S;have X:l.length<=140737488355328:=by omega
   refine(G▸Any.strings_Join Tryz.lays156 Tryz.Builder_Extra_156 g off cap xs u w A f (by omega) (by omega) (by omega)).mono ?_;rintro e w' ⟨rfl,hw⟩;exact⟨_,rfl,hw,VP.mk_str _⟩
 ·cases h
theorem JP(b:Nat)(f:b<=9223372036854775808):B0 p7 GX 53 (Kj b):=by
 induction b with
 | zero=>
  intro args ret c h;exfalso;unfold Kj Hg at h;split at h
  ·rename_i n g;obtain⟨a,h⟩:=B9 h;have:=E0.1 a;omega
  ·cases h
 | succ b d=>
  refine B0.fix (pf:=Hg (b+1)) _ (I6 [] (C₀:=Yk b) (L7.ok (l:=[(53,Kj b)]) rfl ⟨d (by omega),trivial⟩) (I4 rfl (by kernel_rfl)) follows ?_);intro args ret c h;unfold Hg at h;split at h
  ·rename_i n;obtain⟨a,h⟩:=B9 h;obtain⟨rfl,rfl⟩:=J0 h;have e:=(Ap4 b noY () 0 n).trans (SO b (by omega) n a);exact⟨rfl,rfl,rfl,1,_,_,e,rfl⟩
  ·cases h
theorem NS:B0 p7 GX 53 Xe:=JP 4294967296 (by omega)
theorem Dc2(x:Nat)(h:x<65536):Al0 .u64 (x:Int) 15=((x % 16:Nat):Int):=by unfold Al0;rw[show aj9 .u64=64 from rfl,show(15:Int)=((15:Nat):Int) from rfl,C25 64 x 15 (by omega) (by omega),show x &&& 15=x % 16 from Nat.and_two_pow_sub_one_eq_mod x 4];exact VV (by omega) (by omega)
theorem Dg2(x:Nat):On .u64 (x:Int) 4=((x / 16:Nat):Int):=by unfold On;show Int.fdiv (x:Int) 16=_;grind
theorem Bb9(d:Nat)(h:d<16):bAt (([48,49,50,51,52,53,54,55,56,57,97,98,99,100,101,102,103,104,105,106,107,108,109,110,111,112,113,114,115,116]:List UInt8)++([117,118,119,120,121,122]:List UInt8)) (d:Int)=((Qo d).toNat:Int):=by
 have:∀d:Fin 16,bAt (([48,49,50,51,52,53,54,55,56,57,97,98,99,100,101,102,103,104,105,106,107,108,109,110,111,112,113,114,115,116]:List UInt8)++([117,118,119,120,121,122]:List UInt8)) (d.val:Int)=((Qo d.val).toNat:Int):=by decide
 exact this ⟨d,h⟩
def Sl(i:Nat)(s:By):LL:=b9 i [SV.int .u8 0]++s.map D7
theorem GN(i:Nat)(s:By):(Sl i s).length=i+s.length:=by simp[Sl]
theorem XL(i:Nat)(s:By)(c:UInt8):ai2 (Sl (i+1) s) i (F8 (p6 (Sl (i+1) s) i []) 0 [SV.int .u8 (c.toNat:Int)])=Sl i (c::s):=by
 have a:p6 (Sl (i+1) s) i []=[SV.int .u8 0]:=by
  unfold Sl;grind
 rw[a];unfold Sl;rw[List.replicate_succ',w6,List.set_append_right _ _ (by simp),List.length_replicate,ap6];rfl
theorem Ap1{R:Type}(z t:Bool)(l:LL){e:Bool->Bool->LL->Int->Int->LL->Option R}:∀(v i n:Nat) (s:By),v<65536->v<n->i+s.length=65->(R3 v).length+s.length<=60->
  ∃(u a:Nat) (b:By),u<16/\Qo u::b=R3 v++s/\a+b.length=65/\Jl LF n z t l (v:Int) (i:Int) (Sl i s) e=e z t l (u:Int) (a:Int) (Sl a b):=by
 intro v
 induction v using ah8 with
 | _ v w=>
  intro i n s r y q x;obtain⟨n,rfl⟩:∃m,n=m+1:=⟨n-1,by omega⟩
  rw[Jl];by_cases h:v<16
  ·refine⟨v,i,s,h,by rw[Gf h];rfl,q,?_⟩;rw[A8];rfl
  ·have d:=Fe h;have c:(R3 v).length=(R3 (v / 16)).length+1:=by rw[d];simp
   obtain⟨j,rfl⟩:∃j,i=j+1:=⟨i-1,by omega⟩
   have f:A1 (((j+1:Nat):Int)-1)=(j:Int):=by rw[A7];omega
   obtain⟨u,a,b,g,k,o,p⟩:=w (v / 16) (by omega) j n (Qo (v % 16)::s) (by omega) (by omega) (by rw[k9];omega) (by rw[k9];omega);refine⟨u,a,b,g,by rw[k,d];simp,o,?_⟩;rw[A5,b8,cond_true,Dc2 v r];simp only[vl];rw[Dg2,f,c9,E5,Bb9 _ (by omega),E5];simp only[cond_true];rw[XL,GN,show(decide (j<j+1+s.length))=true from decide_eq_true (by omega)];exact p
theorem Bk0{R:Type}{k0:By->LL->Option R}(z t:Bool)(l:LL)(v:Int)(f:ltN v 65536=true):∃p,XT LF z t l v k0=k0 (R3 v.toNat) p:=by
 obtain⟨d,m⟩:=E0.1 f;obtain⟨v,rfl⟩:=j8 d;have k:=C1;have r:=HF v (by omega);rw[c9];unfold XT;have o:(b9 65 [SV.int .u8 (0:Int)])=Sl 65 []:=by unfold Sl;rw[ap4,w8]
 rw[o];obtain⟨u,i,s,g,c,q,h⟩:=Ap1 (R:=R) z t l v 65 LF [] (by omega) (by omega) rfl (by rw[aa4];omega);rw[w8] at c;have n:s.length<=3:=by have:=congrArg p4 c;rw[k9] at this;omega
 obtain⟨j,rfl⟩:∃j,i=j+1:=⟨i-1,by omega⟩
 refine⟨Sl j (Qo u::s),?_⟩;rw[show((16:Int)==16)=true from rfl,cond_true,cond_true];refine j7 h ?_;have e:A1 (((j+1:Nat):Int)-1)=(j:Int):=by rw[A7];omega
 simp only[vl];rw[e,c9,E5,Bb9 u g,E5];simp only[cond_true];have a:(Qo u::s).length=s.length+1:=rfl;have b:((Sl j (Qo u::s)).drop j).take (65-j)=(Qo u::s).map D7:=by
  unfold Sl;rw[List.drop_left' (by simp),v7 (by rw[s7,a];omega)]
 rw[XL,GN,GN,show(decide (j<j+1+s.length))=true from decide_eq_true (by omega),a,show(decide (j+(s.length+1)=65))=true from decide_eq_true (by omega),H9,b,V9,W8,c];rfl
theorem Ap2(z t:Bool)(l:LL)(v:Int)(c:ltN v 65536=true):∃r H,XT LF z t l v (λb a=>rv (.tup [.fl 0,.s (.str b)]) [.arr true 5 1 [],.arr false 138 1 a])=rv r H/\r.stab [1,0] H = .tup [.s (.sl true true 1 []),.s (.str (R3 v.toNat))]:=by obtain⟨d,e⟩:=Bk0 (k0:=(λb a=>rv (.tup [.fl 0,.s (.str b)]) [.arr true 5 1 [],.arr false 138 1 a])) z t l v c;exact⟨_,_,e,rfl⟩
theorem Bk1{C:Cfg}{St:Nat->Prop}{w:World}(c:GOK C St w)(d:C.G=GX):TabAt 5 ak0 w:=by obtain⟨e,f,b⟩:=SP (g:=5) (k:=.u8) (zs:=ak0.map λn:Nat=>(n:Int)) c d rfl;intro j a;rw[CS b j (by rw[s7];exact a)];simp[a8,j4 a]
theorem Dg3:B0 p7 GX 162 C35:=by
 refine B0.fix (pf:=Bz9) _ (J1 (fn:=Tryz.f162) (by kernel_rfl) (by kernel_rfl) (by kernel_rfl) ?_);intro args ret i h;unfold Bz9 at h;split at h
 ·rename_i x;obtain⟨b,h⟩:=B9 h;obtain⟨rfl,rfl⟩:=J0 h;obtain rfl:x=16:=eq_of_beq b;refine⟨rfl,rfl,λC k a l w j c f d=>?_⟩;obtain⟨U,rfl,g⟩:=d.arr1;obtain rfl:=g.inv_int;refine(Any7.bits_TrailingZeros Tryz.lays7_27 16 (by omega) w (λ_=>Bk1 c a)).mono ?_;rintro e w' ⟨rfl,rfl⟩;exact⟨_,rfl,af1 _ _,VP.mk_int _ _⟩
 ·cases h
theorem Cy8:B0 p7 GX 161 OO:=by
 refine B0.fix (pf:=DV) _ (I6 [] (C₀:=RH LF) (L7.ok (l:=[]) rfl trivial) (I4 rfl (by kernel_rfl)) follows ?_);intro args ret b h;unfold DV at h;split at h
 ·rename_i x;obtain⟨a,h⟩:=B9 h;obtain⟨rfl,rfl⟩:=J0 h;obtain rfl:x=16:=eq_of_beq a;exact⟨rfl,rfl,rfl,1,_,_,B52 LF noY () 0,rfl⟩
 ·cases h
theorem Cy4:B0 p7 GX 132 OA:=by
 refine B0.fix (pf:=DO) _ (I6 [1,0] (C₀:=Hi LF) (L7.ok (l:=[(161,OO),(162,C35)]) rfl ⟨Cy8,Dg3,trivial⟩) (I4 rfl (by kernel_rfl)) follows ?_);intro args ret k h;unfold DO at h;split at h
 ·rename_i c a ds v b neg app;obtain⟨d,h⟩:=B9 h;obtain⟨f,h⟩:=B9 h;obtain⟨g,h⟩:=B9 h;obtain⟨i,h⟩:=B9 h;obtain⟨rfl,rfl⟩:=J0 h;obtain rfl:b=16:=eq_of_beq f;obtain rfl:neg=false:=by simpa using g
  obtain rfl:app=false:=by simpa using i
  obtain⟨r,H,e,j⟩:=Ap2 c a ds v d;exact⟨rfl,rfl,rfl,1,r,H,(B33 LF noY () 0 c a ds v).trans e,j⟩
 ·cases h
theorem Cy7:B0 p7 GX 157 ON:=by
 refine B0.fix (pf:=DU) _ (I6 [] (C₀:=RG LF) (L7.ok (l:=[(132,OA)]) rfl ⟨Cy4,trivial⟩) (I4 rfl (by kernel_rfl)) follows ?_);intro args ret f h;unfold DU at h;split at h
 ·rename_i v b;obtain⟨a,h⟩:=B9 h;obtain⟨c,h⟩:=B9 h;obtain⟨rfl,rfl⟩:=J0 h;obtain rfl:b=16:=eq_of_beq c;have e:Bd1 LF v (λd=>rv (.s (.str d)) [])=rv (.s (.str (R3 v.toNat))) []:=by
   unfold Bd1;rw[a];rfl
  exact⟨rfl,rfl,rfl,1,_,_,(B47 LF noY () 0 v).trans e,rfl⟩
 ·cases h
theorem C89:B0 p7 GX 128 Bx6:=by
 refine B0.fix (pf:=OB) _ (I6 [] (C₀:=Al8 LF) (L7.ok (l:=[(157,ON)]) rfl ⟨Cy7,trivial⟩) (I4 rfl (by kernel_rfl)) follows ?_);intro args ret f h;unfold OB at h;split at h
 ·rename_i v b;obtain⟨a,h⟩:=B9 h;obtain⟨c,h⟩:=B9 h;obtain⟨rfl,rfl⟩:=J0 h;obtain rfl:b=16:=eq_of_beq c;have e:Cm7 LF v (λd=>rv (.s (.str d)) [])=rv (.s (.str (R3 v.toNat))) []:=by
   unfold Cm7;rw[a];rfl
  exact⟨rfl,rfl,rfl,1,_,_,(Cm8 LF noY () 0 v).trans e,rfl⟩
 ·cases h
end
section
open Go Go.Proofs
theorem C83(z t:Bool)(l:LL)(c:l.all Vb=true)(d:x9 l.length 8=true):∃r H,v6j LF z t l (λb a=>rv (.s (.str b)) [.arr true 9 1 a])=rv r H/\r.stab [] H = .s (.str (S9 (l.map elN))):=by obtain⟨f,e⟩:=Cg2 (k0:=(λb a=>rv (.s (.str b)) [.arr true 9 1 a])) z t l c d;exact⟨_,_,e,rfl⟩
theorem C81(a b c d f g h i:Int)(l:ok8 a b c d f g h i=true):∃r H,v6f LF a b c d f g h i (λk j=>rv (.s (.str k)) [.arr false 25 1 j])=rv r H/\r.stab [] H = .s (.str (Mw (n8 a b c d f g h i))):=by obtain⟨m,e⟩:=Cg0 (k0:=(λk j=>rv (.s (.str k)) [.arr false 25 1 j])) a b c d f g h i l;exact⟨_,_,e,rfl⟩
def v6V(s:By):PV:=.tup [.agg [.s (.int .u16 (v6c 0 s)),.s (.int .u16 (v6c 1 s)),.s (.int .u16 (v6c 2 s)),.s (.int .u16 (v6c 3 s)),.s (.int .u16 (v6c 4 s)),.s (.int .u16 (v6c 5 s)),.s (.int .u16 (v6c 6 s)),.s (.int .u16 (v6c 7 s))],.s (.bool (v6B s).isSome)]
theorem C86(s:By)(k:A3 s.length=true):∃r H,v6p LF s (λb c d f g h i j r8 a l10=>rv (.tup [.agg [.s (.int .u16 b),.s (.int .u16 c),.s (.int .u16 d),.s (.int .u16 f),.s (.int .u16 g),.s (.int .u16 h),.s (.int .u16 i),.s (.int .u16 j)],.s (.bool r8)]) [.arr false 25 1 a,.arr false 25 1 l10])=rv r H/\r.stab [0,0] H=v6V s:=by obtain⟨l,m,e⟩:=Cg3 (k0:=(λb c d f g h i j r8 a l10=>rv (.tup [.agg [.s (.int .u16 b),.s (.int .u16 c),.s (.int .u16 d),.s (.int .u16 f),.s (.int .u16 g),.s (.int .u16 h),.s (.int .u16 i),.s (.int .u16 j)],.s (.bool r8)]) [.arr false 25 1 a,.arr false 25 1 l10])) s k;exact⟨_,_,e,rfl⟩
theorem Cv9(s:By)(k:A3 s.length=true):∃r H,Cc6 LF s (λb c d f g h i j r8 a l10=>rv (.tup [.agg [.s (.int .u16 b),.s (.int .u16 c),.s (.int .u16 d),.s (.int .u16 f),.s (.int .u16 g),.s (.int .u16 h),.s (.int .u16 i),.s (.int .u16 j)],.s (.bool r8)]) [.arr false 25 1 a,.arr false 25 1 l10])=rv r H/\r.stab [0,0] H=v6V s:=by obtain⟨l,m,e⟩:=Bs9 (k0:=(λb c d f g h i j r8 a l10=>rv (.tup [.agg [.s (.int .u16 b),.s (.int .u16 c),.s (.int .u16 d),.s (.int .u16 f),.s (.int .u16 g),.s (.int .u16 h),.s (.int .u16 i),.s (.int .u16 j)],.s (.bool r8)]) [.arr false 25 1 a,.arr false 25 1 l10])) s k;exact⟨_,_,e,rfl⟩
set_option maxRecDepth 100000
section
variable {Z R : Type} (L : Nat) (Q : G1) (Y : Yh Z) (s : Z) (k : Out -> St Z -> Option R)
noncomputable abbrev WX:Code:=C3 aq7
noncomputable def Fq(L:Nat):Cfg:=B4 L [81] (A2 [(16,[2,0,4,41,0,0])]) [(59,DT),(105,A87),(106,Bx9),(107,Ba5),(90,Pc),(108,By7),(109,KZ),(110,By3),(111,QK)] (A2 [(28,[2,0]),(25,[2,0]),(27,[2,0]),(26,[2,10,64]),(24,[2,10,59]),(23,[2,10]),(22,[2,5,41,0,0]),(21,[2,5,41,0,0]),(20,[2,0]),(19,[2,5,0,1,0,37,0,0,10]),(18,[2,5,0,1,0,37,0,0]),(17,[2,5,0,0,39,0,0]),(16,[2,5,41,0,0,0]),(15,[2,5,41,0,0]),(14,[2,5]),(13,[2,0]),(12,[2,0]),(11,[2,3,37]),(10,[2,3,0]),(9,[2,1,32]),(8,[2,1]),(7,[2,0]),(6,[2,1,27]),(5,[2,1,0]),(2,[2,0]),(4,[2,0]),(3,[0,1,16]),(1,[0,1,11]),(0,[0,1])]) [59,106,107,90,108,110,111] (A2 [(3,[2,10]),(1,[2,5]),(2,[2,5,41,0,0]),(0,[0,1])]) (some [2,0]) [] [] []
noncomputable def R9{R:Type}(L n:Nat)(a:Nat)(i c:Int)(e:LL)(g:Int->LL->Option R)(h:Nat->LL->Option R):Option R:=match n with|0=>none|n+1=>cond (ltI c i) (cond (inR c a) (cond (okE Oq e (0+(j5 c)) 0) (vl (gX e (0+(j5 c)) 0) λb=>cond (A3 b.length) (vl (↑((I5 b)).2:Int) λd=>cond (d !=0) (g d e) (cond (inR c a) (cond (decide ((0+(j5 c))<e.length)) (vl (ai2 e (0+(j5 c)) (F8 (p6 e (0+(j5 c)) []) 0 [(SV.str ((I5 b)).1)])) λf=>R9 L n a i (A1 (c+1)) f g h) none) none)) none) none) none) (h a e)
theorem SQ(n:Nat)(a:Nat)(d e:Int)(c:LL):C4 2 ((Fq L).keep 16) (bd (Fq L) Q Y (cd [1,1,1,1,1,1,1,0,1,0,0] WX)) n ⟨gp [(2,.ptr 0 0 0),(5,.vw 1 0 a),(41,.vw 1 0 a),(0,pI d),(0,pI e)] 31,[.box [pI (0:Int),pS ([]:List UInt8),p32 (0:Int),p16 (0:Int),p16 (0:Int),p16 (0:Int),p16 (0:Int),p16 (0:Int),p16 (0:Int),p16 (0:Int),p16 (0:Int)],.arr false 9 1 c],s⟩ k =
 R9 L n a d e c (λn0 b=>k .ret ⟨gp [(2,.ptr 0 0 0),(0,pI n0)] 80,[.box [pI (0:Int),pS ([]:List UInt8),p32 (0:Int),p16 (0:Int),p16 (0:Int),p16 (0:Int),p16 (0:Int),p16 (0:Int),p16 (0:Int),p16 (0:Int),p16 (0:Int)],.arr false 9 1 b],s⟩) (λa b=>k (.exit 1) ⟨gp [(2,.ptr 0 0 0),(5,.vw 1 0 a)] 75,[.box [pI (0:Int),pS ([]:List UInt8),p32 (0:Int),p16 (0:Int),p16 (0:Int),p16 (0:Int),p16 (0:Int),p16 (0:Int),p16 (0:Int),p16 (0:Int),p16 (0:Int)],.arr false 9 1 b],s⟩):=by
 induction n generalizing a d e c with
 | zero=>rfl
 | succ n f=>rw[R9];simp only[<-f];kernel_rfl
noncomputable def Zc{R:Type}(L:Nat)(a:By)(t:Int->By->Int->Int->Int->Int->Int->Int->Int->Int->Int->Int->Int->By->Int->Int->Int->Int->Int->Int->Int->Int->Int->Option R)(y:Int->By->Int->Int->By->LL->Option R):Option R:=cond (ltI 1024 (a.length:Int)) (t 0 ([]:List UInt8) 0 0 0 0 0 0 0 0 0 3 0 ([]:List UInt8) 0 0 0 0 0 0 0 0 0) (cond (A3 a.length) (cond (ae6 ([91]:List UInt8) a) (cond (A3 a.length) (cond (B50 a) (vl (↑(B2.kind ((P0 a)).1):Int) λf=>vl (B2.name ((P0 a)).1) λr=>vl (↑(B2.v4 ((P0 a)).1):Int) λg=>vl (↑(p6 (B2.v6 ((P0 a)).1) 0 0):Int) λh=>vl (↑(p6 (B2.v6 ((P0 a)).1) 1 0):Int) λi=>vl (↑(p6 (B2.v6 ((P0 a)).1) 2 0):Int) λj=>vl (↑(p6 (B2.v6 ((P0 a)).1) 3 0):Int) λl=>vl (↑(p6 (B2.v6 ((P0 a)).1) 4 0):Int) λm=>vl (↑(p6 (B2.v6 ((P0 a)).1) 5 0):Int) λn=>vl (↑(p6 (B2.v6 ((P0 a)).1) 6 0):Int) λo=>vl (↑(p6 (B2.v6 ((P0 a)).1) 7 0):Int) λp=>vl (↑((P0 a)).2:Int) λw=>t f r g h i j l m n o p w f r g h i j l m n o p) none) none) (cond (A3 a.length) (cond (not (ah1 (R2 a))) (t 0 ([]:List UInt8) 0 0 0 0 0 0 0 0 0 14 0 ([]:List UInt8) 0 0 0 0 0 0 0 0 0) (cond (A3 (p4 (En a))) (vl (VH (En a) ([46]:List UInt8)) λb=>cond (A3 b.length) (cond (G0 b) (cond (A3 b.length) (vl (↑(M3 (pnB b)):Int) λq=>cond (not (ah1 (pnB b))) (t 0 ([]:List UInt8) 0 0 0 0 0 0 0 0 0 14 0 ([]:List UInt8) 0 0 0 0 0 0 0 0 0) (t 2 ([]:List UInt8) q 0 0 0 0 0 0 0 0 0 2 ([]:List UInt8) q 0 0 0 0 0 0 0 0)) none) (cond (A3 b.length) (cond (1==1) (vl (D4 (pcs (p6 ([46]:List UInt8) 0 0) b)) λu=>R9 L L (p4 (pcs (p6 ([46]:List UInt8) 0 0) b)) (↑(p4 (pcs (p6 ([46]:List UInt8) 0 0) b)):Int) 0 u (λx v=>y 0 ([]:List UInt8) x 0 ([]:List UInt8) v) (λc d=>cond (ag2 (ad0 c (ad6 0 d)) isS) (cond (A3 (p4 (ac3 (ac0 elS (ad0 c (ad6 0 d))) ([46]:List UInt8)))) (cond (A3 (p4 (ad0 c (ad6 0 d)))) (vl (ac3 (ac0 elS (ad0 c (ad6 0 d))) ([46]:List UInt8)) λe=>cond (ltI 253 (e.length:Int)) (y 0 ([]:List UInt8) 3 0 ([]:List UInt8) d) (cond (A3 e.length) (cond (G0 e) (y 0 ([]:List UInt8) 14 0 ([]:List UInt8) d) (y 1 e 0 1 e d)) none)) none) none) none)) none) none)) none) none)) none)) none)
theorem Bk8(d:Nat)(raw0):evC (Fq L) (d+1) Z Y 81 [pS raw0] [] s=Zc L raw0 (λo p t M N O P S r8 T q r c u e f g h i j l m n=>some (.tup [.agg [pI o,pS p,p32 t,p16 M,p16 N,p16 O,p16 P,p16 S,p16 r8,p16 T,p16 q],pI r],[.box [pI c,pS u,p32 e,p16 f,p16 g,p16 h,p16 i,p16 j,p16 l,p16 m,p16 n]],s)) (λo p t K U J=>some (.tup [.agg [pI o,pS p,p32 (0:Int),p16 (0:Int),p16 (0:Int),p16 (0:Int),p16 (0:Int),p16 (0:Int),p16 (0:Int),p16 (0:Int),p16 (0:Int)],pI t],[.box [pI K,pS U,p32 (0:Int),p16 (0:Int),p16 (0:Int),p16 (0:Int),p16 (0:Int),p16 (0:Int),p16 (0:Int),p16 (0:Int),p16 (0:Int)],.arr false 9 1 J],s)):=by refine(evE (fn:=aq7) (by kernel_rfl)).trans ?_;generalize evC (Fq L) d=Q;unfold Zc;exact(j7 (by kernel_rfl) (A0 rfl (A0 (A0 (A0 (A0 (A4 λv=>(A4 λI=>(A4 λw=>(A4 λx=>(A4 λy=>(A4 λz=>(A4 λA=>(A4 λB=>(A4 λC=>(A4 λD=>(A4 λF=>(A4 λG=>rfl)))))))))))) rfl) rfl) (A0 (A0 rfl (A0 (A4 λa=>(A0 (A0 (A0 (A4 λH=>(A0 rfl rfl)) rfl) (A0 (A0 (A4 λb=>((SQ L Q Y s (E2 1 (D9 (Fq L) Q Y (cd [1,1,1,1,1,1,1,1] WX) (F2 (Fq L) aq7))) L (p4 (pcs (p6 ([46]:List UInt8) 0 0) a)) (↑(p4 (pcs (p6 ([46]:List UInt8) 0 0) a)):Int) 0 b).trans (by kernel_rfl))) rfl) rfl)) rfl)) rfl)) rfl)) rfl)))
noncomputable abbrev Bb0:Code:=C3 ao4
noncomputable def Kp(L:Nat):Cfg:=B4 L [126] (A2 [(6,[0,1,0,1,10,0,0])]) [(155,By6),(141,Ai9)] (A2 [(13,[2]),(12,[0,3,0,2]),(11,[0,2,1,10,0,0]),(10,[0,2,1,10,0,0]),(9,[2]),(8,[0,2,1,1,8,0,0,8]),(7,[0,2,1,1,8,0,0]),(6,[0,2,1,10,0,0,0]),(5,[0,2,1,10,0,0]),(4,[0,2,1]),(3,[2]),(2,[0,2,11]),(1,[0,2,0]),(0,[0])]) [141] (A2 [(0,[0,2,1]),(1,[0,2,1,10,0,0])]) (some [2]) [] [] []
noncomputable def W7{R:Type}(L n:Nat)(i:By)(b:Bool)(a:LL)(c:Bool)(h e:Int)(f:Unit->Option R)(g:By->Bool->LL->Bool->Option R):Option R:=match n with|0=>none|n+1=>cond (ltI e h) (cond (inR e a.length) (cond (okE Ke a (j5 e) 0) (vl (gE a (j5 e) 0) λd=>cond (not (ltI d 65)) (cond (not (ltI 90 d)) (f ()) (cond c (W7 L n i b a (ltI d 128) h (A1 (e+1)) f g) (W7 L n i b a false h (A1 (e+1)) f g))) (cond c (W7 L n i b a (ltI d 128) h (A1 (e+1)) f g) (W7 L n i b a false h (A1 (e+1)) f g))) none) none) (g i b a c)
theorem YV(n d a b c n4 n5):C4 0 ((Kp L).keep 6) (bd (Kp L) Q Y (cd [1,1,1,1,0,1,0,0] Bb0)) n ⟨gp [(0,pS d),(2,.s (.sl a a 1 b)),(1,pB c),(10,.s (.sl a a 1 b)),(0,pI n4),(0,pI n5)] 31,[],s⟩ k =
 W7 L n d a b c n4 n5 (λ_=>k .ret ⟨gp [(2,pB false)] 47,[],s⟩) (λd a b c=>k (.exit 0) ⟨gp [(0,pS d),(2,.s (.sl a a 1 b)),(1,pB c)] 44,[],s⟩):=by
 induction n generalizing d a b c n4 n5 with
 | zero=>rfl
 | succ n e=>rw[W7];simp only[<-e];kernel_rfl
noncomputable def Bd7{R:Type}(L:Nat)(d:By)(e:Bool->Option R):Option R:=cond (A3 d.length) (cond ((↑((M9 d)).2:Int)!=0) (e false) (W7 L L d (ap3 ((M9 d)).1) (Lg ((M9 d)).1) true (↑(p4 (Lg ((M9 d)).1)):Int) 0 (λ_=>e false) (λg c a b=>cond (ag2 a Mq) (vl ((V0 (ac0 elI a))).1 λh=>vl (↑((V0 (ac0 elI a))).2:Int) λf=>cond (not b) (cond (f==0) (e (h==g)) (e false)) (e false)) none))) none
theorem B56(d:Nat)(s0):evC (Kp L) (d+1) Z Y 126 [pS s0] [] s=Bd7 L s0 (λa=>some (pB a,[],s)):=by refine(evE (fn:=ao4) (by kernel_rfl)).trans ?_;generalize evC (Kp L) d=Q;unfold Bd7;exact(j7 (by kernel_rfl) (A0 (A0 rfl ((YV L Q Y s (E2 0 (D9 (Kp L) Q Y (cd [1,1,1,1,1] Bb0) (F2 (Kp L) ao4))) L s0 (ap3 ((M9 s0)).1) (Lg ((M9 s0)).1) true (↑(p4 (Lg ((M9 s0)).1)):Int) 0).trans (by kernel_rfl))) rfl))
noncomputable abbrev B08:Code:=C3 aq8
noncomputable def Sa(L:Nat):Cfg:=B4 L [92] (A2 [(4,[0,1,26,0])]) [(57,Ah8),(126,A89)] (A2 [(11,[2]),(10,[5,0]),(9,[0,28,0]),(8,[2]),(7,[0,28,0,28]),(6,[0,3,24,0]),(5,[0,2,25,0]),(4,[0,28,0,0]),(3,[0,28,0]),(2,[2]),(1,[0,26]),(0,[0])]) [57,126] (A2 [(0,[0]),(1,[0,28,0])]) (some [2]) [] [] []
noncomputable def Q7{R:Type}(L n:Nat)(b:By)(e a:Int)(c:Unit->Option R)(d:By->Option R):Option R:=match n with|0=>none|n+1=>cond (ltI a e) (cond (inR a b.length) (cond (not (ltI (bAt b a) (97:Int))) (cond (not (not (ltI 122 (bAt b a)))) (cond (not (ltI (bAt b a) (48:Int))) (cond (not (not (ltI 57 (bAt b a)))) (cond ((bAt b a)!=45) (cond ((bAt b a)!=95) (c ()) (Q7 L n b e (A1 (a+1)) c d)) (Q7 L n b e (A1 (a+1)) c d)) (Q7 L n b e (A1 (a+1)) c d)) (cond ((bAt b a)!=45) (cond ((bAt b a)!=95) (c ()) (Q7 L n b e (A1 (a+1)) c d)) (Q7 L n b e (A1 (a+1)) c d))) (Q7 L n b e (A1 (a+1)) c d)) (cond (not (ltI (bAt b a) (48:Int))) (cond (not (not (ltI 57 (bAt b a)))) (cond ((bAt b a)!=45) (cond ((bAt b a)!=95) (c ()) (Q7 L n b e (A1 (a+1)) c d)) (Q7 L n b e (A1 (a+1)) c d)) (Q7 L n b e (A1 (a+1)) c d)) (cond ((bAt b a)!=45) (cond ((bAt b a)!=95) (c ()) (Q7 L n b e (A1 (a+1)) c d)) (Q7 L n b e (A1 (a+1)) c d)))) none) (d b)
theorem As9(n a n1 n2):C4 0 ((Sa L).keep 4) (bd (Sa L) Q Y (cd [1,1,0,1,0,0] B08)) n ⟨gp [(0,pS a),(28,pI n1),(0,pI n2)] 41,[],s⟩ k =
 Q7 L n a n1 n2 (λ_=>k .ret ⟨gp [(2,pB false)] 69,[],s⟩) (λa=>k (.exit 0) ⟨gp [(0,pS a)] 71,[],s⟩):=by
 induction n generalizing a n1 n2 with
 | zero=>rfl
 | succ n b=>rw[Q7];simp only[<-b];kernel_rfl
noncomputable def Cq3{R:Type}(L:Nat)(a:By)(b:Bool->Option R):Option R:=cond (ltI (a.length:Int) (1:Int)) (b false) (cond (ltI 63 (a.length:Int)) (b false) (cond (inR 0 a.length) (cond ((bAt a (0:Int))==45) (b false) (vl (A1 ((a.length:Int)-1)) λd=>cond (inR d a.length) (cond ((bAt a d)==45) (b false) (Q7 L L a (a.length:Int) 0 (λ_=>b false) (λc=>cond (A3 c.length) (vl (Fz c ([120,110,45,45]:List UInt8)) λe=>cond (not (ae6 ([120,110,45,45]:List UInt8) c)) (b true) (cond (A3 e.length) (b (Dc e)) none)) none))) none)) none))
theorem Cq4(d:Nat)(s0):evC (Sa L) (d+1) Z Y 92 [pS s0] [] s=Cq3 L s0 (λb=>some (pB b,[],s)):=by refine(evE (fn:=aq8) (by kernel_rfl)).trans ?_;generalize evC (Sa L) d=Q;unfold Cq3;exact(j7 (by kernel_rfl) (A0 rfl (A0 rfl (A0 (A0 rfl (A4 λa=>(A0 (A0 rfl ((As9 L Q Y s (E2 0 (D9 (Sa L) Q Y (cd [1,1,1] B08) (F2 (Sa L) aq8))) L s0 (s0.length:Int) 0).trans (by kernel_rfl))) rfl))) rfl))))
noncomputable abbrev Al1:Code:=C3 ao3
noncomputable def Ns(L:Nat):Cfg:=B4 L [110] (A2 [(9,[2,0,1,20])]) [(139,WR),(140,WO),(56,Ai4),(141,Ai9),(92,OY)] (A2 [(18,[2,0]),(17,[2,0]),(16,[4,41]),(15,[4]),(14,[2,0]),(13,[8,32]),(12,[8,0]),(11,[5,20]),(10,[5,1,18]),(9,[5,20,0,0]),(8,[5,20]),(7,[4,0]),(6,[4,19]),(5,[0,3]),(2,[2,0]),(4,[2,0]),(3,[0,13]),(1,[0,9]),(0,[0])]) [139,140,56,141,92] (A2 [(1,[5]),(2,[5,20]),(0,[0])]) (some [2,0]) [] [] []
noncomputable def Ej{R:Type}(L n:Nat)(c:LL)(b:By)(a:Nat)(e:LL->By->Nat->Option R):Option R:=match n with|0=>none|n+1=>cond (decide (a<b.length)) (vl ((ah0 ⟨ak7 b⟩ a)).1 λd=>cond (F7 (c.length+1)) (Ej L n (c++[[(SV.int .i64 (A1 d))]]) b (a+((ah0 ⟨ak7 b⟩ a)).2) e) none) (e c b a)
theorem Ar2(n:Nat)(a:LL)(c:By)(b:Nat):C4 2 ((Ns L).keep 9) (bd (Ns L) Q Y (cd [1,1,1,0,1,0,1,0,1,0,0] Al1)) n ⟨gp [(5,.fl 0),(20,.it 1)] 21,[.arr true 3 1 a,.iter c b],s⟩ k =
 Ej L n a c b (λa c b=>k (.exit 1) ⟨gp [(5,.fl 0)] 42,[.arr true 3 1 a,.iter c b],s⟩):=by
 induction n generalizing a c b with
 | zero=>rfl
 | succ n d=>rw[Ej];simp only[<-d];kernel_rfl
noncomputable def YR{R:Type}(L:Nat)(b:By)(g:By->Int->Option R)(h:By->Int->LL->By->Nat->Option R):Option R:=cond (A3 b.length) (cond (not (ah1 (Cr b))) (g ([]:List UInt8) 4) (cond (A3 b.length) (vl (↑(ag1 b):Int) λi=>cond (ltI 256 i) (g ([]:List UInt8) 3) (cond (A3 b.length) (cond (A3 b.length) (vl (↑(ag1 b):Int) λj=>cond (ltI j (b.length:Int)) (Ej L L [] (B6 b) 0 (λa e d=>cond (ag2 a Mq) (vl ((V0 (ac0 elI a))).1 λf=>vl (↑((V0 (ac0 elI a))).2:Int) λl=>cond (l !=0) (h ([]:List UInt8) 14 a e d) (cond (F3 4 f.length) (vl (([120,110,45,45]:List UInt8)++f) λc=>cond (A3 c.length) (cond (not (K6 c)) (h ([]:List UInt8) 14 a e d) (h c 0 a e d)) none) none)) none)) (cond (A3 (p4 (B6 b))) (cond (not (K6 (B6 b))) (g ([]:List UInt8) 14) (g (B6 b) 0)) none)) none) none)) none)) none
theorem Cp2(d:Nat)(s0):evC (Ns L) (d+1) Z Y 110 [pS s0] [] s=YR L s0 (λa b=>some (.tup [pS a,pI b],[],s)) (λa b c h e=>some (.tup [pS a,pI b],[.arr true 3 1 c,.iter h e],s)):=by refine(evE (fn:=ao3) (by kernel_rfl)).trans ?_;generalize evC (Ns L) d=Q;unfold YR;exact(j7 (by kernel_rfl) (A0 (A0 rfl (A0 (A4 λf=>(A0 rfl (A0 (A0 (A4 λg=>(A0 ((Ar2 L Q Y s (E2 1 (D9 (Ns L) Q Y (cd [1,1,1,0,1,0,1,1] Al1) (D9 (Ns L) Q Y (cd [1,1,1,1] Al1) (F2 (Ns L) ao3)))) L [] (B6 s0) 0).trans (by kernel_rfl)) (A0 (A0 rfl rfl) rfl))) rfl) rfl))) rfl)) rfl))
noncomputable abbrev Rq:Code:=C3 al7
noncomputable def Ig(L:Nat):Cfg:=B4 L [136] (A2 []) [] (A2 [(7,[2]),(2,[2]),(4,[2]),(6,[2]),(5,[0,23]),(3,[0,12]),(1,[0,2]),(0,[0])]) [] (A2 [(0,[])]) (some [2]) [] [] []
noncomputable def Uw{R:Type}(a:Int)(h:Bool)(f:Int->Option R)(g:Int->Bool->Option R):Option R:=cond h (vl (A1 (wu8 (a-97))) λb=>vl (A1 (b+10)) λc=>f c) (cond (not (ltI a 65)) (cond (not (ltI 70 a)) (vl (A1 (wu8 (a-65))) λd=>vl (A1 (d+10)) λe=>f e) (g a (not (ltI 70 a)))) (g a false))
abbrev MF(b:Code):Prop:=∀(k:Out->St Z->Option R) a c,A9 (Ig L) Q Y b ⟨gp [(0,p8 a),(12,pB c)] 21,[],s⟩ k=Uw a c (λn0=>k .ret ⟨gp [(2,pI n0)] 32,[],s⟩) (λa c=>k .normal ⟨gp [(0,p8 a),(23,pB c)] 10,[],s⟩)
theorem Aq6:MF (R:=R) L Q Y s (cd [1,0,0,1,1,1] Rq):=by intro k a b;unfold Uw;kernel_rfl
noncomputable def Ux{R:Type}(b:Int)(l:Bool)(f:Int->Option R)(j:Int->Bool->Option R):Option R:=cond l (vl (A1 (wu8 (b-48))) λg=>f g) (cond (not (ltI b 97)) (Uw b (not (ltI 102 b)) (λh=>f h) (λc d=>j c d)) (Uw b false (λi=>f i) (λe a=>j e a)))
abbrev Zb(b:Code):Prop:=∀(k:Out->St Z->Option R) a c,A9 (Ig L) Q Y b ⟨gp [(0,p8 a),(2,pB c)] 31,[],s⟩ k=Ux a c (λn0=>k .ret ⟨gp [(2,pI n0)] 32,[],s⟩) (λa c=>k .normal ⟨gp [(0,p8 a),(23,pB c)] 10,[],s⟩)
theorem Aq7(a:Code)(b:MF (R:=R) L Q Y s a):Zb (R:=R) L Q Y s (cd [1,0,0,1] (G4 [1,0,0,1,1,1] a Rq)):=by intro k c d;unfold Ux;simp only[<-b k];kernel_rfl
theorem Aq8:Zb (R:=R) L Q Y s (cd [1,0,0,1] Rq):=by intro k a b;exact j7 (by kernel_rfl) (Aq7 L Q Y s (cd [1,0,0,1,1,1] Rq) (Aq6 L Q Y s) k a b)
noncomputable def B45{R:Type}(L:Nat)(c:Int)(d:Int->Option R):Option R:=cond (not (ltI c 48)) (Ux c (not (ltI 57 c)) (λa=>d a) (λe f=>d (-1))) (Ux c false (λb=>d b) (λg h=>d (-1)))
theorem Cn7(b:Code)(a:Zb (R:=PV × List Blk × Z) L Q Y s b)(c:Int):A9 (Ig L) Q Y (cd [] (G4 [1,0,0,1] b Rq)) ⟨[p8 c]++tps 34,[],s⟩ (F2 (Ig L) al7)=B45 L c (λe=>some (pI e,[],s)):=by unfold B45;exact let d:=(E2 0 (D9 (Ig L) Q Y (cd [1,1] Rq) (F2 (Ig L) al7)));(j7 (by kernel_rfl) (A0 ((a d c (not (ltI 57 c))).trans (by kernel_rfl)) ((a d c false).trans (by kernel_rfl))))
theorem Cn8(d:Nat)(b0):evC (Ig L) (d+1) Z Y 136 [p8 b0] [] s=B45 L b0 (λa=>some (pI a,[],s)):=
 (evE (fn:=al7) (by kernel_rfl)).trans (j7 (by kernel_rfl) (Cn7 L (evC (Ig L) d) Y s (cd [1,0,0,1] Rq) (Aq8 L (evC (Ig L) d) Y s) b0))
noncomputable abbrev B06:Code:=C3 ao2
noncomputable def Ry(L:Nat):Cfg:=B4 L [106] (A2 [(3,[0,1,0,0,0])]) [(136,By0)] (A2 [(14,[2,0]),(4,[0,3,0]),(13,[0,3,0]),(12,[0,3,0]),(11,[2,0]),(10,[0,3,0,0,0,39]),(9,[0,3,0,0,0]),(8,[2,0]),(7,[0,3,0,25]),(6,[0,3,0]),(5,[0,3,0,14]),(3,[0,3,0,8]),(2,[0,3,0]),(1,[0,3]),(0,[0])]) [136] (A2 [(0,[4]),(1,[0,3,0])]) (some [2,0]) [] [] []
noncomputable def R4{R:Type}(L n:Nat)(b:By)(a:Int)(c:LL)(f:LL->Option R)(g:LL->Option R):Option R:=match n with|0=>none|n+1=>cond (ltI a (b.length:Int)) (cond (inR a b.length) (cond ((bAt b a)!=37) (cond (inR a b.length) (cond (F7 (c.length+1)) (R4 L n b (A1 (a+1)) (c++[[(SV.int .u8 (bAt b a))]]) f g) none) none) (cond (not (ltI (A1 (a+2)) (b.length:Int))) (f c) (cond (inR (A1 (a+1)) b.length) (vl (bAt b (A1 (a+1))) λd=>cond (inR d 256) (cond (inR (A1 (a+2)) b.length) (vl (bAt b (A1 (a+2))) λe=>cond (inR e 256) (cond (ltI (Eg (u8n d)) (0:Int)) (f c) (cond (ltI (Eg (u8n e)) (0:Int)) (f c) (vl (A1 ((16:Int)*(Eg (u8n d)))) λh=>vl (A1 (h+(Eg (u8n e)))) λi=>cond (F7 (c.length+1)) (vl (A1 ((A1 (a+2))+1)) λj=>R4 L n b j (c++[[(SV.int .u8 (wu8 i))]]) f g) none))) none) none) none) none))) none) (g c)
theorem Aq5(n s0 i1 l2):C4 1 ((Ry L).keep 3) (bd (Ry L) Q Y (cd [1,0,1,1,0,1,0,0] B06)) n ⟨gp [(0,pS s0),(3,.fl 0),(0,pI i1)] 54,[.arr false 5 1 l2],s⟩ k =
 R4 L n s0 i1 l2 (λa=>k .ret ⟨gp [(2,pS ([]:List UInt8)),(0,pB false)] 56,[.arr false 5 1 a],s⟩) (λa=>k (.exit 0) ⟨gp [(4,.fl 0)] 55,[.arr false 5 1 a],s⟩):=by
 induction n generalizing s0 i1 l2 with
 | zero=>rfl
 | succ n b=>rw[R4];simp only[<-b];kernel_rfl
noncomputable def B44{R:Type}(L:Nat)(c:By)(d:By->Bool->LL->Option R):Option R:=cond ((decide ((0:Int)<=(c.length:Int)))&&(F7 (j5 (c.length:Int)))) (R4 L L c 0 [] (λb=>d ([]:List UInt8) false b) (λa=>cond (ag2 a Mz) (d (ac0 Kv a) true a) none)) none
theorem Cn5(d:Nat)(s0):evC (Ry L) (d+1) Z Y 106 [pS s0] [] s=B44 L s0 (λb c a=>some (.tup [pS b,pB c],[.arr false 5 1 a],s)):=by refine(evE (fn:=ao2) (by kernel_rfl)).trans ?_;generalize evC (Ry L) d=Q;unfold B44;exact(j7 (by kernel_rfl) (A0 ((Aq5 L Q Y s (E2 0 (D9 (Ry L) Q Y (cd [1,0,1,1,1] B06) (F2 (Ry L) ao2))) L s0 0 []).trans (by kernel_rfl)) rfl))
noncomputable def RF(L:Nat):Cfg:=B4 L [105] (A2 []) [(135,C20)] (A2 [(6,[2,0]),(5,[2,0]),(4,[2,2,15]),(3,[2,2,0]),(2,[0,1,1,8]),(1,[0,1,1]),(0,[0,1])]) [] (A2 []) (some [2,0]) [] [] []
noncomputable def Bc5{R:Type}(L:Nat)(b:By)(l:Int->Int->Int->Int->Int->Int->Int->Int->Int->Int->Int->LL->Option R)(m:Unit->Option R):Option R:=vl (A1 ((b.length:Int)-1)) λa=>cond (inR a b.length) (cond ((bAt b a)==93) (cond (I2 1 a b.length) (cond (A3 (p4 (cut b 1 a))) (vl (↑(v6c 0 (cut b 1 a)):Int) λc=>vl (↑(v6c 1 (cut b 1 a)):Int) λd=>vl (↑(v6c 2 (cut b 1 a)):Int) λe=>vl (↑(v6c 3 (cut b 1 a)):Int) λf=>vl (↑(v6c 4 (cut b 1 a)):Int) λg=>vl (↑(v6c 5 (cut b 1 a)):Int) λh=>vl (↑(v6c 6 (cut b 1 a)):Int) λi=>vl (↑(v6c 7 (cut b 1 a)):Int) λj=>cond (ah1 (v6B (cut b 1 a))) (l 3 c d e f g h i j 0 3 [[(SV.int .u16 c)],[(SV.int .u16 d)],[(SV.int .u16 e)],[(SV.int .u16 f)],[(SV.int .u16 g)],[(SV.int .u16 h)],[(SV.int .u16 i)],[(SV.int .u16 j)]]) (l 0 0 0 0 0 0 0 0 0 14 0 [[(SV.int .u16 c)],[(SV.int .u16 d)],[(SV.int .u16 e)],[(SV.int .u16 f)],[(SV.int .u16 g)],[(SV.int .u16 h)],[(SV.int .u16 i)],[(SV.int .u16 j)]])) none) none) (m ())) none
theorem B42(d:Nat)(s0):evC (RF L) (d+1) Z Y 105 [pS s0] [] s=Bc5 L s0 (λl c e f g h i j r8 m b a=>some (.tup [.agg [pI l,pS ([]:List UInt8),p32 (0:Int),p16 c,p16 e,p16 f,p16 g,p16 h,p16 i,p16 j,p16 r8],pI m],[.box [pI b,pS ([]:List UInt8),p32 (0:Int),p16 c,p16 e,p16 f,p16 g,p16 h,p16 i,p16 j,p16 r8],.arr false 25 1 a],s)) (λ_=>some (.tup [.agg [pI (0:Int),pS ([]:List UInt8),p32 (0:Int),p16 (0:Int),p16 (0:Int),p16 (0:Int),p16 (0:Int),p16 (0:Int),p16 (0:Int),p16 (0:Int),p16 (0:Int)],pI (14:Int)],[.box [pI (0:Int),pS ([]:List UInt8),p32 (0:Int),p16 (0:Int),p16 (0:Int),p16 (0:Int),p16 (0:Int),p16 (0:Int),p16 (0:Int),p16 (0:Int),p16 (0:Int)]],s)):=by refine(evE (fn:=Tryz.f105) (by kernel_rfl)).trans ?_;generalize evC (RF L) d=Q;unfold Bc5;kernel_rfl
noncomputable def Am4(L:Nat):Cfg:=B4 L [46] (A2 []) [(64,By2)] (A2 [(9,[2]),(4,[2]),(6,[2]),(8,[2]),(7,[1,31]),(5,[1,1,1,16]),(3,[1,1,1,0]),(2,[1,1,1]),(1,[1,1]),(0,[1])]) [64] (A2 [(0,[])]) (some [2]) [] [] []
noncomputable def My{R:Type}(L:Nat)(c:Int)(b:By)(d e f g h i j l a:Int)(m:Bool->Int->By->Int->Int->Int->Int->Int->Int->Int->Int->Int->LL->Option R):Option R:=cond (c==1) (cond (A3 b.length) (cond (Z3 b) (cond (d==0) (m ((e==0)&&((f==0)&&((g==0)&&((h==0)&&((i==0)&&((j==0)&&((l==0)&&((a==0)&&true)))))))) c b d e f g h i j l a (b9 8 [(SV.int .u16 (0:Int))])) (m false c b d e f g h i j l a (b9 8 [(SV.int .u16 (0:Int))]))) (m false c b d e f g h i j l a (b9 8 [(SV.int .u16 (0:Int))]))) none) (cond (c==2) (cond (b==[]) (m ((e==0)&&((f==0)&&((g==0)&&((h==0)&&((i==0)&&((j==0)&&((l==0)&&((a==0)&&true)))))))) c b d e f g h i j l a (b9 8 [(SV.int .u16 (0:Int))])) (m false c b d e f g h i j l a (b9 8 [(SV.int .u16 (0:Int))]))) (cond (c==3) (cond (b==[]) (m (d==0) c b d e f g h i j l a (b9 8 [(SV.int .u16 (0:Int))])) (m false c b d e f g h i j l a (b9 8 [(SV.int .u16 (0:Int))]))) (m false c b d e f g h i j l a (b9 8 [(SV.int .u16 (0:Int))]))))
theorem Co6(d:Nat)(h0 h1 h2 h3 h4 h5 h6 h7 h8 h9 h10):evC (Am4 L) (d+1) Z Y 46 [.agg [pI h0,pS h1,p32 h2,p16 h3,p16 h4,p16 h5,p16 h6,p16 h7,p16 h8,p16 h9,p16 h10]] [] s=My L h0 h1 h2 h3 h4 h5 h6 h7 h8 h9 h10 (λm e n f g h i j n8 l b c a=>some (pB m,[.box [pI e,pS n,p32 f,p16 g,p16 h,p16 i,p16 j,p16 n8,p16 l,p16 b,p16 c],.arr false 25 1 a],s)):=by refine(evE (fn:=Tryz.f46) (by kernel_rfl)).trans ?_;generalize evC (Am4 L) d=Q;unfold My;kernel_rfl
noncomputable def Am1(L:Nat):Cfg:=B4 L [50] (A2 []) [(46,OL),(67,C16),(68,C18)] (A2 [(7,[2]),(2,[2]),(4,[2]),(6,[2]),(5,[1,11]),(3,[1,5]),(1,[1,1]),(0,[1])]) [46,67,68] (A2 [(0,[1])]) (some [2]) [] [] []
noncomputable def Co1{R:Type}(L:Nat)(j:Int)(l:By)(b c d e f g h i a:Int)(o:By->Int->By->Int->Int->Int->Int->Int->Int->Int->Int->Int->Option R):Option R:=cond (A3 l.length) (cond (ltN b 4294967296) (cond (ok8 c d e f g h i a) (cond (not (M6 (mkH j l b (n8 c d e f g h i a)))) (o ([]:List UInt8) j l b c d e f g h i a) (cond (j==1) (o l j l b c d e f g h i a) (cond (j==2) (cond (ltN b 4294967296) (o (Hd (j5 b)) j l b c d e f g h i a) none) (cond (ok8 c d e f g h i a) (vl (Mw (n8 c d e f g h i a)) λm=>cond (F3 1 m.length) (vl (([91]:List UInt8)++m) λn=>cond (F3 n.length 1) (vl (n++[93]) λp=>o p j l b c d e f g h i a) none) none) none)))) none) none) none
theorem Co2(d:Nat)(h0 h1 h2 h3 h4 h5 h6 h7 h8 h9 h10):evC (Am1 L) (d+1) Z Y 50 [.agg [pI h0,pS h1,p32 h2,p16 h3,p16 h4,p16 h5,p16 h6,p16 h7,p16 h8,p16 h9,p16 h10]] [] s=Co1 L h0 h1 h2 h3 h4 h5 h6 h7 h8 h9 h10 (λl c m e f g h i n8 j a b=>some (pS l,[.box [pI c,pS m,p32 e,p16 f,p16 g,p16 h,p16 i,p16 n8,p16 j,p16 a,p16 b]],s)):=by refine(evE (fn:=Tryz.f50) (by kernel_rfl)).trans ?_;generalize evC (Am1 L) d=Q;unfold Co1;kernel_rfl
noncomputable def Al9(L:Nat):Cfg:=B4 L [47] (A2 []) [(64,By2),(65,By1)] (A2 [(1,[4]),(0,[0,0])]) [64,65] (A2 []) (some [4]) [] [] []
noncomputable def Cn3{R:Type}(L:Nat)(a b:By)(c:Bool->Option R):Option R:=cond (A3 a.length) (cond (Z3 a) (cond (A3 b.length) (cond (Z3 b) (cond (a==b) (c true) (cond (F3 1 a.length) (vl (([46]:List UInt8)++a) λd=>cond (A3 b.length) (c (List.isSuffixOf d b)) none) none)) (c false)) none) (c false)) none
theorem Cn4(d:Nat)(super0 name1):evC (Al9 L) (d+1) Z Y 47 [pS super0,pS name1] [] s=Cn3 L super0 name1 (λa=>some (pB a,[],s)):=by refine(evE (fn:=Tryz.f47) (by kernel_rfl)).trans ?_;generalize evC (Al9 L) d=Q;unfold Cn3;kernel_rfl
end
section
variable {Z R : Type} (L : Nat) (Q : G1) (Y : Yh Z) (s : Z) (k : Out -> St Z -> Option R)
noncomputable def Am9(L:Nat):Cfg:=B4 L [182] (A2 []) [] (A2 [(2,[2]),(1,[1,1]),(0,[1])]) [] (A2 []) (some [2]) [] [] []
noncomputable def C65{R:Type}(L:Nat)(b:Int)(a:Int->Option R):Option R:=a b
theorem Cs4(d:Nat)(b):evC (Am9 L) (d+1) Z Y 182 [pI b] [] s=C65 L b (λn0=>some (.fnr (Fn.func 188) [] [.ptr 1 0 0,.ptr 0 0 0],[.box [pI n0],.box [pI (0:Int)]],s)):=by refine(evE (fn:=Tryz.f182) (by kernel_rfl)).trans ?_;generalize evC (Am9 L) d=Q;unfold C65;kernel_rfl
noncomputable def RQ(L:Nat):Cfg:=B4 L [188] (A2 []) [] (A2 [(2,[2]),(1,[0,0]),(0,[0,0])]) [] (A2 []) (some [2]) [] [] []
noncomputable def Bf0{R:Type}(L:Nat)(k b:Int)(d:Int->Int->Int->Option R):Option R:=vl (A1 ((A1 (k+36))-b)) λa=>vl (if ((26:Int)<(if ((1:Int) > a) then (1:Int) else a)) then (26:Int) else (if ((1:Int) > a) then (1:Int) else a)) λc=>d c (A1 (k+36)) b
theorem B81(d:Nat)(k b):evC (RQ L) (d+1) Z Y 188 [.ptr 0 0 0,.ptr 1 0 0] [.box [pI k],.box [pI b]] s=Bf0 L k b (λe a c=>some (pI e,[.box [pI a],.box [pI c]],s)):=by refine(evE (fn:=Tryz.f188) (by kernel_rfl)).trans ?_;generalize evC (RQ L) d=Q;unfold Bf0;kernel_rfl
noncomputable abbrev C41:Code:=C3 ao6
noncomputable def Ym(L:Nat):Cfg:=B4 L [169] (A2 [(2,[0,0,4,0])]) [(182,EI),(183,Ai8)] (A2 [(6,[0,0,5]),(5,[0,0,5,0]),(4,[6]),(3,[0,0,5,0,6]),(2,[0,0,5,0]),(1,[0,0,5]),(0,[0,0,0])]) [183] (A2 [(0,[6]),(1,[0,0,5])]) (some [6]) [(188,Pd)] [] [188]
noncomputable def Ho{R:Type}(L n:Nat)(f:Int)(p:Bool)(g:LL)(a b:Int)(o:Bool->LL->Int->Int->Option R):Option R:=match n with|0=>none|n+1=>cond (ltN b 1000000000000) (cond (ltN a 1000000) (cond (ltI f (K5 b a)) (cond (ltN f 36) (vl (↑(ar0 (Z8 (j5 f))):Int) λh=>cond (F7 (g.length+1)) (o p (g++[[(SV.int .u8 h)]]) a (ae5 b (36:Int))) none) none) (vl (A1 (f-(K5 b a))) λi=>vl (A1 ((36:Int)-(K5 b a))) λc=>cond (c !=0) (vl (A1 ((K5 b a)+(af4 i c))) λd=>cond (ltN d 36) (vl (↑(ar0 (Z8 (j5 d))):Int) λj=>cond (F7 (g.length+1)) (vl (A1 (f-(K5 b a))) λl=>vl (A1 ((36:Int)-(K5 b a))) λe=>cond (e !=0) (vl (A1 (ac9 l e)) λm=>Ho L n m p (g++[[(SV.int .u8 j)]]) a (ae5 b (36:Int)) o) none) none) none) none)) none) none
theorem At9(n q0 z1 l2 a n4):C4 3 ((Ym L).keep 2) (bd (Ym L) Q Y (cd [1,1,0,0] C41)) n ⟨gp [(0,.fl 0),(0,pI q0),(5,.fnr (Fn.func 188) [] [.ptr 2 0 0,.ptr 1 0 0])] 31,[.arr z1 5 1 l2,.box [pI a],.box [pI n4]],s⟩ k =
 Ho L n q0 z1 l2 a n4 (λe c d a=>k .ret ⟨gp [(6,.fl 0)] 32,[.arr e 5 1 c,.box [pI d],.box [pI a]],s⟩):=by
 induction n generalizing q0 z1 l2 a n4 with
 | zero=>rfl
 | succ n b=>rw[Ho];simp only[<-b];kernel_rfl
noncomputable def C63{R:Type}(L:Nat)(q b:Int)(z:Bool)(l:LL)(f:Bool->LL->Int->Int->Option R):Option R:=Ho L L q z l b 0 (λe a c d=>f e a c d)
theorem Cr3(d:Nat)(q b z l):evC (Ym L) (d+1) Z Y 169 [.fl 0,pI q,pI b] [.arr z 5 1 l] s=C63 L q b z l (λf a c e=>some (.fl 0,[.arr f 5 1 a,.box [pI c],.box [pI e]],s)):=by refine(evE (fn:=ao6) (by kernel_rfl)).trans ?_;generalize evC (Ym L) d=Q;unfold C63;exact(j7 (by kernel_rfl) ((At9 L Q Y s (E2 0 (F2 (Ym L) ao6)) L q z l b 0).trans (by kernel_rfl)))
noncomputable abbrev Dy:Code:=C3 al8
noncomputable def P6(L:Nat):Cfg:=B4 L [141] (A2 [(29,[0,1,0,0,2,0,0,0,0,61,0,0]),(21,[0,1,0,0,2,0,0,0,0,0,38,0,0]),(17,[0,1,0,0,2,0,0,0,0]),(5,[0,1,0,0,15,0,0])]) [(168,Ng),(170,Nf)] (A2 [(40,[2,0]),(18,[0,3,2,0,0,0,0]),(39,[0,3,2,0,0,0,0]),(38,[0,3,2,0,0,0,0,61,0,0]),(32,[0,3,2,0,0,0,0,61,0,0]),(37,[0,3,2,0,0,0,0,61,0,0]),(36,[0,3,2,0,0,0,0,61,0,0]),(35,[0,3,2,0,1,0,61,0,0]),(34,[0,3,2,0,0,1,61,0,0]),(33,[0,3,2,0,0,0,0,61,0,0,9]),(31,[0,3,2,0,0,0,0,4,56,0,0,3]),(30,[0,3,2,0,0,0,0,4,56,0,0]),(29,[0,3,2,0,0,0,0,61,0,0,0]),(28,[0,3,2,0,0,0,0,61,0,0]),(27,[0,3,2,0,0,0,0]),(26,[0,3,2,1,0,0,0]),(25,[0,3,2,0,0,0,0,0,38,0,0]),(24,[0,3,2,0,0,0,0,0,38,0,0]),(23,[0,3,2,0,0,0,0,0,1,36,0,0,5]),(22,[0,3,2,0,0,0,0,0,1,36,0,0]),(21,[0,3,2,0,0,0,0,0,38,0,0,0]),(20,[0,3,2,0,0,0,0,0,38,0,0]),(19,[0,3,2,0,0,0,0,0]),(17,[0,3,2,0,0,0,0,36]),(16,[0,3,2,0,0,0,0]),(15,[0,3,2,0,0,0]),(14,[0,3,2]),(13,[0,3,2,32]),(12,[0,3,2]),(11,[0,3,15,0,0]),(10,[0,3,15,0,0]),(9,[0,3,1,13,0,0,7]),(8,[2,0]),(7,[0,3,1,13,0,0,5]),(6,[0,3,1,13,0,0]),(5,[0,3,15,0,0,0]),(4,[0,3,15,0,0]),(3,[0,3]),(2,[2,0]),(1,[0,18]),(0,[0])]) [168,170] (A2 [(2,[4]),(3,[0,3,2,0,0,0,0]),(6,[0,3,2,0,0,0,0]),(7,[0,3,2,0,0,0,0,61,0,0]),(8,[0,3,2,0,0,0,0,61,0,0]),(4,[0,3,2,0,0,0,0,0]),(5,[0,3,2,0,0,0,0,0,38,0,0]),(0,[0,3]),(1,[0,3,15,0,0])]) (some [2,0]) [(169,PB)] [] [169]
noncomputable def T6{R:Type}(L n:Nat)(c b:Bool)(a:LL)(i e:Int)(f:LL)(g:LL->Option R)(h:Bool->Bool->LL->LL->Option R):Option R:=match n with|0=>none|n+1=>cond (ltI e i) (cond (inR e a.length) (cond (okE Ke a (j5 e) 0) (vl (gE a (j5 e) 0) λd=>cond (not (ptI d)) (g f) (cond (ltI d 128) (cond (F7 (f.length+1)) (T6 L n c b a i (A1 (e+1)) (f++[[(SV.int .u8 (wu8 d))]]) g h) none) (T6 L n c b a i (A1 (e+1)) f g h))) none) none) (h c b a f)
theorem Au8(n b a c n3 n4 l5):C4 1 ((P6 L).keep 5) (bd (P6 L) Q Y (cd [1,1,1,0,1,0,0] Dy)) n ⟨gp [(0,.s (.sl b a 1 c)),(3,.fl 0),(15,.s (.sl b a 1 c)),(0,pI n3),(0,pI n4)] 84,[.arr true 5 1 l5],s⟩ k =
 T6 L n b a c n3 n4 l5 (λe=>k .ret ⟨gp [(2,pS ([]:List UInt8)),(0,pI (2:Int))] 103,[.arr true 5 1 e],s⟩) (λb a c f=>k (.exit 0) ⟨gp [(0,.s (.sl b a 1 c)),(3,.fl 0)] 102,[.arr true 5 1 f],s⟩):=by
 induction n generalizing b a c n3 n4 l5 with
 | zero=>rfl
 | succ n d=>rw[T6];simp only[<-d];kernel_rfl
noncomputable def Hr{R:Type}(L n:Nat)(c b:Bool)(a:LL)(d o e f g m q h:Int)(i:LL)(p:Bool->Bool->LL->Int->Int->Int->Int->Int->Int->LL->Option R):Option R:=match n with|0=>none|n+1=>cond (ltI h q) (cond (inR h a.length) (cond (okE Ke a (j5 h) 0) (vl (gE a (j5 h) 0) λj=>cond (not (ltI j o)) (vl (if (j<m) then j else m) λl=>Hr L n c b a d o e f g l q (A1 (h+1)) i p) (Hr L n c b a d o e f g m q (A1 (h+1)) i p)) none) none) (p c b a d o e f g m i)
theorem Au9(n b a c d i e f g h n9 n10 l11):C4 1 ((P6 L).keep 21) (bd (P6 L) Q Y (cd [1,1,1,1,1,1,1,0,1,0,0,1,0,0,1,0,1,0,0] Dy)) n ⟨gp [(0,.s (.sl b a 1 c)),(3,.fl 0),(2,pI d),(0,pI i),(0,pI e),(0,pI f),(0,pI g),(0,pI h),(38,.s (.sl b a 1 c)),(0,pI n9),(0,pI n10)] 53,[.arr true 5 1 l11],s⟩ k =
 Hr L n b a c d i e f g h n9 n10 l11 (λb a c d i e f g h l=>k (.exit 4) ⟨gp [(0,.s (.sl b a 1 c)),(3,.fl 0),(2,pI d),(0,pI i),(0,pI e),(0,pI f),(0,pI g),(0,pI h)] 94,[.arr true 5 1 l],s⟩):=by
 induction n generalizing b a c d i e f g h n9 n10 l11 with
 | zero=>rfl
 | succ n j=>rw[Hr];simp only[<-j];kernel_rfl
noncomputable def Bm{R:Type}(L n:Nat)(d c:Bool)(a:LL)(e l b g f n8 j:Int)(l10:LL)(r:Bool->Bool->LL->Int->Int->Int->Int->Int->LL->Option R):Option R:=match n with|0=>none|n+1=>cond (ltI j n8) (cond (inR j a.length) (cond (okE Ke a (j5 j) 0) (vl (gE a (j5 j) 0) λi=>cond (ltI i l) (vl (A1 (b+1)) λo=>Bm L n d c a e l o g f n8 (A1 (j+1)) l10 r) (cond (i==l) (cond (ltN b 1152921504606846976) (cond (ltN g 1000000) (cond (x9 l10.length 100000) (vl (am2 l10 (ac0 D7 (O5 (j5 b) 0 (j5 g)))) λm=>vl (A1 (f+1)) λh=>cond (ltN b 1152921504606846976) (cond (ltN h 1000000) (cond (ltI 0 h) (vl (↑(P5 (j5 b) (j5 h) (f==e)):Int) λp=>vl (A1 (f+1)) λq=>Bm L n d c a e l 0 p q n8 (A1 (j+1)) m r) none) none) none) none) none) none) (Bm L n d c a e l b g f n8 (A1 (j+1)) l10 r))) none) none) (r d c a e l b g f l10)
theorem Av0(n b a c d h e f g n8 n9 l10):C4 1 ((P6 L).keep 29) (bd (P6 L) Q Y (cd [1,1,1,1,1,1,1,0,1,0,0,1,0,0,1,1,1,1,0,1,0,0] Dy)) n ⟨gp [(0,.s (.sl b a 1 c)),(3,.fl 0),(2,pI d),(0,pI h),(0,pI e),(0,pI f),(0,pI g),(61,.s (.sl b a 1 c)),(0,pI n8),(0,pI n9)] 31,[.arr true 5 1 l10],s⟩ k =
 Bm L n b a c d h e f g n8 n9 l10 (λb a c d h e f g j=>k (.exit 6) ⟨gp [(0,.s (.sl b a 1 c)),(3,.fl 0),(2,pI d),(0,pI h),(0,pI e),(0,pI f),(0,pI g)] 95,[.arr true 5 1 j],s⟩):=by
 induction n generalizing b a c d h e f g n8 n9 l10 with
 | zero=>rfl
 | succ n i=>rw[Bm];simp only[<-i];kernel_rfl
noncomputable def Eo{R:Type}(L n:Nat)(j i:Bool)(b:LL)(v K w y u:Int)(J:LL)(I:LL->Option R):Option R:=match n with|0=>none|n+1=>cond (ltI u (b.length:Int)) (Hr L L j i b v K w y u 1114112 (b.length:Int) 0 J (λe c a l B o q g x z=>vl (A1 (g+1)) λC=>vl (A1 ((A1 (x-B))*C)) λD=>Bm L L e c a l x (A1 (o+D)) q g (a.length:Int) 0 z (λf d h m F p r t A=>vl (A1 (p+1)) λG=>vl (A1 (F+1)) λH=>Eo L n f d h m H G r t A I))) (I J)
theorem II(n points_z0 points_t1 points2 basic3 n4 delta5 bias6 done7 l8):C4 1 ((P6 L).keep 17) (bd (P6 L) Q Y (cd [1,1,1,1,1,1,1,0,1,0,0] Dy)) n ⟨gp [(0,.s (.sl points_z0 points_t1 1 points2)),(3,.fl 0),(2,pI basic3),(0,pI n4),(0,pI delta5),(0,pI bias6),(0,pI done7)] 95,[.arr true 5 1 l8],s⟩ k =
 Eo L n points_z0 points_t1 points2 basic3 n4 delta5 bias6 done7 l8 (λB=>k (.exit 2) ⟨gp [(4,.fl 0)] 102,[.arr true 5 1 B],s⟩):=by
 induction n generalizing points_z0 points_t1 points2 basic3 n4 delta5 bias6 done7 l8 with
 | zero=>rfl
 | succ n A=>rw[Eo];exact(j7 (by kernel_rfl) (A0 ((Au9 L Q Y s (E2 4 (D9 (P6 L) Q Y (cd [1,1,1,1,1,1,1,0,1,0,0,1,0,0,1,1] Dy) (E2 3 (D9 (P6 L) Q Y (cd [1,1,1,1,1,1,1,0,1,0,0,1,1] Dy) (lpK 1 ((P6 L).keep 17) (bd (P6 L) Q Y (cd [1,1,1,1,1,1,1,0,1,0,0] Dy)) n k))))) L points_z0 points_t1 points2 basic3 n4 delta5 bias6 done7 1114112 (points2.length:Int) 0 l8).trans (congr rfl (Cm9 λd b a g x i j m t q=>(j7 (by kernel_rfl) (A4 λy=>(A4 λu=>((Av0 L Q Y s (E2 6 (D9 (P6 L) Q Y (cd [1,1,1,1,1,1,1,0,1,0,0,1,0,0,1,1,1,1,1] Dy) (E2 3 (D9 (P6 L) Q Y (cd [1,1,1,1,1,1,1,0,1,0,0,1,1] Dy) (lpK 1 ((P6 L).keep 17) (bd (P6 L) Q Y (cd [1,1,1,1,1,1,1,0,1,0,0] Dy)) n k))))) L d b a g t (A1 (i+u)) j m (a.length:Int) 0 q).trans (congr rfl (fx9 λe c f h z p l o r=>(j7 (by kernel_rfl) (A4 λv=>(A4 λw=>(A e c f h w v l o r))))))))))))) rfl))
noncomputable def ZH{R:Type}(L:Nat)(l j:Bool)(p:LL)(m:Unit->Option R)(h:By->Int->LL->Option R):Option R:=cond (ltI 256 (p.length:Int)) (m ()) (T6 L L l j p (p.length:Int) 0 [] (λi=>h ([]:List UInt8) 2 i) (λb a c g=>vl (g.length:Int) λf=>cond (ltI 0 f) (cond (F7 (g.length+1)) (Eo L L b a c f 128 0 72 f (g++[[(SV.int .u8 (45:Int))]]) (λd=>cond (ag2 d Mz) (h (ac0 Kv d) 0 d) none)) none) (Eo L L b a c f 128 0 72 f g (λe=>cond (ag2 e Mz) (h (ac0 Kv e) 0 e) none))))
theorem Cr8(d:Nat)(p_z p_t p):evC (P6 L) (d+1) Z Y 141 [.s (.sl p_z p_t 1 p)] [] s=ZH L p_z p_t p (λ_=>some (.tup [pS ([]:List UInt8),pI (3:Int)],[],s)) (λi j h=>some (.tup [pS i,pI j],[.arr true 5 1 h],s)):=by refine(evE (fn:=al8) (by kernel_rfl)).trans ?_;generalize evC (P6 L) d=Q;unfold ZH;exact let g:=(E2 2 (D9 (P6 L) Q Y (cd [1,1,1,1,1,1,1,1] Dy) (F2 (P6 L) al8)));(j7 (by kernel_rfl) (A0 rfl ((Au8 L Q Y s (E2 0 (D9 (P6 L) Q Y (cd [1,1,1,1] Dy) (F2 (P6 L) al8))) L p_z p_t p (p.length:Int) 0 []).trans (congr (congr rfl (by kernel_rfl)) (fx4 λb a c f=>(j7 (by kernel_rfl) (A4 λe=>(A0 (A0 ((II L Q Y s g L b a c e 128 0 72 e (f++[[(SV.int .u8 (45:Int))]])).trans (by kernel_rfl)) rfl) ((II L Q Y s g L b a c e 128 0 72 e f).trans (by kernel_rfl))))))))))
end
theorem Ws(k b:Nat):K5 ((36*k:Nat):Int) (b:Int)=(thr k b:Int):=by unfold K5 thr;omega
theorem Bp0{R:Type}{a:Int->Option R}(b:Int):C65 LF b a=a b:=rfl
theorem Av3{R:Type}{a:Int->Int->Int->Option R}(k b:Int)(e:ltN k 1000000000000=true)(f:ltN b 1000000=true):Bf0 LF k b a=a (K5 k b) (ae5 k 36) b:=by
 obtain⟨g,h⟩:=E0.1 e;obtain⟨i,j⟩:=E0.1 f;unfold Bf0;have c:A1 (k+36)=k+36:=A7;have d:A1 (k+36-b)=k+36-b:=A7;simp only[vl,c,d];have:(if (26:Int)<(if (1:Int) > k+36-b then (1:Int) else k+36-b) then (26:Int) else (if (1:Int) > k+36-b then (1:Int) else k+36-b))=K5 k b:=by
  unfold K5;omega
 grind
theorem Pp{q k b:Nat}(h:q<thr k b):O5 q k b=[Z8 q]:=by rw[O5,dif_pos h]
theorem Yt{q k b:Nat}(h:¬q<thr k b):O5 q k b=Z8 (thr k b+(q-thr k b) % (36-thr k b))::O5 ((q-thr k b) / (36-thr k b)) (k+1) b:=by rw[O5,dif_neg h]
theorem SK{x y m:Nat}(a:10<=y)(h:x<10*m):x / y<m:=by have b:x / y<=x / 10:=Nat.div_le_div_left a (by omega);omega
theorem Ao8(b:Nat):∀(r q k:Nat),q<10 ^ r->(O5 q k b).length<=r+1:=by
 intro r
 induction r with
 | zero=>
  intro q k h;have c:=U6 k b;rw[Pp (by simp at h;omega)];simp
 | succ r d=>
  intro q k h;have c:=U6 k b;by_cases a:q<thr k b
  ·rw[Pp a];simp
  ·rw[Yt a,k9];have:=d ((q-thr k b) / (36-thr k b)) (k+1) (SK (by omega) (by rw[af0] at h;omega));omega
theorem Bn8(z:Bool)(b:Nat)(K:b<1000000):∀(r q k n:Nat) (l:LL),q<10 ^ r->q<1152921504606846976->k+r<=1000->r<n->l.length+r<=200000->
  ∃(d f:Int),∀(R:Type) (a:Bool->LL->Int->Int->Option R),Ho LF n (q:Int) z l (b:Int) ((36*k:Nat):Int) a=a z (l++(O5 q k b).map D7) d f:=by
 have c:∀(q k n:Nat) (l:LL),q<thr k b->k<=1000->l.length<=200000->∃(d f:Int),∀(R:Type) (a:Bool->LL->Int->Int->Option R),Ho LF (n+1) (q:Int) z l (b:Int) ((36*k:Nat):Int) a=a z (l++(O5 q k b).map D7) d f:=by
  intro q k n l g i j;have p:=U6 k b;refine⟨(b:Int),ae5 ((36*k:Nat):Int) 36,λR a=>?_⟩;rw[Ho];rw[L1,L1,Ws,A8,L1,Pp g];simp only[vl,cond_true,c9];rw[F0 (by omega)];rfl
 intro r
 induction r with
 | zero=>
  intro q k n l h _ i H j;have p:=U6 k b;obtain⟨n,rfl⟩:∃m,n=m+1:=⟨n-1,by omega⟩
  exact c q k n l (by simp at h;omega) (by omega) (by omega)
 | succ r I=>
  intro q k n l h o i H j;have p:=U6 k b;obtain⟨n,rfl⟩:∃m,n=m+1:=⟨n-1,by omega⟩
  by_cases g:q<thr k b
  ·exact c q k n l g (by omega) (by omega)
  ·have D:(q-thr k b) / (36-thr k b)<10 ^ r:=SK (by omega) (by rw[af0] at h;omega);have F:(q-thr k b) / (36-thr k b)<=q:=ak9 (ae7 _ _) (by omega);have G:(q-thr k b) % (36-thr k b)<36-thr k b:=an0 _ (by omega);obtain⟨d,f,e⟩:=I ((q-thr k b) / (36-thr k b)) (k+1) n (l++[D7 (Z8 (thr k b+(q-thr k b) % (36-thr k b)))]) D (by omega) (by omega) (by omega) (by rw[y7,List.length_singleton];omega);refine⟨d,f,λR a=>?_⟩;rw[Ho];have t:A1 ((q:Int)-(thr k b:Int))=((q-thr k b:Nat):Int):=by rw[A7];omega
   have u:A1 ((36:Int)-(thr k b:Int))=((36-thr k b:Nat):Int):=by rw[A7];omega
   have v:af4 ((q-thr k b:Nat):Int) ((36-thr k b:Nat):Int)=(((q-thr k b) % (36-thr k b):Nat):Int):=Br _ _;have w:ac9 ((q-thr k b:Nat):Int) ((36-thr k b:Nat):Int)=(((q-thr k b) / (36-thr k b):Nat):Int):=L2 _ _;have C:((((36-thr k b:Nat):Int))!=0)=true:=by rw[bne_iff_ne];omega
   rw[L1,L1,Ws,A5];simp only[vl,t,u,v,w,C,cond_true,cond_false];rw[Yt g];generalize hA:(q-thr k b) / (36-thr k b)=A at *;generalize J:(q-thr k b) % (36-thr k b)=B at *;have x:A1 ((thr k b:Int)+(B:Int))=((thr k b+B:Nat):Int):=by rw[A7];rfl
   have y:A1 (A:Int)=(A:Int):=A7;rw[x,y,L1,F0 (by omega),c9,show ae5 ((36*k:Nat):Int) 36=((36*(k+1):Nat):Int) from(by show((36*k:Nat):Int)+36=_;omega)];refine j7 (e R a) ?_;simp[w6]
theorem Bn9(q b:Int)(z:Bool)(l:LL)(h:ltN q 1152921504606846976=true)(i:ltN b 1000000=true)(j:x9 l.length 100000=true) :
  ∃(c d:Int),∀(R:Type) (a:Bool->LL->Int->Int->Option R),C63 LF q b z l a=a z (am2 l ((O5 q.toNat 0 b.toNat).map D7)) c d:=by
 obtain⟨f,m⟩:=E0.1 h;obtain⟨g,n⟩:=E0.1 i;obtain⟨q,rfl⟩:=j8 f;obtain⟨b,rfl⟩:=j8 g;have o:=ac1 j;have k:=C1;obtain⟨c,d,e⟩:=Bn8 z b (by omega) 19 q 0 LF l (by omega) (by omega) (by omega) (by omega) (by omega);exact⟨c,d,λR a=>e R _⟩
def Ah(l:List Int):LL:=l.map λx=>[SV.int .i64 x]
def B3(l:List Nat):LL:=l.map λx:Nat=>[SV.int .i64 (x:Int)]
theorem Pu(l:List Nat):Ah (l.map λn:Nat=>(n:Int))=B3 l:=by simp[Ah,B3,ag5]
theorem U0(l:List Int):(Ah l).length=l.length:=by simp[Ah]
theorem D1(l:List Nat):(B3 l).length=l.length:=by simp[B3]
theorem Jr(a b:List Nat):B3 (a++b)=B3 a++B3 b:=by simp[B3]
theorem TP{l:List Int}{i:Nat}(h:i<l.length):okE Ke (Ah l) i 0=true:=by unfold okE Ah Ke;simp[a8,h,okS,SV.has]
theorem Ap5(l:List Int)(i:Nat)(h:i<l.length):gE (Ah l) i 0=l.getD i 0:=by unfold gE gC Ah;simp[a8,j4 h,SV.gI]
theorem Pw{l:List Nat}{i:Nat}(h:i<l.length):okE Ke (B3 l) i 0=true:=by rw[<-Pu];exact TP (by simpa using h)
theorem Yy(l:List Nat)(i:Nat)(h:i<l.length):gE (B3 l) i 0=(l.getD i 0:Int):=by rw[<-Pu,Ap5 _ _ (by simpa using h)];grind
theorem Bc9{l:LL}(h:l.all Mq=true):∃P:List Int,l=Ah P:=by
 induction l with
 | nil=>exact⟨[],rfl⟩
 | cons x r b=>
  simp only[ac8,p9] at h;obtain⟨P,rfl⟩:=b h.2;have a:=h.1;unfold Mq at a;split at a
  ·rename_i n;exact⟨n::P,rfl⟩
  ·cases a
theorem XQ(P:List Int):(Ah P).map elI=P:=by
 unfold Ah;rw[ae9]
 conv=>rhs;rw[<-ai1 P]
 apply ab6;intro x _;simp[elI,SV.gI]
theorem XP(l:List Int)(i:Nat)(h:i<l.length):l.drop i=l.getD i 0::l.drop (i+1):=by simp_all
theorem Ui(l:List Nat)(i:Nat)(h:i<l.length):l.drop i=l.getD i 0::l.drop (i+1):=by simp_all
theorem Ck3:∀(r d k:Nat),d<456*35 ^ r->Yc d k<=k+36*r+36:=by
 intro r
 induction r with
 | zero=>
  intro d k h;rw[Ro (by simp at h;omega)];have:36*d / (d+38)<=36:=by
   apply Nat.div_le_of_le_mul;omega
  omega
 | succ r b=>
  intro d k h;by_cases a:455<d
  ·rw[FP a];grind
  grind
theorem Nk(d c:Nat)(f:Bool)(h:d<1152921504606846976):P5 d c f<=500:=by
 unfold P5;have a:∀x:Nat,x<=d->Yc (x+x / c) 0<=500:=by
  intro x a;have:=ae7 x c;have:=Ck3 11 (x+x / c) 0 (by omega);omega
 grind
theorem LX{q k b:Nat}(h:q<1152921504606846976):(O5 q k b).length<=20:=Ao8 b 19 q k (by omega)
theorem Be8(z t:Bool)(c:List Nat)(a m:Nat)(Q:m<=1114112)(P:c.length<=256):∀(r i n:Nat) (s:NV),i+r=c.length->r<n->s.delta+r<=1000000000000->s.bias<=500->s.out.length+20*r<=90000->s.done+r<=1000->a<=256->
  (∀(R:Type) (d:Bool->Bool->LL->Int->Int->Int->Int->Int->LL->Option R),Bm LF n z t (B3 c) (a:Int) (m:Int) (s.delta:Int) (s.bias:Int) (s.done:Int) (c.length:Int) (i:Int) (s.out.map D7) d =
   d z t (B3 c) (a:Int) (m:Int) ((H6 m a (c.drop i) s).delta:Int) ((H6 m a (c.drop i) s).bias:Int) ((H6 m a (c.drop i) s).done:Int) ((H6 m a (c.drop i) s).out.map D7))/\
  (H6 m a (c.drop i) s).bias<=500/\(H6 m a (c.drop i) s).out.length<=s.out.length+20*(c.drop i).countP (· == m)/\(H6 m a (c.drop i) s).done=s.done+(c.drop i).countP (· == m)/\
  (H6 m a (c.drop i) s).delta<=(if 0<(c.drop i).countP (· == m) then r else s.delta+r):=by
 intro r
 induction r with
 | zero=>
  intro i n s N O K x L M y;obtain⟨n,rfl⟩:∃m,n=m+1:=⟨n-1,by omega⟩
  rw[j1 (by omega)];refine⟨λR d=>?_,x,by simp[H6],by simp[H6],by simp[H6]⟩;rw[Bm];rw[A5];rfl
 | succ r F=>
  intro i n s N O K x L M y;obtain⟨n,rfl⟩:∃m,n=m+1:=⟨n-1,by omega⟩
  rw[Ui c i (by omega)];have C:=Yy c i (by omega);have ok:=Pw (l:=c) (i:=i) (by omega);generalize c.getD i 0=p at *;have A:A1 ((i:Int)+1)=((i+1:Nat):Int):=by rw[A7];rfl
  have I:A1 ((s.delta:Int)+1)=((s.delta+1:Nat):Int):=by rw[A7];rfl
  have J:A1 ((s.done:Int)+1)=((s.done+1:Nat):Int):=by rw[A7];rfl
  by_cases D:p<m
  ·have e:(p==m)=false:=by rw[beq_eq_false_iff_ne];omega
   have j:H6 m a (p::c.drop (i+1)) s=H6 m a (c.drop (i+1)) { s with delta:=s.delta+1 }:=by rw[H6,if_pos D]
   obtain⟨o,u,v,w,f⟩:=F (i+1) n { s with delta:=s.delta+1 } (by omega) (by omega) (by simp only;omega) x (by simp only;omega) (by simp only;omega) y;rw[j,ah3 (by rw[e];simp)];refine⟨λR d=>?_,u,v,w,?_⟩
   ·rw[Bm];rw[A8,D1,E5,c9,ok];simp only[cond_true,vl,C,A,I];rw[A8,cond_true];exact o R d
   ·simp only at f;split at f<;>split<;>omega
  ·by_cases H:p=m
   ·subst H;have G:=LX (q:=s.delta) (k:=0) (b:=s.bias) (by omega);have B:=Nk s.delta (s.done+1) (s.done==a) (by omega);have j:H6 p a (p::c.drop (i+1)) s=H6 p a (c.drop (i+1)) { delta:=0,bias:=P5 s.delta (s.done+1) (s.done==a),done:=s.done+1,out:=s.out++O5 s.delta 0 s.bias }:=by rw[H6,if_neg D,if_pos rfl]
    obtain⟨o,u,v,w,f⟩:=F (i+1) n { delta:=0,bias:=P5 s.delta (s.done+1) (s.done==a),done:=s.done+1,out:=s.out++O5 s.delta 0 s.bias } (by omega) (by omega) (by simp only;omega) B (by simp only[y7];omega) (by simp only;omega) y;rw[j,List.countP_cons_of_pos (by simp)];refine⟨λR d=>?_,u,?_,?_,?_⟩
    ·rw[Bm];have g:((s.done:Int)==(a:Int))=(s.done==a):=by grind
     rw[A8,D1,E5,c9,ok];simp only[cond_true,vl,C,A,J];rw[A5,cond_false,beq_self_eq_true,cond_true,L1,L1,s7,aa8 (show s.out.length<=100000 by omega),L1,A8,g];simp only[cond_true,c9];have h:am2 (s.out.map D7) ((O5 s.delta 0 s.bias).map D7)=(s.out++O5 s.delta 0 s.bias).map D7:=by rw[af7];rfl
     rw[h];exact o R d
    ·simp only[y7] at v;omega
    ·simp only at w;omega
    ·simp only at f;rw[S6];split at f<;>omega
   ·have e:(p==m)=false:=by rw[beq_eq_false_iff_ne];omega
    have j:H6 m a (p::c.drop (i+1)) s=H6 m a (c.drop (i+1)) s:=by rw[H6,if_neg D,if_neg H]
    obtain⟨o,u,v,w,f⟩:=F (i+1) n s (by omega) (by omega) (by omega) x (by omega) (by omega) y;rw[j,ah3 (by rw[e];simp)];refine⟨λR d=>?_,u,v,w,?_⟩
    ·rw[Bm];rw[A8,D1,E5,c9,ok];simp only[cond_true,vl,C,A];rw[A5,cond_false,show((p:Int)==(m:Int))=false by rw[beq_eq_false_iff_ne];omega,cond_false];exact o R d
    ·split at f<;>split<;>omega
theorem Av1{R:Type}{k0:Bool->Bool->LL->Int->Int->Int->Int->Int->Int->LL->Option R}(z t:Bool)(a:List Nat)(k:a.length<=256)(n0:Nat)(b delta c done:Int)(l:LL):∀(r i n m:Nat),i+r=a.length->r<n->
  Hr LF n z t (B3 a) b (n0:Int) delta c done (m:Int) (a.length:Int) (i:Int) l k0=k0 z t (B3 a) b (n0:Int) delta c done ((H3 n0 (a.drop i) m:Nat):Int) l:=by
 intro r
 induction r with
 | zero=>
  intro i n m g j;obtain⟨n,rfl⟩:∃m,n=m+1:=⟨n-1,by omega⟩
  rw[Hr];rw[A5,j1 (by omega)];rfl
 | succ r d=>
  intro i n m g j;obtain⟨n,rfl⟩:∃m,n=m+1:=⟨n-1,by omega⟩
  have f:=Yy a i (by omega);have ok:=Pw (l:=a) (i:=i) (by omega);rw[Hr,Ui a i (by omega)];generalize a.getD i 0=p at *;have e:A1 ((i:Int)+1)=((i+1:Nat):Int):=by rw[A7];rfl
  rw[A8,D1,E5,c9,ok];simp only[cond_true,vl,f,e,H3];by_cases h:n0<=p
  ·rw[if_pos h,A5,b8,cond_true];have:(if (p:Int)<(m:Int) then (p:Int) else (m:Int))=((min m p:Nat):Int):=by split<;>omega
   rw[this];exact d (i+1) n (min m p) (by omega) (by omega)
  ·rw[if_neg h,A8,j0,cond_false];exact d (i+1) n m (by omega) (by omega)
theorem Dm(n:Nat):∀(l:List Nat) (m:Nat),(H3 n l m=m\/(H3 n l m∈l/\n<=H3 n l m))/\H3 n l m<=m/\∀p∈l,n<=p->H3 n l m<=p
 | [],m=>⟨.inl rfl,af6 _,λp h=>by cases h⟩
 | q::r,m=>by
  obtain⟨a,b,c⟩:=Dm n r (if n<=q then min m q else m);simp only[H3];grind
theorem Ub{n m:Nat}(a:n<=m):∀l:List Nat,(∀p∈l,n<=p->m<=p)->l.countP (λp=>decide (p<m+1))=l.countP (λp=>decide (p<n))+l.countP (· == m)
 | [],_=>rfl
 | p::l,h=>by
  have d:=Ub a l (λq b=>h q (List.mem_cons_of_mem _ b));have c:=h p List.mem_cons_self;grind
theorem An6{n:Nat}{l:List Nat}(h:l.countP (λp=>decide (p<n))<l.length):∃p∈l,n<=p:=by
 apply ae4;intro a;have:l.countP (λp=>decide (p<n))=l.length:=by simp_all
 omega
theorem B78(z t:Bool)(a:List Nat)(b:Nat)(x:a.length<=256)(N:b<=256)(g:∀p∈a,p<=1114111):∀(f n d:Nat) (s:NV),s.done=a.countP (λp=>decide (p<n))->a.length<=s.done+f->f<d->s.delta<=300->s.bias<=500->s.out.length+20*(a.length-s.done)<=80000->n<=1114112->
  ∀(R:Type) (k0:LL->Option R),Eo LF d z t (B3 a) (b:Int) (n:Int) (s.delta:Int) (s.bias:Int) (s.done:Int) (s.out.map D7) k0=k0 ((Q2 a b f n s).out.map D7):=by
 intro f;have M:=C1
 induction f with
 | zero=>
  intro n d s P S T I v J L R k0;obtain⟨d,rfl⟩:∃m,d=m+1:=⟨d-1,by omega⟩
  rw[Eo];rw[D1,A5];rfl
 | succ f U=>
  intro n d s P S T I v J L R k0;obtain⟨d,rfl⟩:∃m,d=m+1:=⟨d-1,by omega⟩
  rw[Eo];rw[D1];have O:a.countP (λp=>decide (p<n))<=a.length:=aa7;by_cases j:s.done<a.length
  ·obtain⟨A,k,q⟩:=An6 (n:=n) (l:=a) (by omega);obtain⟨g1,g2,u⟩:=Dm n a 1114112;have g4:=u A k q;have g5:=g A k;have e:H3 n a 1114112∈a/\n<=H3 n a 1114112:=by grind
   have Q:Q2 a b (f+1) n s=Q2 a b f (H3 n a 1114112+1) { H6 (H3 n a 1114112) b a { s with delta:=s.delta+(H3 n a 1114112-n)*(s.done+1) } with delta:=(H6 (H3 n a 1114112) b a { s with delta:=s.delta+(H3 n a 1114112-n)*(s.done+1) }).delta+1 }:=by
    rw[Q2,if_pos j]
   rw[Q,A8,cond_true];have c:=λ(K:Bool->Bool->LL->Int->Int->Int->Int->Int->Int->LL->Option R)=>Av1 (k0:=K) z t a x n (b:Int) (s.delta:Int) (s.bias:Int) (s.done:Int) (s.out.map D7) a.length 0 LF 1114112 (by omega) (by omega)
   rw[j9] at c;refine j7 (c _) ?_;generalize H3 n a 1114112=m at *;have y:(m-n)*(s.done+1)<=1114112*256:=ai3 (by omega) (by omega);have B:A1 ((s.done:Int)+1)=((s.done+1:Nat):Int):=by rw[A7];rfl
   have C:A1 ((m:Int)-(n:Int))=((m-n:Nat):Int):=by rw[A7];omega
   have D:A1 (((m-n:Nat):Int)*((s.done+1:Nat):Int))=(((m-n)*(s.done+1):Nat):Int):=by
    rw[<-Int.natCast_mul];exact A7
   have F:A1 ((s.delta:Int)+(((m-n)*(s.done+1):Nat):Int))=((s.delta+(m-n)*(s.done+1):Nat):Int):=by
    rw[A7];rfl
   simp only[vl,B,C,D,F];have i:=Be8 z t a b m (by omega) x a.length 0 LF { s with delta:=s.delta+(m-n)*(s.done+1) } (by omega) (by omega) (by simp only;omega) v (by simp only;omega) (by simp only;omega) N;rw[j9] at i;obtain⟨V,W,X,Y,Z⟩:=i;rw[D1];refine j7 (V R _) ?_;have h:0<a.countP (· == m):=ai8.2 ⟨m,e.1,by simp⟩;rw[if_pos h] at Z;have r:=Ub e.2 a u;generalize H6 m b a { s with delta:=s.delta+(m-n)*(s.done+1) } = o at *;simp only at X Y;have G:A1 ((o.delta:Int)+1)=((o.delta+1:Nat):Int):=by rw[A7];rfl
   have H:A1 ((m:Int)+1)=((m+1:Nat):Int):=by rw[A7];rfl
   have w:a.countP (λp=>decide (p<m+1))<=a.length:=aa7;simp only[G,H];exact U (m+1) d { o with delta:=o.delta+1 } (by simp only;omega) (by simp only;omega) (by omega) (by simp only;omega) W (by simp only;omega) (by omega) R k0
  ·rw[A5];rw[Q2,if_neg j];rfl
def U8(l:List Int):By:=(l.filter λx=>decide (x<128)).map λx=>ab3 x.toNat
theorem Ce7(x:Int)(a:0<=x)(h:x<128):[SV.int .u8 (wu8 x)]=D7 (ab3 x.toNat):=by
 unfold D7;have e:wu8 x=x:=by unfold wu8;exact Int.emod_eq_of_lt a (show x<256 by omega)
 rw[e];have:((ab3 x.toNat).toNat:Int)=x:=by simp;omega
 rw[this]
theorem Sv{x:Int}(h:ptI x=true):0<=x/\x<=1114111:=by
 cases x with
 | negSucc m=>cases h
 | ofNat m=>
  have:U2 m=true:=h;unfold U2 at this;simp only[p9,y8] at this;grind
theorem Au6(z t:Bool)(P:List Int)(A:P.length<=256):∀(r i n:Nat) (out:By),i+r=P.length->r<n->out.length+r<=1000->
  ((P.drop i).all ptI=true->∀(R:Type) (a:LL->Option R) (b:Bool->Bool->LL->LL->Option R),T6 LF n z t (Ah P) (P.length:Int) (i:Int) (out.map D7) a b=b z t (Ah P) ((out++U8 (P.drop i)).map D7))/\
  ((P.drop i).all ptI=false->∃l,∀(R:Type) (a:LL->Option R) (b:Bool->Bool->LL->LL->Option R),T6 LF n z t (Ah P) (P.length:Int) (i:Int) (out.map D7) a b=a l):=by
 intro r
 induction r with
 | zero=>
  intro i n out u v w;obtain⟨n,rfl⟩:∃m,n=m+1:=⟨n-1,by omega⟩
  rw[j1 (by omega)];refine⟨λ_ R a b=>?_,λh=>(by cases h)⟩;rw[T6];rw[A5];simp[U8]
 | succ r q=>
  intro i n out u v w;obtain⟨n,rfl⟩:∃m,n=m+1:=⟨n-1,by omega⟩
  have j:=Ap5 P i (by omega);have ok:=TP (l:=P) (i:=i) (by omega);rw[XP P i (by omega)];generalize P.getD i 0=x at *;have p:A1 ((i:Int)+1)=((i+1:Nat):Int):=by rw[A7];rfl
  cases f:ptI x with
  | false=>
   refine⟨λh=>?_,λ_=>⟨out.map D7,λR a b=>?_⟩⟩
   ·rw[ac8,f] at h;cases h
   ·rw[T6];rw[A8,U0,E5,c9,ok];simp only[cond_true,vl,j,f,b8]
  | true=>
   obtain⟨y,B⟩:=Sv f;rw[ac8,f,ad5];by_cases c:x<128
   ·have d:U8 (x::P.drop (i+1))=ab3 x.toNat::U8 (P.drop (i+1)):=by
     unfold U8;rw[List.filter_cons_of_pos (by simpa using c)];rfl
    have g:out.map D7++[[SV.int .u8 (wu8 x)]]=(out++[ab3 x.toNat]).map D7:=by rw[Ce7 x y c];simp
    obtain⟨k,o⟩:=q (i+1) n (out++[ab3 x.toNat]) (by omega) (by omega) (by simp;omega);have step:∀(R:Type) (a:LL->Option R) (b:Bool->Bool->LL->LL->Option R),T6 LF (n+1) z t (Ah P) (P.length:Int) (i:Int) (out.map D7) a b=T6 LF n z t (Ah P) (P.length:Int) ((i+1:Nat):Int) ((out++[ab3 x.toNat]).map D7) a b:=by
     intro R a b;rw[T6];rw[A8,U0,E5,c9,ok];simp only[cond_true,vl,j,f,j0,cond_false,p];rw[B5 c,s7,F0 (by omega),g];rfl
    refine⟨λh R a b=>?_,λh=>?_⟩
    ·rw[step,k h,d];simp
    ·obtain⟨l,e⟩:=o h;exact⟨l,λR a b=>by rw[step];exact e R a b⟩
   ·have d:U8 (x::P.drop (i+1))=U8 (P.drop (i+1)):=by
     unfold U8;rw[List.filter_cons_of_neg (by simpa using c)]
    obtain⟨k,o⟩:=q (i+1) n out (by omega) (by omega) (by omega);have step:∀(R:Type) (a:LL->Option R) (b:Bool->Bool->LL->LL->Option R),T6 LF (n+1) z t (Ah P) (P.length:Int) (i:Int) (out.map D7) a b=T6 LF n z t (Ah P) (P.length:Int) ((i+1:Nat):Int) (out.map D7) a b:=by
     intro R a b;rw[T6];rw[A8,U0,E5,c9,ok];simp only[cond_true,vl,j,f,j0,cond_false,p];rw[A5];rfl
    refine⟨λh R a b=>?_,λh=>?_⟩
    ·rw[step,k h,d]
    ·obtain⟨l,e⟩:=o h;exact⟨l,λR a b=>by rw[step];exact e R a b⟩
theorem Bf1{P:List Int}(h:P.all ptI=true):∃a:List Nat,P=a.map (λn:Nat=>(n:Int))/\a.all U2=true/\∀p∈a,p<=1114111:=by
 induction P with
 | nil=>exact⟨[],rfl,rfl,by simp⟩
 | cons x P c=>
  rw[ac8,p9] at h;obtain⟨a,rfl,b,e⟩:=c h.2;obtain⟨d,f⟩:=Sv h.1;obtain⟨m,rfl⟩:=j8 d;refine⟨m::a,rfl,?_,?_⟩
  ·rw[ac8,b,ad4];exact h.1
  grind
theorem FW(a:List Nat):U8 (a.map λn:Nat=>(n:Int))=I3 a:=by
 unfold U8 I3
 induction a with
 | nil=>rfl
 | cons p r b=>
  grind
theorem Rx(a:List Nat):(I3 a).length=a.countP (λp=>decide (p<128)):=by unfold I3;grind
theorem Au7(z t:Bool)(P:List Int):(V0 P=([],3)/\∀(R:Type) (b:Unit->Option R) (f:By->Int->LL->Option R),ZH LF z t (Ah P) b f=b ())\/
  (∃l,∀(R:Type) (b:Unit->Option R) (f:By->Int->LL->Option R),ZH LF z t (Ah P) b f=f (V0 P).1 ((V0 P).2:Nat) l):=by
 have x:=C1;by_cases j:256<P.length
 ·refine .inl ⟨by unfold V0;rw[if_pos j],λR b f=>?_⟩;unfold ZH;rw[U0,A8];rfl
 ·right
  obtain⟨v,w⟩:=Au6 z t P (by omega) P.length 0 LF [] (by omega) (by omega) (by simp;omega);rw[j9] at v w;cases g:P.all ptI with
  | false=>
   obtain⟨l,e⟩:=w g;refine⟨l,λR b f=>?_⟩;unfold ZH;rw[U0,A5,cond_false];refine j7 (e R _ _) ?_;unfold V0;rw[if_neg j,g];rfl
  | true=>
   obtain⟨a,rfl,A,q⟩:=Bf1 g;rw[s7] at j;have m:V0 (a.map λn:Nat=>(n:Int))=Ch a:=by
    unfold V0;rw[s7,if_neg j,g];simp[ag5]
   have k:=Rx a;have y:a.countP (λp=>decide (p<128))<=a.length:=aa7;have main:∀(o:By),o.length<=300->∀(R:Type) (b:LL->Option R),Eo LF LF z t (B3 a) ((I3 a).length:Int) 128 0 72 ((I3 a).length:Int) (o.map D7) b=b ((Q2 a (I3 a).length 256 128 { delta:=0,bias:=72,done:=(I3 a).length,out:=o }).out.map D7):=by
    intro o B R b;exact B78 z t a (I3 a).length (by omega) (by omega) q 256 128 LF { delta:=0,bias:=72,done:=(I3 a).length,out:=o } k (by simp only;omega) (by omega) (by simp) (by simp) (by simp only;omega) (by omega) R b
   have d:Ch a=((Q2 a (I3 a).length 256 128 { delta:=0,bias:=72,done:=(I3 a).length,out:=if (I3 a).isEmpty then [] else I3 a++[45] }).out,0):=by
    unfold Ch;grind
   refine⟨(Ch a).1.map D7,λR b f=>?_⟩;unfold ZH;rw[U0,s7,A5,cond_false,m];have i:=v g R;rw[s7] at i;refine j7 (i _ _) ?_;rw[s9,FW,Pu];simp only[vl,s7];by_cases c:I3 a=[]
   ·rw[c,aa4,A5,cond_false];have r:=main [] (by simp) R;rw[c,aa4] at r;rw[ap4] at r;refine j7 (r _) ?_;rw[c] at d;rw[d];simp only[List.isEmpty_nil,if_true,aa4];rw[V9,W8];rfl
   ·have u:0<(I3 a).length:=aa3.2 c;rw[A8,cond_true,F0 (by omega),cond_true];have h:(I3 a).map D7++[[SV.int .u8 (45:Int)]]=(I3 a++[45]).map D7:=by rw[af7];rfl
    rw[h];refine j7 (main (I3 a++[45]) (by simp;omega) R _) ?_;rw[d,if_neg (by simpa using c)];rw[V9,W8];rfl
theorem Cr9(z t:Bool)(p:LL)(b:p.all Mq=true):∃r H,ZH LF z t p (λ_=>rv (.tup [.s (.str []),.s (.int .i64 3)]) []) (λd e l=>rv (.tup [.s (.str d),.s (.int .i64 e)]) [.arr true 5 1 l])=rv r H/\
  r.stab [0,0] H = .tup [.s (.str (V0 (p.map elI)).1),.s (.int .i64 ((V0 (p.map elI)).2:Nat))]:=by
 obtain⟨P,rfl⟩:=Bc9 b;rw[XQ];rcases Au7 z t P with⟨c,a⟩|⟨l,a⟩
 ·exact⟨_,_,a _ _ _,by rw[c];rfl⟩
 ·exact⟨_,_,a _ _ _,rfl⟩
section
variable {Z R : Type} (L : Nat) (Q : G1) (Y : Yh Z) (s : Z) (k : Out -> St Z -> Option R)
noncomputable abbrev C40:Code:=C3 ao7
noncomputable def Yj(L:Nat):Cfg:=B4 L [186] (A2 [(3,[0,1,0,0])]) [(182,EI),(189,Aj0)] (A2 [(17,[2]),(16,[0,2,0,53]),(15,[0,2,0]),(14,[2]),(13,[0,2,0,1,45]),(12,[0,2,0,0,0]),(11,[2]),(10,[0,2,0,0,41]),(9,[0,2,0,0]),(8,[0,2,0,0]),(7,[2]),(6,[0,2,0,0,18]),(5,[0,2,0,0]),(4,[2]),(3,[0,2,0,11]),(2,[0,2,0]),(1,[0,2]),(0,[0])]) [189] (A2 [(0,[2]),(1,[0,2,0])]) (some [2]) [(188,Pd)] [] [188]
noncomputable def Eh{R:Type}(L n:Nat)(o:Int)(b:By)(i m c:Int)(f j:Bool)(h:LL)(n8:Int)(g:Int->By->Int->Int->Int->Bool->Bool->LL->Int->Option R):Option R:=match n with|0=>none|n+1=>cond (b==[]) (g 4 b i m c f j h n8) (cond (inR 0 b.length) (cond (inR (bAt b (0:Int)) 256) (vl (D8 (u8n (bAt b (0:Int)))) λe=>cond (ltI e 0) (g 4 b i m c f j h n8) (cond (I2 1 (b.length:Int) b.length) (vl (cut b 1 (b.length:Int)) λd=>vl (A1 (m+(A1 (e*o)))) λa=>cond (ltI 1099511627776 a) (g 19 d i a c f j h n8) (cond (ltN n8 1000000000000) (cond (ltN c 1000000) (cond (ltI e (K5 n8 c)) (g 0 d i a c f j h (ae5 n8 (36:Int))) (vl (A1 ((36:Int)-(K5 n8 c))) λl=>cond (ltI 1099511627776 (A1 (o*l))) (g 19 d i a c f j h (ae5 n8 (36:Int))) (Eh L n (A1 (o*l)) d i a c f j h (ae5 n8 (36:Int)) g))) none) none)) none)) none) none)
theorem Ao6(n w0 f d e a b g c n8):C4 4 ((Yj L).keep 3) (bd (Yj L) Q Y (cd [1,1,1,0,0] C40)) n ⟨gp [(0,.ptr 0 0 0),(2,.fnr (Fn.func 188) [] [.ptr 3 0 0,.ptr 2 0 0]),(0,pI w0)] 54,[.box [pS f,.fl 1,pI d,pI e,pI a,pB b],.arr g 3 1 c,.box [pI a],.box [pI n8]],s⟩ k =
 Eh L n w0 f d e a b g c n8 (λn0 f d e a b g c n8=>k .ret ⟨gp [(2,pI n0)] 56,[.box [pS f,.fl 1,pI d,pI e,pI a,pB b],.arr g 3 1 c,.box [pI a],.box [pI n8]],s⟩):=by
 induction n generalizing w0 f d e a b g c n8 with
 | zero=>rfl
 | succ n h=>rw[Eh];simp only[<-h];kernel_rfl
noncomputable def C47{R:Type}(L:Nat)(g:By)(n i b:Int)(q z:Bool)(l:LL)(p:Int->By->Int->Int->Int->Bool->Bool->LL->Int->Option R):Option R:=Eh L L 1 g n i b q z l 0 (λj o m d e a h c f=>p j o m d e a h c f)
theorem Cm1(d:Nat)(rest n i b st z l):evC (Yj L) (d+1) Z Y 186 [.ptr 0 0 0] [.box [pS rest,.fl 1,pI n,pI i,pI b,pB st],.arr z 3 1 l] s=C47 L rest n i b st z l (λh j f g a c m e n8=>some (pI h,[.box [pS j,.fl 1,pI f,pI g,pI a,pB c],.arr m 3 1 e,.box [pI a],.box [pI n8]],s)):=by refine(evE (fn:=ao7) (by kernel_rfl)).trans ?_;generalize evC (Yj L) d=Q;unfold C47;exact(j7 (by kernel_rfl) ((Ao6 L Q Y s (E2 0 (F2 (Yj L) ao7)) L 1 rest n i b st z l 0).trans (by kernel_rfl)))
noncomputable def RE(L:Nat):Cfg:=B4 L [175] (A2 []) [(170,Nf),(168,Ng)] (A2 [(16,[2]),(15,[]),(14,[0]),(13,[2]),(12,[0,67]),(11,[2]),(10,[0,4,60]),(9,[0,4]),(8,[0,4]),(7,[0,4]),(6,[0,4]),(5,[0,2,1]),(4,[2]),(3,[0,2,0,8]),(2,[0,2,0]),(1,[0,2]),(0,[0])]) [170,168] (A2 []) (some [2]) [(186,NZ),(187,QJ)] [] [186,187]
noncomputable def Bc0{R:Type}(L:Nat)(a:By)(n i b:Int)(m z:Bool)(l:LL)(j:Int->By->Int->Int->Int->Bool->Bool->LL->Option R):Option R:=cond (A3 a.length) (cond (ltN b 1000000) (cond (ltN i 1099511627777) (cond ((HY b a i)!=0) (j (HY b a i) (IA b a i) n (Su b a i) b m z l) (vl (A1 ((l.length:Int)+1)) λc=>vl (A1 ((Su b a i)-i)) λh=>cond (ltN h 1152921504606846976) (cond (ltN c 1000000) (cond (ltI 0 c) (vl (↑(P5 (j5 h) (j5 c) (not m)):Int) λf=>cond (c !=0) (vl (A1 (ac9 (Su b a i) c)) λd=>cond (c !=0) (vl (af4 (Su b a i) c) λe=>cond (not (ptI (A1 (n+d)))) (j 2 (IA b a i) (A1 (n+d)) e f true z l) (cond (ltI 256 c) (j 3 (IA b a i) (A1 (n+d)) e f true z l) (cond (ltN e (Nat.add l.length 1)) (cond (x9 l.length 100000) (vl (La l (j5 e) (A1 (n+d))) λg=>j 0 (IA b a i) (A1 (n+d)) (A1 (e+1)) f true z g) none) none))) none) none) none) none) none)) none) none) none
theorem B30(d:Nat)(rest n i b st z l):evC (RE L) (d+1) Z Y 175 [.ptr 0 0 0] [.box [pS rest,.fl 1,pI n,pI i,pI b,pB st],.arr z 3 1 l] s=Bc0 L rest n i b st z l (λh j e f g a m c=>some (pI h,[.box [pS j,.fl 1,pI e,pI f,pI g,pB a],.arr m 3 1 c],s)):=by refine(evE (fn:=Tryz.f175) (by kernel_rfl)).trans ?_;generalize evC (RE L) d=Q;unfold Bc0;kernel_rfl
noncomputable abbrev Rs:Code:=C3 ai7
noncomputable def Y7(L:Nat):Cfg:=B4 L [155] (A2 [(20,[2,0,1]),(13,[0,1,0,1,0,22,0]),(4,[0,1,0,9,0])]) [(80,CL)] (A2 [(24,[2,0]),(23,[2,0]),(22,[5,2,59]),(21,[5,2]),(20,[5,58]),(19,[2,0]),(18,[5,53]),(17,[5]),(16,[0,4,0,22,0]),(15,[0,4,0,22,0]),(14,[0,4,0,0,21,0]),(13,[0,4,0,22,0,0]),(12,[0,4,0,22,0]),(11,[0,4,0,21]),(10,[0,4,0]),(9,[0,4]),(8,[0,12,0]),(7,[2,0]),(6,[0,12,0,5]),(5,[0,3,8,0]),(4,[0,12,0,0]),(3,[0,12,0]),(2,[2,0]),(1,[0,10]),(0,[0])]) [80] (A2 [(4,[5]),(5,[5]),(2,[0,4,0]),(3,[0,4,0,22,0]),(0,[0]),(1,[0,12,0])]) (some [2,0]) [(175,CJ)] [] [175] (nt:=[(152,1,3,1)])
noncomputable def Lj{R:Type}(L n:Nat)(b:By)(e a:Int)(c:Unit->Option R)(d:By->Option R):Option R:=match n with|0=>none|n+1=>cond (ltI a e) (cond (inR a b.length) (cond (not (ltI (bAt b a) (128:Int))) (c ()) (Lj L n b e (A1 (a+1)) c d)) none) (d b)
theorem Au4(n a n1 n2):C4 0 ((Y7 L).keep 4) (bd (Y7 L) Q Y (cd [1,1,0,1,0,0] Rs)) n ⟨gp [(0,pS a),(12,pI n1),(0,pI n2)] 59,[],s⟩ k =
 Lj L n a n1 n2 (λ_=>k .ret ⟨gp [(2,.fl 0),(0,pI (4:Int))] 70,[.arr true 3 1 []],s⟩) (λa=>k (.exit 0) ⟨gp [(0,pS a)] 73,[],s⟩):=by
 induction n generalizing a n1 n2 with
 | zero=>rfl
 | succ n b=>rw[Lj];simp only[<-b];kernel_rfl
noncomputable def Hq{R:Type}(L n:Nat)(c:By)(a b:Int)(d:LL)(e:By->Int->LL->Option R):Option R:=match n with|0=>none|n+1=>cond (ltI b a) (cond (inR b c.length) (cond (F7 (d.length+1)) (Hq L n c a (A1 (b+1)) (d++[[(SV.int .i64 (A1 (bAt c b)))]]) e) none) none) (e c a d)
theorem Au5(n b a n2 l3):C4 2 ((Y7 L).keep 13) (bd (Y7 L) Q Y (cd [1,1,1,1,0,1,1,0,0,1,0,0] Rs)) n ⟨gp [(0,pS b),(4,.ptr 1 0 0),(0,pI a),(22,pI a),(0,pI n2)] 43,[.arr true 3 1 l3,.box [pS b,.fl 0,pI (128:Int),pI (0:Int),pI (72:Int),pB false]],s⟩ k =
 Hq L n b a n2 l3 (λb a d=>k (.exit 2) ⟨gp [(0,pS b),(4,.ptr 1 0 0),(0,pI a)] 67,[.arr true 3 1 d,.box [pS b,.fl 0,pI (128:Int),pI (0:Int),pI (72:Int),pB false]],s⟩):=by
 induction n generalizing b a n2 l3 with
 | zero=>rfl
 | succ n c=>rw[Hq];simp only[<-c];kernel_rfl
noncomputable def R5{R:Type}(L n:Nat)(b:LL)(a:By)(c d e:Int)(f:Bool)(i:Int->LL->By->Int->Int->Int->Bool->Option R)(j:LL->By->Int->Int->Int->Bool->Option R):Option R:=match n with|0=>none|n+1=>cond (not (a==[])) (cond (A3 a.length) (cond (ltN e 1000000) (cond (ltN d 1099511627777) (cond (ltN c 1152921504606846976) (cond (x9 b.length 100000) (vl ((E9 (DS.mk a c d e f b))).1 λh=>vl (DS.l ((E9 (DS.mk a c d e f b))).2) λg=>cond (h !=0) (i h g (DS.rest ((E9 (DS.mk a c d e f b))).2) (DS.n ((E9 (DS.mk a c d e f b))).2) (DS.i ((E9 (DS.mk a c d e f b))).2) (DS.b ((E9 (DS.mk a c d e f b))).2) (DS.st ((E9 (DS.mk a c d e f b))).2)) (R5 L n g (DS.rest ((E9 (DS.mk a c d e f b))).2) (DS.n ((E9 (DS.mk a c d e f b))).2) (DS.i ((E9 (DS.mk a c d e f b))).2) (DS.b ((E9 (DS.mk a c d e f b))).2) (DS.st ((E9 (DS.mk a c d e f b))).2) i j)) none) none) none) none) none) (j b a c d e f)
theorem IH(n d f e a b c):C4 2 ((Y7 L).keep 20) (bd (Y7 L) Q Y (cd [1,1,1,1,1,1,0,0,0] Rs)) n ⟨gp [(5,.ptr 1 0 0)] 68,[.arr true 3 1 d,.box [pS f,.fl 0,pI e,pI a,pI b,pB c]],s⟩ k =
 R5 L n d f e a b c (λn0 i l a b j g=>k .ret ⟨gp [(2,.fl 2),(0,pI n0)] 70,[.arr true 3 1 i,.box [pS l,.fl 0,pI a,pI b,pI j,pB g],.arr true 3 1 []],s⟩) (λd f e a b c=>k (.exit 4) ⟨gp [(5,.ptr 1 0 0)] 68,[.arr true 3 1 d,.box [pS f,.fl 0,pI e,pI a,pI b,pB c]],s⟩):=by
 induction n generalizing d f e a b c with
 | zero=>rfl
 | succ n h=>rw[R5];simp only[<-h];kernel_rfl
noncomputable def Vm{R:Type}(L:Nat)(M:By)(N:Int->Option R)(K:Int->LL->By->Int->Int->Int->Bool->Option R)(O:LL->By->Int->Int->Int->Bool->Option R):Option R:=cond (ltI 1024 (M.length:Int)) (N 3) (Lj L L M (M.length:Int) 0 (λ_=>N 4) (λa=>cond (A3 a.length) (vl (L0 (u8n (45:Int)) a) λC=>cond (ltI 0 C) (Hq L L a C 0 [] (λb h c=>vl (A1 (h+1)) λD=>cond (I2 D (b.length:Int) b.length) (vl (cut b D (b.length:Int)) λJ=>cond (ltI 256 (c.length:Int)) (K 3 c J 128 0 72 false) (R5 L L c J 128 0 72 false (λn i F o p q d=>K n i F o p q d) (λj G r t u e=>O j G r t u e))) none)) (R5 L L [] a 128 0 72 false (λv l H w x y f=>K v l H w x y f) (λm I z A B g=>O m I z A B g))) none))
theorem Cr4(d:Nat)(s0):evC (Y7 L) (d+1) Z Y 155 [pS s0] [] s=Vm L s0 (λg=>some (.tup [.fl 0,pI g],[.arr true 3 1 []],s)) (λg o v e f r m=>some (.tup [.fl 2,pI g],[.arr true 3 1 o,.box [pS v,.fl 0,pI e,pI f,pI r,pB m],.arr true 3 1 []],s)) (λn u q e f l=>some (.tup [.fl 0,pI (0:Int)],[.arr true 3 1 n,.box [pS u,.fl 0,pI q,pI e,pI f,pB l]],s)):=by refine(evE (fn:=ai7) (by kernel_rfl)).trans ?_;generalize evC (Y7 L) d=Q;unfold Vm;exact let i:=(E2 4 (D9 (Y7 L) Q Y (cd [1,1,1,1,1,1,1] Rs) (F2 (Y7 L) ai7)));(j7 (by kernel_rfl) (A0 rfl ((Au4 L Q Y s (E2 0 (D9 (Y7 L) Q Y (cd [1,1,1] Rs) (F2 (Y7 L) ai7))) L s0 (s0.length:Int) 0).trans (congr (congr rfl (by kernel_rfl)) (fx1 λa=>(j7 (by kernel_rfl) (A0 (A4 λc=>(A0 ((Au5 L Q Y s (E2 2 (D9 (Y7 L) Q Y (cd [1,1,1,1,0,1,1,0,1] Rs) (D9 (Y7 L) Q Y (cd [1,1,1,1,1] Rs) (F2 (Y7 L) ai7)))) L a c 0 []).trans (congr rfl (fx3 λt j b=>(j7 (by kernel_rfl) (A4 λp=>(A0 (A4 λh=>(A0 rfl ((IH L Q Y s i L b h 128 0 72 false).trans (by kernel_rfl)))) rfl)))))) ((IH L Q Y s i L [] a 128 0 72 false).trans (by kernel_rfl)))) rfl)))))))
noncomputable abbrev WY:Code:=C3 ao1
noncomputable def Fr(L:Nat):Cfg:=B4 L [104] (A2 [(2,[0,0,2,0])]) [] (A2 [(6,[4]),(3,[0,0,3]),(5,[4]),(4,[0,0,3,11]),(2,[0,0,3,4]),(1,[0,0,3]),(0,[0,0])]) [] (A2 [(0,[]),(1,[0,0,3])]) (some [4]) [] [] []
noncomputable def Cj{R:Type}(L n:Nat)(b:By)(c a:Int)(d:Int->Option R)(e:Unit->Option R):Option R:=match n with|0=>none|n+1=>cond (not (ltI a 0)) (cond (inR a b.length) (cond ((bAt b a)==c) (d a) (Cj L n b c (A1 (a-1)) d e)) none) (e ())
theorem SX(n s0 c1 i2):C4 0 ((Fr L).keep 2) (bd (Fr L) Q Y (cd [1,0,1,0,0] WY)) n ⟨gp [(0,pS s0),(0,p8 c1),(3,pI i2)] 13,[],s⟩ k =
 Cj L n s0 c1 i2 (λn0=>k .ret ⟨gp [(4,pI n0)] 14,[],s⟩) (λ_=>k (.exit 0) ⟨gp [] 19,[],s⟩):=by
 induction n generalizing s0 c1 i2 with
 | zero=>rfl
 | succ n a=>rw[Cj];simp only[<-a];kernel_rfl
noncomputable def SW{R:Type}(L:Nat)(d:By)(e:Int)(c:Int->Option R):Option R:=vl (A1 ((d.length:Int)-1)) λa=>Cj L L d e a (λb=>c b) (λ_=>c (-1))
theorem Bl6(d:Nat)(s0 c1):evC (Fr L) (d+1) Z Y 104 [pS s0,p8 c1] [] s=SW L s0 c1 (λb=>some (pI b,[],s)):=by refine(evE (fn:=ao1) (by kernel_rfl)).trans ?_;generalize evC (Fr L) d=Q;unfold SW;exact(j7 (by kernel_rfl) (A4 λa=>((SX L Q Y s (E2 0 (D9 (Fr L) Q Y (cd [1,1] WY) (F2 (Fr L) ao1))) L s0 c1 a).trans (by kernel_rfl))))
noncomputable def RJ(L:Nat):Cfg:=B4 L [80] (A2 []) [(104,WK)] (A2 [(1,[4]),(0,[0,0])]) [104] (A2 []) (some [4]) [] [] []
noncomputable def Bd3{R:Type}(L:Nat)(b:By)(a:Int)(c:Int->Option R):Option R:=cond (A3 b.length) (cond (inR a 256) (c (L0 (u8n a) b)) none) none
theorem B54(d:Nat)(s0 c1):evC (RJ L) (d+1) Z Y 80 [pS s0,p8 c1] [] s=Bd3 L s0 c1 (λa=>some (pI a,[],s)):=by refine(evE (fn:=Tryz.f80) (by kernel_rfl)).trans ?_;generalize evC (RJ L) d=Q;unfold Bd3;kernel_rfl
end
theorem Ey(c:UInt8):-1<=D8 c/\D8 c<=35:=by unfold D8 Mx;grind
theorem Mc(k b:Int):1<=K5 k b/\K5 k b<=26:=by unfold K5;omega
theorem Co{x w:Int}(b:0<=x)(c:x<=35)(a:0<=w)(w1:w<=1099511627776):0<=x*w/\x*w<=38482906972160:=by refine⟨am7 b a,?_⟩;have:=Int.mul_le_mul c w1 a (show(0:Int)<=35 by omega);omega
theorem Ug(b:Int):∀(s:By) (i w k:Int),0<=i->0<=w->w<=1099511627776->(S8 b s i w k).1=0->i<=(S8 b s i w k).2.2/\(S8 b s i w k).2.2<=1099511627776/\(S8 b s i w k).2.1.length<s.length
 | [],i,w,k,_,_,_,h=>by simp[S8] at h
 | c::r,i,w,k,m,d,a,h=>by
  have l:=Ey c;have o:=Mc k b;unfold S8 at h ⊢;split at h
  ·simp at h
  ·rename_i e;rw[if_neg e];have n:=Co (by omega) l.2 d a;split at h
   ·simp at h
   ·rename_i f;rw[if_neg f];split at h
    ·grind
    ·rename_i g;rw[if_neg g];split at h
     ·omega
     ·rename_i j;rw[if_neg j];obtain⟨p,q,t⟩:=Ug b r (i+D8 c*w) (w*(36-K5 k b)) (k+36) (by omega) (am7 d (by omega)) (by omega) h;grind
theorem Bj6(f:Int)(b:Int)(g z:Bool)(l:LL)(M:0<=b)(N:b<1000000):∀(s:By) (n:Nat) (i w k:Int),s.length<n->s.length<=1000000000->0<=i->i<=1099511627776->0<=w->w<=1099511627776->0<=k->k+36*s.length<=100000000000->
  ∃H,∀(R:Type) (a:Int->By->Int->Int->Int->Bool->Bool->LL->Int->Option R),Eh LF n w s f i b g z l k a=a (S8 b s i w k).1 (S8 b s i w k).2.1 f (S8 b s i w k).2.2 b g z l H:=by
 intro s
 induction s with
 | nil=>
  intro n i w k K L O B G h P o;obtain⟨n,rfl⟩:∃m,n=m+1:=⟨n-1,by omega⟩
  refine⟨k,λR a=>?_⟩;rw[Eh];rfl
 | cons c r T=>
  intro n i w k K L O B G h P o;obtain⟨n,rfl⟩:∃m,n=m+1:=⟨n-1,by omega⟩
  rw[k9] at K L o;have S:=Ey c;have V:=Mc k b;have Q:u8n (bAt (c::r) 0)=c:=by unfold u8n bAt;simp
  have C:inR (bAt (c::r) 0) 256=true:=by rw[Z5];have:=c.toNat_lt;exact J6 (by omega) (by simp;omega)
  have j:cut (c::r) 1 ((c::r).length:Int)=r:=by
   have:=Ef (c::r) 1 (c::r).length;grind
  have F:((c::r)==([]:By))=false:=rfl;have start:∀(R:Type) (a:Int->By->Int->Int->Int->Bool->Bool->LL->Int->Option R),Eh LF (n+1) w (c::r) f i b g z l k a =
    cond (ltI (D8 c) 0) (a 4 (c::r) f i b g z l k)
     (vl (A1 (i+(A1 (D8 c*w)))) λd=>cond (ltI 1099511627776 d) (a 19 r f d b g z l k)
      (cond (ltI (D8 c) (K5 k b)) (a 0 r f d b g z l (ae5 k 36))
       (vl (A1 (36-(K5 k b))) λp=>cond (ltI 1099511627776 (A1 (w*p))) (a 19 r f d b g z l (ae5 k 36)) (Eh LF n (A1 (w*p)) r f d b g z l (ae5 k 36) a)))):=by
   intro R a;rw[Eh];rw[F,C,J6 (by omega) (by rw[k9];omega),Z2 (by omega) (by rw[k9];omega) (by omega),j,Q,L1,L1];rfl
  unfold S8;by_cases u:D8 c<0
  ·rw[if_pos u];refine⟨k,λR a=>?_⟩;rw[start,B5 u];rfl
  ·rw[if_neg u];have U:=Co (by omega) S.2 G h;have q:A1 (D8 c*w)=D8 c*w:=A7;have t:A1 (i+D8 c*w)=i+D8 c*w:=A7;by_cases v:1099511627776<i+D8 c*w
   ·rw[if_pos v];refine⟨k,λR a=>?_⟩;rw[start,A5,q,t];simp only[vl,cond_false];rw[B5 v];rfl
   ·rw[if_neg v];by_cases y:D8 c<K5 k b
    ·rw[if_pos y];refine⟨ae5 k 36,λR a=>?_⟩;rw[start,A5,q,t];simp only[vl,cond_false];rw[A5,B5 y];rfl
    ·rw[if_neg y];have I:A1 (36-K5 k b)=36-K5 k b:=A7;have D:=Co (x:=36-K5 k b) (by omega) (by omega) G h;rw[Int.mul_comm] at D;have J:A1 (w*(36-K5 k b))=w*(36-K5 k b):=A7;by_cases A:1099511627776<w*(36-K5 k b)
     ·rw[if_pos A];refine⟨ae5 k 36,λR a=>?_⟩;rw[start,A5,q,t];simp only[vl,cond_false];rw[A5,A5,I,J,B5 A];rfl
     ·rw[if_neg A];obtain⟨H,e⟩:=T n (i+D8 c*w) (w*(36-K5 k b)) (k+36) (by omega) (by omega) (by omega) (by omega) (by omega) (by omega) (by omega) (by omega);refine⟨H,λR a=>?_⟩;rw[start,A5,q,t];simp only[vl,cond_false];rw[A5,A5,I,J,A5];exact e R a
theorem Bj7(a:By)(n i b:Int)(f z:Bool)(l:LL)(h:A3 a.length=true)(j:ltN b 1000000=true)(k:ltN i 1099511627777=true) :
  ∃c,∀(R:Type) (d:Int->By->Int->Int->Int->Bool->Bool->LL->Int->Option R),C47 LF a n i b f z l d=d (HY b a i) (IA b a i) n (Su b a i) b f z l c:=by
 have q:=L4 h;obtain⟨g,p⟩:=E0.1 j;obtain⟨o,r⟩:=E0.1 k;have m:=C1;obtain⟨c,e⟩:=Bj6 n b f z l g (by omega) a LF i 1 0 (by omega) (by omega) o (by omega) (by omega) (by omega) (by omega) (by omega);exact⟨c,λR d=>e R _⟩
theorem Ao7{R:Type}{j:Int->By->Int->Int->Int->Bool->Bool->LL->Option R}(a:By)(n i b:Int)(d z:Bool)(l:LL)(y:A3 a.length=true)(C:ltN b 1000000=true)(g:ltN i 1099511627777=true)(D:ltN n 1152921504606846976=true)(h:x9 l.length 100000=true) :
  Bc0 LF a n i b d z l j=j (E9 ⟨a,n,i,b,d,l⟩).1 (E9 ⟨a,n,i,b,d,l⟩).2.rest (E9 ⟨a,n,i,b,d,l⟩).2.n (E9 ⟨a,n,i,b,d,l⟩).2.i (E9 ⟨a,n,i,b,d,l⟩).2.b (E9 ⟨a,n,i,b,d,l⟩).2.st z (E9 ⟨a,n,i,b,d,l⟩).2.l:=by
 obtain⟨F,P⟩:=E0.1 g;obtain⟨n0,Q⟩:=E0.1 D;have M:=ac1 h;unfold Bc0 E9;rw[y,C,g];simp only[cond_true];by_cases e:HY b a i=0
 ·rw[if_pos e,e];obtain⟨G,I,S⟩:=Ug b a i 1 0 F (by omega) (by omega) e;have H:i<=Su b a i:=G;have J:Su b a i<=1099511627776:=I;have o:A1 ((l.length:Int)+1)=(l.length:Int)+1:=A7;simp only[vl];rw[o];generalize Su b a i=x at *;have f:0<=x:=by omega
  obtain⟨X,rfl⟩:=j8 f;have p:A1 ((X:Int)-i)=(X:Int)-i:=A7;have u:((l.length:Int)+1)=((l.length+1:Nat):Int):=rfl;have v:ac9 (X:Int) ((l.length+1:Nat):Int)=((X / (l.length+1):Nat):Int):=L2 _ _;have w:af4 (X:Int) ((l.length+1:Nat):Int)=((X % (l.length+1):Nat):Int):=Br _ _;have L:=ae7 X (l.length+1);have N:=an0 X (show 0<l.length+1 by omega);rw[p,u,v,w];generalize hA:X / (l.length+1)=A at *;generalize K:X % (l.length+1)=B at *;have q:A1 (A:Int)=(A:Int):=A7;have r:A1 (n+(A:Int))=n+(A:Int):=A7;have t:A1 ((B:Int)+1)=(B:Int)+1:=A7;have k:((0:Int)!=0)=false:=rfl;have m:((((l.length+1:Nat):Int))!=0)=true:=by rw[bne_iff_ne];omega
  rw[q,r,t,k,L1,L1,A8,m];simp only[cond_true,cond_false];cases O:ptI (n+(A:Int)) with
  | false=>simp
  | true=>
   simp only[j0,cond_false,if_true];by_cases c:(256:Int)<((l.length+1:Nat):Int)
   ·rw[if_pos c,B5 c];rfl
   ·rw[if_neg c,A5,cond_false,Qu (by omega) (by show(B:Int)<((l.length+1:Nat):Int);omega),h];rfl
 ·rw[if_neg e,show(HY b a i !=0)=true from bne_iff_ne.2 e];rfl
theorem HM(c:UInt8):∀l:By,-1<=L0 c l
 | []=>by simp[L0]
 | b::r=>by
  have:=HM c r;unfold L0;omega
theorem HN(c b:UInt8):∀l:By,L0 c (l++[b])=if b=c then (l.length:Int) else L0 c l
 | []=>by
  by_cases h:b=c<;>simp[L0,h]
 | a::l=>by
  have d:=HN c b l;rw[al5,L0,d];by_cases h:b=c
  ·grind
  ·rw[if_neg h,if_neg h];rfl
theorem YL{R:Type}{b:Int->Option R}{d:Unit->Option R}(s:By)(c:UInt8)(l:s.length<=1000000000):∀(m n:Nat),m<=s.length->m<n->
  Cj LF n s (c.toNat:Int) ((m:Int)-1) b d=if L0 c (s.take m)<0 then d () else b (L0 c (s.take m)):=by
 intro m
 induction m with
 | zero=>
  intro n g i;obtain⟨n,rfl⟩:∃m,n=m+1:=⟨n-1,by omega⟩
  rw[Cj];rw[A8];rfl
 | succ m k=>
  intro n g i;obtain⟨n,rfl⟩:∃m,n=m+1:=⟨n-1,by omega⟩
  rw[Cj];have e0:(((m+1:Nat):Int)-1)=(m:Int):=by omega
  have e:A1 ((m:Int)-1)=(m:Int)-1:=A7;have j:s.take (m+1)=s.take m++[s.getD m 0]:=by
   rw[ak6,a8,j4 (by omega)];rfl
  rw[e0,e,A5,E5,C9,j,HN];simp only[b8,cond_true];by_cases h:s.getD m 0=c
  ·rw[if_pos h,h,beq_self_eq_true,cond_true,s8,ah7 (by omega),F9]
  ·have a:(((s.getD m 0).toNat:Int)==(c.toNat:Int))=false:=by
    rw[beq_eq_false_iff_ne];intro f;exact h (am5 (Int.ofNat.inj f))
   rw[if_neg h,a,cond_false];exact k n (by omega) (by omega)
theorem Ce9{c:Int}(h:inR c 256=true):c=((u8n c).toNat:Int):=by simp only[inR,p9,decide_eq_true_eq] at h;unfold u8n;simp;omega
theorem YM{R:Type}{a:Int->Option R}(s:By)(c:Int)(e:A3 s.length=true)(f:inR c 256=true):SW LF s c a=a (L0 (u8n c) s):=by
 have j:=L4 e;have g:=C1;have i:=Ce9 f;generalize u8n c=d at *;subst i;unfold SW;have b:A1 ((s.length:Int)-1)=(s.length:Int)-1:=A7;simp only[vl];rw[b];refine j7 (YL s d (by omega) s.length LF (by omega) (by omega)) ?_;rw[al6];have:=HM d s;by_cases h:L0 d s<0
 ·rw[if_pos h,show L0 d s=-1 by omega]
 ·rw[if_neg h]
theorem Ar3{R:Type}{a:Int->Option R}(s:By)(c:Int)(b:A3 s.length=true)(d:inR c 256=true):Bd3 LF s c a=a (L0 (u8n c) s):=by unfold Bd3;grind
theorem Oa:∀s:By,(45∈s->L0 45 s=(G5 s:Int))/\(45∉s->L0 45 s=-1/\G5 s=0)
 | []=>⟨λh=>(by cases h),λ_=>⟨rfl,rfl⟩⟩
 | b::r=>by
  obtain⟨a,c⟩:=Oa r;unfold L0 G5;grind
theorem Ag4{c:UInt8}(h:Mx c=none):D8 c=-1:=by unfold D8;rw[h]
theorem Ag5{c:UInt8}{x:Nat}(h:Mx c=some x):D8 c=x:=by unfold D8;rw[h]
theorem Uh(b:Nat):∀(s:By) (i w k:Nat),S8 (b:Int) s (i:Int) (w:Int) ((36*k:Nat):Int)=((((D6 b s i w k).2.2:Nat):Int),(S8 (b:Int) s (i:Int) (w:Int) ((36*k:Nat):Int)).2)/\
  ((D6 b s i w k).2.2=0->(S8 (b:Int) s (i:Int) (w:Int) ((36*k:Nat):Int)).2=((D6 b s i w k).2.1,((D6 b s i w k).1:Int)))
 | [],i,w,k=>⟨rfl,λh=>by simp[D6] at h⟩
 | c::r,i,w,k=>by
  unfold S8 D6;cases d:Mx c with
  | none=>
   rw[Ag4 d,S6];grind
  | some x=>
   rw[Ag5 d,F9,Ws];have e:(i:Int)+(x:Int)*(w:Int)=((i+x*w:Nat):Int):=by push_cast;rfl
   have n:=U6 k b;have f:(w:Int)*(36-(thr k b:Int))=((w*(36-thr k b):Nat):Int):=by grind
   have g:((36*k:Nat):Int)+36=((36*(k+1):Nat):Int):=by omega
   have a:Bv=1099511627776:=by decide
   rw[e,f,g,a];simp only;generalize i+x*w=I;generalize w*(36-thr k b)=W;by_cases j:1099511627776<I
   ·grind
   ·rw[F9,if_neg j];by_cases l:x<thr k b
    ·grind
    ·rw[F9,if_neg l];by_cases m:1099511627776<W
     ·grind
     ·rw[F9,if_neg m];exact Uh b r I W (k+1)
theorem B48(l:List Nat)(i n:Nat):La (B3 l) i (n:Int)=B3 (U1 l i n):=by unfold La U1 B3;simp_all
theorem TN(b:Nat)(s:By)(i:Nat):HY (b:Int) s (i:Int)=((D6 b s i 1 0).2.2:Int)/\((D6 b s i 1 0).2.2=0->IA (b:Int) s (i:Int)=(D6 b s i 1 0).2.1/\Su (b:Int) s (i:Int)=((D6 b s i 1 0).1:Int)):=by obtain⟨a,c⟩:=Uh b s i 1 0;have e:S8 (b:Int) s (i:Int) 1 0=S8 (b:Int) s (i:Int) ((1:Nat):Int) ((36*0:Nat):Int):=rfl;unfold HY IA Su;rw[e];refine⟨by rw[a],λh=>?_⟩;have:=c h;rw[this];exact⟨rfl,rfl⟩
theorem Dc7(s:By)(a:List Nat)(n i b:Nat)(c:Bool)(h:(D6 b s i 1 0).2.2=0)(q:i<=(D6 b s i 1 0).1)(o:U2 (n+(D6 b s i 1 0).1 / (a.length+1))=true)(p:¬ 256<a.length+1) :
  E9 ⟨s,(n:Int),(i:Int),(b:Int),c,B3 a⟩=(0,⟨(D6 b s i 1 0).2.1,((n+(D6 b s i 1 0).1 / (a.length+1):Nat):Int),(((D6 b s i 1 0).1 % (a.length+1)+1:Nat):Int),((P5 ((D6 b s i 1 0).1-i) (a.length+1) (!c):Nat):Int),true,B3 (U1 a ((D6 b s i 1 0).1 % (a.length+1)) (n+(D6 b s i 1 0).1 / (a.length+1)))⟩):=by
 obtain⟨j,k⟩:=TN b s i;obtain⟨l,m⟩:=k h;unfold E9;simp only;rw[j,h,if_pos (show((0:Nat):Int)=0 from rfl),l,m,D1];generalize (D6 b s i 1 0).1=X at *;have d:((a.length:Int)+1)=((a.length+1:Nat):Int):=rfl;have e:ac9 (X:Int) ((a.length+1:Nat):Int)=((X / (a.length+1):Nat):Int):=L2 _ _;have f:af4 (X:Int) ((a.length+1:Nat):Int)=((X % (a.length+1):Nat):Int):=Br _ _;have g:(n:Int)+((X / (a.length+1):Nat):Int)=((n+X / (a.length+1):Nat):Int):=rfl;rw[d,e,f,g,Lk,o,if_pos rfl,F9,c9,B48,c9,show((X:Int)-(i:Int)).toNat=X-i by omega];rfl
theorem C48(s:By)(a:List Nat)(n i b:Nat)(f:Bool):((D6 b s i 1 0).2.2≠0->(E9 ⟨s,(n:Int),(i:Int),(b:Int),f,B3 a⟩).1=((D6 b s i 1 0).2.2:Int))/\
  ((D6 b s i 1 0).2.2=0->U2 (n+(D6 b s i 1 0).1 / (a.length+1))=false->(E9 ⟨s,(n:Int),(i:Int),(b:Int),f,B3 a⟩).1=2)/\
  ((D6 b s i 1 0).2.2=0->U2 (n+(D6 b s i 1 0).1 / (a.length+1))=true->256<a.length+1->(E9 ⟨s,(n:Int),(i:Int),(b:Int),f,B3 a⟩).1=3):=by
 obtain⟨c,l⟩:=TN b s i;have g:(((B3 a).length:Int)+1)=((a.length+1:Nat):Int):=by rw[D1];rfl
 have j:∀X:Nat,ac9 (X:Int) ((a.length+1:Nat):Int)=((X / (a.length+1):Nat):Int):=λX=>L2 _ _
 have k:∀A:Nat,(n:Int)+(A:Int)=((n+A:Nat):Int):=λA=>rfl
 refine⟨λh=>?_,λh e=>?_,λh e o=>?_⟩
 ·unfold E9;simp only;rw[c,F9]
 ·obtain⟨m,d⟩:=l h;unfold E9;simp only;rw[c,h,if_pos (show((0:Nat):Int)=0 from rfl),d,g,j,k,Lk,e,if_neg (by simp)]
 ·obtain⟨m,d⟩:=l h;unfold E9;simp only;rw[c,h,if_pos (show((0:Nat):Int)=0 from rfl),d,g,j,k,Lk,e,if_pos rfl,S6]
theorem Cf(a:List Nat)(n i b:Nat)(f:Bool):G9 [] a n i b f=(a,0):=by rw[G9];rfl
theorem Ga{s:By}(c:s≠[])(a:List Nat)(n i b:Nat)(f:Bool)(h:(D6 b s i 1 0).2.2≠0):G9 s a n i b f=([],(D6 b s i 1 0).2.2):=by rw[G9,dif_neg c];grind
theorem Dh{s:By}(c:s≠[])(a:List Nat)(n i b:Nat)(f:Bool)(h:(D6 b s i 1 0).2.2=0):G9 s a n i b f =
  if U2 (n+(D6 b s i 1 0).1 / (a.length+1)) then (if 256<a.length+1 then ([],3) else G9 (D6 b s i 1 0).2.1 (U1 a ((D6 b s i 1 0).1 % (a.length+1)) (n+(D6 b s i 1 0).1 / (a.length+1))) (n+(D6 b s i 1 0).1 / (a.length+1)) ((D6 b s i 1 0).1 % (a.length+1)+1) (P5 ((D6 b s i 1 0).1-i) (a.length+1) f) false) else ([],2):=by
 rw[G9,dif_neg c];simp only;rw[dif_pos h]
theorem Ar(l:List Nat)(i n:Nat):(U1 l i n).length=l.length+1:=by unfold U1;grind
theorem Bo4:∀(r:Nat) (s:By) (a:List Nat) (n i b f:Nat) (c:Bool),s.length<=r->r<f->s.length<=1000000->a.length<=256->n<=1114111->i<=1000->b<=500->
  ((G9 s a n i b (!c)).2=0->∃u t q p j,∀(R:Type) (d:Int->LL->By->Int->Int->Int->Bool->Option R) (g:LL->By->Int->Int->Int->Bool->Option R),R5 LF f (B3 a) s (n:Int) (i:Int) (b:Int) c d g=g (B3 (G9 s a n i b (!c)).1) u t q p j)/\
  ((G9 s a n i b (!c)).2≠0->(G9 s a n i b (!c)).1=[]/\∃l u t q p j,∀(R:Type) (d:Int->LL->By->Int->Int->Int->Bool->Option R) (g:LL->By->Int->Int->Int->Bool->Option R),R5 LF f (B3 a) s (n:Int) (i:Int) (b:Int) c d g=d ((G9 s a n i b (!c)).2:Nat) l u t q p j):=by
 intro r
 induction r with
 | zero=>
  intro s a n i b f c h K _ _ _ _ _;obtain⟨f,rfl⟩:∃m,f=m+1:=⟨f-1,by omega⟩
  have v:s=[]:=p5.1 (by omega);subst v;rw[Cf];refine⟨λ_=>⟨[],n,i,b,c,λR d g=>?_⟩,λh=>absurd rfl h⟩;rw[R5];rfl
 | succ r L=>
  intro s a n i b f c h K X Y Z h4 h5;obtain⟨f,rfl⟩:∃m,f=m+1:=⟨f-1,by omega⟩
  by_cases v:s=[]
  ·subst v;rw[Cf];refine⟨λ_=>⟨[],n,i,b,c,λR d g=>?_⟩,λh=>absurd rfl h⟩;rw[R5];rfl
  ·have start:∀(R:Type) (d:Int->LL->By->Int->Int->Int->Bool->Option R) (g:LL->By->Int->Int->Int->Bool->Option R),R5 LF (f+1) (B3 a) s (n:Int) (i:Int) (b:Int) c d g =
     cond ((E9 ⟨s,n,i,b,c,B3 a⟩).1 !=0) (d (E9 ⟨s,n,i,b,c,B3 a⟩).1 (E9 ⟨s,n,i,b,c,B3 a⟩).2.l (E9 ⟨s,n,i,b,c,B3 a⟩).2.rest (E9 ⟨s,n,i,b,c,B3 a⟩).2.n (E9 ⟨s,n,i,b,c,B3 a⟩).2.i (E9 ⟨s,n,i,b,c,B3 a⟩).2.b (E9 ⟨s,n,i,b,c,B3 a⟩).2.st)
      (R5 LF f (E9 ⟨s,n,i,b,c,B3 a⟩).2.l (E9 ⟨s,n,i,b,c,B3 a⟩).2.rest (E9 ⟨s,n,i,b,c,B3 a⟩).2.n (E9 ⟨s,n,i,b,c,B3 a⟩).2.i (E9 ⟨s,n,i,b,c,B3 a⟩).2.b (E9 ⟨s,n,i,b,c,B3 a⟩).2.st d g):=by
    intro R d g;rw[R5];rw[show(s==([]:By))=false from beq_eq_false_iff_ne.2 v,N0,L1,L1,L1,D1,aa8 (show a.length<=100000 by omega)];rfl
   obtain⟨G,H,I⟩:=C48 s a n i b c;have o:=Dc7 s a n i b c;generalize E9 ⟨s,n,i,b,c,B3 a⟩=D at *;by_cases k:(D6 b s i 1 0).2.2=0
   ·rw[Dh v a n i b (!c) k];obtain⟨M,N⟩:=TN b s i;obtain⟨O,P⟩:=N k;have J:HY (b:Int) s (i:Int)=0:=by rw[M,k];rfl
    obtain⟨U,V,W⟩:=Ug b s i 1 0 (by omega) (by omega) (by omega) J;have A:(i:Int)<=Su (b:Int) s (i:Int):=U;have B:Su (b:Int) s (i:Int)<=1099511627776:=V;have C:(IA (b:Int) s (i:Int)).length<s.length:=W;rw[P] at A B;rw[O] at C;cases x:U2 (n+(D6 b s i 1 0).1 / (a.length+1)) with
    | false=>
     rw[if_neg (by simp)];refine⟨λh=>by simp at h,λ_=>⟨rfl,D.2.l,D.2.rest,D.2.n,D.2.i,D.2.b,D.2.st,λR d g=>?_⟩⟩
     ·rw[start,H k x];rfl
    | true=>
     rw[if_pos rfl];by_cases w:256<a.length+1
     ·rw[if_pos w];refine⟨λh=>by simp at h,λ_=>⟨rfl,D.2.l,D.2.rest,D.2.n,D.2.i,D.2.b,D.2.st,λR d g=>?_⟩⟩;rw[start,I k x w];rfl
     ·rw[if_neg w];have o:=o k (by omega) x w;have z:n+(D6 b s i 1 0).1 / (a.length+1)<=1114111:=by
       unfold U2 at x;simp_all
      have F:=an0 (D6 b s i 1 0).1 (show 0<a.length+1 by omega);have y:=Nk ((D6 b s i 1 0).1-i) (a.length+1) (!c) (by omega);have:=L (D6 b s i 1 0).2.1 (U1 a ((D6 b s i 1 0).1 % (a.length+1)) (n+(D6 b s i 1 0).1 / (a.length+1))) (n+(D6 b s i 1 0).1 / (a.length+1)) ((D6 b s i 1 0).1 % (a.length+1)+1) (P5 ((D6 b s i 1 0).1-i) (a.length+1) (!c)) f true (by omega) (by omega) (by omega) (by rw[Ar];omega) z (by omega) y;obtain⟨Q,S⟩:=this;refine⟨λh=>?_,λh=>?_⟩
      ·obtain⟨u,t,q,p,j,e⟩:=Q h;refine⟨u,t,q,p,j,λR d g=>?_⟩;rw[start,o];exact e R d g
      ·obtain⟨T,l,u,t,q,p,j,e⟩:=S h;refine⟨T,l,u,t,q,p,j,λR d g=>?_⟩;rw[start,o];exact e R d g
   ·rw[Ga v a n i b (!c) k];refine⟨λh=>absurd h k,λ_=>⟨rfl,D.2.l,D.2.rest,D.2.n,D.2.i,D.2.b,D.2.st,λR d g=>?_⟩⟩;rw[start,G k,show(((D6 b s i 1 0).2.2:Int)!=0)=true by rw[bne_iff_ne];omega];rfl
theorem Cp(l:List Nat):Lg l=B3 l:=rfl
theorem Au2{R:Type}{k0:Unit->Option R}{k1:By->Option R}(s:By)(f:s.length<=1000000):∀(r i n:Nat),i+r=s.length->r<n->
  Lj LF n s (s.length:Int) (i:Int) k0 k1=if (s.drop i).any (λb=>x9 128 b.toNat) then k0 () else k1 s:=by
 intro r
 induction r with
 | zero=>
  intro i n c d;obtain⟨n,rfl⟩:∃m,n=m+1:=⟨n-1,by omega⟩
  rw[Lj];rw[A5,j1 (by omega)];rfl
 | succ r e=>
  intro i n c d;obtain⟨n,rfl⟩:∃m,n=m+1:=⟨n-1,by omega⟩
  rw[Lj];have a:A1 ((i:Int)+1)=((i+1:Nat):Int):=by rw[A7];rfl
  rw[A8,E5,C9,D2 s i (by omega),a,aj0];simp only[cond_true];generalize s.getD i 0=b;by_cases h:128<=b.toNat
  ·rw[A5,aa8 h];rfl
  ·have:x9 128 b.toNat=false:=by rw[aa1,ne_eq,y8];exact h
   rw[A8,this,af2];exact e (i+1) n (by omega) (by omega)
theorem Bo3{R:Type}{k0:By->Int->LL->Option R}(s:By)(q:s.length<=1000000)(k:Nat)(p:k<=s.length):∀(r i n:Nat) (l:List Nat),i+r=k->r<n->l.length=i->
  Hq LF n s (k:Int) (i:Int) (B3 l) k0=k0 s (k:Int) (B3 (l++((s.take k).drop i).map (·.toNat))):=by
 intro r
 induction r with
 | zero=>
  intro i n l f h g;obtain⟨n,rfl⟩:∃m,n=m+1:=⟨n-1,by omega⟩
  rw[Hq];rw[A5,j1 (by rw[s8];omega)];simp
 | succ r j=>
  intro i n l f h g;obtain⟨n,rfl⟩:∃m,n=m+1:=⟨n-1,by omega⟩
  rw[Hq];have c:A1 ((i:Int)+1)=((i+1:Nat):Int):=by rw[A7];rfl
  have e:(s.take k).drop i=s.getD i 0::(s.take k).drop (i+1):=by
   rw[D2 (s.take k) i (by rw[s8];omega)]
   congr 1
   rw[a8,a8,List.getElem?_take_of_lt (by omega)]
  rw[A8,E5,C9,e,D1,F0 (by omega),c];simp only[cond_true];generalize s.getD i 0=b;have o:=b.toNat_lt;have d:A1 (b.toNat:Int)=(b.toNat:Int):=A7;have a:B3 l++[[SV.int .i64 (A1 (b.toNat:Int))]]=B3 (l++[b.toNat]):=by rw[d,Jr];rfl
  rw[a,j (i+1) n _ (by omega) (by omega) (by simp;omega)];simp
theorem Ob:∀s:By,G5 s<=s.length-1
 | []=>by simp[G5]
 | b::r=>by
  have:=Ob r;unfold G5;grind
theorem Au3(s:By)(M:A3 s.length=true):(∃e,M9 s=([],e)/\∀(R:Type) (k0:Int->Option R) (k1:Int->LL->By->Int->Int->Int->Bool->Option R) (a:LL->By->Int->Int->Int->Bool->Option R),Vm LF s k0 k1 a=k0 (e:Nat))\/
  (∃e l k j i f c,M9 s=([],e)/\∀(R:Type) (k0:Int->Option R) (k1:Int->LL->By->Int->Int->Int->Bool->Option R) (a:LL->By->Int->Int->Int->Bool->Option R),Vm LF s k0 k1 a=k1 (e:Nat) l k j i f c)\/
  ((M9 s).2=0/\∃k j i f c,∀(R:Type) (k0:Int->Option R) (k1:Int->LL->By->Int->Int->Int->Bool->Option R) (a:LL->By->Int->Int->Int->Bool->Option R),Vm LF s k0 k1 a=a (B3 (M9 s).1) k j i f c):=by
 have N:=C1;unfold M9;by_cases C:1024<s.length
 ·rw[if_pos C];refine .inl ⟨3,rfl,λR k0 k1 a=>?_⟩;unfold Vm;rw[A8];rfl
 ·rw[if_neg C];have r:=λ(R:Type) (G:Unit->Option R) (H:By->Option R)=>Au2 (k0:=G) (k1:=H) s (by omega) s.length 0 LF (by omega) (by omega)
  rw[j9] at r;cases A:s.any (λb=>x9 128 b.toNat) with
  | true=>
   rw[if_pos rfl];refine .inl ⟨4,rfl,λR k0 k1 a=>?_⟩;unfold Vm;rw[A5,cond_false];refine j7 (r R _ _) ?_;rw[A,if_pos rfl];rfl
  | false=>
   rw[if_neg (by simp)];obtain⟨I,J⟩:=Oa s;have O:=Ob s;have key:∀(d:List Nat) (t:By),d.length<=256->t.length<=1024->(∀(R:Type) (k0:Int->Option R) (k1:Int->LL->By->Int->Int->Int->Bool->Option R) (a:LL->By->Int->Int->Int->Bool->Option R),Vm LF s k0 k1 a=R5 LF LF (B3 d) t 128 0 72 false k1 a)->
     (∃e l k j i f c,G9 t d 128 0 72 true=([],e)/\∀(R:Type) (k0:Int->Option R) (k1:Int->LL->By->Int->Int->Int->Bool->Option R) (a:LL->By->Int->Int->Int->Bool->Option R),Vm LF s k0 k1 a=k1 (e:Nat) l k j i f c)\/
     ((G9 t d 128 0 72 true).2=0/\∃k j i f c,∀(R:Type) (k0:Int->Option R) (k1:Int->LL->By->Int->Int->Int->Bool->Option R) (a:LL->By->Int->Int->Int->Bool->Option R),Vm LF s k0 k1 a=a (B3 (G9 t d 128 0 72 true).1) k j i f c):=by
    intro d t P V B;obtain⟨D,F⟩:=Bo4 t.length t d 128 0 72 LF false (af6 _) (by omega) (by omega) P (by omega) (by omega) (by omega);rw[b8] at D F;by_cases w:(G9 t d 128 0 72 true).2=0
    ·obtain⟨k,j,i,f,c,e⟩:=D w;exact .inr ⟨w,k,j,i,f,c,λR k0 k1 a=>by rw[B];exact e R k1 a⟩
    ·obtain⟨S,l,k,j,i,f,c,e⟩:=F w;exact .inl ⟨_,l,k,j,i,f,c,Prod.ext S rfl,λR k0 k1 a=>by rw[B];exact e R k1 a⟩
   have Q:u8n 45=45:=rfl;have top:∀(R:Type) (k0:Int->Option R) (k1:Int->LL->By->Int->Int->Int->Bool->Option R) (a:LL->By->Int->Int->Int->Bool->Option R),Vm LF s k0 k1 a =
     cond (ltI 0 (L0 45 s)) (Hq LF LF s (L0 45 s) 0 [] (λn x u=>cond (I2 (A1 (x+1)) (n.length:Int) n.length)
      (vl (cut n (A1 (x+1)) (n.length:Int)) λy=>cond (ltI 256 (u.length:Int)) (k1 3 u y 128 0 72 false) (R5 LF LF u y 128 0 72 false k1 a)) none))
      (R5 LF LF [] s 128 0 72 false k1 a):=by
    intro R k0 k1 a;unfold Vm;rw[A5,cond_false];refine j7 (r R _ _) ?_;rw[A,if_neg (by simp),M,Q];rfl
   by_cases T:0<G5 s
   ·have v:45∈s:=by
     apply ae4;intro h;have:=(J h).2;omega
    have z:=I v;generalize G5 s=m at *;have g:=λ(R:Type) (K:By->Int->LL->Option R)=>Bo3 (k0:=K) s (by omega) m (by omega) m 0 LF [] (by omega) (by omega) rfl
    rw[j9] at g;have L:A1 ((m:Int)+1)=((m+1:Nat):Int):=by rw[A7];rfl
    have p:((s.take m).map (·.toNat)).length=m:=by rw[s7,s8];omega
    have q:∀(R:Type) (k0:Int->Option R) (k1:Int->LL->By->Int->Int->Int->Bool->Option R) (a:LL->By->Int->Int->Int->Bool->Option R),Vm LF s k0 k1 a =
      cond (ltI 256 (m:Int)) (k1 3 (B3 ((s.take m).map (·.toNat))) (s.drop (m+1)) 128 0 72 false) (R5 LF LF (B3 ((s.take m).map (·.toNat))) (s.drop (m+1)) 128 0 72 false k1 a):=by
     intro R k0 k1 a;rw[top,z,A8,cond_true];refine j7 (g R _) ?_;rw[L,H9,Ef,al6,s9,D1,p];rfl
    by_cases o:256<m
    ·rw[if_pos o];refine .inr (.inl ⟨3,B3 ((s.take m).map (·.toNat)),s.drop (m+1),128,0,72,false,rfl,λR k0 k1 a=>?_⟩);rw[q,A8];rfl
    ·rw[if_neg o,if_neg (show ¬m=0 by omega)];exact .inr (key _ (s.drop (m+1)) (by rw[p];omega) (by rw[j6];omega) (λR k0 k1 a=>by rw[q,A5];rfl))
   ·have w:G5 s=0:=by omega
    have z:¬ 0<L0 45 s:=by
     by_cases U:45∈s;all_goals grind
    rw[w,F9,if_pos rfl];refine .inr (key [] s (by simp) (by omega) (λR k0 k1 a=>?_));rw[top,A5];rfl
theorem Vi(l:List Nat):(B3 l).isEmpty=l.isEmpty:=by cases l<;>rfl
theorem Cr5(s:By)(k:A3 s.length=true):∃r H,Vm LF s (λf=>rv (.tup [.fl 0,.s (.int .i64 f)]) [.arr true 3 1 []]) (λf o w c d t j=>rv (.tup [.fl 2,.s (.int .i64 f)]) [.arr true 3 1 o,.box [.s (.str w),.fl 0,.s (.int .i64 c),.s (.int .i64 d),.s (.int .i64 t),.s (.bool j)],.arr true 3 1 []]) (λn v q c d i=>rv (.tup [.fl 0,.s (.int .i64 (0:Int))]) [.arr true 3 1 n,.box [.s (.str v),.fl 0,.s (.int .i64 q),.s (.int .i64 c),.s (.int .i64 d),.s (.bool i)]])=rv r H/\
  r.stab [1,0] H = .tup [.s (.sl (M9 s).1.isEmpty (M9 s).1.isEmpty 1 (Lg (M9 s).1)),.s (.int .i64 ((M9 s).2:Nat))]:=by
 rcases Au3 s k with⟨e,a,b⟩|⟨e,l,u,p,m,h,g,a,b⟩|⟨a,u,p,m,h,g,b⟩
 ·refine⟨_,_,b _ _ _ _,?_⟩;rw[a];rfl
 ·refine⟨_,_,b _ _ _ _,?_⟩;rw[a];rfl
 ·refine⟨_,_,b _ _ _ _,?_⟩;rw[a,Cp];simp[PV.stab,Nw,Qm,PV.snap,L5,Vi]
end
section
open Go
theorem HK(x y:By)(r:List By)(p:By):ac3 (x::y::r) p=x++(p++ac3 (y::r) p):=by simp[ac3,List.intercalate]
theorem ZG(c:UInt8):∀l:List By,l≠[]->(∀x∈l,c∉x)->pcs c (ac3 l [c])=l
 | [],h,_=>absurd rfl h
 | [x],_,h=>by rw[ap0,Oh (h x (by simp))]
 | x::y::r,_,h=>by
  rw[HK,List.singleton_append,TW (h x (by simp)),ZG c (y::r) (by simp) (λz a=>h z (by simp[a]))]
theorem Ff(s:By):(B6 s).length=s.length:=s7 _
theorem Ld(s:By)(i:Nat):(B6 s).getD i 0=Bk (s.getD i 0):=by unfold B6;simp only[a8,ak5];cases s[i]?<;>rfl
theorem Bm7{s:By}:B6 s=[]↔s=[]:=by unfold B6;simp
theorem As2(s:By)(i:Nat):(B6 s).drop i=B6 (s.drop i):=by unfold B6;rw[aj1]
theorem Oc(b:UInt8):T2 b=true↔(97<=b.toNat/\b.toNat<=122)\/(48<=b.toNat/\b.toNat<=57)\/b=45\/b=95:=by simp[T2,or_assoc]
theorem Ar5{b:UInt8}(h:T2 b=true):b.toNat<128/\(b.toNat<65\/90<b.toNat)/\b≠46/\b≠37/\b≠91:=by
 rw[Oc] at h;have key:∀c:UInt8,b=c->b.toNat=c.toNat:=λc e=>by rw[e]
 rcases h with h|h|h|h
 ·refine⟨by omega,by omega,?_,?_,?_⟩<;>intro e<;>have:=key _ e<;>simp at this<;>omega
 ·refine⟨by omega,by omega,?_,?_,?_⟩<;>intro e<;>have:=key _ e<;>simp at this<;>omega
 all_goals simp_all
structure VL (s:By):Prop where
 ne:s≠[]
 le:s.length<=63
 byt:∀b∈s,T2 b=true
theorem Qk{s:By}(h:K6 s=true):VL s:=by unfold K6 at h;simp only[p9,aj8,y9] at h;obtain⟨⟨⟨⟨⟨a,c⟩,g⟩,i⟩,d⟩,j⟩:=h;refine⟨by intro e;subst e;simp at a,ac1 c,λb f=>d b f⟩
structure VN (s:By):Prop where
 le:s.length<=253
 num:G0 s=false
 all:∀x∈pcs 46 s,K6 x=true
theorem JM{s:By}:Z3 s=true↔VN s:=by unfold Z3;simp only[p9,aj8,y9];exact⟨λh=>⟨ac1 h.1.1,h.1.2,h.2⟩,λh=>⟨⟨aa8 h.le,h.num⟩,h.all⟩⟩
theorem C76(v:Nat)(h:v<4294967296):(Hd v).length<=43:=by unfold Hd;have a:=F4 (v / 16777216) (by omega);have b:=F4 (v / 65536 % 256) (by omega);have c:=F4 (v / 256 % 256) (by omega);have d:=F4 (v % 256) (by omega);grind
theorem ZI(free:Nat):∀(l:List By) (v x:Nat),Vn free v l=some x->x<(v+1)*256 ^ (l.length-1)*2 ^ free
 | [],v,x,h=>by simp[Vn] at h
 | [p],v,x,h=>by
  simp only[Vn] at h;split at h
  ·cases h
  ·split at h
   ·rename_i n c b;simp only[j2] at h;subst h;simp only[k9,aa4,ap6,Nat.pow_zero,Nat.mul_one,Nat.add_mul];omega
   ·cases h
 | p::q::r,v,x,h=>by
  rw[Vn] at h;split at h
  ·cases h
  ·simp only at h;split at h
   ·rename_i n c a;have d:=ZI free (q::r) _ x h;refine Nat.lt_of_lt_of_le d (ai4 _ ?_);simp only[k9,Nat.add_sub_cancel];rw[af0,Nat.mul_comm (256 ^ r.length) 256,<-Nat.mul_assoc];exact ai4 _ (by omega)
   ·cases h
theorem Cs0{s:By}{v:Nat}(h:pnB s=some v):v<4294967296:=by
 unfold pnB at h;split at h
 ·cases h
 ·rename_i b;have a:=(Aj s).1;have:=ZI _ _ _ _ h;generalize (C7 s).length=n at *;have:n=1\/n=2\/n=3\/n=4:=by omega
  grind
def sh(n:Nat)(i:Int):Int:=if i=-1 then -1 else i+n
theorem Cf9(a:List Nat)(e:a.length=8)(h:∀x∈a,x<65536):(Mw a).length<=90:=by
 unfold Mw;split
 ·have:=Au a h;omega
 ·have c:=Au (a.take (zGo a 0 0 0).1) (λx b=>h x (ad9 b));have d:=Au (a.drop ((zGo a 0 0 0).1+(zGo a 0 0 0).2)) (λx b=>h x (af5 b));grind
theorem YC{s:By}{last:Bool}{r:List Nat}(h:P2 s last=some r):∀x∈r,x<65536:=by
 unfold P2 at h;split at h
 ·grind
 ·exact Bc3 _ _ _ h
theorem C79{s:By}{a:List Nat}(h:v6B s=some a):a.length=8/\∀x∈a,x<65536:=by
 unfold v6B at h;split at h
 ·rename_i x y b c;have d:=YC b;have e:=YC c;grind
 ·cases h
theorem Ce0{s:By}(h:(I5 s).2=0):K6 (I5 s).1=true:=by unfold I5 at h ⊢;grind
theorem Jf:∀l:List By,(F6 l).2=0->(∀x∈(F6 l).1,K6 x=true)/\(F6 l).1.length=l.length
 | [],_=>⟨by simp[F6],rfl⟩
 | x::r,h=>by
  unfold F6 at h ⊢;by_cases a:(I5 x).2=0
  ·rw[if_pos a] at h ⊢;obtain⟨d,c⟩:=Jf r h;refine⟨λy b=>?_,by simp[c]⟩;rcases aj2.1 b with rfl|b
   ·exact Ce0 a
   grind
  grind
structure Na (h:B2):Prop where
 v4:h.v4<4294967296
 v6:h.v6.length=8/\∀x∈h.v6,x<65536
 kd:h.kind<4
theorem Bi3:z8.length=8/\∀x∈z8,x<65536:=by decide
theorem Bo0(s:By):Na (C6 s).1/\((C6 s).2=0->M6 (C6 s).1=true):=by
 have no:Na K4:=⟨by decide,Bi3,by decide⟩
 unfold C6;split
 ·grind
 split
 ·split
  ·cases d:v6B ((s.take (s.length-1)).drop 1) with
   | none=>exact⟨no,by simp⟩
   | some a=>exact⟨⟨show 0<4294967296 by decide,C79 d,show 3<4 by decide⟩,λ_=>by simp[M6]⟩
  grind
 cases l:R2 s with
 | none=>exact⟨no,by simp⟩
 | some t=>
  simp only;split
  ·cases d:pnB (I1 t) with
   | none=>exact⟨no,by simp⟩
   | some v=>exact⟨⟨Cs0 d,Bi3,show 2<4 by decide⟩,λ_=>by simp[M6]⟩
  split
  ·rename_i g;split
   ·grind
   split
   ·grind
   ·rename_i k h;refine⟨⟨show 0<4294967296 by decide,Bi3,show 1<4 by decide⟩,λ_=>?_⟩;obtain⟨f,i⟩:=Jf _ g;have b:(F6 (pcs 46 (I1 t))).1≠[]:=by
     intro e;rw[e] at i;have:=Au1 46 (I1 t);grind
    have c:=ZG 46 (F6 (pcs 46 (I1 t))).1 b (λx j e=>(Ar5 ((Qk (f x j)).byt 46 e)).2.2.1 rfl);unfold M6;simp only[if_true,beq_self_eq_true,ad4];rw[JM];exact⟨by omega,by simpa using h,by rw[c];exact f⟩
  grind
theorem HA{h:B2}(a:M6 h=false):Io h=[]:=by unfold Io;rw[a];rfl
theorem BG:∀(f:Nat) (l:By),ap2 f l=(Y4 f l).isSome
 | 0,_=>rfl
 | f+1,l=>by
  unfold ap2 Y4;split
  ·rfl
  ·split
   ·rfl
   ·rw[BG f,ag7]
theorem A74(l:By):Lib.validD l=(Cr l).isSome:=BG _ l
theorem IJ:∀(n m:Nat) (l:By),l.length<=n->l.length<=m->Y4 n l=Y4 m l
 | 0,m,l,b,_=>by
  have:l=[]:=p5.1 (by omega);subst this;cases m<;>simp[Y4]
 | n+1,0,l,_,hm=>by
  have:l=[]:=p5.1 (by omega);subst this;simp[Y4]
 | n+1,m+1,l,b,hm=>by
  unfold Y4;split
  ·rfl
  ·rename_i a;have d:=ag6 l;have c:0<l.length:=aa3.2 a;rw[IJ n m (l.drop (x3 l).2) (by rw[j6];omega) (by rw[j6];omega)]
theorem Bp1(l:By)(a:l≠[]):Cr l=if (x3 l).1=65533/\(x3 l).2=1 then none else (Cr (l.drop (x3 l).2)).map ((x3 l).1::·):=by
 have c:0<l.length:=aa3.2 a;have d:=ag6 l;obtain⟨n,b⟩:∃n,l.length=n+1:=⟨l.length-1,by omega⟩
 unfold Cr;rw[b]
 conv=>lhs;unfold Y4
 rw[if_neg a,IJ n (l.drop (x3 l).2).length _ (by rw[j6];omega) (af6 _)]
theorem NH:∀(f:Nat) (s:ByteArray) (pos:Nat) (p:List Nat),pos<=s.size->Y4 f (s.data.toList.drop pos)=some p->s.size-pos<=f->ak3 s f pos=p.length
 | 0,s,pos,p,e,h,d=>by
  simp only[Y4,j2] at h;subst h;rfl
 | f+1,s,pos,p,e,h,d=>by
  have g:s.data.toList.length=s.size:=by rw[Array.length_toList];rfl
  unfold Y4 at h;rw[ah2] at h;by_cases a:pos<s.size
  ·rw[if_neg (by rw[<-p5,j6];omega)] at h;split at h
   ·cases h
   ·cases b:Y4 f (ad6 (ah0 s pos).2 (ad6 pos s.data.toList)) with
    | none=>rw[b] at h;cases h
    | some q=>
     rw[b] at h;simp only[x6,j2] at h;subst h;have i:=Lib.decode_width_pos s pos a;have c:pos+(ah0 s pos).2<=s.size:=by
      have:=am8 (s.data.toList.drop pos) (by rw[ne_eq,<-p5,j6];omega);rw[ah2,j6] at this;omega
     rw[am9] at b;unfold ak3;rw[if_pos a,NH f s _ q c b (by omega)];grind
  ·rw[if_pos (by rw[<-p5,j6];omega)] at h;simp only[j2] at h;subst h;rw[Lib.runeCountFrom_end s _ _ a];rfl
theorem IU{l:By}{p:List Nat}(h:Cr l=some p):ag1 l=p.length:=by
 unfold ag1 Lib.runeCount;have a:(ByteArray.mk l.toArray).size=l.length:=by simp[ByteArray.size]
 refine NH _ _ 0 p (Nat.zero_le _) ?_ (by omega);rw[a,j9];simpa[Cr] using h
open Lib in theorem Df6(n b a d e:Nat)(g:194<=b/\b<224)(f:a<256):decodeN n b a d e=if 2<=n/\128<=a/\a<=191 then ((b-192)*64+a-128,2) else (65533,1):=by
 unfold decodeN;rw[F9];by_cases c:2<=n/\128<=a/\a<=191
 ·rw[if_pos c,S6,S6];exact Prod.ext (by show b % 32*64+a % 64=(b-192)*64+a-128;omega) rfl
 ·rw[if_neg c,F9,F9,F9]
open Lib in theorem Df7(n c a b f:Nat)(i:224<=c/\c<240)(g:a<256)(h:b<256):decodeN n c a b f=if 3<=n/\(128<=a/\a<=191)/\(128<=b/\b<=191) then
  (if 2048<=((c-224)*64+a-128)*64+b-128/\U2 (((c-224)*64+a-128)*64+b-128)=true then (((c-224)*64+a-128)*64+b-128,3) else (65533,1)) else (65533,1):=by
 unfold decodeN;rw[F9,F9];by_cases d:3<=n/\(128<=a/\a<=191)/\(128<=b/\b<=191)
 ·rw[if_pos d,S6];have e:c % 16*4096+a % 64*64+b % 64=((c-224)*64+a-128)*64+b-128:=by omega
  rw[e];generalize ((c-224)*64+a-128)*64+b-128=v
  congr 1
  simp only[U2,p9,am4,y8,aj5];apply propext;omega
 ·rw[if_neg d,F9,F9]
open Lib in theorem Df8(n d a b c:Nat)(j:240<=d/\d<245)(g:a<256)(h:b<256)(i:c<256):decodeN n d a b c=if 4<=n/\(128<=a/\a<=191)/\(128<=b/\b<=191)/\(128<=c/\c<=191) then
  (if 65536<=(((d-240)*64+a-128)*64+b-128)*64+c-128/\U2 ((((d-240)*64+a-128)*64+b-128)*64+c-128)=true then ((((d-240)*64+a-128)*64+b-128)*64+c-128,4) else (65533,1)) else (65533,1):=by
 unfold decodeN;rw[F9,F9,F9];by_cases f:4<=n/\(128<=a/\a<=191)/\(128<=b/\b<=191)/\(128<=c/\c<=191)
 ·rw[if_pos f,S6];have e:d % 8*262144+a % 64*4096+b % 64*64+c % 64=(((d-240)*64+a-128)*64+b-128)*64+c-128:=by omega
  rw[e];generalize (((d-240)*64+a-128)*64+b-128)*64+c-128=v
  congr 1
  simp only[U2,p9,am4,y8,aj5];apply propext;omega
 ·rw[if_neg f,F9]
end
section
open Go Go.Proofs
theorem Ul(l:List Nat):V0 (l.map λn:Nat=>(n:Int))=Ch l:=by
 have b:(l.map λn:Nat=>(n:Int)).all ptI=l.all U2:=by
  rw[ak4]
  congr 1
 have c:(l.map λn:Nat=>(n:Int)).map j5=l:=by
  rw[ae9];exact(ab6 λa _=>by simp).trans (ai1 l)
 unfold V0;rw[s7,b,c];by_cases h:256<l.length
 ·rw[if_pos h];unfold Ch;rw[if_pos h]
 ·rw[if_neg h];cases d:l.all U2 with
  | true=>rw[if_pos rfl]
  | false=>
   rw[if_neg (by simp)];unfold Ch;grind
theorem Uj(l:List Nat):(B3 l).map elI=l.map λn:Nat=>(n:Int):=by unfold B3;rw[ae9];exact ab6 λa _=>rfl
theorem Cz(l:List Nat):(B3 l).all Mq=true:=by unfold B3;rw[ak4,y9];intro x _;rfl
theorem As4{R:Type}{a:Unit->Option R}{d:By->Bool->LL->Bool->Option R}(s:By)(z:Bool)(p:List Nat)(t:p.length<=1000000000):∀(r i n:Nat) (b:Bool),i+r=p.length->r<n->
  W7 LF n s z (B3 p) b (p.length:Int) (i:Int) a d=if (p.drop i).any (λp=>x9 65 p&&x9 p 90) then a () else d s z (B3 p) (b&&!((p.drop i).any λp=>x9 128 p)):=by
 intro r
 induction r with
 | zero=>
  intro i n b h j;obtain⟨n,rfl⟩:∃m,n=m+1:=⟨n-1,by omega⟩
  rw[W7];rw[A5,j1 (by omega)];simp
 | succ r k=>
  intro i n b h j;obtain⟨n,rfl⟩:∃m,n=m+1:=⟨n-1,by omega⟩
  rw[W7];have f:A1 ((i:Int)+1)=((i+1:Nat):Int):=by rw[A7];rfl
  have g:p.drop i=p.getD i 0::p.drop (i+1):=by
   rw[a8,j4 (by omega),v8,aa2]
  rw[A8,D1,E5,c9,Pw (by omega),Yy _ _ (by omega),g,aj0,aj0,f];simp only[cond_true,vl];generalize p.getD i 0=q;have go:∀c:Bool,W7 LF n s z (B3 p) c (p.length:Int) ((i+1:Nat):Int) a d=_:=λc=>k (i+1) n c (by omega) (by omega)
  by_cases l:q<65
  ·rw[A8,show x9 65 q=false by rw[aa1,ne_eq,y8];omega];have e:x9 128 q=false:=by rw[aa1,ne_eq,y8];omega
   rw[show ltI (q:Int) (128:Int)=true from A8,e];simp only[j0,cond_false,ah9,af2];cases b<;>simp only[cond_true,cond_false]<;>rw[go]
  ·rw[A5,show x9 65 q=true by rw[y8];omega];simp only[b8,cond_true,ad5];by_cases e:90<q
   ·rw[A8,show x9 q 90=false by rw[aa1,ne_eq,y8];omega];simp only[j0,cond_false,af2];by_cases o:q<128
    ·rw[show ltI (q:Int) (128:Int)=true from A8,show x9 128 q=false by rw[aa1,ne_eq,y8];omega];cases b<;>simp only[cond_true,cond_false,af2]<;>rw[go]
    ·rw[show ltI (q:Int) (128:Int)=false from A5,show x9 128 q=true by rw[y8];omega];cases b<;>simp only[cond_true,cond_false,Bool.true_or,j0,am6]<;>rw[go]<;>simp
   ·rw[A5,show x9 q 90=true by rw[y8];omega];simp
theorem Ao0:∀(m:Nat) (s:By) (a:List Nat) (n i b:Nat) (f:Bool),s.length<=m->a.length<=256->(G9 s a n i b f).1.length<=256:=by
 intro m
 induction m with
 | zero=>
  intro s a n i b f e d;obtain rfl:=p5.1 (Nat.le_zero.1 e);rw[Cf];exact d
 | succ m j=>
  intro s a n i b f e d;by_cases h:s=[]
  ·grind
  ·by_cases c:(D6 b s i 1 0).2.2=0
   ·rw[Dh h _ _ _ _ _ c];have g:=Pn b s i 1 0 c;split
    ·split
     ·grind
     ·rename_i k;exact j _ _ _ _ _ _ (by omega) (by rw[Ar];omega)
    grind
   ·rw[Ga h _ _ _ _ _ c];grind
theorem XM(s:By):(M9 s).1.length<=256:=by
 unfold M9;split
 ·grind
 ·split
  ·grind
  ·split
   ·grind
   ·rename_i h;exact Ao0 _ _ _ _ _ _ _ (af6 _) (by rw[s7,s8];omega)
theorem As5{R:Type}{a:Bool->Option R}(s:By)(b:A3 s.length=true):Bd7 LF s a=a (Dc s):=by
 have c:=C1;unfold Bd7 Dc;rw[b,cond_true];by_cases h:(M9 s).2=0
 ·have e:(((M9 s).2:Int)!=(0:Int))=false:=by rw[h];rfl
  rw[e,cond_false,Cp,D1,h];have i:=XM s;refine j7 (As4 s _ (M9 s).1 (by omega) (M9 s).1.length 0 LF true (by omega) (by omega)) ?_;rw[j9];cases d:(M9 s).1.any (λp=>x9 65 p&&x9 p 90) with
  | true=>simp
  | false=>
   rw[if_neg (by simp),Cz,Uj,Ul];simp only[cond_true,vl,ad5,b8];cases f:(M9 s).1.any (λp=>x9 128 p) with
   | false=>simp
   | true=>
    simp only[j0,b8,cond_true,ad4,beq_self_eq_true,ad5];by_cases g:(Ch (M9 s).1).2=0;all_goals grind
 grind
theorem Bn0{R:Type}{d:Unit->Option R}{e:By->Option R}(s:By)(w:s.length<=1000000000):∀(r i n:Nat),i+r=s.length->r<n->
  Q7 LF n s (s.length:Int) (i:Int) d e=if (s.drop i).all T2 then e s else d ():=by
 intro r
 induction r with
 | zero=>
  intro i n l c;obtain⟨n,rfl⟩:∃m,n=m+1:=⟨n-1,by omega⟩
  rw[Q7];rw[A5,j1 (by omega)];rfl
 | succ r o=>
  intro i n l c;obtain⟨n,rfl⟩:∃m,n=m+1:=⟨n-1,by omega⟩
  rw[Q7];have k:A1 ((i:Int)+1)=((i+1:Nat):Int):=by rw[A7];rfl
  rw[A8,E5,C9,D2 s i (by omega),k,ac8];simp only[cond_true];rw[o (i+1) n (by omega) (by omega)];generalize s.getD i 0=b;have j:=Oc b;have u:((b.toNat:Int)!=45) = !(b==45):=congrArg _ (P8 b 45 (by omega));have v:((b.toNat:Int)!=95) = !(b==95):=congrArg _ (P8 b 95 (by omega));rw[u,v];have t:∀{x:Bool},T2 b=x->(if (T2 b&&(s.drop (i+1)).all T2)=true then e s else d ())=if (x&&(s.drop (i+1)).all T2)=true then e s else d ():=λh=>by rw[h]
  cases a:T2 b with
  | true=>
   rw[j] at a;simp only[ad5];by_cases f:b=45
   ·subst f;simp (disch:=decide) [ltI]
   ·by_cases g:b=95
    ·subst g;simp (disch:=decide) [ltI]
    ·rcases a with a|a|a|a
     ·rw[show ltI (b.toNat:Int) 97=false from A5,show ltI (122:Int) b.toNat=false from A5];rfl
     ·rw[show ltI (b.toNat:Int) 97=true from A8,show ltI (b.toNat:Int) 48=false from A5,show ltI (57:Int) b.toNat=false from A5];rfl
     ·exact absurd a f
     ·exact absurd a g
  | false=>
   have c:¬((97<=b.toNat/\b.toNat<=122)\/(48<=b.toNat/\b.toNat<=57)\/b=45\/b=95):=λh=>by rw[j.2 h] at a;cases a
   have p:(b==45)=false:=by simpa using λh=>c (.inr (.inr (.inl h)))
   have q:(b==95)=false:=by simpa using λh=>c (.inr (.inr (.inr h)))
   rw[p,q];simp only[b8,cond_true,ah9,x4,if_false];by_cases f:b.toNat<48
   ·rw[show ltI (b.toNat:Int) 97=true from A8,show ltI (b.toNat:Int) 48=true from A8];rfl
   ·by_cases g:b.toNat<97
    ·rw[show ltI (b.toNat:Int) 97=true from A8,show ltI (b.toNat:Int) 48=false from A5,show ltI (57:Int) b.toNat=true from A8];rfl
    ·rw[show ltI (b.toNat:Int) 97=false from A5,show ltI (122:Int) b.toNat=true from A8,show ltI (b.toNat:Int) 48=false from A5,show ltI (57:Int) b.toNat=true from A8];rfl
theorem Bn1{R:Type}{a:Bool->Option R}(s:By)(b:A3 s.length=true):Cq3 LF s a=a (K6 s):=by
 have k:=L4 b;have h:=C1;unfold Cq3 K6;by_cases c:s=[]
 ·simp_all
 ·have o:0<s.length:=aa3.2 c;have j:s.isEmpty=false:=by simpa using c
  rw[A5,cond_false,j];by_cases m:63<s.length
  ·rw[A8,show x9 s.length 63=false by rw[aa1,ne_eq,y8];omega];rfl
  ·rw[A5,cond_false,show x9 s.length 63=true by rw[y8];omega,E5];have l:(bAt s 0==(45:Int))=(s.getD 0 0==45):=by rw[Z5];exact P8 _ 45 (by omega)
   have d:A1 ((s.length:Int)-1)=((s.length-1:Nat):Int):=by rw[A7];omega
   rw[l,d];simp only[cond_true,vl];rw[E5,C9,show((((s.getD (s.length-1) 0).toNat:Nat):Int)==45)=(s.getD (s.length-1) 0==45) from P8 _ 45 (by omega)];cases e:(s.getD 0 0==45) with
   | true=>
    grind
   | false=>
    rw[show(s.getD 0 0 !=45)=true by unfold bne;rw[e];rfl];simp only[cond_true,cond_false];cases f:(s.getD (s.length-1) 0==45) with
    | true=>
     grind
    | false=>
     rw[show(s.getD (s.length-1) 0 !=45)=true by unfold bne;rw[f];rfl];simp only[cond_false];refine j7 (Bn0 s k s.length 0 LF (by omega) (by omega)) ?_;rw[j9];cases n:s.all T2 with
     | false=>simp
     | true=>
      rw[if_pos rfl,b,cond_true];simp only[b8,ad5,ad4];show cond (!(xnB.isPrefixOf s)) _ _=_;cases g:xnB.isPrefixOf s with
      | false=>rfl
      | true=>
       have i:Fz s xnB=s.drop 4:=by unfold Fz;rw[g];rfl
       show cond (A3 (Fz s xnB).length) (a (Dc (Fz s xnB))) none=_;rw[i,E1 (by rw[j6];omega)];rfl
theorem Ao9(a:List Nat)(b:Nat)(F:a.length<=256)(A:b<=256)(d:∀p∈a,p<=1114111):∀(f n:Nat) (s:NV),s.done=a.countP (λp=>decide (p<n))->s.delta<=300->s.bias<=500->s.out.length+20*(a.length-s.done)<=80000->n<=1114112->
  (Q2 a b f n s).out.length<=80000:=by
 intro f;have z:=C1
 induction f with
 | zero=>intro n s C w q x y;unfold Q2;omega
 | succ f G=>
  intro n s C w q x y;have B:a.countP (λp=>decide (p<n))<=a.length:=aa7;by_cases h:s.done<a.length
  ·obtain⟨u,i,j⟩:=An6 (n:=n) (l:=a) (by omega);obtain⟨L,M,o⟩:=Dm n a 1114112;have N:=o u i j;have O:=d u i;have c:H3 n a 1114112∈a/\n<=H3 n a 1114112:=by grind
   have D:Q2 a b (f+1) n s=Q2 a b f (H3 n a 1114112+1) { H6 (H3 n a 1114112) b a { s with delta:=s.delta+(H3 n a 1114112-n)*(s.done+1) } with delta:=(H6 (H3 n a 1114112) b a { s with delta:=s.delta+(H3 n a 1114112-n)*(s.done+1) }).delta+1 }:=by
    rw[Q2,if_pos h]
   rw[D];generalize H3 n a 1114112=m at *;have t:(m-n)*(s.done+1)<=1114112*256:=ai3 (by omega) (by omega);have g:=Be8 false false a b m (by omega) F a.length 0 LF { s with delta:=s.delta+(m-n)*(s.done+1) } (by omega) (by omega) (by simp only;omega) q (by simp only;omega) (by simp only;omega) A;rw[j9] at g;obtain⟨_,H,I,J,K⟩:=g;have e:0<a.countP (· == m):=ai8.2 ⟨m,c.1,by simp⟩;rw[if_pos e] at K;have k:=Ub c.2 a o;generalize H6 m b a { s with delta:=s.delta+(m-n)*(s.done+1) } = v at *;simp only at I J;have r:a.countP (λp=>decide (p<m+1))<=a.length:=aa7;exact G (m+1) { v with delta:=v.delta+1 } (by simp only;omega) (by simp only;omega) H (by simp only;omega) (by omega)
  ·rw[Q2,if_neg h];omega
theorem XS(p:List Nat):(Ch p).1.length<=80000:=by
 unfold Ch;split
 ·grind
 ·rename_i h;split
  ·grind
  ·rename_i a;have d:∀q∈p,q<=1114111:=λq e=>by
    have a:p.all U2=true:=by simpa using a
    have:=y9.1 a q e;simp only[U2,p9,y8] at this;omega
   have b:=Rx p;have c:p.countP (λq=>decide (q<128))<=p.length:=aa7;refine Ao9 p _ (by omega) (by omega) d 256 128 _ b (by simp) (by simp) ?_ (by omega);grind
theorem TF{b:UInt8}(h:128<=b.toNat):Bk b=b:=by
 rcases T4 b with⟨_,e⟩|⟨_,e⟩|⟨_,a,_⟩
 all_goals omega
theorem TG{b:UInt8}(h:b.toNat<128):(Bk b).toNat<128:=by
 rcases T4 b with⟨_,e⟩|⟨_,e⟩|⟨_,a,e⟩
 all_goals grind
theorem Bj2(n:Nat)(a c d e:UInt8)(h:128<=a.toNat):am1 n a.toNat (Bk c).toNat (Bk d).toNat (Bk e).toNat=am1 n a.toNat c.toNat d.toNat e.toNat:=by
 have i:∀b:UInt8,b.toNat / 64=2->Bk b=b:=λb f=>TF (by omega)
 have j:∀b:UInt8,¬b.toNat / 64=2->¬(Bk b).toNat / 64=2:=λb f h=>by
  by_cases g:128<=b.toNat
  ·rw[TF g] at h;exact f h
  ·have:=TG (b:=b) (by omega);omega
 unfold am1;grind
theorem Cl6(l:By)(c:l≠[]):(x3 (B6 l)).2=(x3 l).2/\(¬((x3 l).1=65533/\(x3 l).2=1)->¬((x3 (B6 l)).1=65533/\(x3 (B6 l)).2=1)):=by
 cases l with
 | nil=>exact absurd rfl c
 | cons b t=>
  by_cases a:b.toNat<128
  ·have d:=ak1 b t a;have f:x3 (B6 (b::t))=((Bk b).toNat,1):=ak1 (Bk b) (B6 t) (TG a);rw[d,f];refine⟨rfl,λ_ h=>?_⟩;have:=TG a;omega
  ·have e:x3 (B6 (b::t))=x3 (b::t):=by
    rw[an3,an3,Ff,Ld,Ld,Ld,Ld];have e0:Bk ((b::t).getD 0 0)=b:=TF (b:=b) (show 128<=b.toNat by omega);rw[e0];exact Bj2 (b::t).length b ((b::t).getD 1 0) ((b::t).getD 2 0) ((b::t).getD 3 0) (show 128<=b.toNat by omega)
   grind
theorem MS:∀(f:Nat) (l:By),(Y4 f l).isSome=true->(Y4 f (B6 l)).isSome=true
 | 0,_,_=>rfl
 | f+1,l,h=>by
  unfold Y4 at h ⊢;by_cases a:l=[]
  ·subst a;rfl
  ·rw[if_neg a] at h;rw[if_neg (by rw[Bm7];exact a)];obtain⟨b,c⟩:=Cl6 l a;split at h
   ·cases h
   ·rename_i d;rw[if_neg (c d),ag7,b,As2];rw[ag7] at h;exact MS f _ h
theorem ZK{l:By}(h:(Cr l).isSome=true):(Cr (B6 l)).isSome=true:=by unfold Cr at h ⊢;rw[Ff];exact MS _ _ h
theorem Bm0(t:By)(C:t.length<=1000000000):∀(f pos:Nat) (P q:List Nat) (n:Nat),pos<=t.length->t.length-pos<=f->f<n->P.length<=pos->Y4 f (t.drop pos)=some q->
  ∃m,∀(R:Type) (h:LL->By->Nat->Option R),Ej LF n (B3 P) t pos h=h (B3 (P++q)) t m:=by
 intro f
 induction f with
 | zero=>
  intro pos P q n u v w x a;obtain⟨n,rfl⟩:∃m,n=m+1:=⟨n-1,by omega⟩
  simp only[Y4,j2] at a;subst a;refine⟨pos,λR h=>?_⟩;rw[Ej];rw[decide_eq_false (by omega),cond_false,w8]
 | succ f z=>
  intro pos P q n u v w x a;obtain⟨n,rfl⟩:∃m,n=m+1:=⟨n-1,by omega⟩
  by_cases l:pos<t.length
  ·have b:t.drop pos≠[]:=by rw[ne_eq,<-p5,j6];omega
   have y:=ah2 ⟨t.toArray⟩ pos;have i:ah0 ⟨ak7 t⟩ pos=x3 (t.drop pos):=by rw[<-y]
   unfold Y4 at a;rw[if_neg b] at a;split at a
   ·cases a
   ·have D:=ag6 (t.drop pos);have j:=am8 (t.drop pos) b;have B:=Lib.decodeL_rune (t.drop pos);rw[j6] at j;rw[am9] at a;generalize x3 (t.drop pos)=p at *;obtain⟨c,o⟩:=p;simp only at *;cases k:Y4 f (t.drop (pos+o)) with
    | none=>rw[k] at a;cases a
    | some A=>
     rw[k] at a;simp only[x6,j2] at a;subst a;obtain⟨m,e⟩:=z (pos+o) (P++[c]) A n (by omega) (by omega) (by omega) (by simp;omega) k;refine⟨m,λR h=>?_⟩;rw[Ej];rw[decide_eq_true l,cond_true,i,D1,F0 (by omega)];simp only[vl,cond_true];have r:A1 (c:Int)=(c:Int):=A7;have g:B3 P++[[SV.int .i64 (A1 (c:Int))]]=B3 (P++[c]):=by rw[r,Jr];rfl
     rw[g,e,w6];rfl
  ·have d:t.drop pos=[]:=by rw[<-p5,j6];omega
   unfold Y4 at a;rw[d,if_pos rfl] at a;simp only[j2] at a;subst a;refine⟨pos,λR h=>?_⟩;rw[Ej];rw[decide_eq_false l,cond_false,w8]
theorem Ar1(s:By)(i:A3 s.length=true):(∀(R:Type) (b:By->Int->Option R) (c:By->Int->LL->By->Nat->Option R),YR LF s b c=b (I5 s).1 ((I5 s).2:Nat))\/
  (∃l t m,∀(R:Type) (b:By->Int->Option R) (c:By->Int->LL->By->Nat->Option R),YR LF s b c=c (I5 s).1 ((I5 s).2:Nat) l t m):=by
 have x:=L4 i;have u:=C1;unfold I5;cases h:Cr s with
 | none=>
  refine .inl λR b c=>?_
  unfold YR;rw[i,h];rfl
 | some p=>
  have k:=IU h;have top:∀(R:Type) (b:By->Int->Option R) (c:By->Int->LL->By->Nat->Option R),YR LF s b c=cond (ltI 256 (p.length:Int)) (b [] 3) (cond (ltI (p.length:Int) (s.length:Int)) (Ej LF LF [] (B6 s) 0 (λa g f=>cond (ag2 a Mq)
      (cond (((V0 (ac0 elI a)).2:Int)!=(0:Int))
       (c ([]:List UInt8) 14 a g f)
       (cond (F3 4 (p4 ((V0 (ac0 elI a))).1))
        (cond (A3 (p4 (xnB++((V0 (ac0 elI a))).1)))
         (cond (not (K6 (xnB++((V0 (ac0 elI a))).1)))
         (c ([]:List UInt8) 14 a g f)
         (c (xnB++((V0 (ac0 elI a))).1) 0 a g f))
         (none))
        (none)))
      (none)))
     (cond (A3 (p4 (B6 s)))
      (cond (not (K6 (B6 s)))
      (b ([]:List UInt8) 14)
      (b (B6 s) 0))
      (none))):=by
   intro R b c;unfold YR;rw[i,h,k];rfl
  simp only;by_cases n:256<p.length
  ·rw[if_pos n];refine .inl λR b c=>?_
   rw[top,A8];rfl
  ·rw[if_neg n];by_cases o:p.length<s.length
   ·rw[if_pos o];have d:=ZK (l:=s) (by rw[h];rfl);cases r:Cr (B6 s) with
    | none=>rw[r] at d;cases d
    | some q=>
     have w:=Ff s;obtain⟨m,e⟩:=Bm0 (B6 s) (by omega) (B6 s).length 0 [] q LF (by omega) (by omega) (by omega) (by simp) (by rw[j9];exact r);refine .inr ⟨B3 q,B6 s,m,λR b c=>?_⟩;rw[top,A5,cond_false,A8,cond_true];refine j7 (e R _) ?_;have v:=XS q;rw[s9,Cz,Uj,Ul,cond_true,E6 (by omega),cond_true,E1 (by rw[y7];simp only[xnB,k9,aa4];omega),cond_true];simp only;by_cases j:(Ch q).2=0
     ·rw[j,if_pos rfl];cases y:K6 (xnB++(Ch q).1) with
      | true=>rfl
      | false=>rfl
     ·rw[if_neg j];have:(((Ch q).2:Int)!=(0:Int))=true:=by simpa using j
      rw[this];rfl
   ·rw[if_neg o];refine .inl λR b c=>?_
    rw[top,A5,cond_false,A5,cond_false,E1 (by rw[Ff];exact x),cond_true];cases K6 (B6 s)<;>rfl
theorem Cp3(s:By)(c:A3 s.length=true):∃r H,YR LF s (λa b=>rv (.tup [.s (.str a),.s (.int .i64 b)]) []) (λa b d f e=>rv (.tup [.s (.str a),.s (.int .i64 b)]) [.arr true 3 1 d,.iter f e])=rv r H/\
  r.stab [0,0] H = .tup [.s (.str (I5 s).1),.s (.int .i64 ((I5 s).2:Nat))]:=by
 rcases Ar1 s c with h|⟨l,t,m,h⟩
 ·exact⟨_,_,h _ _ _,rfl⟩
 ·exact⟨_,_,h _ _ _,rfl⟩
theorem Bk5{R:Type}{g:Int->Option R}(b:Int)(h:inR b 256=true):B45 LF b g=g (Eg (u8n b)):=by
 simp only[inR,p9,decide_eq_true_eq] at h;have j:b=((u8n b).toNat:Int):=by
  unfold u8n;simp;omega
 generalize u8n b=c at *;subst j;have i:=c.toNat_lt;unfold B45;simp only[Ux,Uw,vl,Eg];rcases Cg c with⟨d,f,e⟩|⟨d,f,e⟩|⟨d,f,e⟩|⟨d,f,o,e⟩
 ·have a:A1 (wu8 ((c.toNat:Int)-48))=((dig c:Nat):Int):=by
   rw[L6,A7];omega
  rw[S6];simp (disch:=omega) only[B5,E3,j0,b8,cond_false,cond_true,a]
 ·have a:A1 (A1 (wu8 ((c.toNat:Int)-97))+10)=((dig c:Nat):Int):=by
   rw[L6,C5 (n:=(c.toNat:Int)-97) (by omega) (by omega),A7];omega
  rw[S6];simp (disch:=omega) only[B5,E3,j0,b8,cond_false,cond_true,a]
 ·have a:A1 (A1 (wu8 ((c.toNat:Int)-65))+10)=((dig c:Nat):Int):=by
   rw[L6,C5 (n:=(c.toNat:Int)-65) (by omega) (by omega),A7];omega
  rw[S6];simp (disch:=omega) only[B5,E3,j0,b8,cond_false,cond_true,a]
 ·rw[e,if_neg (by decide)];by_cases k:c.toNat<48
  ·simp (disch:=omega) only[B5,E3,j0,b8,cond_false,cond_true]
  ·by_cases l:c.toNat<65
   ·simp (disch:=omega) only[B5,E3,j0,b8,cond_false,cond_true]
   ·by_cases m:c.toNat<97
    ·simp (disch:=omega) only[B5,E3,j0,b8,cond_false,cond_true]
    ·simp (disch:=omega) only[B5,E3,j0,b8,cond_false,cond_true]
theorem TX{b:UInt8}(r:By)(h:b≠37):R2 (b::r)=(R2 r).map (b::·):=by
 conv=>lhs;unfold R2
 grind
theorem IG(x y:UInt8)(r:By):R2 (37::x::y::r)=if dig x<16/\dig y<16 then (R2 r).map (ab3 (16*dig x+dig y)::·) else none:=by
 conv=>lhs;unfold R2
 grind
theorem XO(x:UInt8):ltI (Eg x) 0 = !(decide (dig x<16)):=by
 unfold Eg;by_cases h:dig x<16
 ·simp_all
 ·rw[if_neg h,A8,decide_eq_false h];rfl
theorem DA:∀(s t:By),R2 s=some t->t.length<=s.length
 | [],t,h=>by simp only[R2,j2] at h;subst h;exact af6 _
 | b::r,t,h=>by
  by_cases c:b=37
  ·subst c
   match r,h with
   | [],h=>cases h
   | [x],h=>cases h
   | x::y::d,h=>
    rw[IG] at h;split at h
    ·cases a:R2 d with
     | none=>rw[a] at h;cases h
     | some q=>
      rw[a] at h;simp only[x6,j2] at h;subst h;have:=DA d q a;simp only[k9];omega
    ·cases h
  ·rw[TX _ c] at h;cases a:R2 r with
   | none=>rw[a] at h;cases h
   | some q=>
    rw[a] at h;simp only[x6,j2] at h;subst h;have:=DA r q a;grind
theorem Bk4(s:By)(P:s.length<=1000000000):∀(m i n:Nat) (a:By),i<=s.length->s.length-i<=m->m<n->a.length<=i->
  (∀t,R2 (s.drop i)=some t->∀(R:Type) (c:LL->Option R) (d:LL->Option R),R4 LF n s (i:Int) (a.map D7) c d=d ((a++t).map D7))/\
  (R2 (s.drop i)=none->∃l,∀(R:Type) (c:LL->Option R) (d:LL->Option R),R4 LF n s (i:Int) (a.map D7) c d=c l):=by
 intro m
 induction m with
 | zero=>
  intro i n a J K L I;obtain⟨n,rfl⟩:∃m,n=m+1:=⟨n-1,by omega⟩
  rw[j1 (by omega)];refine⟨λt f R c d=>?_,λh=>(by cases h)⟩;simp only[R2,j2] at f;subst f;rw[R4];rw[A5,w8];rfl
 | succ m G=>
  intro i n a J K L I;obtain⟨n,rfl⟩:∃m,n=m+1:=⟨n-1,by omega⟩
  by_cases z:i<s.length
  ·have D:A1 ((i:Int)+1)=((i+1:Nat):Int):=by rw[A7];rfl
   have F:A1 ((i:Int)+2)=((i+2:Nat):Int):=by rw[A7];rfl
   have H:A1 (((i+2:Nat):Int)+1)=((i+3:Nat):Int):=by rw[A7];omega
   have p:(a.map D7).length=a.length:=s7 _;have v:∀b:UInt8,a.map D7++[[SV.int .u8 (b.toNat:Int)]]=(a++[b]).map D7:=λb=>by rw[af7];rfl
   have C:(((s.getD i 0).toNat:Int)!=37) = !(s.getD i 0==37):=congrArg _ (P8 _ 37 (by omega));rw[D2 s i z];by_cases g:s.getD i 0=37
   ·by_cases O:i+2<s.length
    ·rw[D2 s (i+1) (by omega),D2 s (i+1+1) (by omega),g,IG];obtain⟨A,B⟩:=G (i+3) n (a++[ab3 (16*dig (s.getD (i+1) 0)+dig (s.getD (i+2) 0))]) (by omega) (by omega) (by omega) (by simp;omega);have top:∀(R:Type) (c:LL->Option R) (d:LL->Option R),R4 LF (n+1) s (i:Int) (a.map D7) c d=cond (decide (dig (s.getD (i+1) 0)<16)&&decide (dig (s.getD (i+2) 0)<16)) (R4 LF n s ((i+3:Nat):Int) ((a++[ab3 (16*dig (s.getD (i+1) 0)+dig (s.getD (i+2) 0))]).map D7) c d) (c (a.map D7)):=by
      intro R c d;rw[R4];rw[A8,E5,C9,C,g,p,F,A8,D,E5,E5,C9,C9];simp only[cond_true,vl,j0,cond_false,beq_self_eq_true,VK,Ib,XO,F0 (show a.length+1<=68719476736 by omega),H];generalize s.getD (i+1) 0=x at *;generalize s.getD (i+2) 0=y at *;by_cases M:dig x<16
      ·by_cases N:dig y<16
       ·have w1:Eg x=(dig x:Int):=by unfold Eg;rw[if_pos M]
        have S:Eg y=(dig y:Int):=by unfold Eg;rw[if_pos N]
        have T:A1 ((16:Int)*(dig x:Int))=((16*dig x:Nat):Int):=by rw[A7];omega
        have U:A1 (((16*dig x:Nat):Int)+(dig y:Int))=((16*dig x+dig y:Nat):Int):=by rw[A7];omega
        have V:wu8 ((16*dig x+dig y:Nat):Int)=((ab3 (16*dig x+dig y)).toNat:Int):=by
         rw[L6];simp;omega
        grind
       grind
      grind
     by_cases o:dig (s.getD (i+1) 0)<16/\dig (s.getD (i+2) 0)<16
     ·rw[if_pos o];have w:(decide (dig (s.getD (i+1) 0)<16)&&decide (dig (s.getD (i+2) 0)<16))=true:=by rw[decide_eq_true o.1,decide_eq_true o.2];rfl
      refine⟨λt f R c d=>?_,λh=>?_⟩
      ·cases j:R2 (s.drop (i+3)) with
       | none=>rw[show i+1+1+1=i+3 from rfl,j] at f;cases f
       | some q=>
        rw[show i+1+1+1=i+3 from rfl,j] at f;simp only[x6,j2] at f;subst f;rw[top,w,cond_true,A q j,w6];rfl
      ·cases j:R2 (s.drop (i+3)) with
       | some q=>rw[show i+1+1+1=i+3 from rfl,j] at h;cases h
       | none=>
        obtain⟨l,e⟩:=B j;exact⟨l,λR c d=>by rw[top,w,cond_true,e]⟩
     ·rw[if_neg o];have w:(decide (dig (s.getD (i+1) 0)<16)&&decide (dig (s.getD (i+2) 0)<16))=false:=by grind
      exact⟨λt h=>(by cases h),λ_=>⟨_,λR c d=>by rw[top,w,cond_false]⟩⟩
    ·have k:R2 (s.getD i 0::s.drop (i+1))=none:=by
      rw[g];cases o:s.drop (i+1) with
      | nil=>rfl
      | cons x r=>
       cases r with
       | nil=>rfl
       | cons y Q=>
        exfalso;have:=congrArg p4 o;rw[j6,k9,k9] at this;omega
     rw[k];refine⟨λt h=>(by cases h),λ_=>⟨a.map D7,λR c d=>?_⟩⟩;rw[R4];rw[A8,E5,C9,C,g,F,A5];rfl
   ·rw[TX _ g];obtain⟨A,B⟩:=G (i+1) n (a++[s.getD i 0]) (by omega) (by omega) (by omega) (by simp;omega);have u:(s.getD i 0==37)=false:=by simpa using g
    have top:∀(R:Type) (c:LL->Option R) (d:LL->Option R),R4 LF (n+1) s (i:Int) (a.map D7) c d=R4 LF n s ((i+1:Nat):Int) ((a++[s.getD i 0]).map D7) c d:=by
     intro R c d;rw[R4];rw[A8,E5,C9,C,u,p,F0 (by omega),D,v];rfl
    refine⟨λt f R c d=>?_,λh=>?_⟩
    ·cases j:R2 (s.drop (i+1)) with
     | none=>rw[j] at f;cases f
     | some q=>
      rw[j] at f;simp only[x6,j2] at f;subst f;rw[top,A q j,w6];rfl
    ·cases j:R2 (s.drop (i+1)) with
     | some q=>rw[j] at h;cases h
     | none=>
      obtain⟨l,e⟩:=B j;exact⟨l,λR c d=>by rw[top,e]⟩
  ·rw[j1 (by omega)];refine⟨λt f R c d=>?_,λh=>(by cases h)⟩;simp only[R2,j2] at f;subst f;rw[R4];rw[A5,w8];rfl
theorem Cn6(s:By)(f:A3 s.length=true):∃r H,B44 LF s (λj k i=>rv (.tup [.s (.str j),.s (.bool k)]) [.arr false 5 1 i])=rv r H/\
  r.stab [0,0] H = .tup [.s (.str (En s)),.s (.bool (R2 s).isSome)]:=by
 have h:=L4 f;have g:=C1;have a:((decide ((0:Int)<=(s.length:Int)))&&(F7 (j5 (s.length:Int))))=true:=by
  rw[c9,F0 (by omega),decide_eq_true (by omega)];rfl
 obtain⟨c,d⟩:=Bk4 s h s.length 0 LF [] (by omega) (by omega) (by omega) (by simp);rw[j9] at c d;unfold En;cases b:R2 s with
 | none=>
  obtain⟨l,e⟩:=d b;refine⟨.tup [.s (.str []),.s (.bool false)],[.arr false 5 1 l],?_,rfl⟩;unfold B44;rw[a,cond_true];exact e _ _ _
 | some t=>
  refine⟨.tup [.s (.str t),.s (.bool true)],[.arr false 5 1 (t.map D7)],?_,rfl⟩;unfold B44;rw[a,cond_true];refine j7 (c t b _ _ _) ?_;rw[s9,V9,W8];rfl
abbrev Ql(i:Int)(j:By)(v4 a b c d e f g h:Int):List PV:=[.s (.int .i64 i),.s (.str j),.s (.int .u32 v4),.s (.int .u16 a),.s (.int .u16 b),.s (.int .u16 c),.s (.int .u16 d),.s (.int .u16 e),.s (.int .u16 f),.s (.int .u16 g),.s (.int .u16 h)]
def AW(h:B2):PV:=.agg [.s (.int .i64 (h.kind:Nat)),.s (.str h.name),.s (.int .u32 (h.v4:Nat)),.s (.int .u16 (h.v6.getD 0 0:Nat)),.s (.int .u16 (h.v6.getD 1 0:Nat)),.s (.int .u16 (h.v6.getD 2 0:Nat)),.s (.int .u16 (h.v6.getD 3 0:Nat)),.s (.int .u16 (h.v6.getD 4 0:Nat)),.s (.int .u16 (h.v6.getD 5 0:Nat)),.s (.int .u16 (h.v6.getD 6 0:Nat)),.s (.int .u16 (h.v6.getD 7 0:Nat))]
abbrev Df9:Int->Int->Int->Int->Int->Int->Int->Int->Int->Int->Int->LL->Option (PV × List Blk × Unit):=λj c d e f g h i r8 k b a=>rv (.tup [.agg (Ql j [] 0 c d e f g h i r8),.s (.int .i64 k)]) [.box (Ql b [] 0 c d e f g h i r8),.arr false 25 1 a]
abbrev Dc9:Unit->Option (PV × List Blk × Unit):=λ_=>rv (.tup [.agg (Ql 0 [] 0 0 0 0 0 0 0 0 0),.s (.int .i64 14)]) [.box (Ql 0 [] 0 0 0 0 0 0 0 0 0)]
theorem CW(s:By)(c:UInt8)(h:s≠[]):(s.getLast? = some c)↔s.getD (s.length-1) 0=c:=by have:0<s.length:=aa3.2 h;grind
theorem B43(s:By)(g:A3 s.length=true)(e:B50 s=true):∃r H,Bc5 LF s Df9 Dc9=rv r H/\r.stab [0,0] H = .tup [AW (P0 s).1,.s (.int .i64 ((P0 s).2:Nat))]:=by
 have m:=L4 g;have c:s≠[]:=by rintro rfl;cases e
 have l:0<s.length:=aa3.2 c;have i:s.getD 0 0=91:=by
  cases s with
  | nil=>exact absurd rfl c
  | cons b t=>
   simp only[B50,ae6,ad4,beq_iff_eq] at e;grind
 have f:A1 ((s.length:Int)-1)=((s.length-1:Nat):Int):=by rw[A7];omega
 have k:(((s.getD (s.length-1) 0).toNat:Int)==93)=(s.getD (s.length-1) 0==93):=P8 _ 93 (by omega);have bad:∃r H,Dc9 ()=rv r H/\r.stab [0,0] H = .tup [AW K4,.s (.int .i64 14)]:=⟨_,_,rfl,rfl⟩
 unfold Bc5 P0;simp only[vl,f];rw[E5,C9,k,cond_true];by_cases d:s.getD (s.length-1) 0=93
 ·have h:2<=s.length:=by grind
  rw[if_pos ⟨(CW s 93 c).2 d,h⟩,d,beq_self_eq_true,cond_true,show(1:Int)=((1:Nat):Int) from rfl,H9,cond_true,Ef];have j:((s.take (s.length-1)).drop 1).length<=s.length:=by rw[j6,s8];omega
  rw[N0,cond_true];unfold v6c;cases n:v6B ((s.take (s.length-1)).drop 1) with
  | none=>exact⟨_,_,rfl,rfl⟩
  | some a=>exact⟨_,_,rfl,rfl⟩
 grind
theorem Cd4(l:List By)(i:Nat)(y:By)(h:i<l.length):ai2 (D4 l) i (F8 ((D4 l).getD i []) 0 [SV.str y])=D4 (l.set i y):=by
 have e:(D4 l).getD i []=[SV.str (l.getD i [])]:=by
  unfold D4;grind
 rw[e];unfold D4;rw[List.map_set];rfl
theorem YG(N:Nat)(hN:N<=1000000001):∀(a:List By) (done:List By) (n:Nat),done.length+a.length=N->a.length<n->(∀x∈a,x.length<=1000000000)->
  ((F6 a).2=0->∀(R:Type) (b:Int->LL->Option R) (c:Nat->LL->Option R),R9 LF n N (N:Int) (done.length:Int) (D4 (done++a)) b c=c N (D4 (done++(F6 a).1)))/\
  ((F6 a).2≠0->∃l,∀(R:Type) (b:Int->LL->Option R) (c:Nat->LL->Option R),R9 LF n N (N:Int) (done.length:Int) (D4 (done++a)) b c=b ((F6 a).2:Nat) l):=by
 intro a
 induction a with
 | nil=>
  intro done n i o p;obtain⟨n,rfl⟩:∃m,n=m+1:=⟨n-1,by simp at o;omega⟩
  simp only[aa4] at i;refine⟨λ_ R b c=>?_,λh=>absurd rfl h⟩;rw[R9];rw[A5];rfl
 | cons x r z=>
  intro done n i o p;simp only[k9] at i o;obtain⟨n,rfl⟩:∃m,n=m+1:=⟨n-1,by omega⟩
  have v:A1 ((done.length:Int)+1)=((done.length+1:Nat):Int):=by rw[A7];rfl
  have q:(done++x::r).length=N:=by rw[y7,k9];omega
  have k:(done++x::r).getD done.length []=x:=by grind
  have f:∀y,(done++x::r).set done.length y=(done++[y])++r:=λy=>by grind
  have top:∀(R:Type) (b:Int->LL->Option R) (c:Nat->LL->Option R),R9 LF (n+1) N (N:Int) (done.length:Int) (D4 (done++x::r)) b c=cond (((I5 x).2:Int)!=0) (b ((I5 x).2:Nat) (D4 (done++x::r))) (R9 LF n N (N:Int) ((done.length+1:Nat):Int) (D4 ((done++[(I5 x).1])++r)) b c):=by
   intro R b c;rw[R9];rw[A8,E5,c9,ah4,Q8 (by omega),V5,k];simp only[vl,cond_true];rw[E1 (p x (by simp)),F5,decide_eq_true (show done.length<(done++x::r).length by omega),Cd4 _ _ _ (by omega),f,v];rfl
  unfold F6;obtain⟨t,u⟩:=z (done++[(I5 x).1]) n (by simp;omega) (by omega) (λy w=>p y (by simp[w]));have j:(done++[(I5 x).1]).length=done.length+1:=by simp
  rw[j] at t u;by_cases h:(I5 x).2=0
  ·rw[if_pos h];have g:(((I5 x).2:Int)!=0)=false:=by rw[h];rfl
   refine⟨λd R b c=>?_,λd=>?_⟩
   ·rw[top,g,cond_false,t d,w6];rfl
   ·obtain⟨l,e⟩:=u d;exact⟨l,λR b c=>by rw[top,g,cond_false,e]⟩
  ·rw[if_neg h];have g:(((I5 x).2:Int)!=0)=true:=by simpa using h
   exact⟨λd=>absurd d h,λ_=>⟨_,λR b c=>by rw[top,g,cond_true]⟩⟩
theorem TA(p:By)(m:Nat):∀l:List By,(∀x∈l,x.length<=m)->(ac3 l p).length<=(m+p.length)*l.length
 | [],_=>by simp[ac3]
 | [x],h=>by
  have:=h x (by simp);rw[show ac3 [x] p=x by simp[ac3,ao9]];grind
 | x::y::r,h=>by
  have b:=h x (by simp);have c:=TA p m (y::r) (λz a=>h z (by simp[a]));rw[HK,y7,y7,k9,Nat.mul_add,Nat.mul_one];omega
theorem QU(l:List By):(D4 l).all isS=true:=by unfold D4;rw[ak4,y9];intro x _;rfl
theorem Ce3(s:By):VH s [46]=I1 s:=by
 unfold VH I1;by_cases h:s.getLast? = some 46
 ·obtain⟨t,rfl⟩:=List.getLast?_eq_some_iff.1 h;grind
 ·rw[if_neg h,if_neg];rw[List.isSuffixOf_iff_suffix];rintro⟨t,a⟩;grind
abbrev Dd0:Int->By->Int->Int->Int->Int->Int->Int->Int->Int->Int->Int->Int->By->Int->Int->Int->Int->Int->Int->Int->Int->Int->Option (PV × List Blk × Unit):=λn o p q r t u v r8 w k l a m b c d e f g h i j=>rv (.tup [.agg (Ql n o p q r t u v r8 w k),.s (.int .i64 l)]) [.box (Ql a m b c d e f g h i j)]
abbrev Dd1:Int->By->Int->Int->By->LL->Option (PV × List Blk × Unit):=λc d e b f a=>rv (.tup [.agg (Ql c d 0 0 0 0 0 0 0 0 0),.s (.int .i64 e)]) [.box (Ql b f 0 0 0 0 0 0 0 0 0),.arr false 9 1 a]
theorem Bk9(s:By)(n:A3 s.length=true):∃r H,Zc LF s Dd0 Dd1=rv r H/\r.stab [0,0] H = .tup [AW (C6 s).1,.s (.int .i64 ((C6 s).2:Nat))]:=by
 have Q:=L4 n;have A:=C1;have bad:∀e:Nat,∃r H,Dd0 0 [] 0 0 0 0 0 0 0 0 0 (e:Int) 0 [] 0 0 0 0 0 0 0 0 0=rv r H/\r.stab [0,0] H = .tup [AW K4,.s (.int .i64 (e:Nat))]:=λe=>⟨_,_,rfl,rfl⟩
 have a:∀(e:Nat) (l:LL),∃r H,Dd1 0 [] (e:Int) 0 [] l=rv r H/\r.stab [0,0] H = .tup [AW K4,.s (.int .i64 (e:Nat))]:=λe l=>⟨_,_,rfl,rfl⟩
 by_cases i:1024<s.length
 ·have e:C6 s=(K4,3):=by unfold C6;rw[if_pos i]
  rw[e];unfold Zc;rw[A8,cond_true];exact bad 3
 ·have f:([91]:By).isPrefixOf s=decide (s.head? = some 91):=by
   cases s with
   | nil=>rfl
   | cons b t=>
    grind
  by_cases d:s.head? = some 91
  ·have j:([91]:By).isPrefixOf s=true:=by rw[f,decide_eq_true d]
   have e:C6 s=P0 s:=by unfold C6 P0;rw[if_neg i,if_pos d]<;>rfl
   rw[e];unfold Zc;rw[A5,cond_false,n,cond_true,j,cond_true,cond_true,show B50 s=true from j,cond_true];exact⟨_,_,rfl,rfl⟩
  ·have j:([91]:By).isPrefixOf s=false:=by rw[f,decide_eq_false d]
   unfold Zc;rw[A5,cond_false,n,cond_true,j,cond_false,cond_true];cases k:R2 s with
   | none=>
    have e:C6 s=(K4,14):=by unfold C6;rw[if_neg i,if_neg d,k]
    rw[e];exact bad 14
   | some t=>
    have L:t.length<=s.length:=DA s t k;have M:En s=t:=by unfold En;rw[k];rfl
    rw[M,N0];simp only[x5,j0,cond_false,cond_true,vl];rw[Ce3];have K:(I1 t).length<=t.length:=by unfold I1;split<;>simp
    have B:C6 s=if G0 (I1 t) then (match pnB (I1 t) with
      | some v=>(⟨2,[],v,z8⟩,0)
      | none=>(K4,14))
     else if (F6 (pcs 46 (I1 t))).2=0 then (
      let name:=ac3 (F6 (pcs 46 (I1 t))).1 [46]
      if 253<name.length then (K4,3) else if G0 name then (K4,14) else (⟨1,name,0,z8⟩,0))
     else (K4,(F6 (pcs 46 (I1 t))).2):=by
     unfold C6;rw[if_neg i,if_neg d,k];rfl
    rw[B];generalize I1 t=u at *;rw[N0,cond_true];cases O:G0 u with
    | true=>
     rw[if_pos rfl,cond_true,cond_true];cases P:pnB u with
     | none=>exact bad 14
     | some v=>exact⟨_,_,rfl,rfl⟩
    | false=>
     rw[if_neg (by simp),cond_false,cond_true,show((1:Nat)==1)=true from rfl,cond_true];have C:([46]:By).getD 0 0=46:=rfl;rw[C];have J:=Hp 46 u;have D:=Fy 46 u;obtain⟨w,y⟩:=YG (pcs 46 u).length (by omega) (pcs 46 u) [] LF (by simp) (by omega) (λx p=>by have:=(Db p).2;omega);rw[s9,aa4] at w y;by_cases g:(F6 (pcs 46 u)).2=0
     ·rw[if_pos g];obtain⟨z,N⟩:=Jf _ g;have G:=TA [46] 63 (F6 (pcs 46 u)).1 (λx p=>(Qk (z x p)).le);have F:∀{R:Type} (m:Int->LL->Option R) (h:Nat->LL->Option R),R9 LF LF (pcs 46 u).length ((pcs 46 u).length:Int) 0 (D4 (pcs 46 u)) m h=h (pcs 46 u).length (D4 (F6 (pcs 46 u)).1):=λm h=>w g _ m h
      rw[F];have hA:(F6 (pcs 46 u)).1.length<=1025:=by omega
      have o:ad0 (pcs 46 u).length (ad6 0 (D4 (F6 (pcs 46 u)).1))=D4 (F6 (pcs 46 u)).1:=by
       rw[j9,v7 (by rw[F5];omega)]
      have q:(63+([46]:By).length)*(F6 (pcs 46 u)).1.length<=64*1025:=ai3 (by simp) hA;rw[o,QU,XR,F5,N0,N0];simp only[cond_true];generalize ac3 (F6 (pcs 46 u)).1 [46]=name at *;by_cases c:253<name.length
      ·rw[if_pos c,A8,cond_true];exact a 3 _
      ·rw[if_neg c,A5,cond_false];cases I:G0 name with
       | true=>exact a 14 _
       | false=>exact⟨_,_,rfl,rfl⟩
     ·rw[if_neg g];obtain⟨l,e⟩:=y g;simp_all
end
end Go.Proofs.YtcfingekgbbclaaGreatDoor.E
