/-
  Parts of the proof, merged by a program of the prover's own; no condition.
-/
import Derived.Test.YtfkhfkjcidamaaaGreatDoorKMN3
import Derived.Lib.JoinLaws
import Derived.Lib.TrimAscii
import Derived.Lib.TrimUEq
import Derived.Lib.ValidLaws
import Derived.Shelf.LaysM
import Derived.Shelf.Small.Strs
import Derived.Shelf.Spec.SlicesInsert
import Derived.Shelf.Spec.SlicesInsertGrow
import Derived.Shelf.Spec.TrailingZeros
import Derived.Shelf.Strconv.Itoa3
import Derived.Shelf.Strings.Count
import Derived.Shelf.Strings.Cut
import Derived.Shelf.Strings.IndexAnyAll
import Derived.Shelf.Strings.OnBuilder
import Derived.Shelf.Strings.Search3
import Derived.Shelf.Unicode.ValidAny
import Derived.Shelf.Utf8.RuneCount
import Derived.Test.YtfkhfkjcidamaaaGreatDoorProg
open List renaming replicate->a8,getD_eq_getElem?_getD->b8,drop_of_length_le->j2,getElem?_eq_getElem->j5,length_eq_zero_iff->k9,length_drop->o0,length->o5,getD->o6,drop_zero->o7,length_map->p4,length_cons->p6,take_of_length_le->p7,append_assoc->x4,all_eq_true->x9,length_take->y5,map_congr_left->z7,append_nil->aa0,nil_append->aa1,countP_le_length->aa4,length_nil->ab2,length_pos_iff->ab5,all_cons->ab7,map->ab9,flatten->ac2,getElem_cons_drop->ac9,take->ad3,cons_append->ad8,drop->ad9,map_cons->ae3,mem_cons->ae4,isPrefixOf->ae6,length_append->ae8,mem_singleton->ae9,map_map->af4,mem_of_mem_drop->af9,mem_of_mem_take->ag0,map_append->ag1,all->ag6,take_zero->ag7,getLastD_eq_getLast?->ah0,map_id->ah4,countP_cons_of_neg->ai1,mem_append->ai5,take_append_drop->ai7,drop_drop->aj0,getLast?_append->aj1,countP_pos_iff->aj6,getD_cons_zero->aj7,replicate_succ->aj8,any_cons->aj9,map_drop->ak0,getElem?_map->al3,mem_map->al4,mem_of_head?->al5,set->al6,take_add_one->al7,toArray->al8,isEmpty_iff->am6,take_length->am7,append->an3,map_take->ao5,all_map->aq3,isEmpty->aq4,map_nil->aq5
open Bool renaming not_false->b9,not_true->j1,and_eq_true->j8,false_eq_true->p5,eq_false_iff->y9,true_and->ad2,and_true->ae2,false_or->af7,or_eq_true->ai4,false_and->ai8,not_eq_true'->ak7,and_false->an5
open Int renaming toNat_natCast->j0,toNat->j6,eq_ofNat_of_zero_le->j9,tdiv->ad6,add->ae5,tmod->ak8,mul_nonneg->an6
open Option.some renaming injEq->j4
open Eq renaming trans->j7
open Go.Lib renaming index->o8,decodeL->v7,decDigits->w6,cut->aa9,join->ab4,decDigits_one->af2,join_one->af3,runeCountL->ag5,decodeL_ascii->ah2,decodeL_width->ah3,decodeL_drop->ai0,deBruijn64tab->al0,firstTab->al1,runeCountFrom->al2,decodeN->an2,decodeL_le->an7,decodeL_N->ao3,join_cons->ao4,index_ge->ap9,join_nil->aq0,pow10Tab->aq1,validGoD->aq2
open Go.Proofs.Tryz renaming prog->o9,underlying3->p9,zeroValue3->w8,underlying4->x3,zeroValue4->x6,underlying5->y7,underlying9->y8,zeroValue5->aa2,zeroValue9->aa3,underlying0->aa6,underlying103->aa7,sizeOf3->ab0,zeroValue103->ab1,zeroValue0->ab3,sizeOf4->ab6,isAgg3->ab8,isAgg4->ac3,sizeOf5->ac4,sizeOf9->ac5,sizeOf103->ac6,isAgg5->ac7,isAgg9->ac8,sizeOf0->ad0,isAgg103->ad4,underlying24->ad5,isAgg0->ad7,zeroValue24->ae0,sizeOf24->af8,func187->ag2,func217->ag3,isAgg24->ag4,underlying167->ag8,underlying216->ag9,zeroValue167->ah6,zeroValue216->ah7,func188->ai2,func189->ai3,sizeOf167->aj3,sizeOf216->aj4,f180->aj5,isAgg167->ak1,isAgg216->ak2,underlying154->ak4,underlying249->ak5,underlying250->ak6,func152->am0,func190->am1,func218->am2,underlying20->am3,zeroValue154->am4,zeroValue249->am5,f181->am9,f220->an0,zeroValue20->an1,sizeOf154->ao0,sizeOf249->ao1,sizeOf250->ao2,isAgg154->ao6,isAgg249->ao7,isAgg250->ao8,sizeOf20->ao9,f104->ap0,f133->ap1,f141->ap2,f164->ap3,f198->ap4,f201->ap5,f214->ap6,f231->ap7,f236->ap8,func157->ar1,func179->ar2,func223->ar3,func248->ar4,func258->ar5,func259->ar6,isAgg20->ar7
open UInt8 renaming ofNat->v8,toNat_inj->an4,toNat->ar9
open Option renaming getD_some->w9,isSome_some->x8,map_some->ac1,isSome_none->af0,isSome_map->ah5,isSome->ah9,bind_some->am8
open Nat renaming ble->x5,ble_eq->x7,ble_eq_true_of_le->aa5,le_of_ble_eq_true->ac0,strongRecOn->ad1,div_le_self->ae7,le_refl->af1,pow_succ->af5,min_eq_left->ai6,mul_le_mul_right->aj2,blt_eq->ak3,le_trans->al9,mod_lt->an8,mul_le_mul->an9,add_zero->aq6,sub_self->aq7,zero_add->aq8
open Go.Shelf renaming Ren->aa8
open Classical renaming byContradiction->ae1
open Go.RowKit.Below renaming refl->af6
open Function renaming comp_def->ah1
open Go.Utf8 renaming decode->ah8
open Go.IntKind renaming u16->ai9,bits->ak9
open Ne renaming symm->aq9
open Go.RowKit renaming Below->ar0
open Go.Proofs.LaysM renaming n171->ar8
open Go.Proofs.Lays renaming n137->as0,n138->as1,n143->as2,n145->as3,n153->as4,n156->as5,n195->as6,n196->as7
open Go.Proofs.Lays2 renaming n21->as8
open Go.Proofs.Lays7 renaming n27->as9
namespace Go.Proofs.YtfkhfkjcidamaaaGreatDoor.E
set_option linter.all false
section
open Go Go.Proofs
theorem Dw2(a b:Nat)(c:a<65536)(d:b<65536):bOr .u16 (a:Int) (b:Int)=((a ||| b:Nat):Int):=by
 unfold bOr;rw[show ak9 .u16=16 from rfl,Dn1 16 a b (by omega) (by omega)];have:a ||| b<2 ^ 16:=Nat.or_lt_two_pow (by omega) (by omega)
 exact Qc
theorem Dy0(a m:Nat)(h:a*2 ^ m<65536)(b:m<=16):Rn .u16 (a:Int) (m:Int)=((a*2 ^ m:Nat):Int):=by
 unfold Rn;rw[j0,show ak9 .u16=16 from rfl,ai6 b];have:(a:Int)*2 ^ m=((a*2 ^ m:Nat):Int):=by simp
 rw[this];exact Qc
theorem Bh0(v d:Nat)(b:v<4096)(a:d<16):bOr .u16 (Rn .u16 (v:Int) 4) (d:Int)=((v*16+d:Nat):Int):=by have:=Dy0 v 4 (by omega) (by omega);rw[show((4:Nat):Int)=4 from rfl] at this;rw[this,Dw2 _ _ (by omega) (by omega),FC v d 4 (by omega)]
theorem Ci3{R:Type}{c:Unit->Option R}{f:Int->Option R}(s:By)(B:s.length<=4):∀(r i v n:Nat),i+r=s.length->r<n->v<16 ^ i->
  Fj LF n s (v:Int) (s.length:Int) (i:Int) c f=match Ab v (s.drop i) with|some w=>f (w:Int)|none=>c ():=by
 intro r
 induction r with
 | zero=>
  intro i v n l o p;obtain⟨n,rfl⟩:∃m,n=m+1:=⟨n-1,by omega⟩
  rw[Fj];rw[A6,j2 (by omega)];rfl
 | succ r q=>
  intro i v n l o p;obtain⟨n,rfl⟩:∃m,n=m+1:=⟨n-1,by omega⟩
  rw[Fj,D4 s i (by omega)];rw[D3];have k:=(s.getD i 0).toNat_lt;generalize s.getD i 0=b at *;have j:((i:Int)+1)=((i+1:Nat):Int):=by omega
  have A:16 ^ i<=4096:=by
   have:i=0\/i=1\/i=2\/i=3:=by omega
   rcases this with rfl|rfl|rfl|rfl<;>decide
  simp (disch:=omega) only[B8,M0,cond_true,vl,C9,Wa,Vz,Vy];rw[j];simp only[Ab];have go:∀d:Nat,d<16->Fj LF n s ((v*16+d:Nat):Int) (s.length:Int) ((i+1:Nat):Int) c f=match Ab (v*16+d) (s.drop (i+1)) with|some w=>f (w:Int)|none=>c ():=
   λd z=>q (i+1) _ n (by omega) (by omega) (by rw[af5];omega)
  rcases Df b with⟨g,h,e⟩|⟨g,h,e⟩|⟨g,h,e⟩|⟨g,h,y,e⟩
  ·have a:Nj (wu8 ((b.toNat:Int)-48))=((dig b:Nat):Int):=by rw[M7,Qc];omega
   simp (disch:=omega) only[B8,E2,j1,b9,cond_false,cond_true,a,Bh0,if_pos (show dig b<16 by omega)];exact go _ (by omega)
  ·have a:Nj (wu8 (wu8 ((b.toNat:Int)-97)+10))=((dig b:Nat):Int):=by rw[ZD (n:=(b.toNat:Int)-97) (by omega) (by omega),M7,Qc];omega
   simp (disch:=omega) only[B8,E2,j1,b9,cond_false,cond_true,a,Bh0,if_pos (show dig b<16 by omega)];exact go _ (by omega)
  ·have a:Nj (wu8 (wu8 ((b.toNat:Int)-65)+10))=((dig b:Nat):Int):=by rw[ZD (n:=(b.toNat:Int)-65) (by omega) (by omega),M7,Qc];omega
   simp (disch:=omega) only[B8,E2,j1,b9,cond_false,cond_true,a,Bh0,if_pos (show dig b<16 by omega)];exact go _ (by omega)
  ·rw[if_neg (show ¬dig b<16 by omega)];by_cases t:b.toNat<48
   ·simp (disch:=omega) only[B8,E2,j1,b9,cond_false,cond_true]
   ·by_cases u:b.toNat<65
    ·simp (disch:=omega) only[B8,E2,j1,b9,cond_false,cond_true]
    ·by_cases x:b.toNat<97
     ·simp (disch:=omega) only[B8,E2,j1,b9,cond_false,cond_true]
     ·simp (disch:=omega) only[B8,E2,j1,b9,cond_false,cond_true]
theorem Bx2{R:Type}{c:Int->Bool->Option R}(s:By)(d:A3 s.length=true):Ci5 LF s c=c (N5 (grp s):Int) (grp s).isSome:=by
 have:=C7;unfold Ci5 grp;by_cases a:s=[]
 ·subst a;rfl
 ·rw[show(s==([]:By))=false from beq_eq_false_iff_ne.2 a];by_cases b:4<s.length
  ·rw[A8,if_pos (.inr b)];rfl
  ·rw[A6,if_neg (by intro h;rcases h with h|h;exact a h;exact b h)];refine j7 (Ci3 s (by omega) s.length 0 0 LF (by omega) (by omega) (by decide)) ?_;rw[o7];cases Ab 0 s<;>rfl
theorem Ae1:∀(s:By) (v w m:Nat),v<16 ^ m->Ab v s=some w->w<16 ^ (m+s.length)
 | [],v,w,m,a,h=>by simp only[Ab,j4] at h;subst h;simpa using a
 | b::r,v,w,m,a,h=>by
  simp only[Ab] at h;split at h
  ·have:=Ae1 r (v*16+dig b) w (m+1) (by rw[af5];omega) h;grind
  ·cases h
theorem Ci4{s:By}{v:Nat}(h:grp s=some v):v<65536:=by
 unfold grp at h;split at h
 ·cases h
 ·rename_i a;have:=Ae1 s 0 v 0 (by decide) h;have b:s.length<=4:=by omega
  have:16 ^ (0+s.length)<=16 ^ 4:=Nat.pow_le_pow_right (by omega) (by omega);omega
theorem B38{R:Type}{c:Unit->Option R}{f:Int->Option R}(s:By)(B:s.length<=4):∀(r i v n:Nat),i+r=s.length->r<n->v<16 ^ i->
  Ft LF n s (v:Int) (i:Int) c f=match Ab v (s.drop i) with|some w=>f (w:Int)|none=>c ():=by
 intro r
 induction r with
 | zero=>
  intro i v n l o p;obtain⟨n,rfl⟩:∃m,n=m+1:=⟨n-1,by omega⟩
  rw[Ft];rw[A6,j2 (by omega)];rfl
 | succ r q=>
  intro i v n l o p;obtain⟨n,rfl⟩:∃m,n=m+1:=⟨n-1,by omega⟩
  rw[Ft,D4 s i (by omega)];rw[D3];have k:=(s.getD i 0).toNat_lt;generalize s.getD i 0=b at *;have j:((i:Int)+1)=((i+1:Nat):Int):=by omega
  have A:16 ^ i<=4096:=by
   have:i=0\/i=1\/i=2\/i=3:=by omega
   rcases this with rfl|rfl|rfl|rfl<;>decide
  simp (disch:=omega) only[B8,M0,cond_true,vl,C9,Xf,Xe,Xd];rw[j];simp only[Ab];have go:∀d:Nat,d<16->Ft LF n s ((v*16+d:Nat):Int) ((i+1:Nat):Int) c f=match Ab (v*16+d) (s.drop (i+1)) with|some w=>f (w:Int)|none=>c ():=
   λd z=>q (i+1) _ n (by omega) (by omega) (by rw[af5];omega)
  rcases Df b with⟨g,h,e⟩|⟨g,h,e⟩|⟨g,h,e⟩|⟨g,h,y,e⟩
  ·have a:wu8 ((b.toNat:Int)-48)=(b.toNat:Int)-48:=M7;simp (disch:=omega) only[B8,E2,j1,b9,cond_false,cond_true,a,C9,if_pos (show dig b<16 by omega)];rw[show(v:Int)*16+((b.toNat:Int)-48)=((v*16+dig b:Nat):Int) by omega];exact go _ (by omega)
  ·have a:wu8 ((b.toNat:Int)-97)=(b.toNat:Int)-97:=M7;simp (disch:=omega) only[B8,E2,j1,b9,cond_false,cond_true,a,C9,if_pos (show dig b<16 by omega)];rw[show(v:Int)*16+((b.toNat:Int)-97)+10=((v*16+dig b:Nat):Int) by omega];exact go _ (by omega)
  ·have a:wu8 ((b.toNat:Int)-65)=(b.toNat:Int)-65:=M7;simp (disch:=omega) only[B8,E2,j1,b9,cond_false,cond_true,a,C9,if_pos (show dig b<16 by omega)];rw[show(v:Int)*16+((b.toNat:Int)-65)+10=((v*16+dig b:Nat):Int) by omega];exact go _ (by omega)
  ·rw[if_neg (show ¬dig b<16 by omega)];by_cases t:b.toNat<48
   ·simp (disch:=omega) only[B8,E2,j1,b9,cond_false,cond_true]
   ·by_cases u:b.toNat<65
    ·simp (disch:=omega) only[B8,E2,j1,b9,cond_false,cond_true]
    ·by_cases x:b.toNat<97
     ·simp (disch:=omega) only[B8,E2,j1,b9,cond_false,cond_true]
     ·simp (disch:=omega) only[B8,E2,j1,b9,cond_false,cond_true]
theorem B39{R:Type}{b:Int->Bool->Option R}(s:By)(f:A3 s.length=true):Cp0 LF s b=b (N5 (grp s):Int) (grp s).isSome:=by
 have:=C7;unfold Cp0;by_cases a:s=[]
 ·subst a;rfl
 ·have g:0<s.length:=ab5.2 a;rw[A6];by_cases c:4<s.length
  ·rw[A8];unfold grp;rw[if_pos (.inr c)];rfl
  ·rw[A6];refine j7 (B38 s (by omega) s.length 0 0 LF (by omega) (by omega) (by decide)) ?_;have e:grp s=Ab 0 s:=by
    unfold grp;grind
   rw[o7,<-e];cases d:grp s with
   | none=>rfl
   | some w=>
    have:=Ci4 d;simp only[N5,w9,x8];rw[Qc]
theorem I1(l:List Nat):(D8 l).length=l.length:=by simp[D8]
theorem Lg(a b:List Nat):D8 (a++b)=D8 a++D8 b:=by simp[D8]
theorem Ye(l:List Nat):(D8 l).isEmpty=l.isEmpty:=by cases l<;>rfl
theorem Ww{l:List Nat}{i:Nat}(h:i<l.length):okE ⟨true,false,[.int .u16]⟩ (D8 l) i 0=true:=by unfold okE D8;simp[b8,h,okS,SV.has]
theorem JI(l:List Nat)(i:Nat):gE (D8 l) i 0=(l.getD i 0:Int):=by
 unfold gE gC D8;by_cases h:i<l.length
 ·simp[b8,j5 h,SV.gI]
 ·simp[b8,List.getElem?_eq_none (show l.length<=i by omega),SV.gI]
theorem Kn:∀(last:Bool) (l:List By) (r:List Nat),Cs last l=some r->r.length<=2*l.length
 | last,[],r,h=>by simp only[Cs,j4] at h;subst h;simp
 | last,x::l,r,h=>by
  simp only[Cs] at h;split at h
  ·cases a:Cs last l with
   | none=>simp[a] at h
   | some q=>
    simp only[a,ac1,j4] at h;subst h;have:=Kn last l q a;grind
  grind
theorem Bi7{s:By}{v:Nat}(h:v4B s=some v):v<4294967296:=by
 unfold v4B at h;split at h
 ·rename_i a;have:=Br0 (pcs 46 s) 0 v 0 (by decide) h;grind
 ·cases h
theorem Bo5:∀(last:Bool) (l:List By) (r:List Nat),Cs last l=some r->∀x∈r,x<65536
 | last,[],r,h,x,a=>by simp only[Cs,j4] at h;subst h;simp at a
 | last,y::l,r,h,x,a=>by
  simp only[Cs] at h;split at h
  ·rename_i v c;cases b:Cs last l with
   | none=>simp[b] at h
   | some q=>
    simp only[b,ac1,j4] at h;subst h;rcases ae4.1 a with rfl|a
    ·exact Ci4 c
    ·exact Bo5 last l q b x a
  ·split at h
   ·rename_i v c;split at h
    ·simp only[j4] at h;subst h;have:=Bi7 c;grind
    grind
   ·cases h
theorem A10{R:Type}{k0:LL->Option R}{k1:LL->Option R}(last:Bool)(l:List By)(C:l.length<=1000000001)(w:∀x∈l,x.length<=1000000000):∀(r i n:Nat) (d:List Nat),i+r=l.length->r<n->d.length<=2*i->
  (∀q,Cs last (l.drop i)=some q->Ek LF n last (D2 l) (l.length:Int) (i:Int) (D8 d) k0 k1=k1 (D8 (d++q)))/\
  (Cs last (l.drop i)=none->∃k,Ek LF n last (D2 l) (l.length:Int) (i:Int) (D8 d) k0 k1=k0 k):=by
 intro r
 induction r with
 | zero=>
  intro i n d u y t;obtain⟨n,rfl⟩:∃m,n=m+1:=⟨n-1,by omega⟩
  rw[Ek,j2 (by omega)];rw[A6];refine⟨λq a=>?_,λh=>(by cases h)⟩;simp only[Cs,j4] at a;subst a;simp
 | succ r B=>
  intro i n d u y t;obtain⟨n,rfl⟩:∃m,n=m+1:=⟨n-1,by omega⟩
  rw[Ek,Jt l i (by omega)];have G:=w _ (PP (show i<l.length by omega));have f:((i:Int)+1)=((i+1:Nat):Int):=by omega
  simp (disch:=omega) only[B8,F0,M0,cond_true,j0,R2,U7,E1,vl,I1,F4,C9];rw[f];simp only[Cs];cases D:grp (l.getD i []) with
  | some v=>
   simp only[x8,cond_true,N5,w9];have c:D8 d++[[SV.int .u16 (v:Int)]]=D8 (d++[v]):=by rw[Lg];rfl
   rw[c];have:=B (i+1) n (d++[v]) (by omega) (by omega) (by simp<;>omega);refine⟨λq a=>?_,λh=>?_⟩
   ·cases b:Cs last (l.drop (i+1)) with
    | none=>simp[b] at a
    | some j=>
     simp only[b,ac1,j4] at a;subst a;rw[this.1 j b];simp
   ·cases b:Cs last (l.drop (i+1)) with
    | none=>exact this.2 b
    | some j=>simp[b] at h
  | none=>
   simp only[af0,cond_false];cases z:v4B (l.getD i []) with
   | none=>
    simp only[af0,b9,cond_true];exact⟨λq a=>(by cases a),λ_=>⟨_,rfl⟩⟩
   | some v=>
    have A:=Bi7 z;simp only[x8,j1,cond_false,N5,w9];cases last with
    | false=>
     simp only[b9,cond_true,p5,false_and,if_false];exact⟨λq a=>(by cases a),λ_=>⟨_,rfl⟩⟩
    | true=>
     simp only[j1,cond_false,true_and];by_cases F:r=0
     ·have e:l.drop (i+1)=[]:=j2 (by omega);rw[A6,e,if_pos rfl,show(16:Int)=((16:Nat):Int) from rfl,YC .u32 v 16 (by decide)];refine⟨λq a=>?_,λh=>(by cases h)⟩;simp only[j4] at a;subst a;have o:Nj ((v / 2 ^ 16:Nat):Int)=((v / 65536:Nat):Int):=Qc;have p:Nj (v:Int)=((v % 65536:Nat):Int):=Ar3 v;rw[o,p,Lg];rfl
     ·have g:l.drop (i+1)≠[]:=by
       rw[Jt l (i+1) (by omega)];simp
      rw[A8,if_neg g];exact⟨λq a=>(by cases a),λ_=>⟨_,rfl⟩⟩
theorem Z6(c:UInt8){s:By}(a:s.length<=1000000000):(pcs c s).length<=1000000001:=by have:=Iy c s;grind
theorem A11(s:By)(last:Bool)(f:A3 s.length=true):∃r H,Bo6 LF s last (λl=>rv (.tup [.fl 0,.s (.bool true)]) [.arr true 25 1 l]) (λl=>rv (.tup [.fl 1,.s (.bool false)]) [.arr true 25 1 l,.arr true 25 1 []])=rv r H/\
  r.stab [1,0] H = .tup [.s (.sl (gvs s last).isEmpty (gvs s last).isEmpty 1 (D8 (gvs s last))),.s (.bool (P2 s last).isSome)]:=by
 have d:=L3 f;have:=C7;unfold Bo6 gvs P2;by_cases c:s=[]
 ·subst c;exact⟨_,_,rfl,rfl⟩
 ·rw[show(s==([]:By))=false from beq_eq_false_iff_ne.2 c,f,if_neg c];simp only[cond_false,cond_true,vl,aj7,F0,show((1:Nat)==1)=true from rfl];obtain⟨a,b⟩:=A10 (k0:=λl=>rv (.tup [.fl 1,.s (.bool false)]) [.arr true 25 1 l,.arr true 25 1 []]) (k1:=λl=>rv (.tup [.fl 0,.s (.bool true)]) [.arr true 25 1 l]) last (pcs 58 s) (Z6 58 d) (λx h=>al9 (Ck h).2 d) (pcs 58 s).length 0 LF [] (by omega) (by have:=Z6 58 d;omega) (by simp);rw[o7] at a b;cases g:Cs last (pcs 58 s) with
  | some q=>
   refine⟨_,_,a q g,?_⟩;simp[PV.stab,Oy,Rl,PV.snap,M6,Ye]
  | none=>
   obtain⟨i,e⟩:=b g;refine⟨_,_,e,?_⟩;simp[PV.stab,Oy,Rl,PV.snap,M6,D8]
theorem JJ:∀(s:By) (v:Nat) (b:UInt8),b∈s->16<=dig b->Ab v s=none
 | c::r,v,b,h,a=>by
  simp only[Ab];rcases ae4.1 h with rfl|h
  ·grind
  ·split
   ·exact JJ r _ b h a
   ·rfl
theorem Bi8{s:By}{v:Nat}(h:v4B s=some v):grp s=none:=by
 unfold v4B at h;split at h
 ·rename_i a;have b:(46:UInt8)∈s:=by
   apply ae1;intro c;rw[Ku c] at a;simp at a
  unfold grp;split
  ·rfl
  ·exact JJ s 0 46 b (by decide)
 ·cases h
theorem Ba0{R:Type}{k0:LL->Option R}{k1:LL->Option R}(last:Bool)(l:List By)(I:l.length<=1000000001)(D:∀x∈l,x.length<=1000000000):∀(r i n:Nat) (d:List Nat),i+r=l.length->r<n->d.length<=2*i->
  (∀q,Cs last (l.drop i)=some q->R4 LF n last (D2 l) (i:Int) (D8 d) k0 k1=k1 (D8 (d++q)))/\
  (Cs last (l.drop i)=none->∃k,R4 LF n last (D2 l) (i:Int) (D8 d) k0 k1=k0 k):=by
 intro r
 induction r with
 | zero=>
  intro i n d C F B;obtain⟨n,rfl⟩:∃m,n=m+1:=⟨n-1,by omega⟩
  rw[R4,j2 (by omega)];rw[F0,A6];refine⟨λq a=>?_,λh=>(by cases h)⟩;simp only[Cs,j4] at a;subst a;simp
 | succ r y=>
  intro i n d C F B;obtain⟨n,rfl⟩:∃m,n=m+1:=⟨n-1,by omega⟩
  rw[R4,Jt l i (by omega)];have L:=D _ (PP (show i<l.length by omega));have t:((i:Int)+1)=((i+1:Nat):Int):=by omega
  have w:A1 ((l.length:Int)-1)=((l.length-1:Nat):Int):=by rw[A7];omega
  simp (disch:=omega) only[B8,F0,M0,cond_true,j0,R2,U7,E1,vl,Kv,Kw,I1,F4,C9,cond_false];rw[t];simp only[Cs];have e:∀(f:v4B (l.getD i [])=none\/(last=false\/l.drop (i+1)≠[])),
    (∀q,(match grp (l.getD i []) with|some v=>(Cs last (l.drop (i+1))).map (v::·)|none=>match v4B (l.getD i []) with|some v=>if last=true/\l.drop (i+1)=[] then some [v / 65536,v % 65536] else none|none=>none)=some q->
     (cond (!(grp (l.getD i [])).isSome) (k0 (D8 d)) (R4 LF n last (D2 l) ((i+1:Nat):Int) (D8 d++[[SV.int .u16 (N5 (grp (l.getD i [])):Int)]]) k0 k1))=k1 (D8 (d++q)))/\
    ((match grp (l.getD i []) with|some v=>(Cs last (l.drop (i+1))).map (v::·)|none=>match v4B (l.getD i []) with|some v=>if last=true/\l.drop (i+1)=[] then some [v / 65536,v % 65536] else none|none=>none)=none->
     ∃k,(cond (!(grp (l.getD i [])).isSome) (k0 (D8 d)) (R4 LF n last (D2 l) ((i+1:Nat):Int) (D8 d++[[SV.int .u16 (N5 (grp (l.getD i [])):Int)]]) k0 k1))=k0 k):=by
   intro f;cases J:grp (l.getD i []) with
   | some v=>
    simp only[x8,j1,cond_false,N5,w9];have c:D8 d++[[SV.int .u16 (v:Int)]]=D8 (d++[v]):=by rw[Lg];rfl
    rw[c];have:=y (i+1) n (d++[v]) (by omega) (by omega) (by simp<;>omega);refine⟨λq a=>?_,λh=>?_⟩
    ·cases b:Cs last (l.drop (i+1)) with
     | none=>simp[b] at a
     | some z=>
      simp only[b,ac1,j4] at a;subst a;rw[this.1 z b];simp
    ·cases b:Cs last (l.drop (i+1)) with
     | none=>exact this.2 b
     | some z=>simp[b] at h
   | none=>
    simp only[af0,b9,cond_true];refine⟨λq a=>?_,λ_=>⟨_,rfl⟩⟩;exfalso;cases g:v4B (l.getD i []) with
    | none=>rw[g] at a;cases a
    | some v=>
     rw[g] at a;rcases f with h|h|h
     ·rw[g] at h;cases h
     ·simp only[h,p5,false_and,if_false] at a;cases a
     ·simp only[if_neg (λhc:last=true/\l.drop (i+1)=[]=>h hc.2)] at a;cases a
  cases f:v4B (l.getD i []) with
  | none=>
   simp only[af0,cond_false];have:=e (.inl f);simp only[f] at this;exact this
  | some v=>
   have H:=Bi7 f;have p:=Bi8 f;simp only[x8,cond_true,N5,w9];cases last with
   | false=>
    simp only[cond_false];have:=e (.inr (.inl rfl));simp only[f,N5] at this;exact this
   | true=>
    simp only[cond_true];by_cases K:r=0
    ·have j:l.drop (i+1)=[]:=j2 (by omega);have o:((i:Int)==(l.length:Int)-1)=true:=by rw[beq_iff_eq];omega
     rw[o,p,j];simp only[cond_true,and_self,if_true,j4];refine⟨λq a=>?_,λh=>(by cases h)⟩;subst a;rw[show(16:Int)=((16:Nat):Int) from rfl,YC .u32 v 16 (by decide)];have w:Nj ((v / 2 ^ 16:Nat):Int)=((v / 65536:Nat):Int):=Qc;have A:Nj (v:Int)=((v % 65536:Nat):Int):=Ar3 v;rw[w,A];have c:D8 d++[[SV.int .u16 ((v / 65536:Nat):Int)],[SV.int .u16 ((v % 65536:Nat):Int)]]=D8 (d++[v / 65536,v % 65536]):=by rw[Lg];rfl
     rw[c];have G:0<n:=by omega
     exact(y (i+1) n (d++[v / 65536,v % 65536]) (by omega) (by omega) (by simp<;>omega)).1 [] (by rw[j];rfl) |>.trans (by simp)
    ·have u:l.drop (i+1)≠[]:=by
      rw[Jt l (i+1) (by omega)];simp
     have o:((i:Int)==(l.length:Int)-1)=false:=by rw[beq_eq_false_iff_ne];omega
     rw[o];simp only[cond_false];have:=e (.inr (.inr u));simp only[f,N5] at this;exact this
theorem Ba1(s:By)(last:Bool)(f:A3 s.length=true):∃r H,Aj4 LF s last (λl=>rv (.tup [.fl 0,.s (.bool true)]) [.arr true 25 1 l]) (λl=>rv (.tup [.fl 1,.s (.bool false)]) [.arr true 25 1 l,.arr true 25 1 []])=rv r H/\
  r.stab [1,0] H = .tup [.s (.sl (gvs s last).isEmpty (gvs s last).isEmpty 1 (D8 (gvs s last))),.s (.bool (P2 s last).isSome)]:=by
 have d:=L3 f;have:=C7;unfold Aj4 gvs P2;by_cases c:s=[]
 ·subst c;exact⟨_,_,rfl,rfl⟩
 ·rw[show(s==([]:By))=false from beq_eq_false_iff_ne.2 c,f,if_neg c];simp only[cond_false,cond_true,vl,show u8n 58=58 from rfl];obtain⟨a,b⟩:=Ba0 (k0:=λl=>rv (.tup [.fl 1,.s (.bool false)]) [.arr true 25 1 l,.arr true 25 1 []]) (k1:=λl=>rv (.tup [.fl 0,.s (.bool true)]) [.arr true 25 1 l]) last (pcs 58 s) (Z6 58 d) (λx h=>al9 (Ck h).2 d) (pcs 58 s).length 0 LF [] (by omega) (by have:=Z6 58 d;omega) (by simp);rw[o7] at a b;cases g:Cs last (pcs 58 s) with
  | some q=>
   refine⟨_,_,a q g,?_⟩;simp[PV.stab,Oy,Rl,PV.snap,M6,Ye]
  | none=>
   obtain⟨i,e⟩:=b g;refine⟨_,_,e,?_⟩;simp[PV.stab,Oy,Rl,PV.snap,M6,D8]
theorem C67{j:Type}{W:List j}(h:W.length=8):∃a b c d e f g i,W=[a,b,c,d,e,f,g,i]:=by
 match W,h with
 | [a,b,c,d,e,f,g,i],_=>exact⟨a,b,c,d,e,f,g,i,rfl⟩
def r8(n:Nat):LL:=a8 n [SV.int .u16 0]
theorem A73(n:Nat):r8 n=D8 (a8 n 0):=by simp[r8,D8]
theorem JM{s:By}{last:Bool}{q:List Nat}(h:P2 s last=some q):gvs s last=q:=by unfold gvs;rw[h];rfl
theorem C19(s:By):(aa9 s [58,58]).1.length<=s.length/\(aa9 s [58,58]).2.1.length<=s.length:=by unfold aa9;grind
theorem Bt7{R:Type}{K:LL->LL->Option R}(X Y:List Nat)(h:X.length+Y.length<=8) :
  Qa (D8 X) (D8 Y) (r8 8) K=K (D8 (X++a8 (8-X.length-Y.length) 0++Y)) (D8 (X++a8 (8-X.length-Y.length) 0++Y)):=by
 unfold Qa;have n:(ad3 0 (r8 8)++(ad3 8 (D8 X)++ad9 (0+min (D8 X).length 8) (r8 8)))=D8 (X++a8 (8-X.length) 0):=by
  rw[I1,ai6 (show X.length<=8 by omega),p7 (l:=D8 X) (i:=8) (by rw[I1];omega),Lg,aq8,A73,ag7,aa1];unfold D8;rw[<-ak0,List.drop_replicate]
 have m:A1 (8-(Y.length:Int))=((8-Y.length:Nat):Int):=by rw[A7];omega
 have o:(D8 (X++a8 (8-X.length) 0)).length=8:=by simp[I1]<;>omega
 have j:(ad3 (8-Y.length) (D8 (X++a8 (8-X.length) 0))++(ad3 (8-(8-Y.length)) (D8 Y)++ad9 (8-Y.length+min Y.length (8-(8-Y.length))) (D8 (X++a8 (8-X.length) 0))))=D8 (X++a8 (8-X.length-Y.length) 0++Y):=by
  rw[j2 (by rw[o];omega),p7 (l:=D8 Y) (by rw[I1];omega),Lg (X++_) Y,aa0]
  congr 1
  unfold D8;rw[<-ao5,List.take_append,p7 (by omega),List.take_replicate];grind
 have k:(X++a8 (8-X.length-Y.length) 0++Y).length=8:=by simp<;>omega
 simp only[vl];rw[n];simp only[I1,m,j0];rw[j];simp only[I1];rw[show(r8 8).length=8 from rfl,show o5 (X++a8 (8-X.length) (0:Nat))=8 by simp<;>omega,I4,decide_eq_true (show 8-Y.length+(8-(8-Y.length))<=8 by omega)];simp only[decide_true,cond_true,af1,k];generalize (X++a8 (8-X.length-Y.length) 0++Y)=W at *;obtain⟨a,b,c,d,e,f,g,i,rfl⟩:=C67 k;rfl
theorem Cw2{R:Type}{k0:Int->Int->Int->Int->Int->Int->Int->Int->Bool->LL->LL->Option R}(s:By)(r:A3 s.length=true) :
  ∃l q,v6p LF s k0=k0 (v6c 0 s) (v6c 1 s) (v6c 2 s) (v6c 3 s) (v6c 4 s) (v6c 5 s) (v6c 6 s) (v6c 7 s) (v6B s).isSome l q:=by
 have C:=L3 r;have w:=C19 s;unfold v6p v6c;rw[r];have bad:∀(h:v6B s=none),k0 0 0 0 0 0 0 0 0 false (r8 8) (r8 8)=k0 ((((v6B s).getD z8).getD 0 0:Nat):Int) ((((v6B s).getD z8).getD 1 0:Nat):Int) ((((v6B s).getD z8).getD 2 0:Nat):Int) ((((v6B s).getD z8).getD 3 0:Nat):Int) ((((v6B s).getD z8).getD 4 0:Nat):Int) ((((v6B s).getD z8).getD 5 0:Nat):Int) ((((v6B s).getD z8).getD 6 0:Nat):Int) ((((v6B s).getD z8).getD 7 0:Nat):Int) (v6B s).isSome (r8 8) (r8 8):=by
  intro h;rw[h];rfl
 simp (disch:=omega) only[cond_true,vl,E1];have j:v6B s=match P2 (aa9 s [58,58]).1 (!(aa9 s [58,58]).2.2),P2 (aa9 s [58,58]).2.1 true with
  | some x,some y=>if (aa9 s [58,58]).2.2 then (if x.length+y.length<=7 then some (x++a8 (8-x.length-y.length) 0++y) else none)
   else if x.length+y.length=8 then some (x++y) else none
  | _,_=>none:=rfl
 generalize (aa9 s [58,58]).1=A at *;generalize (aa9 s [58,58]).2.1=B at *;generalize (aa9 s [58,58]).2.2=o at *;cases k:P2 A (!o) with
 | none=>exact⟨_,_,bad (by rw[j,k])⟩
 | some X=>
  cases m:P2 B true with
  | none=>exact⟨_,_,bad (by rw[j,k,m])⟩
  | some Y=>
   have u:X.length<=2000000002:=by
    unfold P2 at k;split at k
    ·grind
    ·have:=Kn _ _ _ k;have:=Z6 58 (s:=A) (by omega);omega
   have v:Y.length<=2000000002:=by
    unfold P2 at m;split at m
    ·grind
    ·have:=Kn _ _ _ m;have:=Z6 58 (s:=B) (by omega);omega
   rw[k,m] at j;simp only[JM k,JM m,I1,x8,j1,cond_false];rw[A7];have n:∀(W:List Nat),W.length=8->v6B s=some W->∃l q,(cond ((decide (8=(D8 W).length*1))&&(okS ⟨true,true,[.int .u16,.int .u16,.int .u16,.int .u16,.int .u16,.int .u16,.int .u16,.int .u16]⟩ (ac2 (D8 W)) 0))
     (k0 (SV.gI (o6 (ac2 (D8 W)) 0 SV.nilp)) (SV.gI (o6 (ac2 (D8 W)) 1 SV.nilp)) (SV.gI (o6 (ac2 (D8 W)) 2 SV.nilp)) (SV.gI (o6 (ac2 (D8 W)) 3 SV.nilp)) (SV.gI (o6 (ac2 (D8 W)) 4 SV.nilp)) (SV.gI (o6 (ac2 (D8 W)) 5 SV.nilp)) (SV.gI (o6 (ac2 (D8 W)) 6 SV.nilp)) (SV.gI (o6 (ac2 (D8 W)) 7 SV.nilp)) true (D8 W) (D8 W)) none) =
     k0 ((((v6B s).getD z8).getD 0 0:Nat):Int) ((((v6B s).getD z8).getD 1 0:Nat):Int) ((((v6B s).getD z8).getD 2 0:Nat):Int) ((((v6B s).getD z8).getD 3 0:Nat):Int) ((((v6B s).getD z8).getD 4 0:Nat):Int) ((((v6B s).getD z8).getD 5 0:Nat):Int) ((((v6B s).getD z8).getD 6 0:Nat):Int) ((((v6B s).getD z8).getD 7 0:Nat):Int) (v6B s).isSome l q:=by
    intro W t h;rw[h];obtain⟨a,b,c,d,e,f,g,i,rfl⟩:=C67 t;exact⟨_,_,rfl⟩
   cases o with
   | false=>
    simp only[b9,cond_true,p5,if_false] at j ⊢;by_cases p:X.length+Y.length=8
    ·rw[if_pos p] at j;rw[show((X.length:Int)+(Y.length:Int)!=8)=false by simp;omega];simp only[cond_false];rw[show(a8 8 [SV.int ai9 0])=r8 8 from rfl,Bt7 X Y (by omega)];have z:8-X.length-Y.length=0:=by omega
     rw[z];simp only[List.replicate_zero,aa0];exact n (X++Y) (by simp<;>omega) j
    ·rw[if_neg p] at j;rw[show((X.length:Int)+(Y.length:Int)!=8)=true by simp;omega];exact⟨_,_,bad j⟩
   | true=>
    simp only[j1,cond_false,cond_true,if_true] at j ⊢;by_cases p:X.length+Y.length<=7
    ·rw[if_pos p] at j;rw[A6];simp only[cond_false];rw[show(a8 8 [SV.int ai9 0])=r8 8 from rfl,Bt7 X Y (by omega)];exact n _ (by simp<;>omega) j
    ·rw[if_neg p] at j;rw[A8];exact⟨_,_,bad j⟩
theorem YA(P T:List Nat)(t v:Nat):al6 (D8 (P++t::T)) P.length (G1 (o6 (D8 (P++t::T)) P.length []) 0 [SV.int .u16 (v:Int)])=D8 (P++v::T):=by
 have a:o6 (D8 (P++t::T)) P.length []=[SV.int .u16 (t:Int)]:=by
  simp[D8,b8]
 rw[a];simp only[G1,List.set_cons_zero];simp[D8]
theorem Ct5(X T:List Nat)(i:Nat)(h:i<X.length):X.take (i+1)++T=X.take i++X.getD i 0::T:=by rw[al7,j5 h,b8,j5 h,x4];rfl
theorem Dq2{R:Type}{k0:LL->LL->Option R}(z:Bool)(X:List Nat)(h:X.length=8)(c:LL):∀(r i n:Nat),i+r=8->r<n->My LF n z (D8 X) (i:Int) c (D8 (X.take i++a8 r 0)) k0=k0 c (D8 X):=by
 intro r
 induction r with
 | zero=>
  intro i n d f;obtain⟨n,rfl⟩:∃m,n=m+1:=⟨n-1,by omega⟩
  rw[My];rw[A6,p7 (by omega)];simp
 | succ r g=>
  intro i n d f;obtain⟨n,rfl⟩:∃m,n=m+1:=⟨n-1,by omega⟩
  rw[My];have a:((i:Int)+1)=((i+1:Nat):Int):=by omega
  have e:(X.take i).length=i:=by rw[y5];omega
  have b:=YA (X.take i) (a8 r 0) 0 (X.getD i 0);rw[e] at b;simp (disch:=first|omega|(simp[I1];omega)) only[B8,I1,M0,cond_true,j0,Ww,JI,vl,C9,aj8,b];rw[decide_eq_true (show i<o5 (X.take i++(0:Nat)::a8 r (0:Nat)) by simp<;>omega),a];simp only[cond_true];have:=g (i+1) n (by omega) (by omega);rw[Ct5 X _ i (by omega)] at this;exact this
theorem Dq3{R:Type}{k0:Bool->LL->LL->LL->Option R}(z:Bool)(X:List Nat)(k:X.length<=8)(e:Bool)(d c:LL):∀(r i n:Nat),i+r=X.length->r<n->Mz LF n z (D8 X) e d (i:Int) c (D8 (X.take i++a8 (8-i) 0)) k0=k0 e d c (D8 (X++a8 (8-X.length) 0)):=by
 intro r
 induction r with
 | zero=>
  intro i n f h;obtain⟨n,rfl⟩:∃m,n=m+1:=⟨n-1,by omega⟩
  rw[Mz];rw[I1,A6,p7 (by omega),show i=X.length by omega];rfl
 | succ r j=>
  intro i n f h;obtain⟨n,rfl⟩:∃m,n=m+1:=⟨n-1,by omega⟩
  rw[Mz];have a:((i:Int)+1)=((i+1:Nat):Int):=by omega
  have g:(X.take i).length=i:=by rw[y5];omega
  have b:=YA (X.take i) (a8 (7-i) 0) 0 (X.getD i 0);rw[g] at b;rw[show 8-i=7-i+1 by omega,aj8];simp (disch:=first|omega|(simp[I1];omega)) only[B8,I1,M0,cond_true,j0,Ww,JI,vl,C9,b];rw[decide_eq_true (show i<o5 (X.take i++(0:Nat)::a8 (7-i) (0:Nat)) by simp<;>omega),a];simp only[cond_true];have:=j (i+1) n (by omega) (by omega);rw[Ct5 X _ i (by omega),show 8-(i+1)=7-i by omega] at this;exact this
theorem Dq4{R:Type}{k0:LL->LL->Option R}(z:Bool)(Y P:List Nat)(o:P.length+Y.length=8)(e:LL):∀(r i n:Nat) (T:List Nat),i+r=Y.length->r<n->T.length=r->Na LF n z (D8 Y) (i:Int) e (D8 (P++Y.take i++T)) k0=k0 e (D8 (P++Y)):=by
 intro r
 induction r with
 | zero=>
  intro i n T h k a;obtain⟨n,rfl⟩:∃m,n=m+1:=⟨n-1,by omega⟩
  rw[Na];rw[I1,A6,p7 (by omega),k9.1 a];simp
 | succ r l=>
  intro i n T h k a;obtain⟨n,rfl⟩:∃m,n=m+1:=⟨n-1,by omega⟩
  obtain⟨t,T,rfl⟩:∃t b,T=t::b:=by
   match T,a with
   | t::b,_=>exact⟨t,b,rfl⟩
  rw[Na];have c:((i:Int)+1)=((i+1:Nat):Int):=by omega
  have j:(P++Y.take i).length=P.length+i:=by simp<;>omega
  have d:=YA (P++Y.take i) T t (Y.getD i 0);rw[j] at d;have f:A1 (8-(Y.length:Int))=(P.length:Int):=by rw[A7];omega
  have g:A1 ((P.length:Int)+(i:Int))=((P.length+i:Nat):Int):=by rw[A7];rfl
  simp (disch:=first|omega|(simp[I1];omega)) only[B8,I1,M0,cond_true,j0,Ww,JI,vl,f,g,C9,d];rw[decide_eq_true (show P.length+i<o5 (P++Y.take i++t::T) by simp<;>omega),c];simp only[cond_true];have:=l (i+1) n T (by omega) (by omega) (by simpa using a);rw[x4,Ct5 Y _ i (by omega),<-x4] at this;exact this
theorem B65{R:Type}{k0:Int->Int->Int->Int->Int->Int->Int->Int->Bool->LL->LL->Option R}(s:By)(B:A3 s.length=true) :
  ∃l L,Cr9 LF s k0=k0 (v6c 0 s) (v6c 1 s) (v6c 2 s) (v6c 3 s) (v6c 4 s) (v6c 5 s) (v6c 6 s) (v6c 7 s) (v6B s).isSome l L:=by
 have M:=L3 B;have F:=C7;unfold Cr9 v6c;rw[B];have bad:∀(h:v6B s=none),k0 0 0 0 0 0 0 0 0 false (r8 8) (r8 8)=k0 ((((v6B s).getD z8).getD 0 0:Nat):Int) ((((v6B s).getD z8).getD 1 0:Nat):Int) ((((v6B s).getD z8).getD 2 0:Nat):Int) ((((v6B s).getD z8).getD 3 0:Nat):Int) ((((v6B s).getD z8).getD 4 0:Nat):Int) ((((v6B s).getD z8).getD 5 0:Nat):Int) ((((v6B s).getD z8).getD 6 0:Nat):Int) ((((v6B s).getD z8).getD 7 0:Nat):Int) (v6B s).isSome (r8 8) (r8 8):=by
  intro h;rw[h];rfl
 have j:v6B s=match P2 (aa9 s [58,58]).1 (!(aa9 s [58,58]).2.2),P2 (aa9 s [58,58]).2.1 true with
  | some x,some y=>if (aa9 s [58,58]).2.2 then (if x.length+y.length<=7 then some (x++a8 (8-x.length-y.length) 0++y) else none)
   else if x.length+y.length=8 then some (x++y) else none
  | _,_=>none:=rfl
 have J:=Lib.index_room s [58,58];have I:=ap9 s [58,58];simp only[cond_true];by_cases C:IX s<0
 ·have n:aa9 s [58,58]=(s,[],false):=by
   unfold aa9;rw[if_neg (by unfold IX at C;omega)]
  rw[n] at j;simp only[b9,p5,if_false] at j;rw[B8 C];simp only[cond_true];cases m:P2 s true with
  | none=>
   rw[m] at j;exact⟨_,_,bad j⟩
  | some X=>
   have o:P2 [] true=some []:=rfl;have A:X.length<=2000000002:=by
    unfold P2 at m;split at m
    ·cases m;simp
    ·have:=Kn _ _ _ m;have:=Z6 58 (s:=s) (by omega);omega
   rw[m,o] at j;simp only[ab2,aq6,aa0] at j;simp only[x8,j1,cond_false,JM m,I1];by_cases p:X.length=8
   ·rw[if_pos p] at j;rw[show((X.length:Int)!=8)=false by simp;omega];simp only[cond_false];rw[show(a8 8 [SV.int ai9 0])=r8 8 from rfl];have h:=λK=>Dq2 (R:=R) (k0:=K) X.isEmpty X p (r8 8) 8 0 LF (by omega) (by omega)
    simp only[ag7,aa1] at h;rw[<-A73] at h;rw[show((0:Nat):Int)=0 from rfl] at h;rw[h];rw[j];clear h j m bad;obtain⟨a,b,c,d,e,f,g,i,rfl⟩:=C67 p;exact⟨_,_,rfl⟩
   ·rw[if_neg p] at j;rw[show((X.length:Int)!=8)=true by simp;omega];exact⟨_,_,bad j⟩
 ·have r:0<=IX s:=by omega
  have q:=J r;obtain⟨k,t⟩:=j9 r;have w:k+2<=s.length:=by
   have:IX s+2<=(s.length:Int):=q;omega
  have n:aa9 s [58,58]=(s.take k,s.drop (k+2),true):=by
   unfold aa9;have:o8 s [58,58]=(k:Int):=t;rw[Q5,this];rfl
  rw[n] at j;simp only[j1,if_true] at j;have D:A1 ((k:Int)+2)=((k+2:Nat):Int):=by rw[A7];rfl
  rw[t,A6,I4];simp only[cond_false,cond_true,vl,D,K7,P9,j0];rw[E1 (by simp<;>omega),I4,E1 (by simp<;>omega)];simp only[cond_true];cases m:P2 (s.take k) false with
  | none=>
   rw[m] at j;exact⟨_,_,bad j⟩
  | some X=>
   cases o:P2 (s.drop (k+2)) true with
   | none=>
    rw[m,o] at j;exact⟨_,_,bad j⟩
   | some Y=>
    have A:X.length<=2000000002:=by
     unfold P2 at m;split at m
     ·cases m;simp
     ·have:=Kn _ _ _ m;have:=Z6 58 (s:=s.take k) (by simp<;>omega);omega
    have H:Y.length<=2000000002:=by
     unfold P2 at o;split at o
     ·cases o;simp
     ·have:=Kn _ _ _ o;have:=Z6 58 (s:=s.drop (k+2)) (by simp<;>omega);omega
    rw[m,o] at j;simp only[x8,j1,cond_false,JM m,JM o,I1];rw[A7];by_cases p:X.length+Y.length<=7
    ·simp only[if_pos p] at j;rw[A6];simp only[cond_false];rw[show(a8 8 [SV.int ai9 0])=r8 8 from rfl];have v:=λK=>Dq3 (R:=R) (k0:=K) X.isEmpty X (by omega) Y.isEmpty (D8 Y) (r8 8) X.length 0 LF (by omega) (by omega)
     simp only[ag7,aa1] at v;rw[show(8-0:Nat)=8 from rfl,<-A73,show((0:Nat):Int)=0 from rfl] at v;rw[v];have u:X++a8 (8-X.length) 0=(X++a8 (8-X.length-Y.length) 0)++ad3 0 Y++a8 Y.length 0:=by
      simp only[ag7,aa0,x4];rw[List.replicate_append_replicate]
      congr 2
      omega
     have z:=λK=>Dq4 (R:=R) (k0:=K) Y.isEmpty Y (X++a8 (8-X.length-Y.length) 0) (by simp<;>omega) (r8 8) Y.length 0 LF (a8 Y.length 0) (by omega) (by omega) (by simp)
     rw[<-u,show((0:Nat):Int)=0 from rfl] at z;rw[z];rw[j];have G:o5 (X++a8 (8-X.length-Y.length) 0++Y)=8:=by simp<;>omega
     clear v z u j m o bad;generalize (X++a8 (8-X.length-Y.length) 0++Y)=W at *;obtain⟨a,b,c,d,e,f,g,i,rfl⟩:=C67 G;exact⟨_,_,rfl⟩
    ·simp only[if_neg p] at j;rw[A8];exact⟨_,_,bad j⟩
theorem Al6{x:Nat}{r:List Nat}:Uc (x::r)=if x=0 then Uc r+1 else 0:=by unfold Uc;by_cases h:x=0<;>simp[h]
theorem XX(l:List Nat):Uc l<=l.length:=by unfold Uc;exact(List.takeWhile_sublist _).length_le
theorem C00{R:Type}{k0:Int->Int->Int->Int->LL->Option R}(W:List Nat)(l:W.length=8)(b a:Int)(i:Nat):∀(r j n:Nat),i+j+r=8->r<n->
  Ii LF n b a (i:Int) (j:Int) (D8 W) k0=k0 b a (i:Int) ((j+Uc (W.drop (i+j)):Nat):Int) (D8 W):=by
 intro r
 induction r with
 | zero=>
  intro j n f g;obtain⟨n,rfl⟩:∃m,n=m+1:=⟨n-1,by omega⟩
  rw[Ii];rw[A7,A6,j2 (by omega)];rfl
 | succ r k=>
  intro j n f g;obtain⟨n,rfl⟩:∃m,n=m+1:=⟨n-1,by omega⟩
  rw[Ii];have c:A1 ((i:Int)+(j:Int))=((i+j:Nat):Int):=by rw[A7];rfl
  have d:A1 ((j:Int)+1)=((j+1:Nat):Int):=by rw[A7];rfl
  have e:W.drop (i+j)=W.getD (i+j) 0::W.drop (i+(j+1)):=by
   rw[b8,j5 (by omega),w9,<-Nat.add_assoc,ac9]
  simp (disch:=first|omega|(simp[I1];omega)) only[c,d,B8,M0,cond_true,j0,Ww,JI,vl];rw[e,Al6];by_cases h:W.getD (i+j) 0=0
  ·rw[h,if_pos rfl,show(((0:Nat):Int)==0)=true from rfl,cond_true,k (j+1) n (by omega) (by omega)]
   congr 2
   omega
  ·rw[if_neg h,show(((W.getD (i+j) 0:Nat):Int)==0)=false by rw[beq_eq_false_iff_ne];omega];rfl
theorem Cb1{R:Type}{k0:Int->Int->LL->Option R}(W:List Nat)(f:W.length=8):∀(r i n z m:Nat),i+r=8->r<n->z<=8->m<=8->
  Ew LF n (z:Int) (m:Int) (i:Int) (D8 W) k0=k0 ((zGo (W.drop i) i z m).1:Nat) ((zGo (W.drop i) i z m).2:Nat) (D8 W):=by
 intro r
 induction r with
 | zero=>
  intro i n z m j o c l;obtain⟨n,rfl⟩:∃m,n=m+1:=⟨n-1,by omega⟩
  rw[Ew];rw[A6,j2 (by omega)];rfl
 | succ r d=>
  intro i n z m j o c l;obtain⟨n,rfl⟩:∃m,n=m+1:=⟨n-1,by omega⟩
  have e:=C7;rw[Ew];have a:=λK=>C00 (R:=R) (k0:=K) W f (z:Int) (m:Int) i r.succ 0 LF (by omega) (by omega)
  rw[show((0:Nat):Int)=0 from rfl] at a;simp only[aq8,aq6] at a;rw[A8,cond_true,a];have g:W.drop i=W.getD i 0::W.drop (i+1):=by
   rw[b8,j5 (by omega),w9,ac9]
  have k:=XX (W.drop i);rw[o0] at k;have b:A1 ((i:Int)+1)=((i+1:Nat):Int):=by rw[A7];rfl
  rw[b];have c:zGo (W.drop i) i z m=if m<Uc (W.drop i) then zGo (W.drop (i+1)) (i+1) i (Uc (W.drop i)) else zGo (W.drop (i+1)) (i+1) z m:=by
   rw[g];rfl
  rw[c];by_cases h:m<Uc (W.drop i)
  ·rw[if_pos h,A8,cond_true];exact d (i+1) n i (Uc (W.drop i)) (by omega) (by omega) (by omega) (by omega)
  ·rw[if_neg h,A6,cond_false];exact d (i+1) n z m (by omega) (by omega) (by omega) (by omega)
theorem Wv{a b c d e f g i:Int}(h:ok8 a b c d e f g i=true):∃j k l m n o p q:Nat,a=j/\b=k/\c=l/\d=m/\e=n/\f=o/\g=p/\i=q/\j<65536/\k<65536/\l<65536/\m<65536/\n<65536/\o<65536/\p<65536/\q<65536:=by simp only[ok8,ab7,List.all_nil,ae2,j8,E6] at h;exact⟨a.toNat,b.toNat,c.toNat,d.toNat,e.toNat,f.toNat,g.toNat,i.toNat,by omega,by omega,by omega,by omega,by omega,by omega,by omega,by omega,by omega,by omega,by omega,by omega,by omega,by omega,by omega,by omega⟩
theorem Bk2{R:Type}{j:Int->Int->LL->Option R}(a b c d e f g i:Int)(t:ok8 a b c d e f g i=true):Bu8 LF a b c d e f g i j=j ((zGo (n8 a b c d e f g i) 0 0 0).1:Nat) ((zGo (n8 a b c d e f g i) 0 0 0).2:Nat) (D8 (n8 a b c d e f g i)):=by obtain⟨k,l,m,n,o,p,q,r,rfl,rfl,rfl,rfl,rfl,rfl,rfl,rfl,h⟩:=Wv t;have:=C7;unfold Bu8;exact Cb1 [k,l,m,n,o,p,q,r] rfl 8 0 LF 0 0 rfl (by omega) (by omega) (by omega)
theorem Ch{n:Nat}(h:n<16):V5 n=[Nx n]:=by rw[V5,dif_pos h]
theorem Bk{n:Nat}(h:¬n<16):V5 n=V5 (n / 16)++[Nx (n % 16)]:=by rw[V5,dif_neg h]
theorem JN:∀n:Nat,n<65536->1<=(V5 n).length/\(V5 n).length<=4:=by
 intro n d;by_cases a:n<16
 ·rw[Ch a];simp
 rw[Bk a];by_cases b:n / 16<16
 ·rw[Ch b];simp
 rw[Bk b];by_cases c:n / 16 / 16<16
 ·rw[Ch c];simp
 rw[Bk c,Ch (show n / 16 / 16 / 16<16 by omega)];simp
theorem Bo8(d:Nat)(h:d<16):Nx d≠58:=by
 have:∀d:Fin 16,Nx d.val≠58:=by decide
 exact this ⟨d,h⟩
theorem XL{R:Type}{c:Int->Option R}{d:Unit->Option R}(s:By)(x:s.length<=1000000000):∀(r i n:Nat),i+r=s.length->r<n->
  V3 LF n s (i:Int) c d=if o8 (s.drop i) [58,58]=-1 then d () else c ((i:Int)+o8 (s.drop i) [58,58]):=by
 intro r
 induction r with
 | zero=>
  intro i n q u;obtain⟨n,rfl⟩:∃m,n=m+1:=⟨n-1,by omega⟩
  rw[V3];rw[A7,A6,j2 (by omega)];rfl
 | succ r h=>
  intro i n q u;obtain⟨n,rfl⟩:∃m,n=m+1:=⟨n-1,by omega⟩
  rw[V3];have f:A1 ((i:Int)+1)=((i+1:Nat):Int):=by rw[A7];rfl
  rw[f];by_cases t:i+1<s.length
  ·have h:=h (i+1) n (by omega) (by omega);rw[D4 s i (by omega)];have e:=D4 s (i+1) t;have p:=ap9 (s.drop (i+1)) [58,58];have l:o8 (s.getD i 0::s.drop (i+1)) [58,58]=if ([58,58]:By).isPrefixOf (s.getD i 0::s.drop (i+1)) then 0 else if o8 (s.drop (i+1)) [58,58]==-1 then -1 else o8 (s.drop (i+1)) [58,58]+1:=by
    rw[o8]
   have o:([58,58]:By).isPrefixOf (s.getD i 0::s.drop (i+1))=(s.getD i 0==58&&s.getD (i+1) 0==58):=by
    rw[e];simp only[ae6,ae2];rw[BEq.comm (a:=(58:UInt8)),BEq.comm (a:=(58:UInt8)) (b:=s.getD (i+1) 0)]
   have j:=R5 (s.getD i 0) 58 (by omega);have k:=R5 (s.getD (i+1) 0) 58 (by omega);rw[show((58:Nat):Int)=58 from rfl,show v8 58=(58:UInt8) from rfl] at j k;have next:V3 LF n s ((i+1:Nat):Int) c d=if (if o8 (s.drop (i+1)) [58,58]==-1 then (-1:Int) else o8 (s.drop (i+1)) [58,58]+1)=-1 then d () else c ((i:Int)+(if o8 (s.drop (i+1)) [58,58]==-1 then -1 else o8 (s.drop (i+1)) [58,58]+1)):=by
    rw[h];by_cases g:o8 (s.drop (i+1)) [58,58]=-1
    ·rw[g];rfl
    ·rw[if_neg g,show(o8 (s.drop (i+1)) [58,58]==-1)=false from beq_eq_false_iff_ne.2 g];simp only[p5,if_false];rw[F7]
     congr 1
     omega
   rw[l,o,A8,E9,E9];simp only[cond_true,D3,vl,j,k];cases v:(s.getD i 0==58) with
   | false=>
    simp only[cond_false,ai8,p5,if_false];exact next
   | true=>
    cases w:(s.getD (i+1) 0==58) with
    | false=>
     simp only[cond_true,cond_false,an5,p5,if_false];exact next
    | true=>
     simp
  ·rw[A6,D4 s i (by omega),j2 (show s.length<=i+1 by omega)];have:o8 [s.getD i 0] [58,58]=-1:=by
    rw[o8];simp[ae6,o8]
   rw[this];rfl
theorem XM{R:Type}{a:Int->Option R}(s:By)(b:A3 s.length=true):FG LF s a=a (IX s):=by have c:=L3 b;have:=C7;unfold FG IX;refine j7 (XL s c s.length 0 LF (by omega) (by omega)) ?_;grind
theorem Mn(n:Nat):ptI (n:Int)=V8 n:=rfl
theorem Ai6{R:Type}{a:Bool->Option R}(n:Int):XG LF n a=a (ptI n):=by
 unfold XG;by_cases h:n<0
 ·rw[B8 h];have:ptI n=false:=by
   cases n with
   | ofNat m=>exact absurd h (by simp)
   | negSucc m=>rfl
  grind
 ·obtain⟨m,rfl⟩:=j9 (show 0<=n by omega);rw[A6,Mn];unfold V8;by_cases b:1114111<m
  ·rw[A8];have:x5 m 1114111=false:=by rw[y9,ne_eq,x7];omega
   grind
  ·rw[A6];have:x5 m 1114111=true:=by rw[x7];omega
   rw[this];by_cases c:m<55296
   ·rw[A8];have:Nat.blt m 55296=true:=by rw[ak3];omega
    grind
   ·rw[A6];have e:Nat.blt m 55296=false:=by rw[y9,ne_eq,ak3];omega
    rw[e];simp only[b9,cond_true,cond_false,af7,ad2]
    congr 1
theorem HX{d k:Nat}(h:455<d):Zm d k=Zm (d / 35) (k+36):=by rw[Zm,dif_pos h]
theorem Sq{d k:Nat}(h:¬ 455<d):Zm d k=k+36*d / (d+38):=by rw[Zm,dif_neg h]
theorem Ah6{R:Type}{k0:Int->Int->Option R}:∀(d n k:Nat),d<2305843009213693952->d<n->k+d<=4611686018427387904->
  ∃a b,a<=455/\b<=k+d/\Zm d k=b+36*a / (a+38)/\Gk LF n (d:Int) (k:Int) k0=k0 (a:Int) (b:Int):=by
 intro d
 induction d using ad1 with
 | _ d l=>
  intro n k p r q;obtain⟨n,rfl⟩:∃m,n=m+1:=⟨n-1,by omega⟩
  rw[Gk];by_cases h:455<d
  ·obtain⟨a,b,g,o,i,j⟩:=l (d / 35) (by omega) n (k+36) (by omega) (by omega) (by omega);refine⟨a,b,g,by omega,by rw[HX h];exact i,?_⟩;have e:ad6 (d:Int) 35=((d / 35:Nat):Int):=N3 d 35;have c:A1 ((d / 35:Nat):Int)=((d / 35:Nat):Int):=A7;have f:A1 ((k:Int)+36)=((k+36:Nat):Int):=by rw[A7];rfl
   rw[A8];simp only[cond_true,vl,e,c,f];exact j
  ·refine⟨d,k,by omega,by omega,Sq h,?_⟩;rw[A6];rfl
theorem Ah7{R:Type}{k0:Int->Option R}(d c:Int)(f:Bool)(z:ltN d 1152921504606846976=true)(A:ltN c 1000000=true)(B:ltI 0 c=true):KT LF d c f k0=k0 (Q9 d.toNat c.toNat f:Nat):=by
 obtain⟨k,F⟩:=E6.1 z;obtain⟨j,D⟩:=E6.1 A;obtain⟨d,rfl⟩:=j9 k;obtain⟨c,rfl⟩:=j9 j;have J:=Mh.1 B;have C:=C7;have key:∀x:Nat,x<1152921504606846976->Gj LF (x:Int) (c:Int) k0=k0 ((Zm (x+x / c) 0:Nat):Int):=by
  intro x L;have G:x / c<=x:=ae7 _ _;unfold Gj;have g:ad6 (x:Int) (c:Int)=((x / c:Nat):Int):=N3 x c;generalize x / c=q at *;have h:A1 (q:Int)=(q:Int):=A7;have o:A1 ((x:Int)+(q:Int))=((x+q:Nat):Int):=by rw[A7];rfl
  rw[show((c:Int)!=0)=true by simp;omega];simp only[cond_true,vl,g,h,o];obtain⟨a,n,H,I,w,y⟩:=Ah6 (R:=R) (k0:=λb l=>vl (A1 ((36)*b)) λm=>vl (A1 (b+(38))) λe=>cond (e !=(0)) (vl (A1 (ad6 m e)) λi=>k0 (A1 (l+i))) none) (x+q) LF 0 (by omega) (by omega) (by omega);refine j7 y ?_;have K:36*a / (a+38)<=36*a:=ae7 _ _;have p:A1 (36*(a:Int))=((36*a:Nat):Int):=by rw[A7];rfl
  have r:A1 ((a:Int)+38)=((a+38:Nat):Int):=by rw[A7];rfl
  have t:ad6 ((36*a:Nat):Int) ((a+38:Nat):Int)=((36*a / (a+38):Nat):Int):=N3 _ _;have u:A1 ((36*a / (a+38):Nat):Int)=((36*a / (a+38):Nat):Int):=A7;have v:A1 ((n:Int)+((36*a / (a+38):Nat):Int))=((n+36*a / (a+38):Nat):Int):=by rw[A7];rfl
  simp only[vl,p,r,t,u,v];rw[show(((a+38:Nat):Int)!=0)=true by simp;omega,w];rfl
 unfold KT Q9;rw[j0,j0];cases f with
 | true=>
  have g:ad6 (d:Int) 700=((d / 700:Nat):Int):=N3 d 700;have h:A1 ((d / 700:Nat):Int)=((d / 700:Nat):Int):=A7;simp only[cond_true,vl,g,h,if_true];exact key _ (by omega)
 | false=>
  have g:ad6 (d:Int) 2=((d / 2:Nat):Int):=N3 d 2;have h:A1 ((d / 2:Nat):Int)=((d / 2:Nat):Int):=A7;simp only[cond_false,vl,g,h,p5,if_false];exact key _ (by omega)
theorem OL{d:Nat}(h:d<36):(Aq d).toNat=if d<26 then 97+d else 22+d:=by unfold Aq;split<;>simp<;>omega
theorem B21{R:Type}{b:Int->Option R}(d:Int)(c:ltN d 36=true):C91 LF d b=b ((Aq d.toNat).toNat:Nat):=by
 obtain⟨a,e⟩:=E6.1 c;obtain⟨d,rfl⟩:=j9 a;unfold C91;rw[j0,OL (by omega)];by_cases h:d<26
 ·rw[A8,if_pos h];simp only[cond_true,vl]
  congr 1
  rw[A7,M7];rfl
 ·rw[A6,if_neg h];simp only[cond_false,vl]
  congr 1
  rw[C9 (n:=48+(d:Int)) (by omega) (by omega),A7,M7];omega
theorem EA(b:UInt8):(97<=b.toNat/\b.toNat<=122/\Nw b=some (b.toNat-97))\/(65<=b.toNat/\b.toNat<=90/\Nw b=some (b.toNat-65))\/(48<=b.toNat/\b.toNat<=57/\Nw b=some (b.toNat-22))\/(¬(97<=b.toNat/\b.toNat<=122)/\¬(65<=b.toNat/\b.toNat<=90)/\¬(48<=b.toNat/\b.toNat<=57)/\Nw b=none):=by unfold Nw;grind
theorem B29{R:Type}{g:Int->Option R}(b:Int)(h:inR b 256=true):Co1 LF b g=g (E0 (u8n b)):=by
 simp only[inR,j8,decide_eq_true_eq] at h;have j:b=((u8n b).toNat:Int):=by
  unfold u8n;simp;omega
 generalize u8n b=c at *;subst j;have i:=c.toNat_lt;unfold Co1 E0;simp only[Wz,Wy,vl];rcases EA c with⟨d,f,e⟩|⟨d,f,e⟩|⟨d,f,e⟩|⟨d,f,o,e⟩
 ·have a:A1 (wu8 ((c.toNat:Int)-97))=((c.toNat-97:Nat):Int):=by
   rw[M7,A7];omega
  simp (disch:=omega) only[B8,E2,j1,b9,cond_false,cond_true,a,e]
 ·have a:A1 (wu8 ((c.toNat:Int)-65))=((c.toNat-65:Nat):Int):=by
   rw[M7,A7];omega
  simp (disch:=omega) only[B8,E2,j1,b9,cond_false,cond_true,a,e]
 ·have a:A1 (A1 (wu8 ((c.toNat:Int)-48))+26)=((c.toNat-22:Nat):Int):=by
   rw[M7,C9 (n:=(c.toNat:Int)-48) (by omega) (by omega),A7];omega
  simp (disch:=omega) only[B8,E2,j1,b9,cond_false,cond_true,a,e]
 ·rw[e];by_cases k:c.toNat<48
  ·simp (disch:=omega) only[B8,E2,j1,b9,cond_false,cond_true]
  ·by_cases l:c.toNat<65
   ·simp (disch:=omega) only[B8,E2,j1,b9,cond_false,cond_true]
   ·by_cases m:c.toNat<97
    ·simp (disch:=omega) only[B8,E2,j1,b9,cond_false,cond_true]
    ·simp (disch:=omega) only[B8,E2,j1,b9,cond_false,cond_true]
theorem De1{l:LL}(h:l.all Wi=true):∃W:List Nat,l=D8 W/\(∀x∈W,x<65536):=by
 induction l with
 | nil=>exact⟨[],rfl,by simp⟩
 | cons x r c=>
  simp only[ab7,j8] at h;obtain⟨W,rfl,e⟩:=c h.2;have a:=h.1;unfold Wi at a;split at a
  ·rename_i n;obtain⟨b,d⟩:=E6.1 a;obtain⟨m,rfl⟩:=j9 b;refine⟨m::W,rfl,?_⟩;grind
  ·cases a
theorem YU{W:List Nat}(h:∀x∈W,x<65536):(D8 W).all Wi=true:=by rw[x9];intro x a;simp only[D8,al4] at a;obtain⟨n,b,rfl⟩:=a;have:=h n b;exact Wm (v:=(n:Int)) (n:=65536) (by omega) (by omega)
theorem Vq(W:List Nat):(D8 W).map elN=W:=by
 unfold D8;rw[af4]
 conv=>rhs;rw[<-ah4 W]
 apply z7;intro x _;simp[elN,SV.gI]
theorem Ad0(l:List By):(D2 l).map elS=l:=by
 unfold D2;rw[af4]
 conv=>rhs;rw[<-ah4 l]
 apply z7;intro x _;simp[elS,SV.gS]
theorem Ct0(l:List By):(D2 l).all isS=true:=by rw[x9];intro x a;simp only[D2,al4] at a;obtain⟨n,b,rfl⟩:=a;rfl
theorem Cs5{P:List Nat->Prop}(a:P [])(b:∀l x,P l->P (l++[x]))(l:List Nat):P l:=by
 have:∀r:List Nat,P r.reverse:=by
  intro r
  induction r with
  | nil=>exact a
  | cons x r c=>rw[List.reverse_cons];exact b _ _ c
 have:=this l.reverse;grind
theorem Bz0(l:List By)(x p:By)(h:l≠[]):ab4 (l++[x]) p=ab4 l p++p++x:=by
 cases l with
 | nil=>exact absurd rfl h
 | cons y r=>
  rw[ad8,ao4,ao4];unfold Lib.joinTail;simp
theorem PE:O4 []=[]:=rfl
theorem AW(n:Nat):O4 [n]=V5 n:=by unfold O4;exact af3 _ _
theorem A21(l:List Nat)(n:Nat)(h:l≠[]):O4 (l++[n])=O4 l++[58]++V5 n:=by unfold O4;rw[ag1,List.map_singleton,Bz0 _ _ _ (by simpa using h)]
theorem Gg:∀l:List Nat,(∀x∈l,x<65536)->(O4 l).length<=5*l.length:=by
 refine Cs5 ?_ ?_
 ·intro _;simp[PE]
 ·intro l n c h;have d:=c (λx b=>h x (by simp[b]));have e:=JN n (h n (by simp));by_cases a:l=[]
  ·subst a;rw[aa1,AW];simp;omega
  ·rw[A21 l n a];simp;omega
theorem Cw0{R:Type}{c:LL->Option R}(z t:Bool)(W:List Nat)(l:∀x∈W,x<65536)(p:W.length<=8):∀(r i n:Nat) (d:List By),i+r=W.length->r<n->d.length=i->
  Ut LF n z t (D8 W) (W.length:Int) (i:Int) (D2 d) c=c (D2 (d++(W.drop i).map V5)):=by
 intro r
 induction r with
 | zero=>
  intro i n d h j f;obtain⟨n,rfl⟩:∃m,n=m+1:=⟨n-1,by omega⟩
  rw[Ut];rw[A6,j2 (by omega)];simp
 | succ r k=>
  intro i n d h j f;obtain⟨n,rfl⟩:∃m,n=m+1:=⟨n-1,by omega⟩
  rw[Ut];have b:W.drop i=W.getD i 0::W.drop (i+1):=by
   rw[b8,j5 (by omega),w9,ac9]
  have o:W.getD i 0<65536:=by
   rw[b8,j5 (by omega),w9];simp_all
  have e:A1 ((i:Int)+1)=((i+1:Nat):Int):=by rw[A7];rfl
  rw[b];generalize g:W.getD i 0=x at *;simp (disch:=omega) only[B8,M0,cond_true,I1,j0,Ww,JI,vl,e,g,ZC,Wm,F0,F4,show((16:Int)==16)=true from rfl];have a:D2 d++[[SV.str (V5 x)]]=D2 (d++[V5 x]):=by rw[Yb];rfl
  rw[a,k (i+1) n _ (by omega) (by omega) (by simp;omega)];simp
theorem Cw1{R:Type}{k0:By->LL->Option R}(z t:Bool)(l:LL)(c:l.all Wi=true)(a:x5 l.length 8=true):∃g,v6j LF z t l k0=k0 (O4 (l.map elN)) g:=by
 obtain⟨W,rfl,b⟩:=De1 c;have f:W.length<=8:=by rw[I1] at a;exact ac0 a
 have d:=C7;refine⟨D2 (W.map V5),?_⟩;unfold v6j;rw[I1];refine j7 (Cw0 z t W b f W.length 0 LF [] (by omega) (by omega) rfl) ?_;have e:=Gg W b;unfold O4 at e;rw[aa1,o7,Ct0,Ad0,Vq,F0,K4,E1 (by simp;omega)];rfl
theorem Bj9:∀(l:List Nat) (i z m:Nat),z+m<=i+l.length->(zGo l i z m).1+(zGo l i z m).2<=i+l.length
 | [],i,z,m,h=>by simpa[zGo] using h
 | x::r,i,z,m,h=>by
  have a:=XX (x::r);simp only[zGo];simp only[p6] at h a ⊢;split
  ·have:=Bj9 r (i+1) i (Uc (x::r)) (by omega);omega
  ·have:=Bj9 r (i+1) z m (by omega);omega
theorem Cv9{R:Type}{k0:By->LL->Option R}(p r t u v w y A:Int)(G:ok8 p r t u v w y A=true):∃l,v6f LF p r t u v w y A k0=k0 (Cx (n8 p r t u v w y A)) l:=by
 obtain⟨a,b,c,d,e,f,g,j,rfl,rfl,rfl,rfl,rfl,rfl,rfl,rfl,h⟩:=Wv G;have C:n8 a b c d e f g j=[a,b,c,d,e,f,g,j]:=rfl;refine⟨D8 [a,b,c,d,e,f,g,j],?_⟩;unfold v6f;rw[G,C,cond_true];have o:([[SV.int .u16 (a:Int)],[SV.int .u16 (b:Int)],[SV.int .u16 (c:Int)],[SV.int .u16 (d:Int)],[SV.int .u16 (e:Int)],[SV.int .u16 (f:Int)],[SV.int .u16 (g:Int)],[SV.int .u16 (j:Int)]]:LL)=D8 [a,b,c,d,e,f,g,j]:=rfl;rw[o];have B:∀x∈[a,b,c,d,e,f,g,j],x<65536:=by simp_all
 have n:[a,b,c,d,e,f,g,j].length=8:=rfl;have k:=Bj9 [a,b,c,d,e,f,g,j] 0 0 0 (by simp);unfold Cx;generalize [a,b,c,d,e,f,g,j]=W at *;generalize zGo W 0 0 0=q at *;obtain⟨z,m⟩:=q;rw[n] at k;simp only[vl] at k ⊢;have N:∀i,(D8 W).take i=D8 (W.take i):=λi=>by unfold D8;rw[ao5]
 have J:∀i,(D8 W).drop i=D8 (W.drop i):=λi=>by unfold D8;rw[ak0]
 by_cases I:m<2
 ·rw[if_pos I,A8,cond_true,YU B,Vq];rfl
 ·have K:A1 ((z:Int)+(m:Int))=((z+m:Nat):Int):=by rw[A7];rfl
  have hA:∀x∈W.take z,x<65536:=λx D=>B x (ag0 D)
  have H:∀x∈W.drop (z+m),x<65536:=λx D=>B x (af9 D)
  have O:=Gg _ hA;have P:=Gg _ H;have L:(W.take z).length<=8:=by rw[y5];omega
  have M:(W.drop (z+m)).length<=8:=by rw[o0];omega
  rw[if_neg I,A6,cond_false,I4,K];simp only[j0,Nat.sub_zero];rw[N,J,YU hA,Vq,I1,aa5 L,M9 (by omega),I4];have F:(D8 (W.drop (z+m))).take (8-(z+m))=D8 (W.drop (z+m)):=p7 (by rw[I1,o0];omega);rw[F,YU H,Vq,I1,aa5 M,M9 (by simp;omega)];simp
set_option maxRecDepth 100000
section
variable {Z R : Type} (L : Nat) (Q : G0) (Y : Yh Z) (s : Z) (k : Out -> St Z -> Option R)
noncomputable def UO(L:Nat):Cfg:=B7 L [247] (A2 []) [] (A2 [(1,[2]),(0,[0])]) [] (A2 []) (some [2]) [] [] []
noncomputable def Dl3{R:Type}(L:Nat)(a:Unit->Option R):Option R:=a ()
theorem Cj9(d:Nat):evC (UO L) (d+1) Z Y 247 [pI (16:Int)] [] s=Dl3 L  (λ_=>some (pB true,[],s)):=by refine(evE (fn:=Tryz.f247) (by kernel_rfl)).trans ?_;generalize evC (UO L) d=Q;unfold Dl3;kernel_rfl
noncomputable abbrev UF:Code:=C8 ap7
noncomputable def Io(L:Nat):Cfg:=B7 L [231] (A2 [(11,[0,0,1,0,5,0,0,0,0,0,0]),(18,[0,0,1,0,5,0,0,0,3])]) [(247,RV),(248,Dm3)] (A2 [(30,[10,0]),(29,[10,0]),(28,[0,9,0,0,0,80]),(27,[0,3,5,0,0,0]),(26,[0,3,5,0,0,0]),(25,[0,3,5,0,0,0,75]),(16,[0,2,0,5,0,0,0]),(15,[0,0,1,0,5,0,0,0]),(14,[0,0,1,0,5,0,0,0,0,0,0]),(13,[0,0,1,0,5,0,0,0,0,0,0]),(12,[0,0,1,0,5,0,0,0,0,0,0]),(11,[0,0,1,0,5,0,0,0,0,0,0,29]),(10,[0,0,1,0,5,0,0,0,0,0,0]),(9,[0,0,0,0,0,5,0,0,0,0,0]),(8,[0,0,0,0,0,5,0,0,0,0]),(24,[0,2,0,5,0,0,0]),(23,[0,0,1,0,5,0,0,0]),(22,[0,0,1,0,5,0,0,0,3]),(21,[0,2,0,5,0,0,0,3,0]),(20,[0,0,1,0,5,0,0,0,3,0]),(19,[0,0,1,0,5,0,0,0,3]),(18,[0,0,1,0,5,0,0,0,3,50]),(17,[0,0,1,0,5,0,0,0,3]),(7,[0,0,0,0,0,5,0,0,0,20]),(6,[0,0,0,0,0,5,0,0,0]),(5,[0,0,0,0,0,5,0,0,0,16]),(4,[0,0,0,0,0,5,0,0,0]),(3,[0,0,0,0,0,5,0,0]),(2,[0,0,0,0,0,5,0]),(1,[0,0,0,0,0,5,0,16]),(0,[0,0,0,0,0,5,0])]) [247,248] (A2 [(0,[0,0,1,0,5,0,0,0]),(1,[0,0,1,0,5,0,0,0,0,0,0]),(2,[0,0,1,0,5,0,0,0]),(3,[0,0,1,0,5,0,0,0,3])]) (some [10,0]) [] [] []
noncomputable def Km{R:Type}(L n:Nat)(b a:Bool)(c:LL)(g d:Int)(f:LL)(j:Bool->Bool->LL->Int->Int->LL->Option R):Option R:=match n with|0=>none|n+1=>cond (not (ltI g 16)) (vl (Av4 .u64 g (15:Int)) λe=>cond (inR e 36) (vl (bAt (([48,49,50,51,52,53,54,55,56,57,97,98,99,100,101,102,103,104,105,106,107,108,109,110,111,112,113,114,115,116]:List UInt8)++[117,118,119,120,121,122]) e) λi=>cond (inR (A1 (d-1)) 65) (cond (decide ((j6 (A1 (d-1)))<f.length)) (vl (al6 f (j6 (A1 (d-1))) (G1 (o6 f (j6 (A1 (d-1))) []) 0 [(SV.int .u8 i)])) λh=>Km L n b a c (EJ .u64 g (4:Int)) (A1 (d-1)) h j) none) none) none) (j b a c g d f)
theorem Ad3(n b a c f d e):D0 2 ((Io L).keep 11) (bd (Io L) Q Y (cd [1,1,1,1,1,0,1,0,1,1,1,0,0,0] UF)) n ⟨gp [(0,.s (.sl b a 0 c)),(0,p64 f),(1,pB false),(0,pB false),(5,.fl 0),(0,pS ([]:List UInt8)),(0,.ptr 1 0 0),(0,pI d),(0,p64 (4:Int)),(0,p64 (16:Int)),(0,p64 (15:Int))] 85,[.arr true 5 1 [],.arr false 243 1 e],s⟩ k =
 Km L n b a c f d e (λb a c f d e=>k (.exit 0) ⟨gp [(0,.s (.sl b a 0 c)),(0,p64 f),(1,pB false),(0,pB false),(5,.fl 0),(0,pS ([]:List UInt8)),(0,.ptr 1 0 0),(0,pI d)] 88,[.arr true 5 1 [],.arr false 243 1 e],s⟩):=by
 induction n generalizing b a c f d e with
 | zero=>rfl
 | succ n g=>rw[Km];simp only[<-g];kernel_rfl
noncomputable def Ad2{R:Type}(L:Nat)(e d:Bool)(ds:LL)(v:Int)(m:By->LL->Option R):Option R:=cond ((16:Int)==16) (cond ((16:Int)==16) (Km L L e d ds v 65 (a8 65 [(SV.int .u8 (0:Int))]) (λg f j i a c=>cond (inR i 36) (vl (bAt (([48,49,50,51,52,53,54,55,56,57,97,98,99,100,101,102,103,104,105,106,107,108,109,110,111,112,113,114,115,116]:List UInt8)++[117,118,119,120,121,122]) i) λl=>cond (inR (A1 (a-1)) 65) (cond (decide ((j6 (A1 (a-1)))<c.length)) (vl (al6 c (j6 (A1 (a-1))) (G1 (o6 c (j6 (A1 (a-1))) []) 0 [(SV.int .u8 l)])) λb=>cond (decide (b.length=65)) (cond (I9 (A1 (a-1)) (65:Int) 65) (cond (ag6 (ad3 (65-(j6 (A1 (a-1)))) (ad9 (j6 (A1 (a-1))) b)) Nz) (vl (ab9 Lw (ad3 (65-(j6 (A1 (a-1)))) (ad9 (j6 (A1 (a-1))) b))) λh=>m h b) none) none) none) none) none) none)) none) none
theorem Ch8(d:Nat)(ds_z ds_t ds v):evC (Io L) (d+1) Z Y 231 [.s (.sl ds_z ds_t 0 ds),p64 v,pI (16:Int),pB false,pB false] [] s=Ad2 L ds_z ds_t ds v (λb a=>some (.tup [.fl 0,pS b],[.arr true 5 1 [],.arr false 243 1 a],s)):=by refine(evE (fn:=ap7) (by kernel_rfl)).trans ?_;generalize evC (Io L) d=Q;unfold Ad2;exact(j7 (by kernel_rfl) (A0 (A0 ((Ad3 L Q Y s (E5 0 (E4 (Io L) Q Y (cd [1,1,1,1,1,0,1,0,1,1,1,1] UF) (E4 (Io L) Q Y (cd [1,1,1,1,1,1] UF) (F6 (Io L) ap7)))) L ds_z ds_t ds v 65 (a8 65 [(SV.int .u8 (0:Int))])).trans (by kernel_rfl)) rfl) rfl))
noncomputable def UN(L:Nat):Cfg:=B7 L [244] (A2 []) [(231,RH)] (A2 [(9,[4]),(8,[8]),(7,[4]),(6,[5,0]),(5,[0,4,0]),(4,[0,4]),(3,[4]),(2,[0,11]),(1,[0,0,8]),(0,[0,0])]) [] (A2 []) (some [4]) [] [] []
noncomputable def Bp4{R:Type}(L:Nat)(v:Int)(a:By->Option R):Option R:=cond (ltN v 65536) (cond ((16:Int)==16) (a (V5 (j6 v))) none) none
theorem Cj3(d:Nat)(v):evC (UN L) (d+1) Z Y 244 [p64 v,pI (16:Int)] [] s=Bp4 L v (λa=>some (pS a,[],s)):=by refine(evE (fn:=Tryz.f244) (by kernel_rfl)).trans ?_;generalize evC (UN L) d=Q;unfold Bp4;kernel_rfl
noncomputable def Aw4(L:Nat):Cfg:=B7 L [227] (A2 []) [(244,RU)] (A2 [(1,[4]),(0,[0,0])]) [244] (A2 []) (some [4]) [] [] []
noncomputable def C36{R:Type}(L:Nat)(v:Int)(a:By->Option R):Option R:=cond (ltN v 65536) (cond ((16:Int)==16) (a (V5 (j6 v))) none) none
theorem C37(d:Nat)(v):evC (Aw4 L) (d+1) Z Y 227 [p64 v,pI (16:Int)] [] s=C36 L v (λa=>some (pS a,[],s)):=by refine(evE (fn:=Tryz.f227) (by kernel_rfl)).trans ?_;generalize evC (Aw4 L) d=Q;unfold C36;kernel_rfl
end
end
end Go.Proofs.YtfkhfkjcidamaaaGreatDoor.E
namespace Go.Proofs
open Go.Shelf
def Tryz.lays156_ren:aa8:=⟨fun|156=>202|165=>224|166=>225|169=>226|240=>242|241=>243|276=>256|277=>257|n=>n,fun|31=>56|9=>9|3=>3|4=>4|0=>0|20=>20|72=>220|76=>224|70=>218|37=>154|75=>223|127=>240|164=>246|5=>5|80=>226|n=>n,fun|n=>n⟩
theorem Tryz.lays156:as5 o9 Tryz.lays156_ren:={
 mixed:=by kernel_rfl
 f156:=Tryz.func202.trans (congrArg some (by kernel_rfl))
 f165:=Tryz.func224.trans (congrArg some (by kernel_rfl))
 f166:=Tryz.func225.trans (congrArg some (by kernel_rfl))
 f169:=Tryz.func226.trans (congrArg some (by kernel_rfl))
 f240:=Tryz.func242.trans (congrArg some (by kernel_rfl))
 f241:=Tryz.func243.trans (congrArg some (by kernel_rfl))
 f276:=Tryz.func256.trans (congrArg some (by kernel_rfl))
 f277:=Tryz.func257.trans (congrArg some (by kernel_rfl))
 t0:=aa6
 a0:=ad7
 z0:=ad0
 v0:=ab3
 t3:=p9
 a3:=ab8
 z3:=ab0
 v3:=w8
 t4:=x3
 a4:=ac3
 z4:=ab6
 v4:=x6
 t9:=y8
 a9:=ac8
 z9:=ac5
 v9:=aa3
 t20:=am3
 a20:=ar7
 z20:=ao9
 v20:=an1
 t31:=Tryz.underlying56
 a31:=Tryz.isAgg56
 z31:=Tryz.sizeOf56
 v31:=Tryz.zeroValue56
 t37:=ak4
 a37:=ao6
 z37:=ao0
 v37:=am4
 t70:=Tryz.underlying218
 a70:=Tryz.isAgg218
 z70:=Tryz.sizeOf218
 v70:=Tryz.zeroValue218
 t72:=Tryz.underlying220
 a72:=Tryz.isAgg220
 z72:=Tryz.sizeOf220
 v72:=Tryz.zeroValue220
 t75:=Tryz.underlying223
 a75:=Tryz.isAgg223
 z75:=Tryz.sizeOf223
 v75:=Tryz.zeroValue223
 t76:=Tryz.underlying224
 a76:=Tryz.isAgg224
 z76:=Tryz.sizeOf224
 v76:=Tryz.zeroValue224
 t127:=Tryz.underlying240
 a127:=Tryz.isAgg240
 z127:=Tryz.sizeOf240
 v127:=Tryz.zeroValue240
 t164:=Tryz.underlying246
 a164:=Tryz.isAgg246
 z164:=Tryz.sizeOf246
 v164:=Tryz.zeroValue246 }
theorem Tryz.Builder_Extra_156:Builder.Extra o9 Tryz.lays156_ren:={
 sizeBuilder:=by kernel_rfl
 liesBuilder:=by kernel_rfl
 t5:=y7
 a5:=ac7
 z5:=ac4
 v5:=aa2
 infoByte:=by kernel_rfl
 cellsByte:=by kernel_rfl
 sizeByte:=by kernel_rfl
 neB5:=by decide }
def Tryz.lays195_ren:aa8:=⟨fun|195=>223|n=>n,fun|9=>9|3=>3|0=>0|4=>4|n=>n,fun|n=>n⟩
theorem Tryz.lays195:as6 o9 Tryz.lays195_ren:={
 mixed:=by kernel_rfl
 f195:=ar3.trans (congrArg some (by kernel_rfl))
 t0:=aa6
 a0:=ad7
 z0:=ad0
 v0:=ab3
 t3:=p9
 a3:=ab8
 z3:=ab0
 v3:=w8
 t4:=x3
 a4:=ac3
 z4:=ab6
 v4:=x6
 t9:=y8
 a9:=ac8
 z9:=ac5
 v9:=aa3 }
def Tryz.laysM171_ren:aa8:=⟨fun|171=>123|243=>169|246=>206|283=>228|284=>229|285=>230|286=>231|129=>151|317=>245|318=>246|319=>247|320=>248|337=>258|338=>259|n=>n,fun|3=>3|9=>9|2=>2|4=>4|171=>228|0=>0|53=>167|37=>154|5=>5|173=>230|212=>242|51=>24|20=>20|213=>243|46=>103|232=>249|233=>250|n=>n,fun|17=>3|18=>4|19=>5|n=>n⟩
theorem Tryz.laysM171:ar8 o9 Tryz.laysM171_ren:={
 mixed:=by kernel_rfl
 f129:=Tryz.func151.trans (congrArg some (by kernel_rfl))
 f171:=Tryz.func123.trans (congrArg some (by kernel_rfl))
 f243:=Tryz.func169.trans (congrArg some (by kernel_rfl))
 f246:=Tryz.func206.trans (congrArg some (by kernel_rfl))
 f283:=Tryz.func228.trans (congrArg some (by kernel_rfl))
 f284:=Tryz.func229.trans (congrArg some (by kernel_rfl))
 f285:=Tryz.func230.trans (congrArg some (by kernel_rfl))
 f286:=Tryz.func231.trans (congrArg some (by kernel_rfl))
 f317:=Tryz.func245.trans (congrArg some (by kernel_rfl))
 f318:=Tryz.func246.trans (congrArg some (by kernel_rfl))
 f319:=Tryz.func247.trans (congrArg some (by kernel_rfl))
 f320:=ar4.trans (congrArg some (by kernel_rfl))
 f337:=ar5.trans (congrArg some (by kernel_rfl))
 f338:=ar6.trans (congrArg some (by kernel_rfl))
 t0:=aa6
 a0:=ad7
 z0:=ad0
 v0:=ab3
 t2:=Tryz.underlying2
 a2:=Tryz.isAgg2
 z2:=Tryz.sizeOf2
 v2:=Tryz.zeroValue2
 t3:=p9
 a3:=ab8
 z3:=ab0
 v3:=w8
 t4:=x3
 a4:=ac3
 z4:=ab6
 v4:=x6
 t5:=y7
 a5:=ac7
 z5:=ac4
 v5:=aa2
 t9:=y8
 a9:=ac8
 z9:=ac5
 v9:=aa3
 t20:=am3
 a20:=ar7
 z20:=ao9
 v20:=an1
 t37:=ak4
 a37:=ao6
 z37:=ao0
 v37:=am4
 t46:=aa7
 a46:=ad4
 z46:=ac6
 v46:=ab1
 t51:=ad5
 a51:=ag4
 z51:=af8
 v51:=ae0
 t53:=ag8
 a53:=ak1
 z53:=aj3
 v53:=ah6
 t171:=Tryz.underlying228
 a171:=Tryz.isAgg228
 z171:=Tryz.sizeOf228
 v171:=Tryz.zeroValue228
 t173:=Tryz.underlying230
 a173:=Tryz.isAgg230
 z173:=Tryz.sizeOf230
 v173:=Tryz.zeroValue230
 t212:=Tryz.underlying242
 a212:=Tryz.isAgg242
 z212:=Tryz.sizeOf242
 v212:=Tryz.zeroValue242
 t213:=Tryz.underlying243
 a213:=Tryz.isAgg243
 z213:=Tryz.sizeOf243
 t232:=ak5
 a232:=ao7
 z232:=ao1
 v232:=am5
 t233:=ak6
 a233:=ao8
 z233:=ao2
 v233:=Tryz.zeroValue250
 g17:=by kernel_rfl
 g18:=by kernel_rfl
 g19:=by kernel_rfl
 i0:=by kernel_rfl
 i2:=by kernel_rfl
 i3:=by kernel_rfl
 i4:=by kernel_rfl
 i5:=by kernel_rfl
 i9:=by kernel_rfl
 i20:=by kernel_rfl
 i37:=by kernel_rfl
 i46:=by kernel_rfl
 i51:=by kernel_rfl
 i53:=by kernel_rfl
 i171:=by kernel_rfl
 i173:=by kernel_rfl
 i212:=by kernel_rfl
 i232:=by kernel_rfl
 i233:=by kernel_rfl
 m17:=by kernel_rfl
 m18:=by kernel_rfl
 m19:=by kernel_rfl }
def Tryz.lays143_ren:aa8:=⟨fun|143=>179|219=>152|217=>187|225=>188|224=>189|267=>190|266=>217|314=>218|n=>n,fun|9=>9|3=>3|4=>4|5=>5|46=>103|146=>216|51=>24|n=>n,fun|1=>0|n=>n⟩
theorem Tryz.lays143:as2 o9 Tryz.lays143_ren:={
 mixed:=by kernel_rfl
 f143:=ar2.trans (congrArg some (by kernel_rfl))
 f217:=ag2.trans (congrArg some (by kernel_rfl))
 f219:=am0.trans (congrArg some (by kernel_rfl))
 f224:=ai3.trans (congrArg some (by kernel_rfl))
 f225:=ai2.trans (congrArg some (by kernel_rfl))
 f266:=ag3.trans (congrArg some (by kernel_rfl))
 f267:=am1.trans (congrArg some (by kernel_rfl))
 f314:=am2.trans (congrArg some (by kernel_rfl))
 t3:=p9
 a3:=ab8
 z3:=ab0
 v3:=w8
 t4:=x3
 a4:=ac3
 z4:=ab6
 v4:=x6
 t5:=y7
 a5:=ac7
 z5:=ac4
 v5:=aa2
 t9:=y8
 a9:=ac8
 z9:=ac5
 v9:=aa3
 t46:=aa7
 a46:=ad4
 z46:=ac6
 v46:=ab1
 t51:=ad5
 a51:=ag4
 z51:=af8
 v51:=ae0
 t146:=ag9
 a146:=ak2
 z146:=aj4
 v146:=ah7
 g1:=by kernel_rfl }
def Tryz.lays145_ren:aa8:=⟨fun|145=>73|220=>109|219=>152|217=>187|225=>188|224=>189|267=>190|266=>217|314=>218|n=>n,fun|9=>9|4=>4|59=>117|3=>3|5=>5|46=>103|146=>216|51=>24|n=>n,fun|1=>0|n=>n⟩
theorem Tryz.lays145:as3 o9 Tryz.lays145_ren:={
 mixed:=by kernel_rfl
 f145:=Tryz.func73.trans (congrArg some (by kernel_rfl))
 f217:=ag2.trans (congrArg some (by kernel_rfl))
 f219:=am0.trans (congrArg some (by kernel_rfl))
 f220:=Tryz.func109.trans (congrArg some (by kernel_rfl))
 f224:=ai3.trans (congrArg some (by kernel_rfl))
 f225:=ai2.trans (congrArg some (by kernel_rfl))
 f266:=ag3.trans (congrArg some (by kernel_rfl))
 f267:=am1.trans (congrArg some (by kernel_rfl))
 f314:=am2.trans (congrArg some (by kernel_rfl))
 t3:=p9
 a3:=ab8
 z3:=ab0
 v3:=w8
 t4:=x3
 a4:=ac3
 z4:=ab6
 v4:=x6
 t5:=y7
 a5:=ac7
 z5:=ac4
 v5:=aa2
 t9:=y8
 a9:=ac8
 z9:=ac5
 v9:=aa3
 t46:=aa7
 a46:=ad4
 z46:=ac6
 v46:=ab1
 t51:=ad5
 a51:=ag4
 z51:=af8
 v51:=ae0
 t59:=Tryz.underlying117
 a59:=Tryz.isAgg117
 z59:=Tryz.sizeOf117
 v59:=Tryz.zeroValue117
 t146:=ag9
 a146:=ak2
 z146:=aj4
 v146:=ah7
 g1:=by kernel_rfl }
def Tryz.lays138_ren:aa8:=⟨fun|138=>235|195=>223|218=>249|143=>179|219=>152|217=>187|225=>188|224=>189|267=>190|266=>217|314=>218|n=>n,fun|9=>9|3=>3|4=>4|5=>5|0=>0|46=>103|146=>216|51=>24|n=>n,fun|1=>0|n=>n⟩
theorem Tryz.lays138:as1 o9 Tryz.lays138_ren:={
 mixed:=by kernel_rfl
 f138:=Tryz.func235.trans (congrArg some (by kernel_rfl))
 f143:=ar2.trans (congrArg some (by kernel_rfl))
 f195:=ar3.trans (congrArg some (by kernel_rfl))
 f217:=ag2.trans (congrArg some (by kernel_rfl))
 f218:=Tryz.func249.trans (congrArg some (by kernel_rfl))
 f219:=am0.trans (congrArg some (by kernel_rfl))
 f224:=ai3.trans (congrArg some (by kernel_rfl))
 f225:=ai2.trans (congrArg some (by kernel_rfl))
 f266:=ag3.trans (congrArg some (by kernel_rfl))
 f267:=am1.trans (congrArg some (by kernel_rfl))
 f314:=am2.trans (congrArg some (by kernel_rfl))
 t0:=aa6
 a0:=ad7
 z0:=ad0
 v0:=ab3
 t3:=p9
 a3:=ab8
 z3:=ab0
 v3:=w8
 t4:=x3
 a4:=ac3
 z4:=ab6
 v4:=x6
 t5:=y7
 a5:=ac7
 z5:=ac4
 v5:=aa2
 t9:=y8
 a9:=ac8
 z9:=ac5
 v9:=aa3
 t46:=aa7
 a46:=ad4
 z46:=ac6
 v46:=ab1
 t51:=ad5
 a51:=ag4
 z51:=af8
 v51:=ae0
 t146:=ag9
 a146:=ak2
 z146:=aj4
 v146:=ah7
 g1:=by kernel_rfl }
def Tryz.lays196_ren:aa8:=⟨fun|196=>222|259=>241|n=>n,fun|9=>9|4=>4|3=>3|5=>5|12=>12|119=>233|0=>0|46=>103|139=>236|138=>235|53=>167|n=>n,fun|3=>1|4=>2|n=>n⟩
theorem Tryz.lays196:as7 o9 Tryz.lays196_ren:={
 mixed:=by kernel_rfl
 f196:=Tryz.func222.trans (congrArg some (by kernel_rfl))
 f259:=Tryz.func241.trans (congrArg some (by kernel_rfl))
 t0:=aa6
 a0:=ad7
 z0:=ad0
 v0:=ab3
 t3:=p9
 a3:=ab8
 z3:=ab0
 v3:=w8
 t4:=x3
 a4:=ac3
 z4:=ab6
 v4:=x6
 t5:=y7
 a5:=ac7
 z5:=ac4
 v5:=aa2
 t9:=y8
 a9:=ac8
 z9:=ac5
 v9:=aa3
 t12:=Tryz.underlying12
 a12:=Tryz.isAgg12
 z12:=Tryz.sizeOf12
 v12:=Tryz.zeroValue12
 t46:=aa7
 a46:=ad4
 z46:=ac6
 v46:=ab1
 t53:=ag8
 a53:=ak1
 z53:=aj3
 v53:=ah6
 t119:=Tryz.underlying233
 a119:=Tryz.isAgg233
 z119:=Tryz.sizeOf233
 t138:=Tryz.underlying235
 a138:=Tryz.isAgg235
 z138:=Tryz.sizeOf235
 v138:=Tryz.zeroValue235
 t139:=Tryz.underlying236
 a139:=Tryz.isAgg236
 z139:=Tryz.sizeOf236
 v139:=Tryz.zeroValue236
 g3:=by kernel_rfl
 g4:=by kernel_rfl }
def Tryz.lays2_21_ren:aa8:=⟨fun|21=>237|27=>251|28=>252|35=>260|39=>261|n=>n,fun|22=>169|3=>3|4=>4|0=>0|n=>n,fun|n=>n⟩
theorem Tryz.lays2_21:as8 o9 Tryz.lays2_21_ren:={
 mixed:=by kernel_rfl
 f21:=Tryz.func237.trans (congrArg some (by kernel_rfl))
 f27:=Tryz.func251.trans (congrArg some (by kernel_rfl))
 f28:=Tryz.func252.trans (congrArg some (by kernel_rfl))
 f35:=Tryz.func260.trans (congrArg some (by kernel_rfl))
 f39:=Tryz.func261.trans (congrArg some (by kernel_rfl))
 t0:=aa6
 a0:=ad7
 z0:=ad0
 v0:=ab3
 t3:=p9
 a3:=ab8
 z3:=ab0
 v3:=w8
 t4:=x3
 a4:=ac3
 z4:=ab6
 v4:=x6
 t22:=Tryz.underlying169
 a22:=Tryz.isAgg169
 z22:=Tryz.sizeOf169
 v22:=Tryz.zeroValue169
 i3:=by kernel_rfl }
def Tryz.lays7_27_ren:aa8:=⟨fun|27=>248|28=>258|29=>259|n=>n,fun|25=>103|3=>3|27=>24|22=>167|4=>4|53=>249|0=>0|5=>5|54=>250|n=>n,fun|0=>4|1=>5|n=>n⟩
theorem Tryz.lays7_27:as9 o9 Tryz.lays7_27_ren:={
 mixed:=by kernel_rfl
 f27:=ar4.trans (congrArg some (by kernel_rfl))
 f28:=ar5.trans (congrArg some (by kernel_rfl))
 f29:=ar6.trans (congrArg some (by kernel_rfl))
 t0:=aa6
 a0:=ad7
 z0:=ad0
 v0:=ab3
 i0:=by kernel_rfl
 t3:=p9
 a3:=ab8
 z3:=ab0
 v3:=w8
 i3:=by kernel_rfl
 t4:=x3
 a4:=ac3
 z4:=ab6
 v4:=x6
 i4:=by kernel_rfl
 t5:=y7
 a5:=ac7
 z5:=ac4
 v5:=aa2
 i5:=by kernel_rfl
 t22:=ag8
 a22:=ak1
 z22:=aj3
 v22:=ah6
 i22:=by kernel_rfl
 t25:=aa7
 a25:=ad4
 z25:=ac6
 v25:=ab1
 i25:=by kernel_rfl
 t27:=ad5
 a27:=ag4
 z27:=af8
 v27:=ae0
 i27:=by kernel_rfl
 t53:=ak5
 a53:=ao7
 z53:=ao1
 v53:=am5
 i53:=by kernel_rfl
 t54:=ak6
 a54:=ao8
 z54:=ao2
 g0:=by kernel_rfl
 g1:=by kernel_rfl }
def Tryz.lays137_ren:aa8:=⟨fun|137=>157|217=>187|266=>217|n=>n,fun|9=>9|5=>5|3=>3|n=>n,fun|n=>n⟩
theorem Tryz.lays137:as0 o9 Tryz.lays137_ren:={
 mixed:=by kernel_rfl
 f137:=ar1.trans (congrArg some (by kernel_rfl))
 f217:=ag2.trans (congrArg some (by kernel_rfl))
 f266:=ag3.trans (congrArg some (by kernel_rfl))
 t3:=p9
 a3:=ab8
 z3:=ab0
 v3:=w8
 t5:=y7
 a5:=ac7
 z5:=ac4
 v5:=aa2
 t9:=y8
 a9:=ac8
 z9:=ac5
 v9:=aa3 }
def Tryz.lays153_ren:aa8:=⟨fun|153=>119|152=>159|226=>160|227=>161|228=>162|137=>157|119=>196|224=>189|225=>188|217=>187|266=>217|n=>n,fun|9=>9|3=>3|4=>4|5=>5|21=>21|117=>177|116=>176|0=>0|46=>103|124=>200|n=>n,fun|n=>n⟩
theorem Tryz.lays153:as4 o9 Tryz.lays153_ren:={
 mixed:=by kernel_rfl
 f119:=Tryz.func196.trans (congrArg some (by kernel_rfl))
 f137:=ar1.trans (congrArg some (by kernel_rfl))
 f152:=Tryz.func159.trans (congrArg some (by kernel_rfl))
 f153:=Tryz.func119.trans (congrArg some (by kernel_rfl))
 f217:=ag2.trans (congrArg some (by kernel_rfl))
 f224:=ai3.trans (congrArg some (by kernel_rfl))
 f225:=ai2.trans (congrArg some (by kernel_rfl))
 f226:=Tryz.func160.trans (congrArg some (by kernel_rfl))
 f227:=Tryz.func161.trans (congrArg some (by kernel_rfl))
 f228:=Tryz.func162.trans (congrArg some (by kernel_rfl))
 f266:=ag3.trans (congrArg some (by kernel_rfl))
 t0:=aa6
 a0:=ad7
 z0:=ad0
 v0:=ab3
 t3:=p9
 a3:=ab8
 z3:=ab0
 v3:=w8
 t4:=x3
 a4:=ac3
 z4:=ab6
 v4:=x6
 t5:=y7
 a5:=ac7
 z5:=ac4
 v5:=aa2
 t9:=y8
 a9:=ac8
 z9:=ac5
 v9:=aa3
 t21:=Tryz.underlying21
 a21:=Tryz.isAgg21
 z21:=Tryz.sizeOf21
 v21:=Tryz.zeroValue21
 t46:=aa7
 a46:=ad4
 z46:=ac6
 v46:=ab1
 t116:=Tryz.underlying176
 a116:=Tryz.isAgg176
 z116:=Tryz.sizeOf176
 t117:=Tryz.underlying177
 a117:=Tryz.isAgg177
 z117:=Tryz.sizeOf177
 v117:=Tryz.zeroValue177
 t124:=Tryz.underlying200
 a124:=Tryz.isAgg200
 z124:=Tryz.sizeOf200
 v124:=Tryz.zeroValue200 }
end Go.Proofs
namespace Go.Proofs.YtfkhfkjcidamaaaGreatDoor.E
set_option linter.all false
section
open Go Go.Proofs Go.Sort
set_option maxRecDepth 100000
theorem VW{C:Cfg}{St:Nat->Prop}{w:World}{g:Nat}{k:IntKind}{zs:List Int}(a:GOK C St w)(b:C.G=GX)(h:GX.tab g=some (k,zs)):∃e x,w.heap[g]? = some (.cells (zs.map λz=>Value.int k z).toArray e x):=(a.1 g k zs (by rw[b];exact h)).2
theorem Ci1{C:Cfg}{St:Nat->Prop}{w:World}(a:GOK C St w)(b:C.G=GX):∃m,w.cell? ⟨0,0,none⟩=some (.int .i64 m):=(a.2 _ (by rw[b];rfl)).2
theorem ET{w:World}{g:Nat}{a:List Int}{k:IntKind}{e:TypeId}{x}(h:w.heap[g]? = some (.cells (a.map λz=>Value.int k z).toArray e x))(i:Nat)(b:i<a.length):w.cell? ⟨g,i,none⟩=some (.int k (a.getD i 0)):=by simp[World.cell?,h,b8,j5 b]
theorem C39{C:Cfg}{St:Nat->Prop}{w:World}(f:GOK C St w)(a:C.G=GX):Lib.Utf8Tabs 1 2 w:=by
 obtain⟨j,m,h⟩:=VW (g:=1) (k:=.u8) (zs:=al1) f a rfl;obtain⟨b,n,d⟩:=VW (g:=2) (k:=.u8) (zs:=Gq) f a rfl;refine⟨λc a=>?_,λi l=>⟨?_,?_⟩⟩
 ·rw[ET h c (by simp[al1];omega)];simp[al1,b8,j5,a]
 ·rw[ET d (2*i) (by simp[Gq];omega)];have:2*i<32:=by omega
  simp[Gq,b8,this]
 ·rw[ET d (2*i+1) (by simp[Gq];omega)];have:2*i+1<32:=by omega
  have e:(2*i+1) / 2=i:=by omega
  have b:¬(2*i+1) % 2=0:=by omega
  simp[Gq,b8,this,e,b]
theorem Ci2{C:Cfg}{St:Nat->Prop}{w:World}(b:GOK C St w)(c:C.G=GX):Lib.TabIs o9 w "internal/strconv.uint64pow10" .u64 aq1:=by
 obtain⟨d,e,a⟩:=VW (g:=3) (k:=.u64) (zs:=aq1) b c rfl;unfold Lib.TabIs World.var?
 rw [show o9.globalNamed "internal/strconv.uint64pow10" = some 3 by kernel_rfl]
 simp only[am8,a]
theorem Bj7:B3 o9 GX 179 HK:=by
 refine B3.fix (pf:=TN) _ (I7 (fn:=Tryz.f179) (by kernel_rfl) (by kernel_rfl) (by kernel_rfl) ?_);intro args ret o h;unfold TN at h;split at h
 ·rename_i s p;obtain⟨b,h⟩:=C3 h;obtain⟨rfl,rfl⟩:=J4 h;refine⟨rfl,rfl,λC r a t w q c f d=>?_⟩;obtain⟨U,V,rfl,j,k⟩:=d.arr2;obtain⟨n,rfl,rfl⟩:=j.inv_str;obtain⟨l,rfl,rfl⟩:=k.inv_str;obtain⟨m,g⟩:=Ci1 c a;have i:=L3 b;refine(Any.strings_Index Tryz.lays143 n l m w (by simp at i;omega) g).mono ?_;rintro e w' ⟨rfl,rfl⟩;exact⟨_,rfl,af6 _ _,VP.mk_int _ _⟩
 ·cases h
theorem Cy8:B3 o9 GX 73 Au1:=by
 refine B3.fix (pf:=TM) _ (I7 (fn:=Tryz.f73) (by kernel_rfl) (by kernel_rfl) (by kernel_rfl) ?_);intro args ret q h;unfold TM at h;split at h
 ·rename_i s p;obtain⟨b,h⟩:=C3 h;obtain⟨rfl,rfl⟩:=J4 h;refine⟨rfl,rfl,λC t a u w r c f d=>?_⟩;obtain⟨U,V,rfl,j,k⟩:=d.arr2;obtain⟨o,rfl,rfl⟩:=j.inv_str;obtain⟨l,rfl,rfl⟩:=k.inv_str;obtain⟨m,g⟩:=Ci1 c a;have i:=L3 b;refine(Any.strings_Cut Tryz.lays145 o l m w (by simp at i;omega) g).mono ?_;rintro e w' ⟨rfl,n,rfl⟩;exact⟨_,rfl,Oq _ _,VP.mk_tup3 (VP.mk_str _) (VP.mk_str _) (VP.mk_bool _)⟩
 ·cases h
theorem Cy7:B3 o9 GX 235 Au0:=by
 refine B3.fix (pf:=TL) _ (I7 (fn:=Tryz.f235) (by kernel_rfl) (by kernel_rfl) (by kernel_rfl) ?_);intro args ret o h;unfold TL at h;split at h
 ·rename_i s p;obtain⟨f,h⟩:=C3 h;obtain⟨rfl,rfl⟩:=J4 h;refine⟨rfl,rfl,λC t g u w q r j i=>?_⟩;obtain⟨U,V,rfl,l,m⟩:=i.arr2;obtain⟨n,rfl,rfl⟩:=l.inv_str;obtain⟨b,rfl,k⟩:=m.inv_str;obtain⟨c,rfl⟩:∃c,p=[c]:=by
   match p,f with
   | [c],_=>exact⟨c,rfl⟩
  have a:b=⟨#[c]⟩:=by
   cases b with
   | mk d=>congr 1;exact Array.toList_inj.1 k
  subst a;refine(Any.strings_Count_one Tryz.lays138 n c w).mono ?_;rintro e w' ⟨rfl,rfl⟩;exact⟨_,rfl,af6 _ _,VP.mk_int _ _⟩
 ·cases h
theorem Cx1:B3 o9 GX 123 As7:=by
 refine B3.fix (pf:=RW) _ (I7 (fn:=Tryz.f123) (by kernel_rfl) (by kernel_rfl) (by kernel_rfl) ?_);intro args ret l h;unfold RW at h;split at h
 ·rename_i n;obtain⟨b,h⟩:=C3 h;obtain⟨rfl,rfl⟩:=J4 h;refine⟨rfl,rfl,λC o a p w m c i g=>?_⟩;obtain⟨U,rfl,j⟩:=g.arr1;obtain rfl:=j.inv_int;obtain⟨d,f⟩:=E6.1 b;refine(Any.strconv_Itoa Tryz.laysM171 n (by omega) (by omega) w (Ci2 c a)).mono ?_;rintro e w' ⟨rfl,k,os,rfl⟩;refine⟨_,rfl,(Oq w k).trans (show ar0 w.heap.size _ _ from IE (w.drewN k) os),?_⟩;have:Lib.itoa n=w6 n.toNat:=by unfold Lib.itoa;rw[F7]
  rw[this];exact VP.mk_str _
 ·cases h
theorem YO{l:LL}(h:l.all isS=true):l=D2 (l.map elS):=by
 unfold D2;rw[af4]
 symm
 rw[z7 (g:=id)]
 ·simp
 ·intro x a;have:=x9.1 h x a;unfold isS at this;split at this
  ·rfl
  grind
theorem Bu4:B3 o9 GX 202 TQ:=by
 refine B3.fix (pf:=HN) _ (I7 (fn:=Tryz.f202) (by kernel_rfl) (by kernel_rfl) (by kernel_rfl) ?_);intro args ret Hc h;unfold HN at h;split at h
 ·rename_i z t l p;obtain⟨L,h⟩:=C3 h;obtain⟨O,h⟩:=C3 h;obtain⟨P,h⟩:=C3 h;obtain⟨rfl,rfl⟩:=J4 h;refine⟨rfl,rfl,λC hP Q Γ w Vs hG H R=>?_⟩;obtain⟨U,V,rfl,Z,hv⟩:=R.arr2;obtain⟨u,rfl,rfl⟩:=hv.inv_str;have m:=L3 O;have hn:=L3 P;have Y:=Z.inv_s;have c:∀(a:Option Addr) (cap:Nat),l=[]->Calls o9 202 #[.slice a 0 cap,.string u] w λe w'=>∃V,e = .returned V/\ar0 w.heap.size w w'/\VP Γ (A5 []) w' (.s (.str (ab4 (l.map elS) u.data.toList))) V:=by
   intro a cap T;subst T;refine(Any.strings_Join_none Tryz.lays156 Tryz.Builder_Extra_156 a cap u w).mono ?_;rintro e w' ⟨rfl,rfl⟩;exact⟨_,rfl,af6 _ _,VP.mk_str _⟩
  cases Y with
  | nil=>exact c _ _ rfl
  | emp=>exact c _ _ rfl
  | sl _ _ g off n cap sz Vc I M hm ht S W y K=>
   subst I;have N:=YO L;have J:∀i (h:i<l.length),∃b:ByteArray,(l[i])=[SV.str b.data.toList]/\w.cell? ⟨g,off+i,none⟩=some (.string b):=by
    intro i B;have d:=x9.1 L (l[i]) (List.getElem_mem B);unfold isS at d;split at d
    ·rename_i x r;have k:=y i B 0 (by rw[r];simp);have o:=K i B 0 (by rw[r];simp);simp only[r,List.getElem_cons_zero] at o;obtain⟨b,f,rfl⟩:=o.inv_str;rw[f] at k;exact⟨b,r,by simpa using k⟩
    ·cases d
   obtain⟨xs,q,A⟩:∃xs:List ByteArray,xs.map (·.data.toList)=l.map elS/\∀(j:Nat) x,xs[j]? = some x->w.cell? ⟨g,off+j,none⟩=some (.string x):=by
    refine⟨(l.map elS).map λs=>⟨s.toArray⟩,by simp[ah1],?_⟩;intro j x d;simp only[al3] at d;cases D:l[j]? with
    | none=>simp[D] at d
    | some el=>
     obtain⟨F,rfl⟩:=List.getElem?_eq_some_iff.1 D;obtain⟨b,f,v⟩:=J j F;simp only[D,ac1,j4] at d;rw[f] at d;simp[elS,SV.gS] at d;rw[<-d];exact v
   have G:xs.length=l.length:=by
    have:=congrArg o5 q;simpa using this
   rw[<-q] at m ⊢;have f:g<w.heap.size:=H g S;have X:l.length<=140737488355328:=by omega
   refine(G▸Any.strings_Join Tryz.lays156 Tryz.Builder_Extra_156 g off cap xs u w A f (by omega) (by omega) (by omega)).mono ?_;rintro e w' ⟨rfl,hw⟩;exact⟨_,rfl,hw,VP.mk_str _⟩
 ·cases h
theorem Bj4(b:Nat)(f:b<=9223372036854775808):B3 o9 GX 95 (Lj b):=by
 induction b with
 | zero=>
  intro args ret c h;exfalso;unfold Lj Ij at h;split at h
  ·rename_i n g;obtain⟨a,h⟩:=C3 h;have:=E6.1 a;omega
  ·cases h
 | succ b d=>
  refine B3.fix (pf:=Ij (b+1)) _ (J0 [] (C₀:=Zt b) (M8.ok (l:=[(95,Lj b)]) rfl ⟨d (by omega),trivial⟩) (I6 rfl (by kernel_rfl)) follows ?_);intro args ret c h;unfold Ij at h;split at h
  ·rename_i n;obtain⟨a,h⟩:=C3 h;obtain⟨rfl,rfl⟩:=J4 h;have e:=(A02 b noY () 0 n).trans (VV b (by omega) n a);exact⟨rfl,rfl,rfl,1,_,_,e,rfl⟩
  ·cases h
theorem Ca3:B3 o9 GX 95 NN:=Bj4 4294967296 (by omega)
theorem Dw0(x:Nat)(h:x<65536):Av4 .u64 (x:Int) 15=((x % 16:Nat):Int):=by unfold Av4;rw[show ak9 .u64=64 from rfl,show(15:Int)=((15:Nat):Int) from rfl,Dl0 64 x 15 (by omega) (by omega),show x &&& 15=x % 16 from Nat.and_two_pow_sub_one_eq_mod x 4];exact ZC (by omega) (by omega)
theorem D00(x:Nat):EJ .u64 (x:Int) 4=((x / 16:Nat):Int):=by unfold EJ;show Int.fdiv (x:Int) 16=_;grind
theorem Bo1(d:Nat)(h:d<16):bAt (([48,49,50,51,52,53,54,55,56,57,97,98,99,100,101,102,103,104,105,106,107,108,109,110,111,112,113,114,115,116]:List UInt8)++([117,118,119,120,121,122]:List UInt8)) (d:Int)=((Nx d).toNat:Int):=by
 have:∀d:Fin 16,bAt (([48,49,50,51,52,53,54,55,56,57,97,98,99,100,101,102,103,104,105,106,107,108,109,110,111,112,113,114,115,116]:List UInt8)++([117,118,119,120,121,122]:List UInt8)) (d.val:Int)=((Nx d.val).toNat:Int):=by decide
 exact this ⟨d,h⟩
def Tn(i:Nat)(s:By):LL:=a8 i [SV.int .u8 0]++s.map D9
theorem IW(i:Nat)(s:By):(Tn i s).length=i+s.length:=by simp[Tn]
theorem Ac0(i:Nat)(s:By)(c:UInt8):al6 (Tn (i+1) s) i (G1 (o6 (Tn (i+1) s) i []) 0 [SV.int .u8 (c.toNat:Int)])=Tn i (c::s):=by
 have a:o6 (Tn (i+1) s) i []=[SV.int .u8 0]:=by
  unfold Tn;grind
 rw[a];unfold Tn;rw[List.replicate_succ',x4,List.set_append_right _ _ (by simp),List.length_replicate,aq7];rfl
theorem Az9{R:Type}(z t:Bool)(l:LL){e:Bool->Bool->LL->Int->Int->LL->Option R}:∀(v i n:Nat) (s:By),v<65536->v<n->i+s.length=65->(V5 v).length+s.length<=60->
  ∃(u a:Nat) (b:By),u<16/\Nx u::b=V5 v++s/\a+b.length=65/\Km LF n z t l (v:Int) (i:Int) (Tn i s) e=e z t l (u:Int) (a:Int) (Tn a b):=by
 intro v
 induction v using ad1 with
 | _ v w=>
  intro i n s r y q x;obtain⟨n,rfl⟩:∃m,n=m+1:=⟨n-1,by omega⟩
  rw[Km];by_cases h:v<16
  ·refine⟨v,i,s,h,by rw[Ch h];rfl,q,?_⟩;rw[A8];rfl
  ·have d:=Bk h;have c:(V5 v).length=(V5 (v / 16)).length+1:=by rw[d];simp
   obtain⟨j,rfl⟩:∃j,i=j+1:=⟨i-1,by omega⟩
   have f:A1 (((j+1:Nat):Int)-1)=(j:Int):=by rw[A7];omega
   obtain⟨u,a,b,g,k,o,p⟩:=w (v / 16) (by omega) j n (Nx (v % 16)::s) (by omega) (by omega) (by rw[p6];omega) (by rw[p6];omega);refine⟨u,a,b,g,by rw[k,d];simp,o,?_⟩;rw[A6,b9,cond_true,Dw0 v r];simp only[vl];rw[D00,f,j0,E9,Bo1 _ (by omega),E9];simp only[cond_true];rw[Ac0,IW,show(decide (j<j+1+s.length))=true from decide_eq_true (by omega)];exact p
theorem Bw8{R:Type}{k0:By->LL->Option R}(z t:Bool)(l:LL)(v:Int)(f:ltN v 65536=true):∃p,Ad2 LF z t l v k0=k0 (V5 v.toNat) p:=by
 obtain⟨d,m⟩:=E6.1 f;obtain⟨v,rfl⟩:=j9 d;have k:=C7;have r:=JN v (by omega);rw[j0];unfold Ad2;have o:(a8 65 [SV.int .u8 (0:Int)])=Tn 65 []:=by unfold Tn;rw[aq5,aa0]
 rw[o];obtain⟨u,i,s,g,c,q,h⟩:=Az9 (R:=R) z t l v 65 LF [] (by omega) (by omega) rfl (by rw[ab2];omega);rw[aa0] at c;have n:s.length<=3:=by have:=congrArg o5 c;rw[p6] at this;omega
 obtain⟨j,rfl⟩:∃j,i=j+1:=⟨i-1,by omega⟩
 refine⟨Tn j (Nx u::s),?_⟩;rw[show((16:Int)==16)=true from rfl,cond_true,cond_true];refine j7 h ?_;have e:A1 (((j+1:Nat):Int)-1)=(j:Int):=by rw[A7];omega
 simp only[vl];rw[e,j0,E9,Bo1 u g,E9];simp only[cond_true];have a:(Nx u::s).length=s.length+1:=rfl;have b:((Tn j (Nx u::s)).drop j).take (65-j)=(Nx u::s).map D9:=by
  unfold Tn;rw[List.drop_left' (by simp),p7 (by rw[p4,a];omega)]
 rw[Ac0,IW,IW,show(decide (j<j+1+s.length))=true from decide_eq_true (by omega),a,show(decide (j+(s.length+1)=65))=true from decide_eq_true (by omega),I4,b,X7,Y4,c];rfl
theorem A00(z t:Bool)(l:LL)(v:Int)(c:ltN v 65536=true):∃r H,Ad2 LF z t l v (λb a=>rv (.tup [.fl 0,.s (.str b)]) [.arr true 5 1 [],.arr false 243 1 a])=rv r H/\r.stab [1,0] H = .tup [.s (.sl true true 1 []),.s (.str (V5 v.toNat))]:=by obtain⟨d,e⟩:=Bw8 (k0:=(λb a=>rv (.tup [.fl 0,.s (.str b)]) [.arr true 5 1 [],.arr false 243 1 a])) z t l v c;exact⟨_,_,e,rfl⟩
theorem Bx0{C:Cfg}{St:Nat->Prop}{w:World}(c:GOK C St w)(d:C.G=GX):TabAt 5 al0 w:=by obtain⟨e,f,b⟩:=VW (g:=5) (k:=.u8) (zs:=al0.map λn:Nat=>(n:Int)) c d rfl;intro j a;rw[ET b j (by rw[p4];exact a)];simp[b8,j5 a]
theorem D01:B3 o9 GX 248 Dm3:=by
 refine B3.fix (pf:=Cd6) _ (I7 (fn:=Tryz.f248) (by kernel_rfl) (by kernel_rfl) (by kernel_rfl) ?_);intro args ret i h;unfold Cd6 at h;split at h
 ·rename_i x;obtain⟨b,h⟩:=C3 h;obtain⟨rfl,rfl⟩:=J4 h;obtain rfl:x=16:=eq_of_beq b;refine⟨rfl,rfl,λC k a l w j c f d=>?_⟩;obtain⟨U,rfl,g⟩:=d.arr1;obtain rfl:=g.inv_int;refine(Any7.bits_TrailingZeros Tryz.lays7_27 16 (by omega) w (λ_=>Bx0 c a)).mono ?_;rintro e w' ⟨rfl,rfl⟩;exact⟨_,rfl,af6 _ _,VP.mk_int _ _⟩
 ·cases h
theorem Dg7:B3 o9 GX 247 RV:=by
 refine B3.fix (pf:=GB) _ (J0 [] (C₀:=UO LF) (M8.ok (l:=[]) rfl trivial) (I6 rfl (by kernel_rfl)) follows ?_);intro args ret b h;unfold GB at h;split at h
 ·rename_i x;obtain⟨a,h⟩:=C3 h;obtain⟨rfl,rfl⟩:=J4 h;obtain rfl:x=16:=eq_of_beq a;exact⟨rfl,rfl,rfl,1,_,_,Cj9 LF noY () 0,rfl⟩
 ·cases h
theorem Dg3:B3 o9 GX 231 RH:=by
 refine B3.fix (pf:=FW) _ (J0 [1,0] (C₀:=Io LF) (M8.ok (l:=[(247,RV),(248,Dm3)]) rfl ⟨Dg7,D01,trivial⟩) (I6 rfl (by kernel_rfl)) follows ?_);intro args ret k h;unfold FW at h;split at h
 ·rename_i c a ds v b neg app;obtain⟨d,h⟩:=C3 h;obtain⟨f,h⟩:=C3 h;obtain⟨g,h⟩:=C3 h;obtain⟨i,h⟩:=C3 h;obtain⟨rfl,rfl⟩:=J4 h;obtain rfl:b=16:=eq_of_beq f;obtain rfl:neg=false:=by simpa using g
  obtain rfl:app=false:=by simpa using i
  obtain⟨r,H,e,j⟩:=A00 c a ds v d;exact⟨rfl,rfl,rfl,1,r,H,(Ch8 LF noY () 0 c a ds v).trans e,j⟩
 ·cases h
theorem Dg6:B3 o9 GX 244 RU:=by
 refine B3.fix (pf:=GA) _ (J0 [] (C₀:=UN LF) (M8.ok (l:=[(231,RH)]) rfl ⟨Dg3,trivial⟩) (I6 rfl (by kernel_rfl)) follows ?_);intro args ret f h;unfold GA at h;split at h
 ·rename_i v b;obtain⟨a,h⟩:=C3 h;obtain⟨c,h⟩:=C3 h;obtain⟨rfl,rfl⟩:=J4 h;obtain rfl:b=16:=eq_of_beq c;have e:Bp4 LF v (λd=>rv (.s (.str d)) [])=rv (.s (.str (V5 v.toNat))) []:=by
   unfold Bp4;rw[a];rfl
  exact⟨rfl,rfl,rfl,1,_,_,(Cj3 LF noY () 0 v).trans e,rfl⟩
 ·cases h
theorem Ds7:B3 o9 GX 227 Cb7:=by
 refine B3.fix (pf:=RJ) _ (J0 [] (C₀:=Aw4 LF) (M8.ok (l:=[(244,RU)]) rfl ⟨Dg6,trivial⟩) (I6 rfl (by kernel_rfl)) follows ?_);intro args ret f h;unfold RJ at h;split at h
 ·rename_i v b;obtain⟨a,h⟩:=C3 h;obtain⟨c,h⟩:=C3 h;obtain⟨rfl,rfl⟩:=J4 h;obtain rfl:b=16:=eq_of_beq c;have e:C36 LF v (λd=>rv (.s (.str d)) [])=rv (.s (.str (V5 v.toNat))) []:=by
   unfold C36;rw[a];rfl
  exact⟨rfl,rfl,rfl,1,_,_,(C37 LF noY () 0 v).trans e,rfl⟩
 ·cases h
end
section
open Go Go.Proofs
theorem Dr9(z t:Bool)(l:LL)(c:l.all Wi=true)(d:x5 l.length 8=true):∃r H,v6j LF z t l (λb a=>rv (.s (.str b)) [.arr true 9 1 a])=rv r H/\r.stab [] H = .s (.str (O4 (l.map elN))):=by obtain⟨f,e⟩:=Cw1 (k0:=(λb a=>rv (.s (.str b)) [.arr true 9 1 a])) z t l c d;exact⟨_,_,e,rfl⟩
theorem Dr7(a b c d f g h i:Int)(l:ok8 a b c d f g h i=true):∃r H,v6f LF a b c d f g h i (λk j=>rv (.s (.str k)) [.arr false 26 1 j])=rv r H/\r.stab [] H = .s (.str (Cx (n8 a b c d f g h i))):=by obtain⟨m,e⟩:=Cv9 (k0:=(λk j=>rv (.s (.str k)) [.arr false 26 1 j])) a b c d f g h i l;exact⟨_,_,e,rfl⟩
def v6V(s:By):PV:=.tup [.agg [.s (.int .u16 (v6c 0 s)),.s (.int .u16 (v6c 1 s)),.s (.int .u16 (v6c 2 s)),.s (.int .u16 (v6c 3 s)),.s (.int .u16 (v6c 4 s)),.s (.int .u16 (v6c 5 s)),.s (.int .u16 (v6c 6 s)),.s (.int .u16 (v6c 7 s))],.s (.bool (v6B s).isSome)]
theorem Ds2(s:By)(k:A3 s.length=true):∃r H,v6p LF s (λb c d f g h i j r8 a l10=>rv (.tup [.agg [.s (.int .u16 b),.s (.int .u16 c),.s (.int .u16 d),.s (.int .u16 f),.s (.int .u16 g),.s (.int .u16 h),.s (.int .u16 i),.s (.int .u16 j)],.s (.bool r8)]) [.arr false 26 1 a,.arr false 26 1 l10])=rv r H/\r.stab [0,0] H=v6V s:=by obtain⟨l,m,e⟩:=Cw2 (k0:=(λb c d f g h i j r8 a l10=>rv (.tup [.agg [.s (.int .u16 b),.s (.int .u16 c),.s (.int .u16 d),.s (.int .u16 f),.s (.int .u16 g),.s (.int .u16 h),.s (.int .u16 i),.s (.int .u16 j)],.s (.bool r8)]) [.arr false 26 1 a,.arr false 26 1 l10])) s k;exact⟨_,_,e,rfl⟩
theorem Dd0(s:By)(k:A3 s.length=true):∃r H,Cr9 LF s (λb c d f g h i j r8 a l10=>rv (.tup [.agg [.s (.int .u16 b),.s (.int .u16 c),.s (.int .u16 d),.s (.int .u16 f),.s (.int .u16 g),.s (.int .u16 h),.s (.int .u16 i),.s (.int .u16 j)],.s (.bool r8)]) [.arr false 26 1 a,.arr false 26 1 l10])=rv r H/\r.stab [0,0] H=v6V s:=by obtain⟨l,m,e⟩:=B65 (k0:=(λb c d f g h i j r8 a l10=>rv (.tup [.agg [.s (.int .u16 b),.s (.int .u16 c),.s (.int .u16 d),.s (.int .u16 f),.s (.int .u16 g),.s (.int .u16 h),.s (.int .u16 i),.s (.int .u16 j)],.s (.bool r8)]) [.arr false 26 1 a,.arr false 26 1 l10])) s k;exact⟨_,_,e,rfl⟩
set_option maxRecDepth 100000
section
variable {Z R : Type} (L : Nat) (Q : G0) (Y : Yh Z) (s : Z) (k : Out -> St Z -> Option R)
noncomputable abbrev Aa4:Code:=C8 ap3
noncomputable def Gr(L:Nat):Cfg:=B7 L [164] (A2 [(16,[2,0,4,41,0,0])]) [(120,FZ),(197,Bk5),(198,Cc0),(199,Bm8),(102,Qg),(200,Cc7),(176,NS),(201,Cc4),(202,TQ)] (A2 [(28,[2,0]),(25,[2,0]),(27,[2,0]),(26,[2,10,64]),(24,[2,10,59]),(23,[2,10]),(22,[2,5,41,0,0]),(21,[2,5,41,0,0]),(20,[2,0]),(19,[2,5,0,1,0,37,0,0,10]),(18,[2,5,0,1,0,37,0,0]),(17,[2,5,0,0,39,0,0]),(16,[2,5,41,0,0,0]),(15,[2,5,41,0,0]),(14,[2,5]),(13,[2,0]),(12,[2,0]),(11,[2,3,37]),(10,[2,3,0]),(9,[2,1,32]),(8,[2,1]),(7,[2,0]),(6,[2,1,27]),(5,[2,1,0]),(2,[2,0]),(4,[2,0]),(3,[0,1,16]),(1,[0,1,11]),(0,[0,1])]) [120,198,199,102,200,201,202] (A2 [(3,[2,10]),(1,[2,5]),(2,[2,5,41,0,0]),(0,[0,1])]) (some [2,0]) [] [] []
noncomputable def U1{R:Type}(L n:Nat)(a:Nat)(i c:Int)(e:LL)(g:Int->LL->Option R)(h:Nat->LL->Option R):Option R:=match n with|0=>none|n+1=>cond (ltI c i) (cond (inR c a) (cond (okE Oa e (0+(j6 c)) 0) (vl (gX e (0+(j6 c)) 0) λb=>cond (A3 b.length) (vl (↑((H9 b)).2:Int) λd=>cond (d !=0) (g d e) (cond (inR c a) (cond (decide ((0+(j6 c))<e.length)) (vl (al6 e (0+(j6 c)) (G1 (o6 e (0+(j6 c)) []) 0 [(SV.str ((H9 b)).1)])) λf=>U1 L n a i (A1 (c+1)) f g h) none) none)) none) none) none) (h a e)
theorem VX(n:Nat)(a:Nat)(d e:Int)(c:LL):D0 2 ((Gr L).keep 16) (bd (Gr L) Q Y (cd [1,1,1,1,1,1,1,0,1,0,0] Aa4)) n ⟨gp [(2,.ptr 0 0 0),(5,.vw 1 0 a),(41,.vw 1 0 a),(0,pI d),(0,pI e)] 31,[.box [pI (0:Int),pS ([]:List UInt8),p32 (0:Int),p16 (0:Int),p16 (0:Int),p16 (0:Int),p16 (0:Int),p16 (0:Int),p16 (0:Int),p16 (0:Int),p16 (0:Int)],.arr false 9 1 c],s⟩ k =
 U1 L n a d e c (λn0 b=>k .ret ⟨gp [(2,.ptr 0 0 0),(0,pI n0)] 80,[.box [pI (0:Int),pS ([]:List UInt8),p32 (0:Int),p16 (0:Int),p16 (0:Int),p16 (0:Int),p16 (0:Int),p16 (0:Int),p16 (0:Int),p16 (0:Int),p16 (0:Int)],.arr false 9 1 b],s⟩) (λa b=>k (.exit 1) ⟨gp [(2,.ptr 0 0 0),(5,.vw 1 0 a)] 75,[.box [pI (0:Int),pS ([]:List UInt8),p32 (0:Int),p16 (0:Int),p16 (0:Int),p16 (0:Int),p16 (0:Int),p16 (0:Int),p16 (0:Int),p16 (0:Int),p16 (0:Int)],.arr false 9 1 b],s⟩):=by
 induction n generalizing a d e c with
 | zero=>rfl
 | succ n f=>rw[U1];simp only[<-f];kernel_rfl
noncomputable def AQ{R:Type}(L:Nat)(a:By)(t:Int->By->Int->Int->Int->Int->Int->Int->Int->Int->Int->Int->Int->By->Int->Int->Int->Int->Int->Int->Int->Int->Int->Option R)(y:Int->By->Int->Int->By->LL->Option R):Option R:=cond (ltI 1024 (a.length:Int)) (t 0 ([]:List UInt8) 0 0 0 0 0 0 0 0 0 3 0 ([]:List UInt8) 0 0 0 0 0 0 0 0 0) (cond (A3 a.length) (cond (ae6 ([91]:List UInt8) a) (cond (A3 a.length) (cond (Cj7 a) (vl (↑(B4.kind ((Q4 a)).1):Int) λf=>vl (B4.name ((Q4 a)).1) λr=>vl (↑(B4.v4 ((Q4 a)).1):Int) λg=>vl (↑(o6 (B4.v6 ((Q4 a)).1) 0 0):Int) λh=>vl (↑(o6 (B4.v6 ((Q4 a)).1) 1 0):Int) λi=>vl (↑(o6 (B4.v6 ((Q4 a)).1) 2 0):Int) λj=>vl (↑(o6 (B4.v6 ((Q4 a)).1) 3 0):Int) λl=>vl (↑(o6 (B4.v6 ((Q4 a)).1) 4 0):Int) λm=>vl (↑(o6 (B4.v6 ((Q4 a)).1) 5 0):Int) λn=>vl (↑(o6 (B4.v6 ((Q4 a)).1) 6 0):Int) λo=>vl (↑(o6 (B4.v6 ((Q4 a)).1) 7 0):Int) λp=>vl (↑((Q4 a)).2:Int) λw=>t f r g h i j l m n o p w f r g h i j l m n o p) none) none) (cond (A3 a.length) (cond (not (ah9 (R3 a))) (t 0 ([]:List UInt8) 0 0 0 0 0 0 0 0 0 14 0 ([]:List UInt8) 0 0 0 0 0 0 0 0 0) (cond (A3 (o5 (Fp a))) (vl (YS (Fp a) ([46]:List UInt8)) λb=>cond (A3 b.length) (cond (E7 b) (cond (A3 b.length) (vl (↑(N5 (pnB b)):Int) λq=>cond (not (ah9 (pnB b))) (t 0 ([]:List UInt8) 0 0 0 0 0 0 0 0 0 14 0 ([]:List UInt8) 0 0 0 0 0 0 0 0 0) (t 2 ([]:List UInt8) q 0 0 0 0 0 0 0 0 0 2 ([]:List UInt8) q 0 0 0 0 0 0 0 0)) none) (cond (A3 b.length) (cond (1==1) (vl (D2 (pcs (o6 ([46]:List UInt8) 0 0) b)) λu=>U1 L L (o5 (pcs (o6 ([46]:List UInt8) 0 0) b)) (↑(o5 (pcs (o6 ([46]:List UInt8) 0 0) b)):Int) 0 u (λx v=>y 0 ([]:List UInt8) x 0 ([]:List UInt8) v) (λc d=>cond (ag6 (ad3 c (ad9 0 d)) isS) (cond (A3 (o5 (ab4 (ab9 elS (ad3 c (ad9 0 d))) ([46]:List UInt8)))) (cond (A3 (o5 (ad3 c (ad9 0 d)))) (vl (ab4 (ab9 elS (ad3 c (ad9 0 d))) ([46]:List UInt8)) λe=>cond (ltI 253 (e.length:Int)) (y 0 ([]:List UInt8) 3 0 ([]:List UInt8) d) (cond (A3 e.length) (cond (E7 e) (y 0 ([]:List UInt8) 14 0 ([]:List UInt8) d) (y 1 e 0 1 e d)) none)) none) none) none)) none) none)) none) none)) none)) none)
theorem Bx8(d:Nat)(raw0):evC (Gr L) (d+1) Z Y 164 [pS raw0] [] s=AQ L raw0 (λo p t M N O P S r8 T q r c u e f g h i j l m n=>some (.tup [.agg [pI o,pS p,p32 t,p16 M,p16 N,p16 O,p16 P,p16 S,p16 r8,p16 T,p16 q],pI r],[.box [pI c,pS u,p32 e,p16 f,p16 g,p16 h,p16 i,p16 j,p16 l,p16 m,p16 n]],s)) (λo p t K U J=>some (.tup [.agg [pI o,pS p,p32 (0:Int),p16 (0:Int),p16 (0:Int),p16 (0:Int),p16 (0:Int),p16 (0:Int),p16 (0:Int),p16 (0:Int),p16 (0:Int)],pI t],[.box [pI K,pS U,p32 (0:Int),p16 (0:Int),p16 (0:Int),p16 (0:Int),p16 (0:Int),p16 (0:Int),p16 (0:Int),p16 (0:Int),p16 (0:Int)],.arr false 9 1 J],s)):=by refine(evE (fn:=ap3) (by kernel_rfl)).trans ?_;generalize evC (Gr L) d=Q;unfold AQ;exact(j7 (by kernel_rfl) (A0 rfl (A0 (A0 (A0 (A0 (A4 λv=>(A4 λI=>(A4 λw=>(A4 λx=>(A4 λy=>(A4 λz=>(A4 λA=>(A4 λB=>(A4 λC=>(A4 λD=>(A4 λF=>(A4 λG=>rfl)))))))))))) rfl) rfl) (A0 (A0 rfl (A0 (A4 λa=>(A0 (A0 (A0 (A4 λH=>(A0 rfl rfl)) rfl) (A0 (A0 (A4 λb=>((VX L Q Y s (E5 1 (E4 (Gr L) Q Y (cd [1,1,1,1,1,1,1,1] Aa4) (F6 (Gr L) ap3))) L (o5 (pcs (o6 ([46]:List UInt8) 0 0) a)) (↑(o5 (pcs (o6 ([46]:List UInt8) 0 0) a)):Int) 0 b).trans (by kernel_rfl))) rfl) rfl)) rfl)) rfl)) rfl)) rfl)))
noncomputable abbrev Bn3:Code:=C8 ap2
noncomputable def Lq(L:Nat):Cfg:=B7 L [141] (A2 [(6,[0,1,0,1,10,0,0])]) [(180,Cc6),(181,At2)] (A2 [(13,[2]),(12,[0,3,0,2]),(11,[0,2,1,10,0,0]),(10,[0,2,1,10,0,0]),(9,[2]),(8,[0,2,1,1,8,0,0,8]),(7,[0,2,1,1,8,0,0]),(6,[0,2,1,10,0,0,0]),(5,[0,2,1,10,0,0]),(4,[0,2,1]),(3,[2]),(2,[0,2,11]),(1,[0,2,0]),(0,[0])]) [181] (A2 [(0,[0,2,1]),(1,[0,2,1,10,0,0])]) (some [2]) [] [] []
noncomputable def Y3{R:Type}(L n:Nat)(i:By)(b:Bool)(a:LL)(c:Bool)(h e:Int)(f:Unit->Option R)(g:By->Bool->LL->Bool->Option R):Option R:=match n with|0=>none|n+1=>cond (ltI e h) (cond (inR e a.length) (cond (okE Lf a (j6 e) 0) (vl (gE a (j6 e) 0) λd=>cond (not (ltI d 65)) (cond (not (ltI 90 d)) (f ()) (cond c (Y3 L n i b a (ltI d 128) h (A1 (e+1)) f g) (Y3 L n i b a false h (A1 (e+1)) f g))) (cond c (Y3 L n i b a (ltI d 128) h (A1 (e+1)) f g) (Y3 L n i b a false h (A1 (e+1)) f g))) none) none) (g i b a c)
theorem Ag2(n d a b c n4 n5):D0 0 ((Lq L).keep 6) (bd (Lq L) Q Y (cd [1,1,1,1,0,1,0,0] Bn3)) n ⟨gp [(0,pS d),(2,.s (.sl a a 1 b)),(1,pB c),(10,.s (.sl a a 1 b)),(0,pI n4),(0,pI n5)] 31,[],s⟩ k =
 Y3 L n d a b c n4 n5 (λ_=>k .ret ⟨gp [(2,pB false)] 47,[],s⟩) (λd a b c=>k (.exit 0) ⟨gp [(0,pS d),(2,.s (.sl a a 1 b)),(1,pB c)] 44,[],s⟩):=by
 induction n generalizing d a b c n4 n5 with
 | zero=>rfl
 | succ n e=>rw[Y3];simp only[<-e];kernel_rfl
noncomputable def Bq1{R:Type}(L:Nat)(d:By)(e:Bool->Option R):Option R:=cond (A3 d.length) (cond ((↑((O0 d)).2:Int)!=0) (e false) (Y3 L L d (aq4 ((O0 d)).1) (Mj ((O0 d)).1) true (↑(o5 (Mj ((O0 d)).1)):Int) 0 (λ_=>e false) (λg c a b=>cond (ag6 a Nr) (vl ((X3 (ab9 elI a))).1 λh=>vl (↑((X3 (ab9 elI a))).2:Int) λf=>cond (not b) (cond (f==0) (e (h==g)) (e false)) (e false)) none))) none
theorem Ck5(d:Nat)(s0):evC (Lq L) (d+1) Z Y 141 [pS s0] [] s=Bq1 L s0 (λa=>some (pB a,[],s)):=by refine(evE (fn:=ap2) (by kernel_rfl)).trans ?_;generalize evC (Lq L) d=Q;unfold Bq1;exact(j7 (by kernel_rfl) (A0 (A0 rfl ((Ag2 L Q Y s (E5 0 (E4 (Lq L) Q Y (cd [1,1,1,1,1] Bn3) (F6 (Lq L) ap2))) L s0 (aq4 ((O0 s0)).1) (Mj ((O0 s0)).1) true (↑(o5 (Mj ((O0 s0)).1)):Int) 0).trans (by kernel_rfl))) rfl))
noncomputable abbrev Cf1:Code:=C8 ap0
noncomputable def Td(L:Nat):Cfg:=B7 L [104] (A2 [(4,[0,1,26,0])]) [(118,As2),(141,Bk8)] (A2 [(11,[2]),(10,[5,0]),(9,[0,28,0]),(8,[2]),(7,[0,28,0,28]),(6,[0,3,24,0]),(5,[0,2,25,0]),(4,[0,28,0,0]),(3,[0,28,0]),(2,[2]),(1,[0,26]),(0,[0])]) [118,141] (A2 [(0,[0]),(1,[0,28,0])]) (some [2]) [] [] []
noncomputable def T0{R:Type}(L n:Nat)(b:By)(e a:Int)(c:Unit->Option R)(d:By->Option R):Option R:=match n with|0=>none|n+1=>cond (ltI a e) (cond (inR a b.length) (cond (not (ltI (bAt b a) (97:Int))) (cond (not (not (ltI 122 (bAt b a)))) (cond (not (ltI (bAt b a) (48:Int))) (cond (not (not (ltI 57 (bAt b a)))) (cond ((bAt b a)!=45) (cond ((bAt b a)!=95) (c ()) (T0 L n b e (A1 (a+1)) c d)) (T0 L n b e (A1 (a+1)) c d)) (T0 L n b e (A1 (a+1)) c d)) (cond ((bAt b a)!=45) (cond ((bAt b a)!=95) (c ()) (T0 L n b e (A1 (a+1)) c d)) (T0 L n b e (A1 (a+1)) c d))) (T0 L n b e (A1 (a+1)) c d)) (cond (not (ltI (bAt b a) (48:Int))) (cond (not (not (ltI 57 (bAt b a)))) (cond ((bAt b a)!=45) (cond ((bAt b a)!=95) (c ()) (T0 L n b e (A1 (a+1)) c d)) (T0 L n b e (A1 (a+1)) c d)) (T0 L n b e (A1 (a+1)) c d)) (cond ((bAt b a)!=45) (cond ((bAt b a)!=95) (c ()) (T0 L n b e (A1 (a+1)) c d)) (T0 L n b e (A1 (a+1)) c d)))) none) (d b)
theorem A39(n a n1 n2):D0 0 ((Td L).keep 4) (bd (Td L) Q Y (cd [1,1,0,1,0,0] Cf1)) n ⟨gp [(0,pS a),(28,pI n1),(0,pI n2)] 41,[],s⟩ k =
 T0 L n a n1 n2 (λ_=>k .ret ⟨gp [(2,pB false)] 69,[],s⟩) (λa=>k (.exit 0) ⟨gp [(0,pS a)] 71,[],s⟩):=by
 induction n generalizing a n1 n2 with
 | zero=>rfl
 | succ n b=>rw[T0];simp only[<-b];kernel_rfl
noncomputable def C77{R:Type}(L:Nat)(a:By)(b:Bool->Option R):Option R:=cond (ltI (a.length:Int) (1:Int)) (b false) (cond (ltI 63 (a.length:Int)) (b false) (cond (inR 0 a.length) (cond ((bAt a (0:Int))==45) (b false) (vl (A1 ((a.length:Int)-1)) λd=>cond (inR d a.length) (cond ((bAt a d)==45) (b false) (T0 L L a (a.length:Int) 0 (λ_=>b false) (λc=>cond (A3 c.length) (vl (Ha c ([120,110,45,45]:List UInt8)) λe=>cond (not (ae6 ([120,110,45,45]:List UInt8) c)) (b true) (cond (A3 e.length) (b (Ec e)) none)) none))) none)) none))
theorem C78(d:Nat)(s0):evC (Td L) (d+1) Z Y 104 [pS s0] [] s=C77 L s0 (λb=>some (pB b,[],s)):=by refine(evE (fn:=ap0) (by kernel_rfl)).trans ?_;generalize evC (Td L) d=Q;unfold C77;exact(j7 (by kernel_rfl) (A0 rfl (A0 rfl (A0 (A0 rfl (A4 λa=>(A0 (A0 rfl ((A39 L Q Y s (E5 0 (E4 (Td L) Q Y (cd [1,1,1] Cf1) (F6 (Td L) ap0))) L s0 (s0.length:Int) 0).trans (by kernel_rfl))) rfl))) rfl))))
noncomputable abbrev Av5:Code:=C8 ap5
noncomputable def Ou(L:Nat):Cfg:=B7 L [201] (A2 [(9,[2,0,1,20])]) [(222,ZZ),(223,ZX),(116,As8),(181,At2),(104,SH)] (A2 [(18,[2,0]),(17,[2,0]),(16,[4,41]),(15,[4]),(14,[2,0]),(13,[8,32]),(12,[8,0]),(11,[5,20]),(10,[5,1,18]),(9,[5,20,0,0]),(8,[5,20]),(7,[4,0]),(6,[4,19]),(5,[0,3]),(2,[2,0]),(4,[2,0]),(3,[0,13]),(1,[0,9]),(0,[0])]) [222,223,116,181,104] (A2 [(1,[5]),(2,[5,20]),(0,[0])]) (some [2,0]) [] [] []
noncomputable def Fk{R:Type}(L n:Nat)(c:LL)(b:By)(a:Nat)(e:LL->By->Nat->Option R):Option R:=match n with|0=>none|n+1=>cond (decide (a<b.length)) (vl ((ah8 ⟨al8 b⟩ a)).1 λd=>cond (F9 (c.length+1)) (Fk L n (c++[[(SV.int .i64 (A1 d))]]) b (a+((ah8 ⟨al8 b⟩ a)).2) e) none) (e c b a)
theorem A23(n:Nat)(a:LL)(c:By)(b:Nat):D0 2 ((Ou L).keep 9) (bd (Ou L) Q Y (cd [1,1,1,0,1,0,1,0,1,0,0] Av5)) n ⟨gp [(5,.fl 0),(20,.it 1)] 21,[.arr true 3 1 a,.iter c b],s⟩ k =
 Fk L n a c b (λa c b=>k (.exit 1) ⟨gp [(5,.fl 0)] 42,[.arr true 3 1 a,.iter c b],s⟩):=by
 induction n generalizing a c b with
 | zero=>rfl
 | succ n d=>rw[Fk];simp only[<-d];kernel_rfl
noncomputable def Af9{R:Type}(L:Nat)(b:By)(g:By->Int->Option R)(h:By->Int->LL->By->Nat->Option R):Option R:=cond (A3 b.length) (cond (not (ah9 (Ct b))) (g ([]:List UInt8) 4) (cond (A3 b.length) (vl (↑(ag5 b):Int) λi=>cond (ltI 256 i) (g ([]:List UInt8) 3) (cond (A3 b.length) (cond (A3 b.length) (vl (↑(ag5 b):Int) λj=>cond (ltI j (b.length:Int)) (Fk L L [] (B5 b) 0 (λa e d=>cond (ag6 a Nr) (vl ((X3 (ab9 elI a))).1 λf=>vl (↑((X3 (ab9 elI a))).2:Int) λl=>cond (l !=0) (h ([]:List UInt8) 14 a e d) (cond (L6 4 f.length) (vl (([120,110,45,45]:List UInt8)++f) λc=>cond (A3 c.length) (cond (not (K3 c)) (h ([]:List UInt8) 14 a e d) (h c 0 a e d)) none) none)) none)) (cond (A3 (o5 (B5 b))) (cond (not (K3 (B5 b))) (g ([]:List UInt8) 14) (g (B5 b) 0)) none)) none) none)) none)) none
theorem C65(d:Nat)(s0):evC (Ou L) (d+1) Z Y 201 [pS s0] [] s=Af9 L s0 (λa b=>some (.tup [pS a,pI b],[],s)) (λa b c h e=>some (.tup [pS a,pI b],[.arr true 3 1 c,.iter h e],s)):=by refine(evE (fn:=ap5) (by kernel_rfl)).trans ?_;generalize evC (Ou L) d=Q;unfold Af9;exact(j7 (by kernel_rfl) (A0 (A0 rfl (A0 (A4 λf=>(A0 rfl (A0 (A0 (A4 λg=>(A0 ((A23 L Q Y s (E5 1 (E4 (Ou L) Q Y (cd [1,1,1,0,1,0,1,1] Av5) (E4 (Ou L) Q Y (cd [1,1,1,1] Av5) (F6 (Ou L) ap5)))) L [] (B5 s0) 0).trans (by kernel_rfl)) (A0 (A0 rfl rfl) rfl))) rfl) rfl))) rfl)) rfl))
noncomputable abbrev Su:Code:=C8 an0
noncomputable def Jk(L:Nat):Cfg:=B7 L [220] (A2 []) [] (A2 [(7,[2]),(2,[2]),(4,[2]),(6,[2]),(5,[0,23]),(3,[0,12]),(1,[0,2]),(0,[0])]) [] (A2 [(0,[])]) (some [2]) [] [] []
noncomputable def Wc{R:Type}(a:Int)(h:Bool)(f:Int->Option R)(g:Int->Bool->Option R):Option R:=cond h (vl (A1 (wu8 (a-97))) λb=>vl (A1 (b+10)) λc=>f c) (cond (not (ltI a 65)) (cond (not (ltI 70 a)) (vl (A1 (wu8 (a-65))) λd=>vl (A1 (d+10)) λe=>f e) (g a (not (ltI 70 a)))) (g a false))
abbrev OY(b:Code):Prop:=∀(k:Out->St Z->Option R) a c,A9 (Jk L) Q Y b ⟨gp [(0,p8 a),(12,pB c)] 21,[],s⟩ k=Wc a c (λn0=>k .ret ⟨gp [(2,pI n0)] 32,[],s⟩) (λa c=>k .normal ⟨gp [(0,p8 a),(23,pB c)] 10,[],s⟩)
theorem A14:OY (R:=R) L Q Y s (cd [1,0,0,1,1,1] Su):=by intro k a b;unfold Wc;kernel_rfl
noncomputable def Wd{R:Type}(b:Int)(l:Bool)(f:Int->Option R)(j:Int->Bool->Option R):Option R:=cond l (vl (A1 (wu8 (b-48))) λg=>f g) (cond (not (ltI b 97)) (Wc b (not (ltI 102 b)) (λh=>f h) (λc d=>j c d)) (Wc b false (λi=>f i) (λe a=>j e a)))
abbrev AP(b:Code):Prop:=∀(k:Out->St Z->Option R) a c,A9 (Jk L) Q Y b ⟨gp [(0,p8 a),(2,pB c)] 31,[],s⟩ k=Wd a c (λn0=>k .ret ⟨gp [(2,pI n0)] 32,[],s⟩) (λa c=>k .normal ⟨gp [(0,p8 a),(23,pB c)] 10,[],s⟩)
theorem A15(a:Code)(b:OY (R:=R) L Q Y s a):AP (R:=R) L Q Y s (cd [1,0,0,1] (G4 [1,0,0,1,1,1] a Su)):=by intro k c d;unfold Wd;simp only[<-b k];kernel_rfl
theorem A16:AP (R:=R) L Q Y s (cd [1,0,0,1] Su):=by intro k a b;exact j7 (by kernel_rfl) (A15 L Q Y s (cd [1,0,0,1,1,1] Su) (A14 L Q Y s) k a b)
noncomputable def Cj0{R:Type}(L:Nat)(c:Int)(d:Int->Option R):Option R:=cond (not (ltI c 48)) (Wd c (not (ltI 57 c)) (λa=>d a) (λe f=>d (-1))) (Wd c false (λb=>d b) (λg h=>d (-1)))
theorem C47(b:Code)(a:AP (R:=PV × List Blk × Z) L Q Y s b)(c:Int):A9 (Jk L) Q Y (cd [] (G4 [1,0,0,1] b Su)) ⟨[p8 c]++tps 34,[],s⟩ (F6 (Jk L) an0)=Cj0 L c (λe=>some (pI e,[],s)):=by unfold Cj0;exact let d:=(E5 0 (E4 (Jk L) Q Y (cd [1,1] Su) (F6 (Jk L) an0)));(j7 (by kernel_rfl) (A0 ((a d c (not (ltI 57 c))).trans (by kernel_rfl)) ((a d c false).trans (by kernel_rfl))))
theorem C48(d:Nat)(b0):evC (Jk L) (d+1) Z Y 220 [p8 b0] [] s=Cj0 L b0 (λa=>some (pI a,[],s)):=
 (evE (fn:=an0) (by kernel_rfl)).trans (j7 (by kernel_rfl) (C47 L (evC (Jk L) d) Y s (cd [1,0,0,1] Su) (A16 L (evC (Jk L) d) Y s) b0))
noncomputable abbrev Ce9:Code:=C8 ap4
noncomputable def Tb(L:Nat):Cfg:=B7 L [198] (A2 [(3,[0,1,0,0,0])]) [(220,Cc1)] (A2 [(14,[2,0]),(4,[0,3,0]),(13,[0,3,0]),(12,[0,3,0]),(11,[2,0]),(10,[0,3,0,0,0,39]),(9,[0,3,0,0,0]),(8,[2,0]),(7,[0,3,0,25]),(6,[0,3,0]),(5,[0,3,0,14]),(3,[0,3,0,8]),(2,[0,3,0]),(1,[0,3]),(0,[0])]) [220] (A2 [(0,[4]),(1,[0,3,0])]) (some [2,0]) [] [] []
noncomputable def T5{R:Type}(L n:Nat)(b:By)(a:Int)(c:LL)(f:LL->Option R)(g:LL->Option R):Option R:=match n with|0=>none|n+1=>cond (ltI a (b.length:Int)) (cond (inR a b.length) (cond ((bAt b a)!=37) (cond (inR a b.length) (cond (F9 (c.length+1)) (T5 L n b (A1 (a+1)) (c++[[(SV.int .u8 (bAt b a))]]) f g) none) none) (cond (not (ltI (A1 (a+2)) (b.length:Int))) (f c) (cond (inR (A1 (a+1)) b.length) (vl (bAt b (A1 (a+1))) λd=>cond (inR d 256) (cond (inR (A1 (a+2)) b.length) (vl (bAt b (A1 (a+2))) λe=>cond (inR e 256) (cond (ltI (Fh (u8n d)) (0:Int)) (f c) (cond (ltI (Fh (u8n e)) (0:Int)) (f c) (vl (A1 ((16:Int)*(Fh (u8n d)))) λh=>vl (A1 (h+(Fh (u8n e)))) λi=>cond (F9 (c.length+1)) (vl (A1 ((A1 (a+2))+1)) λj=>T5 L n b j (c++[[(SV.int .u8 (wu8 i))]]) f g) none))) none) none) none) none))) none) (g c)
theorem A13(n s0 i1 l2):D0 1 ((Tb L).keep 3) (bd (Tb L) Q Y (cd [1,0,1,1,0,1,0,0] Ce9)) n ⟨gp [(0,pS s0),(3,.fl 0),(0,pI i1)] 54,[.arr false 5 1 l2],s⟩ k =
 T5 L n s0 i1 l2 (λa=>k .ret ⟨gp [(2,pS ([]:List UInt8)),(0,pB false)] 56,[.arr false 5 1 a],s⟩) (λa=>k (.exit 0) ⟨gp [(4,.fl 0)] 55,[.arr false 5 1 a],s⟩):=by
 induction n generalizing s0 i1 l2 with
 | zero=>rfl
 | succ n b=>rw[T5];simp only[<-b];kernel_rfl
noncomputable def Ci9{R:Type}(L:Nat)(c:By)(d:By->Bool->LL->Option R):Option R:=cond ((decide ((0:Int)<=(c.length:Int)))&&(F9 (j6 (c.length:Int)))) (T5 L L c 0 [] (λb=>d ([]:List UInt8) false b) (λa=>cond (ag6 a Nz) (d (ab9 Lw a) true a) none)) none
theorem C45(d:Nat)(s0):evC (Tb L) (d+1) Z Y 198 [pS s0] [] s=Ci9 L s0 (λb c a=>some (.tup [pS b,pB c],[.arr false 5 1 a],s)):=by refine(evE (fn:=ap4) (by kernel_rfl)).trans ?_;generalize evC (Tb L) d=Q;unfold Ci9;exact(j7 (by kernel_rfl) (A0 ((A13 L Q Y s (E5 0 (E4 (Tb L) Q Y (cd [1,0,1,1,1] Ce9) (F6 (Tb L) ap4))) L s0 0 []).trans (by kernel_rfl)) rfl))
noncomputable def UM(L:Nat):Cfg:=B7 L [197] (A2 []) [(219,Dk5)] (A2 [(6,[2,0]),(5,[2,0]),(4,[2,2,15]),(3,[2,2,0]),(2,[0,1,1,8]),(1,[0,1,1]),(0,[0,1])]) [] (A2 []) (some [2,0]) [] [] []
noncomputable def Bo7{R:Type}(L:Nat)(b:By)(l:Int->Int->Int->Int->Int->Int->Int->Int->Int->Int->Int->LL->Option R)(m:Unit->Option R):Option R:=vl (A1 ((b.length:Int)-1)) λa=>cond (inR a b.length) (cond ((bAt b a)==93) (cond (I9 1 a b.length) (cond (A3 (o5 (cut b 1 a))) (vl (↑(v6c 0 (cut b 1 a)):Int) λc=>vl (↑(v6c 1 (cut b 1 a)):Int) λd=>vl (↑(v6c 2 (cut b 1 a)):Int) λe=>vl (↑(v6c 3 (cut b 1 a)):Int) λf=>vl (↑(v6c 4 (cut b 1 a)):Int) λg=>vl (↑(v6c 5 (cut b 1 a)):Int) λh=>vl (↑(v6c 6 (cut b 1 a)):Int) λi=>vl (↑(v6c 7 (cut b 1 a)):Int) λj=>cond (ah9 (v6B (cut b 1 a))) (l 3 c d e f g h i j 0 3 [[(SV.int .u16 c)],[(SV.int .u16 d)],[(SV.int .u16 e)],[(SV.int .u16 f)],[(SV.int .u16 g)],[(SV.int .u16 h)],[(SV.int .u16 i)],[(SV.int .u16 j)]]) (l 0 0 0 0 0 0 0 0 0 14 0 [[(SV.int .u16 c)],[(SV.int .u16 d)],[(SV.int .u16 e)],[(SV.int .u16 f)],[(SV.int .u16 g)],[(SV.int .u16 h)],[(SV.int .u16 i)],[(SV.int .u16 j)]])) none) none) (m ())) none
theorem Ci7(d:Nat)(s0):evC (UM L) (d+1) Z Y 197 [pS s0] [] s=Bo7 L s0 (λl c e f g h i j r8 m b a=>some (.tup [.agg [pI l,pS ([]:List UInt8),p32 (0:Int),p16 c,p16 e,p16 f,p16 g,p16 h,p16 i,p16 j,p16 r8],pI m],[.box [pI b,pS ([]:List UInt8),p32 (0:Int),p16 c,p16 e,p16 f,p16 g,p16 h,p16 i,p16 j,p16 r8],.arr false 26 1 a],s)) (λ_=>some (.tup [.agg [pI (0:Int),pS ([]:List UInt8),p32 (0:Int),p16 (0:Int),p16 (0:Int),p16 (0:Int),p16 (0:Int),p16 (0:Int),p16 (0:Int),p16 (0:Int),p16 (0:Int)],pI (14:Int)],[.box [pI (0:Int),pS ([]:List UInt8),p32 (0:Int),p16 (0:Int),p16 (0:Int),p16 (0:Int),p16 (0:Int),p16 (0:Int),p16 (0:Int),p16 (0:Int),p16 (0:Int)]],s)):=by refine(evE (fn:=Tryz.f197) (by kernel_rfl)).trans ?_;generalize evC (UM L) d=Q;unfold Bo7;kernel_rfl
noncomputable def Ax0(L:Nat):Cfg:=B7 L [39] (A2 []) [(65,Cc3)] (A2 [(9,[2]),(4,[2]),(6,[2]),(8,[2]),(7,[1,31]),(5,[1,1,1,16]),(3,[1,1,1,0]),(2,[1,1,1]),(1,[1,1]),(0,[1])]) [65] (A2 [(0,[])]) (some [2]) [] [] []
noncomputable def Ny{R:Type}(L:Nat)(c:Int)(b:By)(d e f g h i j l a:Int)(m:Bool->Int->By->Int->Int->Int->Int->Int->Int->Int->Int->Int->LL->Option R):Option R:=cond (c==1) (cond (A3 b.length) (cond (U3 b) (cond (d==0) (m ((e==0)&&((f==0)&&((g==0)&&((h==0)&&((i==0)&&((j==0)&&((l==0)&&((a==0)&&true)))))))) c b d e f g h i j l a (a8 8 [(SV.int .u16 (0:Int))])) (m false c b d e f g h i j l a (a8 8 [(SV.int .u16 (0:Int))]))) (m false c b d e f g h i j l a (a8 8 [(SV.int .u16 (0:Int))]))) none) (cond (c==2) (cond (b==[]) (m ((e==0)&&((f==0)&&((g==0)&&((h==0)&&((i==0)&&((j==0)&&((l==0)&&((a==0)&&true)))))))) c b d e f g h i j l a (a8 8 [(SV.int .u16 (0:Int))])) (m false c b d e f g h i j l a (a8 8 [(SV.int .u16 (0:Int))]))) (cond (c==3) (cond (b==[]) (m (d==0) c b d e f g h i j l a (a8 8 [(SV.int .u16 (0:Int))])) (m false c b d e f g h i j l a (a8 8 [(SV.int .u16 (0:Int))]))) (m false c b d e f g h i j l a (a8 8 [(SV.int .u16 (0:Int))]))))
theorem C57(d:Nat)(h0 h1 h2 h3 h4 h5 h6 h7 h8 h9 h10):evC (Ax0 L) (d+1) Z Y 39 [.agg [pI h0,pS h1,p32 h2,p16 h3,p16 h4,p16 h5,p16 h6,p16 h7,p16 h8,p16 h9,p16 h10]] [] s=Ny L h0 h1 h2 h3 h4 h5 h6 h7 h8 h9 h10 (λn f o g h i j l e m b c a=>some (pB n,[.box [pI f,pS o,p32 g,p16 h,p16 i,p16 j,p16 l,p16 e,p16 m,p16 b,p16 c],.arr false 26 1 a],s)):=by refine(evE (fn:=Tryz.f39) (by kernel_rfl)).trans ?_;generalize evC (Ax0 L) d=Q;unfold Ny;kernel_rfl
noncomputable def Aw7(L:Nat):Cfg:=B7 L [122] (A2 []) [(39,RS),(167,Dk1),(168,Dk3)] (A2 [(7,[2]),(2,[2]),(4,[2]),(6,[2]),(5,[1,11]),(3,[1,5]),(1,[1,1]),(0,[1])]) [39,167,168] (A2 [(0,[1])]) (some [2]) [] [] []
noncomputable def C51{R:Type}(L:Nat)(j:Int)(l:By)(b c d e f g h i a:Int)(o:By->Int->By->Int->Int->Int->Int->Int->Int->Int->Int->Int->Option R):Option R:=cond (A3 l.length) (cond (ltN b 4294967296) (cond (ok8 c d e f g h i a) (cond (not (K2 (mkH j l b (n8 c d e f g h i a)))) (o ([]:List UInt8) j l b c d e f g h i a) (cond (j==1) (o l j l b c d e f g h i a) (cond (j==2) (cond (ltN b 4294967296) (o (Ad (j6 b)) j l b c d e f g h i a) none) (cond (ok8 c d e f g h i a) (vl (Cx (n8 c d e f g h i a)) λm=>cond (L6 1 m.length) (vl (([91]:List UInt8)++m) λn=>cond (L6 n.length 1) (vl (n++[93]) λp=>o p j l b c d e f g h i a) none) none) none)))) none) none) none
theorem C52(d:Nat)(h0 h1 h2 h3 h4 h5 h6 h7 h8 h9 h10):evC (Aw7 L) (d+1) Z Y 122 [.agg [pI h0,pS h1,p32 h2,p16 h3,p16 h4,p16 h5,p16 h6,p16 h7,p16 h8,p16 h9,p16 h10]] [] s=C51 L h0 h1 h2 h3 h4 h5 h6 h7 h8 h9 h10 (λm e n f g h i j c l a b=>some (pS m,[.box [pI e,pS n,p32 f,p16 g,p16 h,p16 i,p16 j,p16 c,p16 l,p16 a,p16 b]],s)):=by refine(evE (fn:=Tryz.f122) (by kernel_rfl)).trans ?_;generalize evC (Aw7 L) d=Q;unfold C51;kernel_rfl
noncomputable def Aw5(L:Nat):Cfg:=B7 L [170] (A2 []) [(65,Cc3),(207,Cc2)] (A2 [(1,[4]),(0,[0,0])]) [65,207] (A2 []) (some [4]) [] [] []
noncomputable def C43{R:Type}(L:Nat)(a b:By)(c:Bool->Option R):Option R:=cond (A3 a.length) (cond (U3 a) (cond (A3 b.length) (cond (U3 b) (cond (a==b) (c true) (cond (L6 1 a.length) (vl (([46]:List UInt8)++a) λd=>cond (A3 b.length) (c (List.isSuffixOf d b)) none) none)) (c false)) none) (c false)) none
theorem C44(d:Nat)(super0 name1):evC (Aw5 L) (d+1) Z Y 170 [pS super0,pS name1] [] s=C43 L super0 name1 (λa=>some (pB a,[],s)):=by refine(evE (fn:=Tryz.f170) (by kernel_rfl)).trans ?_;generalize evC (Aw5 L) d=Q;unfold C43;kernel_rfl
end
section
variable {Z R : Type} (L : Nat) (Q : G0) (Y : Yh Z) (s : Z) (k : Out -> St Z -> Option R)
noncomputable def Ax5(L:Nat):Cfg:=B7 L [238] (A2 []) [] (A2 [(2,[2]),(1,[1,1]),(0,[1])]) [] (A2 []) (some [2]) [] [] []
noncomputable def Dp8{R:Type}(L:Nat)(b:Int)(a:Int->Option R):Option R:=a b
theorem Da0(d:Nat)(b):evC (Ax5 L) (d+1) Z Y 238 [pI b] [] s=Dp8 L b (λn0=>some (.fnr (Fn.func 253) [] [.ptr 1 0 0,.ptr 0 0 0],[.box [pI n0],.box [pI (0:Int)]],s)):=by refine(evE (fn:=Tryz.f238) (by kernel_rfl)).trans ?_;generalize evC (Ax5 L) d=Q;unfold Dp8;kernel_rfl
noncomputable def UX(L:Nat):Cfg:=B7 L [253] (A2 []) [] (A2 [(2,[2]),(1,[0,0]),(0,[0,0])]) [] (A2 []) (some [2]) [] [] []
noncomputable def Br5{R:Type}(L:Nat)(k b:Int)(d:Int->Int->Int->Option R):Option R:=vl (A1 ((A1 (k+36))-b)) λa=>vl (if ((26:Int)<(if ((1:Int) > a) then (1:Int) else a)) then (26:Int) else (if ((1:Int) > a) then (1:Int) else a)) λc=>d c (A1 (k+36)) b
theorem Cn9(d:Nat)(k b):evC (UX L) (d+1) Z Y 253 [.ptr 0 0 0,.ptr 1 0 0] [.box [pI k],.box [pI b]] s=Br5 L k b (λe a c=>some (pI e,[.box [pI a],.box [pI c]],s)):=by refine(evE (fn:=Tryz.f253) (by kernel_rfl)).trans ?_;generalize evC (UX L) d=Q;unfold Br5;kernel_rfl
noncomputable abbrev Dm9:Code:=C8 ap6
noncomputable def Zv(L:Nat):Cfg:=B7 L [214] (A2 [(2,[0,0,4,0])]) [(238,GO),(239,At1)] (A2 [(6,[0,0,5]),(5,[0,0,5,0]),(4,[6]),(3,[0,0,5,0,6]),(2,[0,0,5,0]),(1,[0,0,5]),(0,[0,0,0])]) [239] (A2 [(0,[6]),(1,[0,0,5])]) (some [6]) [(253,Qh)] [] [253]
noncomputable def Ix{R:Type}(L n:Nat)(f:Int)(p:Bool)(g:LL)(a b:Int)(o:Bool->LL->Int->Int->Option R):Option R:=match n with|0=>none|n+1=>cond (ltN b 1000000000000) (cond (ltN a 1000000) (cond (ltI f (L5 b a)) (cond (ltN f 36) (vl (↑(ar9 (Aq (j6 f))):Int) λh=>cond (F9 (g.length+1)) (o p (g++[[(SV.int .u8 h)]]) a (ae5 b (36:Int))) none) none) (vl (A1 (f-(L5 b a))) λi=>vl (A1 ((36:Int)-(L5 b a))) λc=>cond (c !=0) (vl (A1 ((L5 b a)+(ak8 i c))) λd=>cond (ltN d 36) (vl (↑(ar9 (Aq (j6 d))):Int) λj=>cond (F9 (g.length+1)) (vl (A1 (f-(L5 b a))) λl=>vl (A1 ((36:Int)-(L5 b a))) λe=>cond (e !=0) (vl (A1 (ad6 l e)) λm=>Ix L n m p (g++[[(SV.int .u8 j)]]) a (ae5 b (36:Int)) o) none) none) none) none)) none) none
theorem A49(n q0 z1 l2 a n4):D0 3 ((Zv L).keep 2) (bd (Zv L) Q Y (cd [1,1,0,0] Dm9)) n ⟨gp [(0,.fl 0),(0,pI q0),(5,.fnr (Fn.func 253) [] [.ptr 2 0 0,.ptr 1 0 0])] 31,[.arr z1 5 1 l2,.box [pI a],.box [pI n4]],s⟩ k =
 Ix L n q0 z1 l2 a n4 (λe c d a=>k .ret ⟨gp [(6,.fl 0)] 32,[.arr e 5 1 c,.box [pI d],.box [pI a]],s⟩):=by
 induction n generalizing q0 z1 l2 a n4 with
 | zero=>rfl
 | succ n b=>rw[Ix];simp only[<-b];kernel_rfl
noncomputable def Dp5{R:Type}(L:Nat)(q b:Int)(z:Bool)(l:LL)(f:Bool->LL->Int->Int->Option R):Option R:=Ix L L q z l b 0 (λe a c d=>f e a c d)
theorem C88(d:Nat)(q b z l):evC (Zv L) (d+1) Z Y 214 [.fl 0,pI q,pI b] [.arr z 5 1 l] s=Dp5 L q b z l (λf a c e=>some (.fl 0,[.arr f 5 1 a,.box [pI c],.box [pI e]],s)):=by refine(evE (fn:=ap6) (by kernel_rfl)).trans ?_;generalize evC (Zv L) d=Q;unfold Dp5;exact(j7 (by kernel_rfl) ((A49 L Q Y s (E5 0 (F6 (Zv L) ap6)) L q z l b 0).trans (by kernel_rfl)))
noncomputable abbrev Fa:Code:=C8 am9
noncomputable def R0(L:Nat):Cfg:=B7 L [181] (A2 [(29,[0,1,0,0,2,0,0,0,0,61,0,0]),(21,[0,1,0,0,2,0,0,0,0,0,38,0,0]),(17,[0,1,0,0,2,0,0,0,0]),(5,[0,1,0,0,15,0,0])]) [(213,Of),(215,Oe)] (A2 [(40,[2,0]),(18,[0,3,2,0,0,0,0]),(39,[0,3,2,0,0,0,0]),(38,[0,3,2,0,0,0,0,61,0,0]),(32,[0,3,2,0,0,0,0,61,0,0]),(37,[0,3,2,0,0,0,0,61,0,0]),(36,[0,3,2,0,0,0,0,61,0,0]),(35,[0,3,2,0,1,0,61,0,0]),(34,[0,3,2,0,0,1,61,0,0]),(33,[0,3,2,0,0,0,0,61,0,0,9]),(31,[0,3,2,0,0,0,0,4,56,0,0,3]),(30,[0,3,2,0,0,0,0,4,56,0,0]),(29,[0,3,2,0,0,0,0,61,0,0,0]),(28,[0,3,2,0,0,0,0,61,0,0]),(27,[0,3,2,0,0,0,0]),(26,[0,3,2,1,0,0,0]),(25,[0,3,2,0,0,0,0,0,38,0,0]),(24,[0,3,2,0,0,0,0,0,38,0,0]),(23,[0,3,2,0,0,0,0,0,1,36,0,0,5]),(22,[0,3,2,0,0,0,0,0,1,36,0,0]),(21,[0,3,2,0,0,0,0,0,38,0,0,0]),(20,[0,3,2,0,0,0,0,0,38,0,0]),(19,[0,3,2,0,0,0,0,0]),(17,[0,3,2,0,0,0,0,36]),(16,[0,3,2,0,0,0,0]),(15,[0,3,2,0,0,0]),(14,[0,3,2]),(13,[0,3,2,32]),(12,[0,3,2]),(11,[0,3,15,0,0]),(10,[0,3,15,0,0]),(9,[0,3,1,13,0,0,7]),(8,[2,0]),(7,[0,3,1,13,0,0,5]),(6,[0,3,1,13,0,0]),(5,[0,3,15,0,0,0]),(4,[0,3,15,0,0]),(3,[0,3]),(2,[2,0]),(1,[0,18]),(0,[0])]) [213,215] (A2 [(2,[4]),(3,[0,3,2,0,0,0,0]),(6,[0,3,2,0,0,0,0]),(7,[0,3,2,0,0,0,0,61,0,0]),(8,[0,3,2,0,0,0,0,61,0,0]),(4,[0,3,2,0,0,0,0,0]),(5,[0,3,2,0,0,0,0,0,38,0,0]),(0,[0,3]),(1,[0,3,15,0,0])]) (some [2,0]) [(214,SL)] [] [214]
noncomputable def V2{R:Type}(L n:Nat)(c b:Bool)(a:LL)(i e:Int)(f:LL)(g:LL->Option R)(h:Bool->Bool->LL->LL->Option R):Option R:=match n with|0=>none|n+1=>cond (ltI e i) (cond (inR e a.length) (cond (okE Lf a (j6 e) 0) (vl (gE a (j6 e) 0) λd=>cond (not (ptI d)) (g f) (cond (ltI d 128) (cond (F9 (f.length+1)) (V2 L n c b a i (A1 (e+1)) (f++[[(SV.int .u8 (wu8 d))]]) g h) none) (V2 L n c b a i (A1 (e+1)) f g h))) none) none) (h c b a f)
theorem A60(n b a c n3 n4 l5):D0 1 ((R0 L).keep 5) (bd (R0 L) Q Y (cd [1,1,1,0,1,0,0] Fa)) n ⟨gp [(0,.s (.sl b a 1 c)),(3,.fl 0),(15,.s (.sl b a 1 c)),(0,pI n3),(0,pI n4)] 84,[.arr true 5 1 l5],s⟩ k =
 V2 L n b a c n3 n4 l5 (λe=>k .ret ⟨gp [(2,pS ([]:List UInt8)),(0,pI (2:Int))] 103,[.arr true 5 1 e],s⟩) (λb a c f=>k (.exit 0) ⟨gp [(0,.s (.sl b a 1 c)),(3,.fl 0)] 102,[.arr true 5 1 f],s⟩):=by
 induction n generalizing b a c n3 n4 l5 with
 | zero=>rfl
 | succ n d=>rw[V2];simp only[<-d];kernel_rfl
noncomputable def Ja{R:Type}(L n:Nat)(c b:Bool)(a:LL)(d o e f g m q h:Int)(i:LL)(p:Bool->Bool->LL->Int->Int->Int->Int->Int->Int->LL->Option R):Option R:=match n with|0=>none|n+1=>cond (ltI h q) (cond (inR h a.length) (cond (okE Lf a (j6 h) 0) (vl (gE a (j6 h) 0) λj=>cond (not (ltI j o)) (vl (if (j<m) then j else m) λl=>Ja L n c b a d o e f g l q (A1 (h+1)) i p) (Ja L n c b a d o e f g m q (A1 (h+1)) i p)) none) none) (p c b a d o e f g m i)
theorem A61(n b a c d i e f g h n9 n10 l11):D0 1 ((R0 L).keep 21) (bd (R0 L) Q Y (cd [1,1,1,1,1,1,1,0,1,0,0,1,0,0,1,0,1,0,0] Fa)) n ⟨gp [(0,.s (.sl b a 1 c)),(3,.fl 0),(2,pI d),(0,pI i),(0,pI e),(0,pI f),(0,pI g),(0,pI h),(38,.s (.sl b a 1 c)),(0,pI n9),(0,pI n10)] 53,[.arr true 5 1 l11],s⟩ k =
 Ja L n b a c d i e f g h n9 n10 l11 (λb a c d i e f g h l=>k (.exit 4) ⟨gp [(0,.s (.sl b a 1 c)),(3,.fl 0),(2,pI d),(0,pI i),(0,pI e),(0,pI f),(0,pI g),(0,pI h)] 94,[.arr true 5 1 l],s⟩):=by
 induction n generalizing b a c d i e f g h n9 n10 l11 with
 | zero=>rfl
 | succ n j=>rw[Ja];simp only[<-j];kernel_rfl
noncomputable def Cl{R:Type}(L n:Nat)(d c:Bool)(a:LL)(e m b g f i l:Int)(l10:LL)(t:Bool->Bool->LL->Int->Int->Int->Int->Int->LL->Option R):Option R:=match n with|0=>none|n+1=>cond (ltI l i) (cond (inR l a.length) (cond (okE Lf a (j6 l) 0) (vl (gE a (j6 l) 0) λj=>cond (ltI j m) (vl (A1 (b+1)) λp=>Cl L n d c a e m p g f i (A1 (l+1)) l10 t) (cond (j==m) (cond (ltN b 1152921504606846976) (cond (ltN g 1000000) (cond (x5 l10.length 100000) (vl (an3 l10 (ab9 D9 (Q0 (j6 b) 0 (j6 g)))) λo=>vl (A1 (f+1)) λh=>cond (ltN b 1152921504606846976) (cond (ltN h 1000000) (cond (ltI 0 h) (vl (↑(Q9 (j6 b) (j6 h) (f==e)):Int) λq=>vl (A1 (f+1)) λr=>Cl L n d c a e m 0 q r i (A1 (l+1)) o t) none) none) none) none) none) none) (Cl L n d c a e m b g f i (A1 (l+1)) l10 t))) none) none) (t d c a e m b g f l10)
theorem A62(n b a c d h e f g n8v n9 l10):D0 1 ((R0 L).keep 29) (bd (R0 L) Q Y (cd [1,1,1,1,1,1,1,0,1,0,0,1,0,0,1,1,1,1,0,1,0,0] Fa)) n ⟨gp [(0,.s (.sl b a 1 c)),(3,.fl 0),(2,pI d),(0,pI h),(0,pI e),(0,pI f),(0,pI g),(61,.s (.sl b a 1 c)),(0,pI n8v),(0,pI n9)] 31,[.arr true 5 1 l10],s⟩ k =
 Cl L n b a c d h e f g n8v n9 l10 (λb a c d h e f g j=>k (.exit 6) ⟨gp [(0,.s (.sl b a 1 c)),(3,.fl 0),(2,pI d),(0,pI h),(0,pI e),(0,pI f),(0,pI g)] 95,[.arr true 5 1 j],s⟩):=by
 induction n generalizing b a c d h e f g n8v n9 l10 with
 | zero=>rfl
 | succ n i=>rw[Cl];simp only[<-i];kernel_rfl
noncomputable def Fq{R:Type}(L n:Nat)(j i:Bool)(b:LL)(v K w y u:Int)(J:LL)(I:LL->Option R):Option R:=match n with|0=>none|n+1=>cond (ltI u (b.length:Int)) (Ja L L j i b v K w y u 1114112 (b.length:Int) 0 J (λe c a l B o q g x z=>vl (A1 (g+1)) λC=>vl (A1 ((A1 (x-B))*C)) λD=>Cl L L e c a l x (A1 (o+D)) q g (a.length:Int) 0 z (λf d h m F p r t A=>vl (A1 (p+1)) λG=>vl (A1 (F+1)) λH=>Fq L n f d h m H G r t A I))) (I J)
theorem KY(n points_z0 points_t1 points2 basic3 n4 delta5 bias6 done7 l8):D0 1 ((R0 L).keep 17) (bd (R0 L) Q Y (cd [1,1,1,1,1,1,1,0,1,0,0] Fa)) n ⟨gp [(0,.s (.sl points_z0 points_t1 1 points2)),(3,.fl 0),(2,pI basic3),(0,pI n4),(0,pI delta5),(0,pI bias6),(0,pI done7)] 95,[.arr true 5 1 l8],s⟩ k =
 Fq L n points_z0 points_t1 points2 basic3 n4 delta5 bias6 done7 l8 (λB=>k (.exit 2) ⟨gp [(4,.fl 0)] 102,[.arr true 5 1 B],s⟩):=by
 induction n generalizing points_z0 points_t1 points2 basic3 n4 delta5 bias6 done7 l8 with
 | zero=>rfl
 | succ n A=>rw[Fq];exact(j7 (by kernel_rfl) (A0 ((A61 L Q Y s (E5 4 (E4 (R0 L) Q Y (cd [1,1,1,1,1,1,1,0,1,0,0,1,0,0,1,1] Fa) (E5 3 (E4 (R0 L) Q Y (cd [1,1,1,1,1,1,1,0,1,0,0,1,1] Fa) (lpK 1 ((R0 L).keep 17) (bd (R0 L) Q Y (cd [1,1,1,1,1,1,1,0,1,0,0] Fa)) n k))))) L points_z0 points_t1 points2 basic3 n4 delta5 bias6 done7 1114112 (points2.length:Int) 0 l8).trans (congr rfl (C38 λd b a g x i j m t q=>(j7 (by kernel_rfl) (A4 λy=>(A4 λu=>((A62 L Q Y s (E5 6 (E4 (R0 L) Q Y (cd [1,1,1,1,1,1,1,0,1,0,0,1,0,0,1,1,1,1,1] Fa) (E5 3 (E4 (R0 L) Q Y (cd [1,1,1,1,1,1,1,0,1,0,0,1,1] Fa) (lpK 1 ((R0 L).keep 17) (bd (R0 L) Q Y (cd [1,1,1,1,1,1,1,0,1,0,0] Fa)) n k))))) L d b a g t (A1 (i+u)) j m (a.length:Int) 0 q).trans (congr rfl (fx9 λe c f h z p l o r=>(j7 (by kernel_rfl) (A4 λv=>(A4 λw=>(A e c f h w v l o r))))))))))))) rfl))
noncomputable def Ai4{R:Type}(L:Nat)(l j:Bool)(p:LL)(m:Unit->Option R)(h:By->Int->LL->Option R):Option R:=cond (ltI 256 (p.length:Int)) (m ()) (V2 L L l j p (p.length:Int) 0 [] (λi=>h ([]:List UInt8) 2 i) (λb a c g=>vl (g.length:Int) λf=>cond (ltI 0 f) (cond (F9 (g.length+1)) (Fq L L b a c f 128 0 72 f (g++[[(SV.int .u8 (45:Int))]]) (λd=>cond (ag6 d Nz) (h (ab9 Lw d) 0 d) none)) none) (Fq L L b a c f 128 0 72 f g (λe=>cond (ag6 e Nz) (h (ab9 Lw e) 0 e) none))))
theorem C93(d:Nat)(p_z p_t p):evC (R0 L) (d+1) Z Y 181 [.s (.sl p_z p_t 1 p)] [] s=Ai4 L p_z p_t p (λ_=>some (.tup [pS ([]:List UInt8),pI (3:Int)],[],s)) (λi j h=>some (.tup [pS i,pI j],[.arr true 5 1 h],s)):=by refine(evE (fn:=am9) (by kernel_rfl)).trans ?_;generalize evC (R0 L) d=Q;unfold Ai4;exact let g:=(E5 2 (E4 (R0 L) Q Y (cd [1,1,1,1,1,1,1,1] Fa) (F6 (R0 L) am9)));(j7 (by kernel_rfl) (A0 rfl ((A60 L Q Y s (E5 0 (E4 (R0 L) Q Y (cd [1,1,1,1] Fa) (F6 (R0 L) am9))) L p_z p_t p (p.length:Int) 0 []).trans (congr (congr rfl (by kernel_rfl)) (fx4 λb a c f=>(j7 (by kernel_rfl) (A4 λe=>(A0 (A0 ((KY L Q Y s g L b a c e 128 0 72 e (f++[[(SV.int .u8 (45:Int))]])).trans (by kernel_rfl)) rfl) ((KY L Q Y s g L b a c e 128 0 72 e f).trans (by kernel_rfl))))))))))
end
theorem Yc(k b:Nat):L5 ((36*k:Nat):Int) (b:Int)=(thr k b:Int):=by unfold L5 thr;omega
theorem B27{R:Type}{a:Int->Option R}(b:Int):Dp8 LF b a=a b:=rfl
theorem A66{R:Type}{a:Int->Int->Int->Option R}(k b:Int)(e:ltN k 1000000000000=true)(f:ltN b 1000000=true):Br5 LF k b a=a (L5 k b) (ae5 k 36) b:=by
 obtain⟨g,h⟩:=E6.1 e;obtain⟨i,j⟩:=E6.1 f;unfold Br5;have c:A1 (k+36)=k+36:=A7;have d:A1 (k+36-b)=k+36-b:=A7;simp only[vl,c,d];have:(if (26:Int)<(if (1:Int) > k+36-b then (1:Int) else k+36-b) then (26:Int) else (if (1:Int) > k+36-b then (1:Int) else k+36-b))=L5 k b:=by
  unfold L5;omega
 grind
theorem Qs{q k b:Nat}(h:q<thr k b):Q0 q k b=[Aq q]:=by rw[Q0,dif_pos h]
theorem AG{q k b:Nat}(h:¬q<thr k b):Q0 q k b=Aq (thr k b+(q-thr k b) % (36-thr k b))::Q0 ((q-thr k b) / (36-thr k b)) (k+1) b:=by rw[Q0,dif_neg h]
theorem VO{x y m:Nat}(a:10<=y)(h:x<10*m):x / y<m:=by have b:x / y<=x / 10:=Nat.div_le_div_left a (by omega);omega
theorem Az6(b:Nat):∀(r q k:Nat),q<10 ^ r->(Q0 q k b).length<=r+1:=by
 intro r
 induction r with
 | zero=>
  intro q k h;have c:=W8 k b;rw[Qs (by simp at h;omega)];simp
 | succ r d=>
  intro q k h;have c:=W8 k b;by_cases a:q<thr k b
  ·rw[Qs a];simp
  ·rw[AG a,p6];have:=d ((q-thr k b) / (36-thr k b)) (k+1) (VO (by omega) (by rw[af5] at h;omega));omega
theorem B13(z:Bool)(b:Nat)(K:b<1000000):∀(r q k n:Nat) (l:LL),q<10 ^ r->q<1152921504606846976->k+r<=1000->r<n->l.length+r<=200000->
  ∃(d f:Int),∀(R:Type) (a:Bool->LL->Int->Int->Option R),Ix LF n (q:Int) z l (b:Int) ((36*k:Nat):Int) a=a z (l++(Q0 q k b).map D9) d f:=by
 have c:∀(q k n:Nat) (l:LL),q<thr k b->k<=1000->l.length<=200000->∃(d f:Int),∀(R:Type) (a:Bool->LL->Int->Int->Option R),Ix LF (n+1) (q:Int) z l (b:Int) ((36*k:Nat):Int) a=a z (l++(Q0 q k b).map D9) d f:=by
  intro q k n l g i j;have p:=W8 k b;refine⟨(b:Int),ae5 ((36*k:Nat):Int) 36,λR a=>?_⟩;rw[Ix];rw[O5,O5,Yc,A8,O5,Qs g];simp only[vl,cond_true,j0];rw[F4 (by omega)];rfl
 intro r
 induction r with
 | zero=>
  intro q k n l h _ i H j;have p:=W8 k b;obtain⟨n,rfl⟩:∃m,n=m+1:=⟨n-1,by omega⟩
  exact c q k n l (by simp at h;omega) (by omega) (by omega)
 | succ r I=>
  intro q k n l h o i H j;have p:=W8 k b;obtain⟨n,rfl⟩:∃m,n=m+1:=⟨n-1,by omega⟩
  by_cases g:q<thr k b
  ·exact c q k n l g (by omega) (by omega)
  ·have D:(q-thr k b) / (36-thr k b)<10 ^ r:=VO (by omega) (by rw[af5] at h;omega);have F:(q-thr k b) / (36-thr k b)<=q:=al9 (ae7 _ _) (by omega);have G:(q-thr k b) % (36-thr k b)<36-thr k b:=an8 _ (by omega);obtain⟨d,f,e⟩:=I ((q-thr k b) / (36-thr k b)) (k+1) n (l++[D9 (Aq (thr k b+(q-thr k b) % (36-thr k b)))]) D (by omega) (by omega) (by omega) (by rw[ae8,List.length_singleton];omega);refine⟨d,f,λR a=>?_⟩;rw[Ix];have t:A1 ((q:Int)-(thr k b:Int))=((q-thr k b:Nat):Int):=by rw[A7];omega
   have u:A1 ((36:Int)-(thr k b:Int))=((36-thr k b:Nat):Int):=by rw[A7];omega
   have v:ak8 ((q-thr k b:Nat):Int) ((36-thr k b:Nat):Int)=(((q-thr k b) % (36-thr k b):Nat):Int):=Ic _ _;have w:ad6 ((q-thr k b:Nat):Int) ((36-thr k b:Nat):Int)=(((q-thr k b) / (36-thr k b):Nat):Int):=N3 _ _;have C:((((36-thr k b:Nat):Int))!=0)=true:=by rw[bne_iff_ne];omega
   rw[O5,O5,Yc,A6];simp only[vl,t,u,v,w,C,cond_true,cond_false];rw[AG g];generalize hA:(q-thr k b) / (36-thr k b)=A at *;generalize J:(q-thr k b) % (36-thr k b)=B at *;have x:A1 ((thr k b:Int)+(B:Int))=((thr k b+B:Nat):Int):=by rw[A7];rfl
   have y:A1 (A:Int)=(A:Int):=A7;rw[x,y,O5,F4 (by omega),j0,show ae5 ((36*k:Nat):Int) 36=((36*(k+1):Nat):Int) from(by show((36*k:Nat):Int)+36=_;omega)];refine j7 (e R a) ?_;simp[x4]
theorem B14(q b:Int)(z:Bool)(l:LL)(h:ltN q 1152921504606846976=true)(i:ltN b 1000000=true)(j:x5 l.length 100000=true) :
  ∃(c d:Int),∀(R:Type) (a:Bool->LL->Int->Int->Option R),Dp5 LF q b z l a=a z (an3 l ((Q0 q.toNat 0 b.toNat).map D9)) c d:=by
 obtain⟨f,m⟩:=E6.1 h;obtain⟨g,n⟩:=E6.1 i;obtain⟨q,rfl⟩:=j9 f;obtain⟨b,rfl⟩:=j9 g;have o:=ac0 j;have k:=C7;obtain⟨c,d,e⟩:=B13 z b (by omega) 19 q 0 LF l (by omega) (by omega) (by omega) (by omega) (by omega);exact⟨c,d,λR a=>e R _⟩
def Az(l:List Int):LL:=l.map λx=>[SV.int .i64 x]
def B6(l:List Nat):LL:=l.map λx:Nat=>[SV.int .i64 (x:Int)]
theorem Qw(l:List Nat):Az (l.map λn:Nat=>(n:Int))=B6 l:=by simp[Az,B6,ah1]
theorem V6(l:List Int):(Az l).length=l.length:=by simp[Az]
theorem D1(l:List Nat):(B6 l).length=l.length:=by simp[B6]
theorem Kq(a b:List Nat):B6 (a++b)=B6 a++B6 b:=by simp[B6]
theorem WU{l:List Int}{i:Nat}(h:i<l.length):okE Lf (Az l) i 0=true:=by unfold okE Az Lf;simp[b8,h,okS,SV.has]
theorem A03(l:List Int)(i:Nat)(h:i<l.length):gE (Az l) i 0=l.getD i 0:=by unfold gE gC Az;simp[b8,j5 h,SV.gI]
theorem Qx{l:List Nat}{i:Nat}(h:i<l.length):okE Lf (B6 l) i 0=true:=by rw[<-Qw];exact WU (by simpa using h)
theorem AM(l:List Nat)(i:Nat)(h:i<l.length):gE (B6 l) i 0=(l.getD i 0:Int):=by rw[<-Qw,A03 _ _ (by simpa using h)];grind
theorem Bp2{l:LL}(h:l.all Nr=true):∃P:List Int,l=Az P:=by
 induction l with
 | nil=>exact⟨[],rfl⟩
 | cons x r b=>
  simp only[ab7,j8] at h;obtain⟨P,rfl⟩:=b h.2;have a:=h.1;unfold Nr at a;split at a
  ·rename_i n;exact⟨n::P,rfl⟩
  ·cases a
theorem Ac9(P:List Int):(Az P).map elI=P:=by
 unfold Az;rw[af4]
 conv=>rhs;rw[<-ah4 P]
 apply z7;intro x _;simp[elI,SV.gI]
theorem Ac7(l:List Int)(i:Nat)(h:i<l.length):l.drop i=l.getD i 0::l.drop (i+1):=by simp_all
theorem Vo(l:List Nat)(i:Nat)(h:i<l.length):l.drop i=l.getD i 0::l.drop (i+1):=by simp_all
theorem C04:∀(r d k:Nat),d<456*35 ^ r->Zm d k<=k+36*r+36:=by
 intro r
 induction r with
 | zero=>
  intro d k h;rw[Sq (by simp at h;omega)];have:36*d / (d+38)<=36:=by
   apply Nat.div_le_of_le_mul;omega
  omega
 | succ r b=>
  intro d k h;by_cases a:455<d
  ·rw[HX a];grind
  grind
theorem Oj(d c:Nat)(f:Bool)(h:d<1152921504606846976):Q9 d c f<=500:=by
 unfold Q9;have a:∀x:Nat,x<=d->Zm (x+x / c) 0<=500:=by
  intro x a;have:=ae7 x c;have:=C04 11 (x+x / c) 0 (by omega);omega
 grind
theorem OO{q k b:Nat}(h:q<1152921504606846976):(Q0 q k b).length<=20:=Az6 b 19 q k (by omega)
theorem Br3(z t:Bool)(c:List Nat)(a m:Nat)(Q:m<=1114112)(P:c.length<=256):∀(r i n:Nat) (s:QZ),i+r=c.length->r<n->s.delta+r<=1000000000000->s.bias<=500->s.out.length+20*r<=90000->s.done+r<=1000->a<=256->
  (∀(R:Type) (d:Bool->Bool->LL->Int->Int->Int->Int->Int->LL->Option R),Cl LF n z t (B6 c) (a:Int) (m:Int) (s.delta:Int) (s.bias:Int) (s.done:Int) (c.length:Int) (i:Int) (s.out.map D9) d =
   d z t (B6 c) (a:Int) (m:Int) ((H8 m a (c.drop i) s).delta:Int) ((H8 m a (c.drop i) s).bias:Int) ((H8 m a (c.drop i) s).done:Int) ((H8 m a (c.drop i) s).out.map D9))/\
  (H8 m a (c.drop i) s).bias<=500/\(H8 m a (c.drop i) s).out.length<=s.out.length+20*(c.drop i).countP (· == m)/\(H8 m a (c.drop i) s).done=s.done+(c.drop i).countP (· == m)/\
  (H8 m a (c.drop i) s).delta<=(if 0<(c.drop i).countP (· == m) then r else s.delta+r):=by
 intro r
 induction r with
 | zero=>
  intro i n s N O K x L M y;obtain⟨n,rfl⟩:∃m,n=m+1:=⟨n-1,by omega⟩
  rw[j2 (by omega)];refine⟨λR d=>?_,x,by simp[H8],by simp[H8],by simp[H8]⟩;rw[Cl];rw[A6];rfl
 | succ r F=>
  intro i n s N O K x L M y;obtain⟨n,rfl⟩:∃m,n=m+1:=⟨n-1,by omega⟩
  rw[Vo c i (by omega)];have C:=AM c i (by omega);have ok:=Qx (l:=c) (i:=i) (by omega);generalize c.getD i 0=p at *;have A:A1 ((i:Int)+1)=((i+1:Nat):Int):=by rw[A7];rfl
  have I:A1 ((s.delta:Int)+1)=((s.delta+1:Nat):Int):=by rw[A7];rfl
  have J:A1 ((s.done:Int)+1)=((s.done+1:Nat):Int):=by rw[A7];rfl
  by_cases D:p<m
  ·have e:(p==m)=false:=by rw[beq_eq_false_iff_ne];omega
   have j:H8 m a (p::c.drop (i+1)) s=H8 m a (c.drop (i+1)) { s with delta:=s.delta+1 }:=by rw[H8,if_pos D]
   obtain⟨o,u,v,w,f⟩:=F (i+1) n { s with delta:=s.delta+1 } (by omega) (by omega) (by simp only;omega) x (by simp only;omega) (by simp only;omega) y;rw[j,ai1 (by rw[e];simp)];refine⟨λR d=>?_,u,v,w,?_⟩
   ·rw[Cl];rw[A8,D1,E9,j0,ok];simp only[cond_true,vl,C,A,I];rw[A8,cond_true];exact o R d
   ·simp only at f;split at f<;>split<;>omega
  ·by_cases H:p=m
   ·subst H;have G:=OO (q:=s.delta) (k:=0) (b:=s.bias) (by omega);have B:=Oj s.delta (s.done+1) (s.done==a) (by omega);have j:H8 p a (p::c.drop (i+1)) s=H8 p a (c.drop (i+1)) { delta:=0,bias:=Q9 s.delta (s.done+1) (s.done==a),done:=s.done+1,out:=s.out++Q0 s.delta 0 s.bias }:=by rw[H8,if_neg D,if_pos rfl]
    obtain⟨o,u,v,w,f⟩:=F (i+1) n { delta:=0,bias:=Q9 s.delta (s.done+1) (s.done==a),done:=s.done+1,out:=s.out++Q0 s.delta 0 s.bias } (by omega) (by omega) (by simp only;omega) B (by simp only[ae8];omega) (by simp only;omega) y;rw[j,List.countP_cons_of_pos (by simp)];refine⟨λR d=>?_,u,?_,?_,?_⟩
    ·rw[Cl];have g:((s.done:Int)==(a:Int))=(s.done==a):=by grind
     rw[A8,D1,E9,j0,ok];simp only[cond_true,vl,C,A,J];rw[A6,cond_false,beq_self_eq_true,cond_true,O5,O5,p4,aa5 (show s.out.length<=100000 by omega),O5,A8,g];simp only[cond_true,j0];have h:an3 (s.out.map D9) ((Q0 s.delta 0 s.bias).map D9)=(s.out++Q0 s.delta 0 s.bias).map D9:=by rw[ag1];rfl
     rw[h];exact o R d
    ·simp only[ae8] at v;omega
    ·simp only at w;omega
    ·simp only at f;rw[Q5];split at f<;>omega
   ·have e:(p==m)=false:=by rw[beq_eq_false_iff_ne];omega
    have j:H8 m a (p::c.drop (i+1)) s=H8 m a (c.drop (i+1)) s:=by rw[H8,if_neg D,if_neg H]
    obtain⟨o,u,v,w,f⟩:=F (i+1) n s (by omega) (by omega) (by omega) x (by omega) (by omega) y;rw[j,ai1 (by rw[e];simp)];refine⟨λR d=>?_,u,v,w,?_⟩
    ·rw[Cl];rw[A8,D1,E9,j0,ok];simp only[cond_true,vl,C,A];rw[A6,cond_false,show((p:Int)==(m:Int))=false by rw[beq_eq_false_iff_ne];omega,cond_false];exact o R d
    ·split at f<;>split<;>omega
theorem A63{R:Type}{k0:Bool->Bool->LL->Int->Int->Int->Int->Int->Int->LL->Option R}(z t:Bool)(a:List Nat)(k:a.length<=256)(n0:Nat)(b delta c done:Int)(l:LL):∀(r i n m:Nat),i+r=a.length->r<n->
  Ja LF n z t (B6 a) b (n0:Int) delta c done (m:Int) (a.length:Int) (i:Int) l k0=k0 z t (B6 a) b (n0:Int) delta c done ((H5 n0 (a.drop i) m:Nat):Int) l:=by
 intro r
 induction r with
 | zero=>
  intro i n m g j;obtain⟨n,rfl⟩:∃m,n=m+1:=⟨n-1,by omega⟩
  rw[Ja];rw[A6,j2 (by omega)];rfl
 | succ r d=>
  intro i n m g j;obtain⟨n,rfl⟩:∃m,n=m+1:=⟨n-1,by omega⟩
  have f:=AM a i (by omega);have ok:=Qx (l:=a) (i:=i) (by omega);rw[Ja,Vo a i (by omega)];generalize a.getD i 0=p at *;have e:A1 ((i:Int)+1)=((i+1:Nat):Int):=by rw[A7];rfl
  rw[A8,D1,E9,j0,ok];simp only[cond_true,vl,f,e,H5];by_cases h:n0<=p
  ·rw[if_pos h,A6,b9,cond_true];have:(if (p:Int)<(m:Int) then (p:Int) else (m:Int))=((min m p:Nat):Int):=by split<;>omega
   rw[this];exact d (i+1) n (min m p) (by omega) (by omega)
  ·rw[if_neg h,A8,j1,cond_false];exact d (i+1) n m (by omega) (by omega)
theorem El(n:Nat):∀(l:List Nat) (m:Nat),(H5 n l m=m\/(H5 n l m∈l/\n<=H5 n l m))/\H5 n l m<=m/\∀p∈l,n<=p->H5 n l m<=p
 | [],m=>⟨.inl rfl,af1 _,λp h=>by cases h⟩
 | q::r,m=>by
  obtain⟨a,b,c⟩:=El n r (if n<=q then min m q else m);simp only[H5];grind
theorem Vh{n m:Nat}(a:n<=m):∀l:List Nat,(∀p∈l,n<=p->m<=p)->l.countP (λp=>decide (p<m+1))=l.countP (λp=>decide (p<n))+l.countP (· == m)
 | [],_=>rfl
 | p::l,h=>by
  have d:=Vh a l (λq b=>h q (List.mem_cons_of_mem _ b));have c:=h p List.mem_cons_self;grind
theorem Ay4{n:Nat}{l:List Nat}(h:l.countP (λp=>decide (p<n))<l.length):∃p∈l,n<=p:=by
 apply ae1;intro a;have:l.countP (λp=>decide (p<n))=l.length:=by simp_all
 omega
theorem Cn6(z t:Bool)(a:List Nat)(b:Nat)(x:a.length<=256)(N:b<=256)(g:∀p∈a,p<=1114111):∀(f n d:Nat) (s:QZ),s.done=a.countP (λp=>decide (p<n))->a.length<=s.done+f->f<d->s.delta<=300->s.bias<=500->s.out.length+20*(a.length-s.done)<=80000->n<=1114112->
  ∀(R:Type) (k0:LL->Option R),Fq LF d z t (B6 a) (b:Int) (n:Int) (s.delta:Int) (s.bias:Int) (s.done:Int) (s.out.map D9) k0=k0 ((R9 a b f n s).out.map D9):=by
 intro f;have M:=C7
 induction f with
 | zero=>
  intro n d s P S T I v J L R k0;obtain⟨d,rfl⟩:∃m,d=m+1:=⟨d-1,by omega⟩
  rw[Fq];rw[D1,A6];rfl
 | succ f U=>
  intro n d s P S T I v J L R k0;obtain⟨d,rfl⟩:∃m,d=m+1:=⟨d-1,by omega⟩
  rw[Fq];rw[D1];have O:a.countP (λp=>decide (p<n))<=a.length:=aa4;by_cases j:s.done<a.length
  ·obtain⟨A,k,q⟩:=Ay4 (n:=n) (l:=a) (by omega);obtain⟨g1,g2,u⟩:=El n a 1114112;have g4:=u A k q;have g5:=g A k;have e:H5 n a 1114112∈a/\n<=H5 n a 1114112:=by grind
   have Q:R9 a b (f+1) n s=R9 a b f (H5 n a 1114112+1) { H8 (H5 n a 1114112) b a { s with delta:=s.delta+(H5 n a 1114112-n)*(s.done+1) } with delta:=(H8 (H5 n a 1114112) b a { s with delta:=s.delta+(H5 n a 1114112-n)*(s.done+1) }).delta+1 }:=by
    rw[R9,if_pos j]
   rw[Q,A8,cond_true];have c:=λ(K:Bool->Bool->LL->Int->Int->Int->Int->Int->Int->LL->Option R)=>A63 (k0:=K) z t a x n (b:Int) (s.delta:Int) (s.bias:Int) (s.done:Int) (s.out.map D9) a.length 0 LF 1114112 (by omega) (by omega)
   rw[o7] at c;refine j7 (c _) ?_;generalize H5 n a 1114112=m at *;have y:(m-n)*(s.done+1)<=1114112*256:=an9 (by omega) (by omega);have B:A1 ((s.done:Int)+1)=((s.done+1:Nat):Int):=by rw[A7];rfl
   have C:A1 ((m:Int)-(n:Int))=((m-n:Nat):Int):=by rw[A7];omega
   have D:A1 (((m-n:Nat):Int)*((s.done+1:Nat):Int))=(((m-n)*(s.done+1):Nat):Int):=by
    rw[<-Int.natCast_mul];exact A7
   have F:A1 ((s.delta:Int)+(((m-n)*(s.done+1):Nat):Int))=((s.delta+(m-n)*(s.done+1):Nat):Int):=by
    rw[A7];rfl
   simp only[vl,B,C,D,F];have i:=Br3 z t a b m (by omega) x a.length 0 LF { s with delta:=s.delta+(m-n)*(s.done+1) } (by omega) (by omega) (by simp only;omega) v (by simp only;omega) (by simp only;omega) N;rw[o7] at i;obtain⟨V,W,X,Y,Z⟩:=i;rw[D1];refine j7 (V R _) ?_;have h:0<a.countP (· == m):=aj6.2 ⟨m,e.1,by simp⟩;rw[if_pos h] at Z;have r:=Vh e.2 a u;generalize H8 m b a { s with delta:=s.delta+(m-n)*(s.done+1) } = o at *;simp only at X Y;have G:A1 ((o.delta:Int)+1)=((o.delta+1:Nat):Int):=by rw[A7];rfl
   have H:A1 ((m:Int)+1)=((m+1:Nat):Int):=by rw[A7];rfl
   have w:a.countP (λp=>decide (p<m+1))<=a.length:=aa4;simp only[G,H];exact U (m+1) d { o with delta:=o.delta+1 } (by simp only;omega) (by simp only;omega) (by omega) (by simp only;omega) W (by simp only;omega) (by omega) R k0
  ·rw[A6];rw[R9,if_neg j];rfl
def X1(l:List Int):By:=(l.filter λx=>decide (x<128)).map λx=>v8 x.toNat
theorem Cu5(x:Int)(a:0<=x)(h:x<128):[SV.int .u8 (wu8 x)]=D9 (v8 x.toNat):=by
 unfold D9;have e:wu8 x=x:=by unfold wu8;exact Int.emod_eq_of_lt a (show x<256 by omega)
 rw[e];have:((v8 x.toNat).toNat:Int)=x:=by simp;omega
 rw[this]
theorem Tw{x:Int}(h:ptI x=true):0<=x/\x<=1114111:=by
 cases x with
 | negSucc m=>cases h
 | ofNat m=>
  have:V8 m=true:=h;unfold V8 at this;simp only[j8,x7] at this;grind
theorem A58(z t:Bool)(P:List Int)(A:P.length<=256):∀(r i n:Nat) (out:By),i+r=P.length->r<n->out.length+r<=1000->
  ((P.drop i).all ptI=true->∀(R:Type) (a:LL->Option R) (b:Bool->Bool->LL->LL->Option R),V2 LF n z t (Az P) (P.length:Int) (i:Int) (out.map D9) a b=b z t (Az P) ((out++X1 (P.drop i)).map D9))/\
  ((P.drop i).all ptI=false->∃l,∀(R:Type) (a:LL->Option R) (b:Bool->Bool->LL->LL->Option R),V2 LF n z t (Az P) (P.length:Int) (i:Int) (out.map D9) a b=a l):=by
 intro r
 induction r with
 | zero=>
  intro i n out u v w;obtain⟨n,rfl⟩:∃m,n=m+1:=⟨n-1,by omega⟩
  rw[j2 (by omega)];refine⟨λ_ R a b=>?_,λh=>(by cases h)⟩;rw[V2];rw[A6];simp[X1]
 | succ r q=>
  intro i n out u v w;obtain⟨n,rfl⟩:∃m,n=m+1:=⟨n-1,by omega⟩
  have j:=A03 P i (by omega);have ok:=WU (l:=P) (i:=i) (by omega);rw[Ac7 P i (by omega)];generalize P.getD i 0=x at *;have p:A1 ((i:Int)+1)=((i+1:Nat):Int):=by rw[A7];rfl
  cases f:ptI x with
  | false=>
   refine⟨λh=>?_,λ_=>⟨out.map D9,λR a b=>?_⟩⟩
   ·rw[ab7,f] at h;cases h
   ·rw[V2];rw[A8,V6,E9,j0,ok];simp only[cond_true,vl,j,f,b9]
  | true=>
   obtain⟨y,B⟩:=Tw f;rw[ab7,f,ad2];by_cases c:x<128
   ·have d:X1 (x::P.drop (i+1))=v8 x.toNat::X1 (P.drop (i+1)):=by
     unfold X1;rw[List.filter_cons_of_pos (by simpa using c)];rfl
    have g:out.map D9++[[SV.int .u8 (wu8 x)]]=(out++[v8 x.toNat]).map D9:=by rw[Cu5 x y c];simp
    obtain⟨k,o⟩:=q (i+1) n (out++[v8 x.toNat]) (by omega) (by omega) (by simp;omega);have step:∀(R:Type) (a:LL->Option R) (b:Bool->Bool->LL->LL->Option R),V2 LF (n+1) z t (Az P) (P.length:Int) (i:Int) (out.map D9) a b=V2 LF n z t (Az P) (P.length:Int) ((i+1:Nat):Int) ((out++[v8 x.toNat]).map D9) a b:=by
     intro R a b;rw[V2];rw[A8,V6,E9,j0,ok];simp only[cond_true,vl,j,f,j1,cond_false,p];rw[B8 c,p4,F4 (by omega),g];rfl
    refine⟨λh R a b=>?_,λh=>?_⟩
    ·rw[step,k h,d];simp
    ·obtain⟨l,e⟩:=o h;exact⟨l,λR a b=>by rw[step];exact e R a b⟩
   ·have d:X1 (x::P.drop (i+1))=X1 (P.drop (i+1)):=by
     unfold X1;rw[List.filter_cons_of_neg (by simpa using c)]
    obtain⟨k,o⟩:=q (i+1) n out (by omega) (by omega) (by omega);have step:∀(R:Type) (a:LL->Option R) (b:Bool->Bool->LL->LL->Option R),V2 LF (n+1) z t (Az P) (P.length:Int) (i:Int) (out.map D9) a b=V2 LF n z t (Az P) (P.length:Int) ((i+1:Nat):Int) (out.map D9) a b:=by
     intro R a b;rw[V2];rw[A8,V6,E9,j0,ok];simp only[cond_true,vl,j,f,j1,cond_false,p];rw[A6];rfl
    refine⟨λh R a b=>?_,λh=>?_⟩
    ·rw[step,k h,d]
    ·obtain⟨l,e⟩:=o h;exact⟨l,λR a b=>by rw[step];exact e R a b⟩
theorem Br6{P:List Int}(h:P.all ptI=true):∃a:List Nat,P=a.map (λn:Nat=>(n:Int))/\a.all V8=true/\∀p∈a,p<=1114111:=by
 induction P with
 | nil=>exact⟨[],rfl,rfl,by simp⟩
 | cons x P c=>
  rw[ab7,j8] at h;obtain⟨a,rfl,b,e⟩:=c h.2;obtain⟨d,f⟩:=Tw h.1;obtain⟨m,rfl⟩:=j9 d;refine⟨m::a,rfl,?_,?_⟩
  ·rw[ab7,b,ae2];exact h.1
  grind
theorem ID(a:List Nat):X1 (a.map λn:Nat=>(n:Int))=I5 a:=by
 unfold X1 I5
 induction a with
 | nil=>rfl
 | cons p r b=>
  grind
theorem Ta(a:List Nat):(I5 a).length=a.countP (λp=>decide (p<128)):=by unfold I5;grind
theorem A59(z t:Bool)(P:List Int):(X3 P=([],3)/\∀(R:Type) (b:Unit->Option R) (f:By->Int->LL->Option R),Ai4 LF z t (Az P) b f=b ())\/
  (∃l,∀(R:Type) (b:Unit->Option R) (f:By->Int->LL->Option R),Ai4 LF z t (Az P) b f=f (X3 P).1 ((X3 P).2:Nat) l):=by
 have x:=C7;by_cases j:256<P.length
 ·refine .inl ⟨by unfold X3;rw[if_pos j],λR b f=>?_⟩;unfold Ai4;rw[V6,A8];rfl
 ·right
  obtain⟨v,w⟩:=A58 z t P (by omega) P.length 0 LF [] (by omega) (by omega) (by simp;omega);rw[o7] at v w;cases g:P.all ptI with
  | false=>
   obtain⟨l,e⟩:=w g;refine⟨l,λR b f=>?_⟩;unfold Ai4;rw[V6,A6,cond_false];refine j7 (e R _ _) ?_;unfold X3;rw[if_neg j,g];rfl
  | true=>
   obtain⟨a,rfl,A,q⟩:=Br6 g;rw[p4] at j;have m:X3 (a.map λn:Nat=>(n:Int))=Dg a:=by
    unfold X3;rw[p4,if_neg j,g];simp[ah1]
   have k:=Ta a;have y:a.countP (λp=>decide (p<128))<=a.length:=aa4;have main:∀(o:By),o.length<=300->∀(R:Type) (b:LL->Option R),Fq LF LF z t (B6 a) ((I5 a).length:Int) 128 0 72 ((I5 a).length:Int) (o.map D9) b=b ((R9 a (I5 a).length 256 128 { delta:=0,bias:=72,done:=(I5 a).length,out:=o }).out.map D9):=by
    intro o B R b;exact Cn6 z t a (I5 a).length (by omega) (by omega) q 256 128 LF { delta:=0,bias:=72,done:=(I5 a).length,out:=o } k (by simp only;omega) (by omega) (by simp) (by simp) (by simp only;omega) (by omega) R b
   have d:Dg a=((R9 a (I5 a).length 256 128 { delta:=0,bias:=72,done:=(I5 a).length,out:=if (I5 a).isEmpty then [] else I5 a++[45] }).out,0):=by
    unfold Dg;grind
   refine⟨(Dg a).1.map D9,λR b f=>?_⟩;unfold Ai4;rw[V6,p4,A6,cond_false,m];have i:=v g R;rw[p4] at i;refine j7 (i _ _) ?_;rw[aa1,ID,Qw];simp only[vl,p4];by_cases c:I5 a=[]
   ·rw[c,ab2,A6,cond_false];have r:=main [] (by simp) R;rw[c,ab2] at r;rw[aq5] at r;refine j7 (r _) ?_;rw[c] at d;rw[d];simp only[List.isEmpty_nil,if_true,ab2];rw[X7,Y4];rfl
   ·have u:0<(I5 a).length:=ab5.2 c;rw[A8,cond_true,F4 (by omega),cond_true];have h:(I5 a).map D9++[[SV.int .u8 (45:Int)]]=(I5 a++[45]).map D9:=by rw[ag1];rfl
    rw[h];refine j7 (main (I5 a++[45]) (by simp;omega) R _) ?_;rw[d,if_neg (by simpa using c)];rw[X7,Y4];rfl
theorem C94(z t:Bool)(p:LL)(b:p.all Nr=true):∃r H,Ai4 LF z t p (λ_=>rv (.tup [.s (.str []),.s (.int .i64 3)]) []) (λd e l=>rv (.tup [.s (.str d),.s (.int .i64 e)]) [.arr true 5 1 l])=rv r H/\
  r.stab [0,0] H = .tup [.s (.str (X3 (p.map elI)).1),.s (.int .i64 ((X3 (p.map elI)).2:Nat))]:=by
 obtain⟨P,rfl⟩:=Bp2 b;rw[Ac9];rcases A59 z t P with⟨c,a⟩|⟨l,a⟩
 ·exact⟨_,_,a _ _ _,by rw[c];rfl⟩
 ·exact⟨_,_,a _ _ _,rfl⟩
section
variable {Z R : Type} (L : Nat) (Q : G0) (Y : Yh Z) (s : Z) (k : Out -> St Z -> Option R)
noncomputable abbrev Dm8:Code:=C8 ap8
noncomputable def Zs(L:Nat):Cfg:=B7 L [236] (A2 [(3,[0,1,0,0])]) [(238,GO),(250,At3)] (A2 [(17,[2]),(16,[0,2,0,53]),(15,[0,2,0]),(14,[2]),(13,[0,2,0,1,45]),(12,[0,2,0,0,0]),(11,[2]),(10,[0,2,0,0,41]),(9,[0,2,0,0]),(8,[0,2,0,0]),(7,[2]),(6,[0,2,0,0,18]),(5,[0,2,0,0]),(4,[2]),(3,[0,2,0,11]),(2,[0,2,0]),(1,[0,2]),(0,[0])]) [250] (A2 [(0,[2]),(1,[0,2,0])]) (some [2]) [(253,Qh)] [] [253]
noncomputable def Fi{R:Type}(L n:Nat)(p:Int)(c:By)(j o d:Int)(g l:Bool)(i:LL)(a:Int)(h:Int->By->Int->Int->Int->Bool->Bool->LL->Int->Option R):Option R:=match n with|0=>none|n+1=>cond (c==[]) (h 4 c j o d g l i a) (cond (inR 0 c.length) (cond (inR (bAt c (0:Int)) 256) (vl (E0 (u8n (bAt c (0:Int)))) λf=>cond (ltI f 0) (h 4 c j o d g l i a) (cond (I9 1 (c.length:Int) c.length) (vl (cut c 1 (c.length:Int)) λe=>vl (A1 (o+(A1 (f*p)))) λb=>cond (ltI 1099511627776 b) (h 19 e j b d g l i a) (cond (ltN a 1000000000000) (cond (ltN d 1000000) (cond (ltI f (L5 a d)) (h 0 e j b d g l i (ae5 a (36:Int))) (vl (A1 ((36:Int)-(L5 a d))) λm=>cond (ltI 1099511627776 (A1 (p*m))) (h 19 e j b d g l i (ae5 a (36:Int))) (Fi L n (A1 (p*m)) e j b d g l i (ae5 a (36:Int)) h))) none) none)) none)) none) none)
theorem Az4(n w0 g e f b c h d a):D0 4 ((Zs L).keep 3) (bd (Zs L) Q Y (cd [1,1,1,0,0] Dm8)) n ⟨gp [(0,.ptr 0 0 0),(2,.fnr (Fn.func 253) [] [.ptr 3 0 0,.ptr 2 0 0]),(0,pI w0)] 54,[.box [pS g,.fl 1,pI e,pI f,pI b,pB c],.arr h 3 1 d,.box [pI b],.box [pI a]],s⟩ k =
 Fi L n w0 g e f b c h d a (λn0 g e f b c h d a=>k .ret ⟨gp [(2,pI n0)] 56,[.box [pS g,.fl 1,pI e,pI f,pI b,pB c],.arr h 3 1 d,.box [pI b],.box [pI a]],s⟩):=by
 induction n generalizing w0 g e f b c h d a with
 | zero=>rfl
 | succ n i=>rw[Fi];simp only[<-i];kernel_rfl
noncomputable def Dn6{R:Type}(L:Nat)(g:By)(n i b:Int)(q z:Bool)(l:LL)(p:Int->By->Int->Int->Int->Bool->Bool->LL->Int->Option R):Option R:=Fi L L 1 g n i b q z l 0 (λj o m d e a h c f=>p j o m d e a h c f)
theorem C30(d:Nat)(rest n i b st z l):evC (Zs L) (d+1) Z Y 236 [.ptr 0 0 0] [.box [pS rest,.fl 1,pI n,pI i,pI b,pB st],.arr z 3 1 l] s=Dn6 L rest n i b st z l (λj m g h c e o f a=>some (pI j,[.box [pS m,.fl 1,pI g,pI h,pI c,pB e],.arr o 3 1 f,.box [pI c],.box [pI a]],s)):=by refine(evE (fn:=ap8) (by kernel_rfl)).trans ?_;generalize evC (Zs L) d=Q;unfold Dn6;exact(j7 (by kernel_rfl) ((Az4 L Q Y s (E5 0 (F6 (Zs L) ap8)) L 1 rest n i b st z l 0).trans (by kernel_rfl)))
noncomputable def UL(L:Nat):Cfg:=B7 L [212] (A2 []) [(215,Oe),(213,Of)] (A2 [(16,[2]),(15,[]),(14,[0]),(13,[2]),(12,[0,67]),(11,[2]),(10,[0,4,60]),(9,[0,4]),(8,[0,4]),(7,[0,4]),(6,[0,4]),(5,[0,2,1]),(4,[2]),(3,[0,2,0,8]),(2,[0,2,0]),(1,[0,2]),(0,[0])]) [215,213] (A2 []) (some [2]) [(236,RG),(237,TP)] [] [236,237]
noncomputable def Bo2{R:Type}(L:Nat)(a:By)(n i b:Int)(m z:Bool)(l:LL)(j:Int->By->Int->Int->Int->Bool->Bool->LL->Option R):Option R:=cond (A3 a.length) (cond (ltN b 1000000) (cond (ltN i 1099511627777) (cond ((KK b a i)!=0) (j (KK b a i) (KM b a i) n (Tu b a i) b m z l) (vl (A1 ((l.length:Int)+1)) λc=>vl (A1 ((Tu b a i)-i)) λh=>cond (ltN h 1152921504606846976) (cond (ltN c 1000000) (cond (ltI 0 c) (vl (↑(Q9 (j6 h) (j6 c) (not m)):Int) λf=>cond (c !=0) (vl (A1 (ad6 (Tu b a i) c)) λd=>cond (c !=0) (vl (ak8 (Tu b a i) c) λe=>cond (not (ptI (A1 (n+d)))) (j 2 (KM b a i) (A1 (n+d)) e f true z l) (cond (ltI 256 c) (j 3 (KM b a i) (A1 (n+d)) e f true z l) (cond (ltN e (Nat.add l.length 1)) (cond (x5 l.length 100000) (vl (Mc l (j6 e) (A1 (n+d))) λg=>j 0 (KM b a i) (A1 (n+d)) (A1 (e+1)) f true z g) none) none))) none) none) none) none) none)) none) none) none
theorem Ch3(d:Nat)(rest n i b st z l):evC (UL L) (d+1) Z Y 212 [.ptr 0 0 0] [.box [pS rest,.fl 1,pI n,pI i,pI b,pB st],.arr z 3 1 l] s=Bo2 L rest n i b st z l (λh j e f g a m c=>some (pI h,[.box [pS j,.fl 1,pI e,pI f,pI g,pB a],.arr m 3 1 c],s)):=by refine(evE (fn:=Tryz.f212) (by kernel_rfl)).trans ?_;generalize evC (UL L) d=Q;unfold Bo2;kernel_rfl
noncomputable abbrev Sv:Code:=C8 aj5
noncomputable def Ag(L:Nat):Cfg:=B7 L [180] (A2 [(20,[2,0,1]),(13,[0,1,0,1,0,22,0]),(4,[0,1,0,9,0])]) [(98,EM)] (A2 [(24,[2,0]),(23,[2,0]),(22,[5,2,59]),(21,[5,2]),(20,[5,58]),(19,[2,0]),(18,[5,53]),(17,[5]),(16,[0,4,0,22,0]),(15,[0,4,0,22,0]),(14,[0,4,0,0,21,0]),(13,[0,4,0,22,0,0]),(12,[0,4,0,22,0]),(11,[0,4,0,21]),(10,[0,4,0]),(9,[0,4]),(8,[0,12,0]),(7,[2,0]),(6,[0,12,0,5]),(5,[0,3,8,0]),(4,[0,12,0,0]),(3,[0,12,0]),(2,[2,0]),(1,[0,10]),(0,[0])]) [98] (A2 [(4,[5]),(5,[5]),(2,[0,4,0]),(3,[0,4,0,22,0]),(0,[0]),(1,[0,12,0])]) (some [2,0]) [(212,EL)] [] [212] (nt:=[(211,1,3,1)])
noncomputable def Mm{R:Type}(L n:Nat)(b:By)(e a:Int)(c:Unit->Option R)(d:By->Option R):Option R:=match n with|0=>none|n+1=>cond (ltI a e) (cond (inR a b.length) (cond (not (ltI (bAt b a) (128:Int))) (c ()) (Mm L n b e (A1 (a+1)) c d)) none) (d b)
theorem A56(n a n1 n2):D0 0 ((Ag L).keep 4) (bd (Ag L) Q Y (cd [1,1,0,1,0,0] Sv)) n ⟨gp [(0,pS a),(12,pI n1),(0,pI n2)] 59,[],s⟩ k =
 Mm L n a n1 n2 (λ_=>k .ret ⟨gp [(2,.fl 0),(0,pI (4:Int))] 70,[.arr true 3 1 []],s⟩) (λa=>k (.exit 0) ⟨gp [(0,pS a)] 73,[],s⟩):=by
 induction n generalizing a n1 n2 with
 | zero=>rfl
 | succ n b=>rw[Mm];simp only[<-b];kernel_rfl
noncomputable def Iz{R:Type}(L n:Nat)(c:By)(a b:Int)(d:LL)(e:By->Int->LL->Option R):Option R:=match n with|0=>none|n+1=>cond (ltI b a) (cond (inR b c.length) (cond (F9 (d.length+1)) (Iz L n c a (A1 (b+1)) (d++[[(SV.int .i64 (A1 (bAt c b)))]]) e) none) none) (e c a d)
theorem A57(n b a n2 l3):D0 2 ((Ag L).keep 13) (bd (Ag L) Q Y (cd [1,1,1,1,0,1,1,0,0,1,0,0] Sv)) n ⟨gp [(0,pS b),(4,.ptr 1 0 0),(0,pI a),(22,pI a),(0,pI n2)] 43,[.arr true 3 1 l3,.box [pS b,.fl 0,pI (128:Int),pI (0:Int),pI (72:Int),pB false]],s⟩ k =
 Iz L n b a n2 l3 (λb a d=>k (.exit 2) ⟨gp [(0,pS b),(4,.ptr 1 0 0),(0,pI a)] 67,[.arr true 3 1 d,.box [pS b,.fl 0,pI (128:Int),pI (0:Int),pI (72:Int),pB false]],s⟩):=by
 induction n generalizing b a n2 l3 with
 | zero=>rfl
 | succ n c=>rw[Iz];simp only[<-c];kernel_rfl
noncomputable def T6{R:Type}(L n:Nat)(b:LL)(a:By)(c d e:Int)(f:Bool)(i:Int->LL->By->Int->Int->Int->Bool->Option R)(j:LL->By->Int->Int->Int->Bool->Option R):Option R:=match n with|0=>none|n+1=>cond (not (a==[])) (cond (A3 a.length) (cond (ltN e 1000000) (cond (ltN d 1099511627777) (cond (ltN c 1152921504606846976) (cond (x5 b.length 100000) (vl ((F3 (DS.mk a c d e f b))).1 λh=>vl (DS.l ((F3 (DS.mk a c d e f b))).2) λg=>cond (h !=0) (i h g (DS.rest ((F3 (DS.mk a c d e f b))).2) (DS.n ((F3 (DS.mk a c d e f b))).2) (DS.i ((F3 (DS.mk a c d e f b))).2) (DS.b ((F3 (DS.mk a c d e f b))).2) (DS.st ((F3 (DS.mk a c d e f b))).2)) (T6 L n g (DS.rest ((F3 (DS.mk a c d e f b))).2) (DS.n ((F3 (DS.mk a c d e f b))).2) (DS.i ((F3 (DS.mk a c d e f b))).2) (DS.b ((F3 (DS.mk a c d e f b))).2) (DS.st ((F3 (DS.mk a c d e f b))).2) i j)) none) none) none) none) none) (j b a c d e f)
theorem KX(n d f e a b c):D0 2 ((Ag L).keep 20) (bd (Ag L) Q Y (cd [1,1,1,1,1,1,0,0,0] Sv)) n ⟨gp [(5,.ptr 1 0 0)] 68,[.arr true 3 1 d,.box [pS f,.fl 0,pI e,pI a,pI b,pB c]],s⟩ k =
 T6 L n d f e a b c (λn0 i l a b j g=>k .ret ⟨gp [(2,.fl 2),(0,pI n0)] 70,[.arr true 3 1 i,.box [pS l,.fl 0,pI a,pI b,pI j,pB g],.arr true 3 1 []],s⟩) (λd f e a b c=>k (.exit 4) ⟨gp [(5,.ptr 1 0 0)] 68,[.arr true 3 1 d,.box [pS f,.fl 0,pI e,pI a,pI b,pB c]],s⟩):=by
 induction n generalizing d f e a b c with
 | zero=>rfl
 | succ n h=>rw[T6];simp only[<-h];kernel_rfl
noncomputable def Wx{R:Type}(L:Nat)(M:By)(N:Int->Option R)(K:Int->LL->By->Int->Int->Int->Bool->Option R)(O:LL->By->Int->Int->Int->Bool->Option R):Option R:=cond (ltI 1024 (M.length:Int)) (N 3) (Mm L L M (M.length:Int) 0 (λ_=>N 4) (λa=>cond (A3 a.length) (vl (K8 (u8n (45:Int)) a) λC=>cond (ltI 0 C) (Iz L L a C 0 [] (λb h c=>vl (A1 (h+1)) λD=>cond (I9 D (b.length:Int) b.length) (vl (cut b D (b.length:Int)) λJ=>cond (ltI 256 (c.length:Int)) (K 3 c J 128 0 72 false) (T6 L L c J 128 0 72 false (λn i F o p q d=>K n i F o p q d) (λj G r t u e=>O j G r t u e))) none)) (T6 L L [] a 128 0 72 false (λv l H w x y f=>K v l H w x y f) (λm I z A B g=>O m I z A B g))) none))
theorem C89(d:Nat)(s0):evC (Ag L) (d+1) Z Y 180 [pS s0] [] s=Wx L s0 (λg=>some (.tup [.fl 0,pI g],[.arr true 3 1 []],s)) (λg o v e f r m=>some (.tup [.fl 2,pI g],[.arr true 3 1 o,.box [pS v,.fl 0,pI e,pI f,pI r,pB m],.arr true 3 1 []],s)) (λn u q e f l=>some (.tup [.fl 0,pI (0:Int)],[.arr true 3 1 n,.box [pS u,.fl 0,pI q,pI e,pI f,pB l]],s)):=by refine(evE (fn:=aj5) (by kernel_rfl)).trans ?_;generalize evC (Ag L) d=Q;unfold Wx;exact let i:=(E5 4 (E4 (Ag L) Q Y (cd [1,1,1,1,1,1,1] Sv) (F6 (Ag L) aj5)));(j7 (by kernel_rfl) (A0 rfl ((A56 L Q Y s (E5 0 (E4 (Ag L) Q Y (cd [1,1,1] Sv) (F6 (Ag L) aj5))) L s0 (s0.length:Int) 0).trans (congr (congr rfl (by kernel_rfl)) (fx1 λa=>(j7 (by kernel_rfl) (A0 (A4 λc=>(A0 ((A57 L Q Y s (E5 2 (E4 (Ag L) Q Y (cd [1,1,1,1,0,1,1,0,1] Sv) (E4 (Ag L) Q Y (cd [1,1,1,1,1] Sv) (F6 (Ag L) aj5)))) L a c 0 []).trans (congr rfl (fx3 λt j b=>(j7 (by kernel_rfl) (A4 λp=>(A0 (A4 λh=>(A0 rfl ((KX L Q Y s i L b h 128 0 72 false).trans (by kernel_rfl)))) rfl)))))) ((KX L Q Y s i L [] a 128 0 72 false).trans (by kernel_rfl)))) rfl)))))))
noncomputable abbrev Aa5:Code:=C8 ap1
noncomputable def Gs(L:Nat):Cfg:=B7 L [133] (A2 [(2,[0,0,2,0])]) [] (A2 [(6,[4]),(3,[0,0,3]),(5,[4]),(4,[0,0,3,11]),(2,[0,0,3,4]),(1,[0,0,3]),(0,[0,0])]) [] (A2 [(0,[]),(1,[0,0,3])]) (some [4]) [] [] []
noncomputable def Di{R:Type}(L n:Nat)(b:By)(c a:Int)(d:Int->Option R)(e:Unit->Option R):Option R:=match n with|0=>none|n+1=>cond (not (ltI a 0)) (cond (inR a b.length) (cond ((bAt b a)==c) (d a) (Di L n b c (A1 (a-1)) d e)) none) (e ())
theorem WC(n s0 c1 i2):D0 0 ((Gs L).keep 2) (bd (Gs L) Q Y (cd [1,0,1,0,0] Aa5)) n ⟨gp [(0,pS s0),(0,p8 c1),(3,pI i2)] 13,[],s⟩ k =
 Di L n s0 c1 i2 (λn0=>k .ret ⟨gp [(4,pI n0)] 14,[],s⟩) (λ_=>k (.exit 0) ⟨gp [] 19,[],s⟩):=by
 induction n generalizing s0 c1 i2 with
 | zero=>rfl
 | succ n a=>rw[Di];simp only[<-a];kernel_rfl
noncomputable def WB{R:Type}(L:Nat)(d:By)(e:Int)(c:Int->Option R):Option R:=vl (A1 ((d.length:Int)-1)) λa=>Di L L d e a (λb=>c b) (λ_=>c (-1))
theorem By6(d:Nat)(s0 c1):evC (Gs L) (d+1) Z Y 133 [pS s0,p8 c1] [] s=WB L s0 c1 (λb=>some (pI b,[],s)):=by refine(evE (fn:=ap1) (by kernel_rfl)).trans ?_;generalize evC (Gs L) d=Q;unfold WB;exact(j7 (by kernel_rfl) (A4 λa=>((WC L Q Y s (E5 0 (E4 (Gs L) Q Y (cd [1,1] Aa5) (F6 (Gs L) ap1))) L s0 c1 a).trans (by kernel_rfl))))
noncomputable def UP(L:Nat):Cfg:=B7 L [98] (A2 []) [(133,ZQ)] (A2 [(1,[4]),(0,[0,0])]) [133] (A2 []) (some [4]) [] [] []
noncomputable def Bp6{R:Type}(L:Nat)(b:By)(a:Int)(c:Int->Option R):Option R:=cond (A3 b.length) (cond (inR a 256) (c (K8 (u8n a) b)) none) none
theorem Ck2(d:Nat)(s0 c1):evC (UP L) (d+1) Z Y 98 [pS s0,p8 c1] [] s=Bp6 L s0 c1 (λa=>some (pI a,[],s)):=by refine(evE (fn:=Tryz.f98) (by kernel_rfl)).trans ?_;generalize evC (UP L) d=Q;unfold Bp6;kernel_rfl
end
theorem Fz(c:UInt8):-1<=E0 c/\E0 c<=35:=by unfold E0 Nw;grind
theorem Nd(k b:Int):1<=L5 k b/\L5 k b<=26:=by unfold L5;omega
theorem Dp{x w:Int}(b:0<=x)(c:x<=35)(a:0<=w)(w1:w<=1099511627776):0<=x*w/\x*w<=38482906972160:=by refine⟨an6 b a,?_⟩;have:=Int.mul_le_mul c w1 a (show(0:Int)<=35 by omega);omega
theorem Vm(b:Int):∀(s:By) (i w k:Int),0<=i->0<=w->w<=1099511627776->(U5 b s i w k).1=0->i<=(U5 b s i w k).2.2/\(U5 b s i w k).2.2<=1099511627776/\(U5 b s i w k).2.1.length<s.length
 | [],i,w,k,_,_,_,h=>by simp[U5] at h
 | c::r,i,w,k,m,d,a,h=>by
  have l:=Fz c;have o:=Nd k b;unfold U5 at h ⊢;split at h
  ·simp at h
  ·rename_i e;rw[if_neg e];have n:=Dp (by omega) l.2 d a;split at h
   ·simp at h
   ·rename_i f;rw[if_neg f];split at h
    ·grind
    ·rename_i g;rw[if_neg g];split at h
     ·omega
     ·rename_i j;rw[if_neg j];obtain⟨p,q,t⟩:=Vm b r (i+E0 c*w) (w*(36-L5 k b)) (k+36) (by omega) (an6 d (by omega)) (by omega) h;grind
theorem Bw2(f:Int)(b:Int)(g z:Bool)(l:LL)(M:0<=b)(N:b<1000000):∀(s:By) (n:Nat) (i w k:Int),s.length<n->s.length<=1000000000->0<=i->i<=1099511627776->0<=w->w<=1099511627776->0<=k->k+36*s.length<=100000000000->
  ∃H,∀(R:Type) (a:Int->By->Int->Int->Int->Bool->Bool->LL->Int->Option R),Fi LF n w s f i b g z l k a=a (U5 b s i w k).1 (U5 b s i w k).2.1 f (U5 b s i w k).2.2 b g z l H:=by
 intro s
 induction s with
 | nil=>
  intro n i w k K L O B G h P o;obtain⟨n,rfl⟩:∃m,n=m+1:=⟨n-1,by omega⟩
  refine⟨k,λR a=>?_⟩;rw[Fi];rfl
 | cons c r T=>
  intro n i w k K L O B G h P o;obtain⟨n,rfl⟩:∃m,n=m+1:=⟨n-1,by omega⟩
  rw[p6] at K L o;have S:=Fz c;have V:=Nd k b;have Q:u8n (bAt (c::r) 0)=c:=by unfold u8n bAt;simp
  have C:inR (bAt (c::r) 0) 256=true:=by rw[Ao];have:=c.toNat_lt;exact M0 (by omega) (by simp;omega)
  have j:cut (c::r) 1 ((c::r).length:Int)=r:=by
   have:=Ip (c::r) 1 (c::r).length;grind
  have F:((c::r)==([]:By))=false:=rfl;have start:∀(R:Type) (a:Int->By->Int->Int->Int->Bool->Bool->LL->Int->Option R),Fi LF (n+1) w (c::r) f i b g z l k a =
    cond (ltI (E0 c) 0) (a 4 (c::r) f i b g z l k)
     (vl (A1 (i+(A1 (E0 c*w)))) λd=>cond (ltI 1099511627776 d) (a 19 r f d b g z l k)
      (cond (ltI (E0 c) (L5 k b)) (a 0 r f d b g z l (ae5 k 36))
       (vl (A1 (36-(L5 k b))) λp=>cond (ltI 1099511627776 (A1 (w*p))) (a 19 r f d b g z l (ae5 k 36)) (Fi LF n (A1 (w*p)) r f d b g z l (ae5 k 36) a)))):=by
   intro R a;rw[Fi];rw[F,C,M0 (by omega) (by rw[p6];omega),Am (by omega) (by rw[p6];omega) (by omega),j,Q,O5,O5];rfl
  unfold U5;by_cases u:E0 c<0
  ·rw[if_pos u];refine⟨k,λR a=>?_⟩;rw[start,B8 u];rfl
  ·rw[if_neg u];have U:=Dp (by omega) S.2 G h;have q:A1 (E0 c*w)=E0 c*w:=A7;have t:A1 (i+E0 c*w)=i+E0 c*w:=A7;by_cases v:1099511627776<i+E0 c*w
   ·rw[if_pos v];refine⟨k,λR a=>?_⟩;rw[start,A6,q,t];simp only[vl,cond_false];rw[B8 v];rfl
   ·rw[if_neg v];by_cases y:E0 c<L5 k b
    ·rw[if_pos y];refine⟨ae5 k 36,λR a=>?_⟩;rw[start,A6,q,t];simp only[vl,cond_false];rw[A6,B8 y];rfl
    ·rw[if_neg y];have I:A1 (36-L5 k b)=36-L5 k b:=A7;have D:=Dp (x:=36-L5 k b) (by omega) (by omega) G h;rw[Int.mul_comm] at D;have J:A1 (w*(36-L5 k b))=w*(36-L5 k b):=A7;by_cases A:1099511627776<w*(36-L5 k b)
     ·rw[if_pos A];refine⟨ae5 k 36,λR a=>?_⟩;rw[start,A6,q,t];simp only[vl,cond_false];rw[A6,A6,I,J,B8 A];rfl
     ·rw[if_neg A];obtain⟨H,e⟩:=T n (i+E0 c*w) (w*(36-L5 k b)) (k+36) (by omega) (by omega) (by omega) (by omega) (by omega) (by omega) (by omega) (by omega);refine⟨H,λR a=>?_⟩;rw[start,A6,q,t];simp only[vl,cond_false];rw[A6,A6,I,J,A6];exact e R a
theorem Bw3(a:By)(n i b:Int)(f z:Bool)(l:LL)(h:A3 a.length=true)(j:ltN b 1000000=true)(k:ltN i 1099511627777=true) :
  ∃c,∀(R:Type) (d:Int->By->Int->Int->Int->Bool->Bool->LL->Int->Option R),Dn6 LF a n i b f z l d=d (KK b a i) (KM b a i) n (Tu b a i) b f z l c:=by
 have q:=L3 h;obtain⟨g,p⟩:=E6.1 j;obtain⟨o,r⟩:=E6.1 k;have m:=C7;obtain⟨c,e⟩:=Bw2 n b f z l g (by omega) a LF i 1 0 (by omega) (by omega) o (by omega) (by omega) (by omega) (by omega) (by omega);exact⟨c,λR d=>e R _⟩
theorem Az5{R:Type}{j:Int->By->Int->Int->Int->Bool->Bool->LL->Option R}(a:By)(n i b:Int)(d z:Bool)(l:LL)(y:A3 a.length=true)(C:ltN b 1000000=true)(g:ltN i 1099511627777=true)(D:ltN n 1152921504606846976=true)(h:x5 l.length 100000=true) :
  Bo2 LF a n i b d z l j=j (F3 ⟨a,n,i,b,d,l⟩).1 (F3 ⟨a,n,i,b,d,l⟩).2.rest (F3 ⟨a,n,i,b,d,l⟩).2.n (F3 ⟨a,n,i,b,d,l⟩).2.i (F3 ⟨a,n,i,b,d,l⟩).2.b (F3 ⟨a,n,i,b,d,l⟩).2.st z (F3 ⟨a,n,i,b,d,l⟩).2.l:=by
 obtain⟨F,P⟩:=E6.1 g;obtain⟨n0,Q⟩:=E6.1 D;have M:=ac0 h;unfold Bo2 F3;rw[y,C,g];simp only[cond_true];by_cases e:KK b a i=0
 ·rw[if_pos e,e];obtain⟨G,I,S⟩:=Vm b a i 1 0 F (by omega) (by omega) e;have H:i<=Tu b a i:=G;have J:Tu b a i<=1099511627776:=I;have o:A1 ((l.length:Int)+1)=(l.length:Int)+1:=A7;simp only[vl];rw[o];generalize Tu b a i=x at *;have f:0<=x:=by omega
  obtain⟨X,rfl⟩:=j9 f;have p:A1 ((X:Int)-i)=(X:Int)-i:=A7;have u:((l.length:Int)+1)=((l.length+1:Nat):Int):=rfl;have v:ad6 (X:Int) ((l.length+1:Nat):Int)=((X / (l.length+1):Nat):Int):=N3 _ _;have w:ak8 (X:Int) ((l.length+1:Nat):Int)=((X % (l.length+1):Nat):Int):=Ic _ _;have L:=ae7 X (l.length+1);have N:=an8 X (show 0<l.length+1 by omega);rw[p,u,v,w];generalize hA:X / (l.length+1)=A at *;generalize K:X % (l.length+1)=B at *;have q:A1 (A:Int)=(A:Int):=A7;have r:A1 (n+(A:Int))=n+(A:Int):=A7;have t:A1 ((B:Int)+1)=(B:Int)+1:=A7;have k:((0:Int)!=0)=false:=rfl;have m:((((l.length+1:Nat):Int))!=0)=true:=by rw[bne_iff_ne];omega
  rw[q,r,t,k,O5,O5,A8,m];simp only[cond_true,cond_false];cases O:ptI (n+(A:Int)) with
  | false=>simp
  | true=>
   simp only[j1,cond_false,if_true];by_cases c:(256:Int)<((l.length+1:Nat):Int)
   ·rw[if_pos c,B8 c];rfl
   ·rw[if_neg c,A6,cond_false,Wm (by omega) (by show(B:Int)<((l.length+1:Nat):Int);omega),h];rfl
 ·rw[if_neg e,show(KK b a i !=0)=true from bne_iff_ne.2 e];rfl
theorem JV(c:UInt8):∀l:By,-1<=K8 c l
 | []=>by simp[K8]
 | b::r=>by
  have:=JV c r;unfold K8;omega
theorem JW(c b:UInt8):∀l:By,K8 c (l++[b])=if b=c then (l.length:Int) else K8 c l
 | []=>by
  by_cases h:b=c<;>simp[K8,h]
 | a::l=>by
  have d:=JW c b l;rw[ad8,K8,d];by_cases h:b=c
  ·grind
  ·rw[if_neg h,if_neg h];rfl
theorem Af3{R:Type}{b:Int->Option R}{d:Unit->Option R}(s:By)(c:UInt8)(l:s.length<=1000000000):∀(m n:Nat),m<=s.length->m<n->
  Di LF n s (c.toNat:Int) ((m:Int)-1) b d=if K8 c (s.take m)<0 then d () else b (K8 c (s.take m)):=by
 intro m
 induction m with
 | zero=>
  intro n g i;obtain⟨n,rfl⟩:∃m,n=m+1:=⟨n-1,by omega⟩
  rw[Di];rw[A8];rfl
 | succ m k=>
  intro n g i;obtain⟨n,rfl⟩:∃m,n=m+1:=⟨n-1,by omega⟩
  rw[Di];have e0:(((m+1:Nat):Int)-1)=(m:Int):=by omega
  have e:A1 ((m:Int)-1)=(m:Int)-1:=A7;have j:s.take (m+1)=s.take m++[s.getD m 0]:=by
   rw[al7,b8,j5 (by omega)];rfl
  rw[e0,e,A6,E9,D3,j,JW];simp only[b9,cond_true];by_cases h:s.getD m 0=c
  ·rw[if_pos h,h,beq_self_eq_true,cond_true,y5,ai6 (by omega),F7]
  ·have a:(((s.getD m 0).toNat:Int)==(c.toNat:Int))=false:=by
    rw[beq_eq_false_iff_ne];intro f;exact h (UInt8.toNat.inj (Int.ofNat.inj f))
   rw[if_neg h,a,cond_false];exact k n (by omega) (by omega)
theorem Cu7{c:Int}(h:inR c 256=true):c=((u8n c).toNat:Int):=by simp only[inR,j8,decide_eq_true_eq] at h;unfold u8n;simp;omega
theorem Af4{R:Type}{a:Int->Option R}(s:By)(c:Int)(e:A3 s.length=true)(f:inR c 256=true):WB LF s c a=a (K8 (u8n c) s):=by
 have j:=L3 e;have g:=C7;have i:=Cu7 f;generalize u8n c=d at *;subst i;unfold WB;have b:A1 ((s.length:Int)-1)=(s.length:Int)-1:=A7;simp only[vl];rw[b];refine j7 (Af3 s d (by omega) s.length LF (by omega) (by omega)) ?_;rw[am7];have:=JV d s;by_cases h:K8 d s<0
 ·rw[if_pos h,show K8 d s=-1 by omega]
 ·rw[if_neg h]
theorem A24{R:Type}{a:Int->Option R}(s:By)(c:Int)(b:A3 s.length=true)(d:inR c 256=true):Bp6 LF s c a=a (K8 (u8n c) s):=by unfold Bp6;grind
theorem Pf:∀s:By,(45∈s->K8 45 s=(G6 s:Int))/\(45∉s->K8 45 s=-1/\G6 s=0)
 | []=>⟨λh=>(by cases h),λ_=>⟨rfl,rfl⟩⟩
 | b::r=>by
  obtain⟨a,c⟩:=Pf r;unfold K8 G6;grind
theorem Aq9{c:UInt8}(h:Nw c=none):E0 c=-1:=by unfold E0;rw[h]
theorem Ar0{c:UInt8}{x:Nat}(h:Nw c=some x):E0 c=x:=by unfold E0;rw[h]
theorem Vn(b:Nat):∀(s:By) (i w k:Nat),U5 (b:Int) s (i:Int) (w:Int) ((36*k:Nat):Int)=((((D7 b s i w k).2.2:Nat):Int),(U5 (b:Int) s (i:Int) (w:Int) ((36*k:Nat):Int)).2)/\
  ((D7 b s i w k).2.2=0->(U5 (b:Int) s (i:Int) (w:Int) ((36*k:Nat):Int)).2=((D7 b s i w k).2.1,((D7 b s i w k).1:Int)))
 | [],i,w,k=>⟨rfl,λh=>by simp[D7] at h⟩
 | c::r,i,w,k=>by
  unfold U5 D7;cases d:Nw c with
  | none=>
   rw[Aq9 d,Q5];grind
  | some x=>
   rw[Ar0 d,F7,Yc];have e:(i:Int)+(x:Int)*(w:Int)=((i+x*w:Nat):Int):=by push_cast;rfl
   have n:=W8 k b;have f:(w:Int)*(36-(thr k b:Int))=((w*(36-thr k b):Nat):Int):=by grind
   have g:((36*k:Nat):Int)+36=((36*(k+1):Nat):Int):=by omega
   have a:W5=1099511627776:=by decide
   rw[e,f,g,a];simp only;generalize i+x*w=I;generalize w*(36-thr k b)=W;by_cases j:1099511627776<I
   ·grind
   ·rw[F7,if_neg j];by_cases l:x<thr k b
    ·grind
    ·rw[F7,if_neg l];by_cases m:1099511627776<W
     ·grind
     ·rw[F7,if_neg m];exact Vn b r I W (k+1)
theorem Cj4(l:List Nat)(i n:Nat):Mc (B6 l) i (n:Int)=B6 (V7 l i n):=by unfold Mc V7 B6;simp_all
theorem WR(b:Nat)(s:By)(i:Nat):KK (b:Int) s (i:Int)=((D7 b s i 1 0).2.2:Int)/\((D7 b s i 1 0).2.2=0->KM (b:Int) s (i:Int)=(D7 b s i 1 0).2.1/\Tu (b:Int) s (i:Int)=((D7 b s i 1 0).1:Int)):=by obtain⟨a,c⟩:=Vn b s i 1 0;have e:U5 (b:Int) s (i:Int) 1 0=U5 (b:Int) s (i:Int) ((1:Nat):Int) ((36*0:Nat):Int):=rfl;unfold KK KM Tu;rw[e];refine⟨by rw[a],λh=>?_⟩;have:=c h;rw[this];exact⟨rfl,rfl⟩
theorem Dw6(s:By)(a:List Nat)(n i b:Nat)(c:Bool)(h:(D7 b s i 1 0).2.2=0)(q:i<=(D7 b s i 1 0).1)(o:V8 (n+(D7 b s i 1 0).1 / (a.length+1))=true)(p:¬ 256<a.length+1) :
  F3 ⟨s,(n:Int),(i:Int),(b:Int),c,B6 a⟩=(0,⟨(D7 b s i 1 0).2.1,((n+(D7 b s i 1 0).1 / (a.length+1):Nat):Int),(((D7 b s i 1 0).1 % (a.length+1)+1:Nat):Int),((Q9 ((D7 b s i 1 0).1-i) (a.length+1) (!c):Nat):Int),true,B6 (V7 a ((D7 b s i 1 0).1 % (a.length+1)) (n+(D7 b s i 1 0).1 / (a.length+1)))⟩):=by
 obtain⟨j,k⟩:=WR b s i;obtain⟨l,m⟩:=k h;unfold F3;simp only;rw[j,h,if_pos (show((0:Nat):Int)=0 from rfl),l,m,D1];generalize (D7 b s i 1 0).1=X at *;have d:((a.length:Int)+1)=((a.length+1:Nat):Int):=rfl;have e:ad6 (X:Int) ((a.length+1:Nat):Int)=((X / (a.length+1):Nat):Int):=N3 _ _;have f:ak8 (X:Int) ((a.length+1:Nat):Int)=((X % (a.length+1):Nat):Int):=Ic _ _;have g:(n:Int)+((X / (a.length+1):Nat):Int)=((n+X / (a.length+1):Nat):Int):=rfl;rw[d,e,f,g,Mn,o,if_pos rfl,F7,j0,Cj4,j0,show((X:Int)-(i:Int)).toNat=X-i by omega];rfl
theorem Dn7(s:By)(a:List Nat)(n i b:Nat)(f:Bool):((D7 b s i 1 0).2.2≠0->(F3 ⟨s,(n:Int),(i:Int),(b:Int),f,B6 a⟩).1=((D7 b s i 1 0).2.2:Int))/\
  ((D7 b s i 1 0).2.2=0->V8 (n+(D7 b s i 1 0).1 / (a.length+1))=false->(F3 ⟨s,(n:Int),(i:Int),(b:Int),f,B6 a⟩).1=2)/\
  ((D7 b s i 1 0).2.2=0->V8 (n+(D7 b s i 1 0).1 / (a.length+1))=true->256<a.length+1->(F3 ⟨s,(n:Int),(i:Int),(b:Int),f,B6 a⟩).1=3):=by
 obtain⟨c,l⟩:=WR b s i;have g:(((B6 a).length:Int)+1)=((a.length+1:Nat):Int):=by rw[D1];rfl
 have j:∀X:Nat,ad6 (X:Int) ((a.length+1:Nat):Int)=((X / (a.length+1):Nat):Int):=λX=>N3 _ _
 have k:∀A:Nat,(n:Int)+(A:Int)=((n+A:Nat):Int):=λA=>rfl
 refine⟨λh=>?_,λh e=>?_,λh e o=>?_⟩
 ·unfold F3;simp only;rw[c,F7]
 ·obtain⟨m,d⟩:=l h;unfold F3;simp only;rw[c,h,if_pos (show((0:Nat):Int)=0 from rfl),d,g,j,k,Mn,e,if_neg (by simp)]
 ·obtain⟨m,d⟩:=l h;unfold F3;simp only;rw[c,h,if_pos (show((0:Nat):Int)=0 from rfl),d,g,j,k,Mn,e,if_pos rfl,Q5]
theorem De(a:List Nat)(n i b:Nat)(f:Bool):G9 [] a n i b f=(a,0):=by rw[G9];rfl
theorem Hb{s:By}(c:s≠[])(a:List Nat)(n i b:Nat)(f:Bool)(h:(D7 b s i 1 0).2.2≠0):G9 s a n i b f=([],(D7 b s i 1 0).2.2):=by rw[G9,dif_neg c];grind
theorem Eh{s:By}(c:s≠[])(a:List Nat)(n i b:Nat)(f:Bool)(h:(D7 b s i 1 0).2.2=0):G9 s a n i b f =
  if V8 (n+(D7 b s i 1 0).1 / (a.length+1)) then (if 256<a.length+1 then ([],3) else G9 (D7 b s i 1 0).2.1 (V7 a ((D7 b s i 1 0).1 % (a.length+1)) (n+(D7 b s i 1 0).1 / (a.length+1))) (n+(D7 b s i 1 0).1 / (a.length+1)) ((D7 b s i 1 0).1 % (a.length+1)+1) (Q9 ((D7 b s i 1 0).1-i) (a.length+1) f) false) else ([],2):=by
 rw[G9,dif_neg c];simp only;rw[dif_pos h]
theorem Bl(l:List Nat)(i n:Nat):(V7 l i n).length=l.length+1:=by unfold V7;grind
theorem B20:∀(r:Nat) (s:By) (a:List Nat) (n i b f:Nat) (c:Bool),s.length<=r->r<f->s.length<=1000000->a.length<=256->n<=1114111->i<=1000->b<=500->
  ((G9 s a n i b (!c)).2=0->∃u t q p j,∀(R:Type) (d:Int->LL->By->Int->Int->Int->Bool->Option R) (g:LL->By->Int->Int->Int->Bool->Option R),T6 LF f (B6 a) s (n:Int) (i:Int) (b:Int) c d g=g (B6 (G9 s a n i b (!c)).1) u t q p j)/\
  ((G9 s a n i b (!c)).2≠0->(G9 s a n i b (!c)).1=[]/\∃l u t q p j,∀(R:Type) (d:Int->LL->By->Int->Int->Int->Bool->Option R) (g:LL->By->Int->Int->Int->Bool->Option R),T6 LF f (B6 a) s (n:Int) (i:Int) (b:Int) c d g=d ((G9 s a n i b (!c)).2:Nat) l u t q p j):=by
 intro r
 induction r with
 | zero=>
  intro s a n i b f c h K _ _ _ _ _;obtain⟨f,rfl⟩:∃m,f=m+1:=⟨f-1,by omega⟩
  have v:s=[]:=k9.1 (by omega);subst v;rw[De];refine⟨λ_=>⟨[],n,i,b,c,λR d g=>?_⟩,λh=>absurd rfl h⟩;rw[T6];rfl
 | succ r L=>
  intro s a n i b f c h K X Y Z h4 h5;obtain⟨f,rfl⟩:∃m,f=m+1:=⟨f-1,by omega⟩
  by_cases v:s=[]
  ·subst v;rw[De];refine⟨λ_=>⟨[],n,i,b,c,λR d g=>?_⟩,λh=>absurd rfl h⟩;rw[T6];rfl
  ·have start:∀(R:Type) (d:Int->LL->By->Int->Int->Int->Bool->Option R) (g:LL->By->Int->Int->Int->Bool->Option R),T6 LF (f+1) (B6 a) s (n:Int) (i:Int) (b:Int) c d g =
     cond ((F3 ⟨s,n,i,b,c,B6 a⟩).1 !=0) (d (F3 ⟨s,n,i,b,c,B6 a⟩).1 (F3 ⟨s,n,i,b,c,B6 a⟩).2.l (F3 ⟨s,n,i,b,c,B6 a⟩).2.rest (F3 ⟨s,n,i,b,c,B6 a⟩).2.n (F3 ⟨s,n,i,b,c,B6 a⟩).2.i (F3 ⟨s,n,i,b,c,B6 a⟩).2.b (F3 ⟨s,n,i,b,c,B6 a⟩).2.st)
      (T6 LF f (F3 ⟨s,n,i,b,c,B6 a⟩).2.l (F3 ⟨s,n,i,b,c,B6 a⟩).2.rest (F3 ⟨s,n,i,b,c,B6 a⟩).2.n (F3 ⟨s,n,i,b,c,B6 a⟩).2.i (F3 ⟨s,n,i,b,c,B6 a⟩).2.b (F3 ⟨s,n,i,b,c,B6 a⟩).2.st d g):=by
    intro R d g;rw[T6];rw[show(s==([]:By))=false from beq_eq_false_iff_ne.2 v,K4,O5,O5,O5,D1,aa5 (show a.length<=100000 by omega)];rfl
   obtain⟨G,H,I⟩:=Dn7 s a n i b c;have o:=Dw6 s a n i b c;generalize F3 ⟨s,n,i,b,c,B6 a⟩=D at *;by_cases k:(D7 b s i 1 0).2.2=0
   ·rw[Eh v a n i b (!c) k];obtain⟨M,N⟩:=WR b s i;obtain⟨O,P⟩:=N k;have J:KK (b:Int) s (i:Int)=0:=by rw[M,k];rfl
    obtain⟨U,V,W⟩:=Vm b s i 1 0 (by omega) (by omega) (by omega) J;have A:(i:Int)<=Tu (b:Int) s (i:Int):=U;have B:Tu (b:Int) s (i:Int)<=1099511627776:=V;have C:(KM (b:Int) s (i:Int)).length<s.length:=W;rw[P] at A B;rw[O] at C;cases x:V8 (n+(D7 b s i 1 0).1 / (a.length+1)) with
    | false=>
     rw[if_neg (by simp)];refine⟨λh=>by simp at h,λ_=>⟨rfl,D.2.l,D.2.rest,D.2.n,D.2.i,D.2.b,D.2.st,λR d g=>?_⟩⟩
     ·rw[start,H k x];rfl
    | true=>
     rw[if_pos rfl];by_cases w:256<a.length+1
     ·rw[if_pos w];refine⟨λh=>by simp at h,λ_=>⟨rfl,D.2.l,D.2.rest,D.2.n,D.2.i,D.2.b,D.2.st,λR d g=>?_⟩⟩;rw[start,I k x w];rfl
     ·rw[if_neg w];have o:=o k (by omega) x w;have z:n+(D7 b s i 1 0).1 / (a.length+1)<=1114111:=by
       unfold V8 at x;simp_all
      have F:=an8 (D7 b s i 1 0).1 (show 0<a.length+1 by omega);have y:=Oj ((D7 b s i 1 0).1-i) (a.length+1) (!c) (by omega);have:=L (D7 b s i 1 0).2.1 (V7 a ((D7 b s i 1 0).1 % (a.length+1)) (n+(D7 b s i 1 0).1 / (a.length+1))) (n+(D7 b s i 1 0).1 / (a.length+1)) ((D7 b s i 1 0).1 % (a.length+1)+1) (Q9 ((D7 b s i 1 0).1-i) (a.length+1) (!c)) f true (by omega) (by omega) (by omega) (by rw[Bl];omega) z (by omega) y;obtain⟨Q,S⟩:=this;refine⟨λh=>?_,λh=>?_⟩
      ·obtain⟨u,t,q,p,j,e⟩:=Q h;refine⟨u,t,q,p,j,λR d g=>?_⟩;rw[start,o];exact e R d g
      ·obtain⟨T,l,u,t,q,p,j,e⟩:=S h;refine⟨T,l,u,t,q,p,j,λR d g=>?_⟩;rw[start,o];exact e R d g
   ·rw[Hb v a n i b (!c) k];refine⟨λh=>absurd h k,λ_=>⟨rfl,D.2.l,D.2.rest,D.2.n,D.2.i,D.2.b,D.2.st,λR d g=>?_⟩⟩;rw[start,G k,show(((D7 b s i 1 0).2.2:Int)!=0)=true by rw[bne_iff_ne];omega];rfl
theorem Dq(l:List Nat):Mj l=B6 l:=rfl
theorem A54{R:Type}{k0:Unit->Option R}{k1:By->Option R}(s:By)(f:s.length<=1000000):∀(r i n:Nat),i+r=s.length->r<n->
  Mm LF n s (s.length:Int) (i:Int) k0 k1=if (s.drop i).any (λb=>x5 128 b.toNat) then k0 () else k1 s:=by
 intro r
 induction r with
 | zero=>
  intro i n c d;obtain⟨n,rfl⟩:∃m,n=m+1:=⟨n-1,by omega⟩
  rw[Mm];rw[A6,j2 (by omega)];rfl
 | succ r e=>
  intro i n c d;obtain⟨n,rfl⟩:∃m,n=m+1:=⟨n-1,by omega⟩
  rw[Mm];have a:A1 ((i:Int)+1)=((i+1:Nat):Int):=by rw[A7];rfl
  rw[A8,E9,D3,D4 s i (by omega),a,aj9];simp only[cond_true];generalize s.getD i 0=b;by_cases h:128<=b.toNat
  ·rw[A6,aa5 h];rfl
  ·have:x5 128 b.toNat=false:=by rw[y9,ne_eq,x7];exact h
   rw[A8,this,af7];exact e (i+1) n (by omega) (by omega)
theorem B19{R:Type}{k0:By->Int->LL->Option R}(s:By)(q:s.length<=1000000)(k:Nat)(p:k<=s.length):∀(r i n:Nat) (l:List Nat),i+r=k->r<n->l.length=i->
  Iz LF n s (k:Int) (i:Int) (B6 l) k0=k0 s (k:Int) (B6 (l++((s.take k).drop i).map (·.toNat))):=by
 intro r
 induction r with
 | zero=>
  intro i n l f h g;obtain⟨n,rfl⟩:∃m,n=m+1:=⟨n-1,by omega⟩
  rw[Iz];rw[A6,j2 (by rw[y5];omega)];simp
 | succ r j=>
  intro i n l f h g;obtain⟨n,rfl⟩:∃m,n=m+1:=⟨n-1,by omega⟩
  rw[Iz];have c:A1 ((i:Int)+1)=((i+1:Nat):Int):=by rw[A7];rfl
  have e:(s.take k).drop i=s.getD i 0::(s.take k).drop (i+1):=by
   rw[D4 (s.take k) i (by rw[y5];omega)]
   congr 1
   rw[b8,b8,List.getElem?_take_of_lt (by omega)]
  rw[A8,E9,D3,e,D1,F4 (by omega),c];simp only[cond_true];generalize s.getD i 0=b;have o:=b.toNat_lt;have d:A1 (b.toNat:Int)=(b.toNat:Int):=A7;have a:B6 l++[[SV.int .i64 (A1 (b.toNat:Int))]]=B6 (l++[b.toNat]):=by rw[d,Kq];rfl
  rw[a,j (i+1) n _ (by omega) (by omega) (by simp;omega)];simp
theorem Ph:∀s:By,G6 s<=s.length-1
 | []=>by simp[G6]
 | b::r=>by
  have:=Ph r;unfold G6;grind
theorem A55(s:By)(M:A3 s.length=true):(∃e,O0 s=([],e)/\∀(R:Type) (k0:Int->Option R) (k1:Int->LL->By->Int->Int->Int->Bool->Option R) (a:LL->By->Int->Int->Int->Bool->Option R),Wx LF s k0 k1 a=k0 (e:Nat))\/
  (∃e l k j i f c,O0 s=([],e)/\∀(R:Type) (k0:Int->Option R) (k1:Int->LL->By->Int->Int->Int->Bool->Option R) (a:LL->By->Int->Int->Int->Bool->Option R),Wx LF s k0 k1 a=k1 (e:Nat) l k j i f c)\/
  ((O0 s).2=0/\∃k j i f c,∀(R:Type) (k0:Int->Option R) (k1:Int->LL->By->Int->Int->Int->Bool->Option R) (a:LL->By->Int->Int->Int->Bool->Option R),Wx LF s k0 k1 a=a (B6 (O0 s).1) k j i f c):=by
 have N:=C7;unfold O0;by_cases C:1024<s.length
 ·rw[if_pos C];refine .inl ⟨3,rfl,λR k0 k1 a=>?_⟩;unfold Wx;rw[A8];rfl
 ·rw[if_neg C];have r:=λ(R:Type) (G:Unit->Option R) (H:By->Option R)=>A54 (k0:=G) (k1:=H) s (by omega) s.length 0 LF (by omega) (by omega)
  rw[o7] at r;cases A:s.any (λb=>x5 128 b.toNat) with
  | true=>
   rw[if_pos rfl];refine .inl ⟨4,rfl,λR k0 k1 a=>?_⟩;unfold Wx;rw[A6,cond_false];refine j7 (r R _ _) ?_;rw[A,if_pos rfl];rfl
  | false=>
   rw[if_neg (by simp)];obtain⟨I,J⟩:=Pf s;have O:=Ph s;have key:∀(d:List Nat) (t:By),d.length<=256->t.length<=1024->(∀(R:Type) (k0:Int->Option R) (k1:Int->LL->By->Int->Int->Int->Bool->Option R) (a:LL->By->Int->Int->Int->Bool->Option R),Wx LF s k0 k1 a=T6 LF LF (B6 d) t 128 0 72 false k1 a)->
     (∃e l k j i f c,G9 t d 128 0 72 true=([],e)/\∀(R:Type) (k0:Int->Option R) (k1:Int->LL->By->Int->Int->Int->Bool->Option R) (a:LL->By->Int->Int->Int->Bool->Option R),Wx LF s k0 k1 a=k1 (e:Nat) l k j i f c)\/
     ((G9 t d 128 0 72 true).2=0/\∃k j i f c,∀(R:Type) (k0:Int->Option R) (k1:Int->LL->By->Int->Int->Int->Bool->Option R) (a:LL->By->Int->Int->Int->Bool->Option R),Wx LF s k0 k1 a=a (B6 (G9 t d 128 0 72 true).1) k j i f c):=by
    intro d t P V B;obtain⟨D,F⟩:=B20 t.length t d 128 0 72 LF false (af1 _) (by omega) (by omega) P (by omega) (by omega) (by omega);rw[b9] at D F;by_cases w:(G9 t d 128 0 72 true).2=0
    ·obtain⟨k,j,i,f,c,e⟩:=D w;exact .inr ⟨w,k,j,i,f,c,λR k0 k1 a=>by rw[B];exact e R k1 a⟩
    ·obtain⟨S,l,k,j,i,f,c,e⟩:=F w;exact .inl ⟨_,l,k,j,i,f,c,Prod.ext S rfl,λR k0 k1 a=>by rw[B];exact e R k1 a⟩
   have Q:u8n 45=45:=rfl;have top:∀(R:Type) (k0:Int->Option R) (k1:Int->LL->By->Int->Int->Int->Bool->Option R) (a:LL->By->Int->Int->Int->Bool->Option R),Wx LF s k0 k1 a =
     cond (ltI 0 (K8 45 s)) (Iz LF LF s (K8 45 s) 0 [] (λn x u=>cond (I9 (A1 (x+1)) (n.length:Int) n.length)
      (vl (cut n (A1 (x+1)) (n.length:Int)) λy=>cond (ltI 256 (u.length:Int)) (k1 3 u y 128 0 72 false) (T6 LF LF u y 128 0 72 false k1 a)) none))
      (T6 LF LF [] s 128 0 72 false k1 a):=by
    intro R k0 k1 a;unfold Wx;rw[A6,cond_false];refine j7 (r R _ _) ?_;rw[A,if_neg (by simp),M,Q];rfl
   by_cases T:0<G6 s
   ·have v:45∈s:=by
     apply ae1;intro h;have:=(J h).2;omega
    have z:=I v;generalize G6 s=m at *;have g:=λ(R:Type) (K:By->Int->LL->Option R)=>B19 (k0:=K) s (by omega) m (by omega) m 0 LF [] (by omega) (by omega) rfl
    rw[o7] at g;have L:A1 ((m:Int)+1)=((m+1:Nat):Int):=by rw[A7];rfl
    have p:((s.take m).map (·.toNat)).length=m:=by rw[p4,y5];omega
    have q:∀(R:Type) (k0:Int->Option R) (k1:Int->LL->By->Int->Int->Int->Bool->Option R) (a:LL->By->Int->Int->Int->Bool->Option R),Wx LF s k0 k1 a =
      cond (ltI 256 (m:Int)) (k1 3 (B6 ((s.take m).map (·.toNat))) (s.drop (m+1)) 128 0 72 false) (T6 LF LF (B6 ((s.take m).map (·.toNat))) (s.drop (m+1)) 128 0 72 false k1 a):=by
     intro R k0 k1 a;rw[top,z,A8,cond_true];refine j7 (g R _) ?_;rw[L,I4,Ip,am7,aa1,D1,p];rfl
    by_cases o:256<m
    ·rw[if_pos o];refine .inr (.inl ⟨3,B6 ((s.take m).map (·.toNat)),s.drop (m+1),128,0,72,false,rfl,λR k0 k1 a=>?_⟩);rw[q,A8];rfl
    ·rw[if_neg o,if_neg (show ¬m=0 by omega)];exact .inr (key _ (s.drop (m+1)) (by rw[p];omega) (by rw[o0];omega) (λR k0 k1 a=>by rw[q,A6];rfl))
   ·have w:G6 s=0:=by omega
    have z:¬ 0<K8 45 s:=by
     by_cases U:45∈s;all_goals grind
    rw[w,F7,if_pos rfl];refine .inr (key [] s (by simp) (by omega) (λR k0 k1 a=>?_));rw[top,A6];rfl
theorem Wr(l:List Nat):(B6 l).isEmpty=l.isEmpty:=by cases l<;>rfl
theorem C90(s:By)(k:A3 s.length=true):∃r H,Wx LF s (λf=>rv (.tup [.fl 0,.s (.int .i64 f)]) [.arr true 3 1 []]) (λf o w c d t j=>rv (.tup [.fl 2,.s (.int .i64 f)]) [.arr true 3 1 o,.box [.s (.str w),.fl 0,.s (.int .i64 c),.s (.int .i64 d),.s (.int .i64 t),.s (.bool j)],.arr true 3 1 []]) (λn v q c d i=>rv (.tup [.fl 0,.s (.int .i64 (0:Int))]) [.arr true 3 1 n,.box [.s (.str v),.fl 0,.s (.int .i64 q),.s (.int .i64 c),.s (.int .i64 d),.s (.bool i)]])=rv r H/\
  r.stab [1,0] H = .tup [.s (.sl (O0 s).1.isEmpty (O0 s).1.isEmpty 1 (Mj (O0 s).1)),.s (.int .i64 ((O0 s).2:Nat))]:=by
 rcases A55 s k with⟨e,a,b⟩|⟨e,l,u,p,m,h,g,a,b⟩|⟨a,u,p,m,h,g,b⟩
 ·refine⟨_,_,b _ _ _ _,?_⟩;rw[a];rfl
 ·refine⟨_,_,b _ _ _ _,?_⟩;rw[a];rfl
 ·refine⟨_,_,b _ _ _ _,?_⟩;rw[a,Dq];simp[PV.stab,Oy,Rl,PV.snap,M6,Wr]
end
section
open Go
theorem U8(x y:By)(r:List By)(p:By):ab4 (x::y::r) p=x++(p++ab4 (y::r) p):=by simp[ab4,List.intercalate]
theorem Pn(c:UInt8):∀l:List By,l≠[]->(∀x∈l,c∉x)->pcs c (ab4 l [c])=l
 | [],h,_=>absurd rfl h
 | [x],_,h=>by rw[af3,Ku (h x (by simp))]
 | x::y::r,_,h=>by
  rw[U8,List.singleton_append,FD (h x (by simp)),Pn c (y::r) (by simp) (λz a=>h z (by simp[a]))]
theorem Af6(c:UInt8):∀(n:Nat) (s:By),s.length<=n->ab4 (pcs c s) [c]=s
 | n,s,a=>by
  rcases Q7 c s with h|⟨p,r,rfl,h⟩
  ·rw[Ku h,af3]
  ·rw[FD h];cases n with
   | zero=>simp at a
   | succ n=>
    have d:=Af6 c n r (by simp at a;omega);cases b:pcs c r with
    | nil=>exact absurd b (XC c r)
    | cons y q=>
     rw[U8,<-b,d];rfl
theorem AY(c:UInt8)(s:By):ab4 (pcs c s) [c]=s:=Af6 c _ s (af1 _)
theorem Wo{c b:UInt8}:∀l:List By,b∈ab4 l [c]->b=c\/∃x∈l,b∈x
 | [],h=>by simp[aq0] at h
 | [x],h=>by rw[af3] at h;exact .inr ⟨x,by simp,h⟩
 | x::y::r,h=>by
  rw[U8] at h;simp only[ai5,ae9] at h;rcases h with h|h|h
  ·grind
  ·grind
  ·rcases Wo (y::r) h with h|⟨z,a,h⟩
   all_goals grind
theorem C82{c b:UInt8}{s:By}(h:b∈s):b=c\/∃x∈pcs c s,b∈x:=by rw[<-AY c s] at h;exact Wo _ h
theorem Bq0(b:UInt8):X4 b=46↔b=46:=by
 rcases K5 b with⟨h,e⟩|⟨h,e⟩|⟨h,c,e⟩
 ·rw[e]
 ·rw[e]
 ·constructor
  ·intro a;rw[a] at e;simp at e;omega
  ·intro a;subst a;simp at h
theorem B01(a b:By):B5 (a++b)=B5 a++B5 b:=ag1
theorem Z4(s:By):(B5 s).length=s.length:=p4 _
theorem Jy:∀(s a:By),M4 46 (B5 a) (B5 s)=(M4 46 a s).map B5
 | [],a=>rfl
 | b::r,a=>by
  show(if X4 b=46 then _ else _)=_;simp only[M4];by_cases h:b=46
  ·rw[if_pos ((Bq0 b).2 h),if_pos h,ae3];have:=Jy r [];rw[<-this];rfl
  ·rw[if_neg (λe=>h ((Bq0 b).1 e)),if_neg h,<-Jy r (a++[b]),B01];rfl
theorem BF(s:By):pcs 46 (B5 s)=(pcs 46 s).map B5:=Jy s []
theorem C27(b:UInt8):dig (X4 b)=dig b:=by
 rcases K5 b with⟨h,e⟩|⟨h,e⟩|⟨h,a,e⟩
 ·rw[e]
 ·rw[e]
 ·unfold dig;grind
theorem AE(base:Nat):∀(s:By) (n:Nat),E8 base n (B5 s)=E8 base n s
 | [],n=>rfl
 | b::r,n=>by
  show(if dig (X4 b)<base then _ else _)=_;simp only[E8,C27];split
  ·exact AE base r _
  ·rfl
theorem C70(b:UInt8):X4 b=48↔b=48:=by
 rcases K5 b with⟨h,e⟩|⟨h,e⟩|⟨h,c,e⟩
 ·rw[e]
 ·rw[e]
 ·constructor
  ·intro a;rw[a] at e;simp at e;omega
  ·intro a;subst a;simp at h
theorem Do8(b:UInt8):(X4 b=120\/X4 b=88)↔(b=120\/b=88):=by
 rcases K5 b with⟨h,e⟩|⟨h,e⟩|⟨h,c,e⟩
 ·rw[e]
 ·rw[e]
 ·constructor
  ·rintro(a|a)
   ·rw[a] at e
    right
    apply an4.1;grind
   simp_all
  ·rintro(a|a)
   ·simp_all
   ·subst a;left;apply an4.1;rw[e];rfl
theorem Dm(s:By)(i:Nat):(B5 s).getD i 0=X4 (s.getD i 0):=by unfold B5;simp only[b8,al3];cases s[i]?<;>rfl
theorem By8(s:By):Y2 (B5 s)=Y2 s:=by rw[Bool.eq_iff_iff,Gf,Gf,Dm,Dm,C70,Do8]
theorem PK{s:By}:B5 s=[]↔s=[]:=by unfold B5;simp
theorem Vx(l:List By):(l.map B5).getLastD []=B5 (l.getLastD []):=by rw[ah0,ah0,List.getLast?_map];cases l.getLast?<;>rfl
theorem A52(s:By):C5 (B5 s)=(C5 s).map B5:=by unfold C5;rw[BF,Vx];simp only[p4,PK];grind
theorem Bz3(s:By):Cv (B5 s)=B5 (Cv s):=by unfold Cv;rw[A52,Vx]
theorem KD(s:By)(i:Nat):(B5 s).drop i=B5 (s.drop i):=by unfold B5;rw[ak0]
theorem MS(s:By):(B5 s).isEmpty=s.isEmpty:=by cases s<;>rfl
theorem WS(s:By):E7 (B5 s)=E7 s:=by unfold E7;rw[Bz3,By8,KD,AE,AE,MS]
theorem DD:∀(n:Nat) (s:By),s.length<=n->(∀b∈s,b.toNat<128)->W0 n s=some (s.map (·.toNat))
 | 0,s,h,_=>by
  have:s=[]:=k9.1 (by omega);subst this;rfl
 | n+1,[],_,_=>by simp[W0]
 | n+1,b::r,h,hs=>by
  simp only[W0];rw[if_neg (by simp),ah2 b r (hs b (by simp))];have d:=hs b (by simp);rw[if_neg (by simp;omega)];simp only[List.drop_succ_cons,o7];rw[DD n r (by simp at h;omega) (λc a=>hs c (by simp[a]))];rfl
theorem A69(s:By)(h:∀b∈s,b.toNat<128):Ct s=some (s.map (·.toNat)):=DD _ s (af1 _) h
theorem Bn(b:UInt8):L1 b=true↔(97<=b.toNat/\b.toNat<=122)\/(48<=b.toNat/\b.toNat<=57)\/b=45\/b=95:=by simp[L1,or_assoc]
theorem Tp{b:UInt8}(h:L1 b=true):b.toNat<128/\(b.toNat<65\/90<b.toNat)/\b≠46/\b≠37/\b≠91:=by
 rw[Bn] at h;have key:∀c:UInt8,b=c->b.toNat=c.toNat:=λc e=>by rw[e]
 rcases h with h|h|h|h
 ·refine⟨by omega,by omega,?_,?_,?_⟩<;>intro e<;>have:=key _ e<;>simp at this<;>omega
 ·refine⟨by omega,by omega,?_,?_,?_⟩<;>intro e<;>have:=key _ e<;>simp at this<;>omega
 all_goals simp_all
structure VL (s:By):Prop where
 ne:s≠[]
 le:s.length<=63
 byt:∀b∈s,L1 b=true
theorem Bw{s:By}(h:K3 s=true):VL s:=by unfold K3 at h;simp only[j8,ak7,x9] at h;obtain⟨⟨⟨⟨⟨a,c⟩,g⟩,i⟩,d⟩,j⟩:=h;refine⟨by intro e;subst e;simp at a,ac0 c,λb f=>d b f⟩
theorem Do9{s:By}(h:∀b∈s,b.toNat<65\/90<b.toNat):B5 s=s:=by
 unfold B5
 conv=>rhs;rw[<-ah4 s]
 apply z7;intro b d;rcases K5 b with⟨_,e⟩|⟨_,e⟩|⟨a,c,e⟩
 all_goals grind
theorem Bz8{s:By}(h:∀b∈B5 s,b.toNat<128):∀b∈s,b.toNat<128:=by
 intro b a;have:=h (X4 b) (List.mem_map_of_mem a);rcases K5 b with⟨_,e⟩|⟨_,e⟩|⟨c,d,e⟩
 all_goals grind
theorem B81{s:By}(h:K3 (B5 s)=true):H9 s=(B5 s,0):=by have v:=Bw h;have c:=Bz8 (λb d=>(Tp (v.byt b d)).1);have e:=Z4 s;have a:=v.le;unfold H9;rw[A69 s c];grind
theorem IB:∀l:List By,(l.map B5).all K3=true->F2 l=(l.map B5,0)
 | [],_=>rfl
 | x::r,h=>by
  simp only[ae3,ab7,j8] at h;unfold F2;rw[B81 h.1,IB r h.2];rfl
structure VN (s:By):Prop where
 le:s.length<=253
 num:E7 s=false
 all:∀x∈pcs 46 s,K3 x=true
theorem Ih{s:By}:U3 s=true↔VN s:=by unfold U3;simp only[j8,ak7,x9];exact⟨λh=>⟨ac0 h.1.1,h.1.2,h.2⟩,λh=>⟨⟨aa5 h.le,h.num⟩,h.all⟩⟩
theorem VN.byt{s:By}(h:VN s):∀b∈s,b=46\/L1 b=true:=by
 intro b hb;rcases C82 (c:=46) hb with h1|⟨x,hx,h1⟩
 ·grind
 ·exact .inr ((Bw (h.all x hx)).byt b h1)
theorem VN.byt'{s:By}(h:VN s){b:UInt8}(hb:b∈s):b.toNat<128/\(b.toNat<65\/90<b.toNat)/\b≠37/\b≠91:=by
 rcases h.byt b hb with h1|h1
 ·simp_all
 ·have:=Tp h1;grind
theorem AX(c:UInt8):∀(l:List By),(∀x∈l,x≠[]/\c∉x)->(ab4 l [c]).getLast?≠some c
 | [],_=>by simp[aq0]
 | [x],h=>by
  rw[af3];intro e;have:=List.mem_of_getLast? e;grind
 | x::y::r,h=>by
  have g:=AX c (y::r) (λz b=>h z (by simp[b]));have a:ab4 (y::r) [c]≠[]:=by
   intro e;have:pcs c (ab4 (y::r) [c])=y::r:=Pn c _ (by simp) (λz b=>(h z (by simp[b])).2);rw[e] at this;have f:pcs c []=[[]]:=rfl;grind
  rw[U8,aj1,aj1];cases d:(ab4 (y::r) [c]).getLast? with
  | none=>rw[List.getLast?_eq_none_iff] at d;exact absurd d a
  | some z=>
   grind
theorem VN.last{s:By}(h:VN s):s.getLast?≠some 46:=by have:=AX 46 (pcs 46 s) (λx hx=>⟨(Bw (h.all x hx)).ne,(Ck hx).1⟩);rwa [AY] at this
theorem VN.ne{s:By}(h:VN s):s≠[]:=by intro e;subst e;exact(Bw (h.all [] (by simp[pcs,M4]))).ne rfl
theorem VN.head{s:By}(h:VN s):s.head?≠some 91:=by intro e;exact(h.byt' (al5 e)).2.2.2 rfl
theorem VN.low{s:By}(h:VN s):B5 s=s:=Do9 λb hb=>(h.byt' hb).2.1
theorem XD:∀s:By,(∀b∈s,b≠37)->R3 s=some s
 | [],_=>by unfold R3;rfl
 | b::r,h=>by
  unfold R3;rw[if_neg (h b (by simp)),XD r (λc a=>h c (by simp[a]))];rfl
theorem MU{a e t name:By}(j:a.length<=1024)(f:a.head?≠some 91)(g:R3 a=some e)(h:G5 e=t)(i:B5 t=name)(c:VN name):C1 a=(⟨1,name,0,z8⟩,0):=by
 subst i;have b:E7 t=false:=by rw[<-WS];exact c.num
 have d:((pcs 46 t).map B5).all K3=true:=by
  rw[<-BF,x9];exact c.all
 unfold C1;rw[F7,if_neg f,g];simp only[h,b];rw[IB _ d];simp only[p5,if_false,if_true];rw[<-BF,AY,if_neg (by have:=c.le;omega),c.num];simp
theorem A51{s:By}(h:VN s):C1 s=(⟨1,s,0,z8⟩,0):=
 MU (by have:=h.le;omega) h.head (XD s λb a=>(h.byt' a).2.2.1) (by unfold G5;rw[if_neg h.last]) h.low h
theorem Dl1{a b:By}:Ce a b=true↔VN a/\VN b/\(a=b\/∃p,b=p++46::a):=by
 unfold Ce;simp only[j8,ai4,Ih,and_assoc,beq_iff_eq,List.isSuffixOf_iff_suffix];constructor
 ·rintro⟨d,e,c|⟨p,c⟩⟩;all_goals grind
 grind
theorem Ai2{s:By}(h:∀x∈pcs 46 s,x≠[]):C5 s=pcs 46 s:=by unfold C5;grind
def Dw9(n:Nat):UInt8:=if n<10 then v8 (48+n) else v8 (55+n)
theorem Dw5(n:Nat)(h:n<16):dig (Dw9 n)=n:=by
 unfold Dw9 dig;split
 ·have:(v8 (48+n)).toNat=48+n:=by simp;omega
  grind
 ·have:(v8 (55+n)).toNat=55+n:=by simp;omega
  grind
theorem Ac5(n:Nat)(h:n<16):dig (Nx n)=n:=by
 unfold Nx dig;split
 ·have:(v8 (48+n)).toNat=48+n:=by simp;omega
  grind
 ·have:(v8 (87+n)).toNat=87+n:=by simp;omega
  grind
theorem AC:∀u:Nat,∀b∈w6 u,48<=b.toNat/\b.toNat<=57:=by
 intro u
 induction u using ad1 with
 | _ u c=>
  intro b a;by_cases h:u<10
  ·rw[af2 h] at a;simp only[ae9] at a;subst a;have:(v8 (48+u)).toNat=48+u:=by simp;omega
   omega
  ·rw[W6 u h] at a;rcases ai5.1 a with a|a
   ·grind
   ·simp only[ae9] at a;subst a;have:(v8 (48+u % 10)).toNat=48+u % 10:=by simp;omega
    omega
theorem Ch1{u:Nat}{c:UInt8}(h:c.toNat<48\/57<c.toNat):c∉w6 u:=λa=>by
 have:=AC u c a;omega
theorem Ac2:∀u:Nat,(w6 u).getD 0 0=48->u=0:=by
 intro u
 induction u using ad1 with
 | _ u d=>
  intro a;by_cases h:u<10
  ·rw[af2 h] at a;simp only[aj7] at a;have b:(v8 (48+u)).toNat=48+u:=by simp;omega
   simp_all
  ·rw[W6 u h] at a;have c:=ab5.2 (Cf (u / 10));grind
theorem OJ(u:Nat):Y2 (w6 u)=false:=by
 cases h:Y2 (w6 u) with
 | false=>rfl
 | true=>
  have b:=(Gf _).1 h;have a:=Ko h;rw[Ac2 u b.1,af2 (by omega)] at a;simp at a
theorem Wt(u:Nat)(h:u<=W5):Z5 (w6 u)=some u:=by unfold Z5;rw[if_neg (Cf u),OJ];simp only[p5,if_false];rw[if_neg,AD u h];rintro⟨a,b⟩;rw[Ac2 u b,af2 (by omega)] at a;simp at a
def v4P(v:Nat):List By:=[w6 (v / 16777216),w6 (v / 65536 % 256),w6 (v / 256 % 256),w6 (v % 256)]
theorem Uq(v:Nat):Ad v=ab4 (v4P v) [46]:=by unfold v4P;rw[U8,U8,U8,af3];rfl
theorem FR{v:Nat}{x:By}(h:x∈v4P v):∃u,x=w6 u:=by simp only[v4P,ae4,List.not_mem_nil,or_false] at h;grind
theorem Cn5(v:Nat):pcs 46 (Ad v)=v4P v:=by rw[Uq];refine Pn 46 _ (by simp[v4P]) (λx a=>?_);obtain⟨u,rfl⟩:=FR a;exact Ch1 (by decide)
theorem Ai3(v:Nat):C5 (Ad v)=v4P v:=by rw[Ai2,Cn5];intro x a;rw[Cn5] at a;obtain⟨u,rfl⟩:=FR a;exact Cf u
theorem Ah2(v:Nat):E7 (Ad v)=true:=by
 have e:Cv (Ad v)=w6 (v % 256):=by
  unfold Cv;rw[Ai3];rfl
 unfold E7;rw[e,OJ,AD _ (by unfold W5;omega)];have:=Cf (v % 256);grind
theorem Dp6(v:Nat)(h:v<4294967296):pnB (Ad v)=some v:=by unfold pnB;rw[Ai3];simp only[v4P,p6,ab2,Tv];simp only[Wt _ (show v / 16777216<=W5 by unfold W5;omega),Wt _ (show v / 65536 % 256<=W5 by unfold W5;omega),Wt _ (show v / 256 % 256<=W5 by unfold W5;omega),Wt _ (show v % 256<=W5 by unfold W5;omega)];grind
theorem Aq7{v:Nat}{b:UInt8}(h:b∈Ad v):b=46\/(48<=b.toNat/\b.toNat<=57):=by
 rw[Uq] at h;rcases Wo _ h with h|⟨x,a,h⟩
 ·grind
 ·obtain⟨u,rfl⟩:=FR a;exact .inr (AC u b h)
theorem Cv4(v:Nat)(h:v<4294967296):(Ad v).length<=43:=by unfold Ad;have a:=I8 (v / 16777216) (by omega);have b:=I8 (v / 65536 % 256) (by omega);have c:=I8 (v / 256 % 256) (by omega);have d:=I8 (v % 256) (by omega);grind
theorem Ai1(v:Nat)(h:v<4294967296):C1 (Ad v)=(⟨2,[],v,z8⟩,0):=by
 have a:∀b∈Ad v,b≠37/\b≠91:=by
  intro b a;rcases Aq7 a with rfl|⟨c,d⟩
  ·decide
  ·constructor<;>intro e<;>subst e<;>simp at c d
 have i:=Cv4 v h;unfold C1;rw[F7,if_neg (λe=>(a _ (al5 e)).2 rfl),XD _ (λb h=>(a b h).1)];have f:G5 (Ad v)=Ad v:=by
  unfold G5;rw[if_neg];rw[Uq];refine AX 46 _ (λx g=>?_);obtain⟨u,rfl⟩:=FR g;exact⟨Cf u,Ch1 (by decide)⟩
 simp only[f,Ah2,Dp6 v h,if_true]
theorem Ai5(free:Nat):∀(l:List By) (v x:Nat),Tv free v l=some x->x<(v+1)*256 ^ (l.length-1)*2 ^ free
 | [],v,x,h=>by simp[Tv] at h
 | [p],v,x,h=>by
  simp only[Tv] at h;split at h
  ·cases h
  ·split at h
   ·rename_i n c b;simp only[j4] at h;subst h;simp only[p6,ab2,aq7,Nat.pow_zero,Nat.mul_one,Nat.add_mul];omega
   ·cases h
 | p::q::r,v,x,h=>by
  rw[Tv] at h;split at h
  ·cases h
  ·simp only at h;split at h
   ·rename_i n c a;have d:=Ai5 free (q::r) _ x h;refine Nat.lt_of_lt_of_le d (aj2 _ ?_);simp only[p6,Nat.add_sub_cancel];rw[af5,Nat.mul_comm (256 ^ r.length) 256,<-Nat.mul_assoc];exact aj2 _ (by omega)
   ·cases h
theorem C95{s:By}{v:Nat}(h:pnB s=some v):v<4294967296:=by
 unfold pnB at h;split at h
 ·cases h
 ·rename_i b;have a:=(Bb s).1;have:=Ai5 _ _ _ _ h;generalize (C5 s).length=n at *;have:n=1\/n=2\/n=3\/n=4:=by omega
  grind
theorem OT:∀(a b:By) (v:Nat),Ab v (a++b)=(Ab v a).bind λw=>Ab w b
 | [],b,v=>rfl
 | c::r,b,v=>by
  simp only[ad8,Ab];split
  ·exact OT r b _
  ·rfl
theorem Bx1:∀x:Nat,Ab 0 (V5 x)=some x:=by
 intro x
 induction x using ad1 with
 | _ x a=>
  by_cases h:x<16
  ·rw[Ch h];simp only[Ab,Ac5 x h];grind
  ·rw[Bk h,OT,a (x / 16) (by omega)];simp only[am8,Ab,Ac5 (x % 16) (by omega)];grind
theorem C40(x:Nat)(h:x<65536):grp (V5 x)=some x:=by have:=JN x h;unfold grp;rw[if_neg,Bx1];grind
theorem EU:∀x:Nat,(58:UInt8)∉V5 x:=by
 intro x
 induction x using ad1 with
 | _ x a=>
  by_cases h:x<16
  ·rw[Ch h];simpa using aq9 (Bo8 x h)
  ·rw[Bk h];simp only[ai5,ae9,not_or];exact⟨a _ (by omega),aq9 (Bo8 _ (by omega))⟩
theorem Bo9(x:Nat):V5 x≠[]:=by
 by_cases h:x<16
 ·rw[Ch h];simp
 ·rw[Bk h];simp
theorem Ae3(last:Bool):∀l:List Nat,(∀x∈l,x<65536)->Cs last (l.map V5)=some l
 | [],_=>rfl
 | x::r,h=>by
  simp only[ae3,Cs];rw[C40 x (h x (by simp)),Ae3 last r (λy a=>h y (by simp[a]))];rfl
theorem PT(l:List Nat)(h:l≠[]):pcs 58 (O4 l)=l.map V5:=by unfold O4;refine Pn 58 _ (by simpa using h) (λx a=>?_);obtain⟨y,_,rfl⟩:=al4.1 a;exact EU y
theorem Ck1(l:List Nat)(h:l≠[]):O4 l≠[]:=by
 intro e;have:=PT l h;rw[e] at this;have a:pcs 58 []=[[]]:=rfl;rw[a] at this;cases l with
 | nil=>exact h rfl
 | cons x r=>
  simp only[ae3,List.cons.injEq] at this;exact Bo9 x this.1.symm
theorem Pa(l:List Nat)(last:Bool)(h:∀x∈l,x<65536):P2 (O4 l) last=some l:=by
 unfold P2;by_cases a:l=[]
 ·subst a;rfl
 ·rw[if_neg (Ck1 l a),PT l a,Ae3 last l h]
def sh(n:Nat)(i:Int):Int:=if i=-1 then -1 else i+n
theorem JR(b:UInt8)(l:By):o8 (b::l) [58,58]=if b=58/\l.head? = some 58 then 0 else sh 1 (o8 l [58,58]):=by
 have a:([58,58]:By).isPrefixOf (b::l)=decide (b=58/\l.head? = some 58):=by
  cases l with
  | nil=>simp[ae6]
  | cons c r=>
   grind
 show(if _ then _ else _)=_;rw[a];by_cases h:b=58/\l.head? = some 58
 ·grind
 ·rw[if_neg (by simpa using h),if_neg h];unfold sh;grind
theorem Cs3(n m:Nat)(i:Int)(h:-1<=i):sh n (sh m i)=sh (n+m) i:=by unfold sh;omega
theorem A18(s:By):-1<=o8 s [58,58]:=by rcases Lib.index_spec s [58,58] with h|⟨i,h,_⟩<;>omega
theorem VZ:∀(p r:By),(58:UInt8)∉p->o8 (p++r) [58,58]=sh p.length (o8 r [58,58])
 | [],r,_=>by unfold sh;simp<;>(intro h;rw[h])
 | b::p,r,h=>by
  simp only[ae4,not_or] at h;rw[ad8,JR,if_neg (λe=>h.1 e.1.symm),VZ p r h.2,Cs3 _ _ _ (A18 r),Nat.add_comm];rfl
theorem CT(x y:Nat)(t:List Nat):O4 (x::y::t)=V5 x++58::O4 (y::t):=by unfold O4;rw[ae3,ae3,U8];rfl
theorem A20(y:Nat)(t:List Nat)(r:By):(O4 (y::t)++r).head?≠some 58:=by
 have e:=Bo9 y;have c:=EU y;cases d:V5 y with
 | nil=>exact absurd d e
 | cons a b=>
  rw[d] at c;simp only[ae4,not_or] at c;cases t with
  | nil=>rw[AW,d];simpa using aq9 c.1
  | cons z t=>rw[CT,d];simpa using aq9 c.1
theorem AR:∀(l:List Nat) (r:By),l≠[]->o8 (O4 l++r) [58,58]=sh (O4 l).length (o8 r [58,58])
 | [],r,h=>absurd rfl h
 | [x],r,_=>by rw[AW];exact VZ _ _ (EU x)
 | x::y::t,r,_=>by
  rw[CT,x4,ad8,VZ _ _ (EU x),JR,if_neg (λe=>A20 y t r e.2),AR (y::t) r (by simp),Cs3 _ _ _ (A18 r),Cs3 _ _ _ (A18 r)];grind
theorem C60:o8 [] [58,58]=-1:=rfl
theorem Bv6(l:List Nat):aa9 (O4 l) [58,58]=(O4 l,[],false):=by
 have h:o8 (O4 l) [58,58]=-1:=by
  by_cases a:l=[]
  ·subst a;rfl
  ·have:=AR l [] a;rw[aa0,C60] at this;rw[this];rfl
 unfold aa9;rw[h];rfl
theorem C20(l:List Nat)(r:By):aa9 (O4 l++58::58::r) [58,58]=(O4 l,r,true):=by
 have a:o8 (58::58::r) [58,58]=0:=by rw[JR,if_pos ⟨rfl,rfl⟩]
 have h:o8 (O4 l++58::58::r) [58,58]=((O4 l).length:Int):=by
  by_cases b:l=[]
  ·subst b;rw[PE,aa1,a];rfl
  ·rw[AR l _ b,a];unfold sh;simp
 unfold aa9;simp_all
theorem QK:∀l:List Nat,l.take (Uc l)=a8 (Uc l) 0
 | []=>rfl
 | x::r=>by
  rw[Al6];split
  ·rename_i h;subst h;rw[List.take_succ_cons,QK r];rfl
  ·rfl
theorem Bk0(full:List Nat):∀(l:List Nat) (i z m:Nat),full.drop i=l->i<=full.length->(full.drop z).take m=a8 m 0->z+m<=full.length->
  (full.drop (zGo l i z m).1).take (zGo l i z m).2=a8 (zGo l i z m).2 0/\(zGo l i z m).1+(zGo l i z m).2<=full.length
 | [],i,z,m,_,_,b,c=>⟨b,c⟩
 | x::r,i,z,m,d,f,b,c=>by
  have e:full.length-i=r.length+1:=by
   have:=congrArg o5 d;grind
  have a:full.drop (i+1)=r:=by
   rw[<-aj0,d];rfl
  unfold zGo;split
  ·refine Bk0 full r (i+1) i _ a (by omega) ?_ ?_
   ·rw[d,QK]
   ·have:=XX (x::r);grind
  ·exact Bk0 full r (i+1) z m a (by omega) b c
theorem Df6(a:List Nat)(c:a.length=8)(h:∀x∈a,x<65536):v6B (Cx a)=some a:=by
 obtain⟨f,g⟩:=Bk0 a a 0 0 0 rfl (by omega) (by simp) (by omega);unfold Cx;generalize (zGo a 0 0 0).1=z at *;generalize (zGo a 0 0 0).2=m at *;by_cases d:m<2
 ·rw[if_pos d];unfold v6B;rw[Bv6];simp only[b9];rw[Pa a true h];show(if _ then _ else _)=_;simp[c]
 ·rw[if_neg d];unfold v6B;rw[C20];simp only[j1];rw[Pa _ false (λx b=>h x (ag0 b)),Pa _ true (λx b=>h x (af9 b))];simp only[if_true,y5,o0,c];rw[Q5]
  congr 1
  have e:8-min z 8-(8-(z+m))=m:=by omega
  rw[e,<-f,x4]
  conv=>rhs;rw[<-ai7 z a]
  congr 1
  conv=>rhs;rw[<-ai7 m (a.drop z)]
  simp_all
theorem Bi9(a:List Nat)(e:a.length=8)(h:∀x∈a,x<65536):(Cx a).length<=90:=by
 unfold Cx;split
 ·have:=Gg a h;omega
 ·have c:=Gg (a.take (zGo a 0 0 0).1) (λx b=>h x (ag0 b));have d:=Gg (a.drop ((zGo a 0 0 0).1+(zGo a 0 0 0).2)) (λx b=>h x (af9 b));grind
theorem Cn3(a:List Nat)(d:a.length=8)(h:∀x∈a,x<65536):C1 (91::(Cx a++[93]))=(⟨3,[],0,a⟩,0):=by
 have e:=Bi9 a d h;have b:(91::(Cx a++[93])).getLast? = some (93:UInt8):=by grind
 have c:((91::(Cx a++[93])).take ((91::(Cx a++[93])).length-1)).drop 1=Cx a:=by
  simp
 unfold C1;rw[if_neg (by simp;omega),if_pos (show(91::(Cx a++[93])).head? = some (91:UInt8) from rfl),if_pos ⟨b,by simp⟩,c,Df6 a d h]
theorem Ae2{s:By}{last:Bool}{r:List Nat}(h:P2 s last=some r):∀x∈r,x<65536:=by
 unfold P2 at h;split at h
 ·grind
 ·exact Bo5 _ _ _ h
theorem Dr5{s:By}{a:List Nat}(h:v6B s=some a):a.length=8/\∀x∈a,x<65536:=by
 unfold v6B at h;split at h
 ·rename_i x y b c;have d:=Ae2 b;have e:=Ae2 c;grind
 ·cases h
theorem Ct8{s:By}(h:(H9 s).2=0):K3 (H9 s).1=true:=by unfold H9 at h ⊢;grind
theorem Ke:∀l:List By,(F2 l).2=0->(∀x∈(F2 l).1,K3 x=true)/\(F2 l).1.length=l.length
 | [],_=>⟨by simp[F2],rfl⟩
 | x::r,h=>by
  unfold F2 at h ⊢;by_cases a:(H9 x).2=0
  ·rw[if_pos a] at h ⊢;obtain⟨d,c⟩:=Ke r h;refine⟨λy b=>?_,by simp[c]⟩;rcases ae4.1 b with rfl|b
   ·exact Ct8 a
   grind
  grind
structure Cy (h:B4):Prop where
 v4:h.v4<4294967296
 v6:h.v6.length=8/\∀x∈h.v6,x<65536
 kd:h.kind<4
theorem Bu7:z8.length=8/\∀x∈z8,x<65536:=by decide
theorem B15(s:By):Cy (C1 s).1/\((C1 s).2=0->K2 (C1 s).1=true):=by
 have no:Cy L4:=⟨by decide,Bu7,by decide⟩
 unfold C1;split
 ·grind
 split
 ·split
  ·cases d:v6B ((s.take (s.length-1)).drop 1) with
   | none=>exact⟨no,by simp⟩
   | some a=>exact⟨⟨show 0<4294967296 by decide,Dr5 d,show 3<4 by decide⟩,λ_=>by simp[K2]⟩
  grind
 cases l:R3 s with
 | none=>exact⟨no,by simp⟩
 | some t=>
  simp only;split
  ·cases d:pnB (G5 t) with
   | none=>exact⟨no,by simp⟩
   | some v=>exact⟨⟨C95 d,Bu7,show 2<4 by decide⟩,λ_=>by simp[K2]⟩
  split
  ·rename_i g;split
   ·grind
   split
   ·grind
   ·rename_i k h;refine⟨⟨show 0<4294967296 by decide,Bu7,show 1<4 by decide⟩,λ_=>?_⟩;obtain⟨f,i⟩:=Ke _ g;have b:(F2 (pcs 46 (G5 t))).1≠[]:=by
     intro e;rw[e] at i;have:=XC 46 (G5 t);grind
    have c:=Pn 46 (F2 (pcs 46 (G5 t))).1 b (λx j e=>(Tp ((Bw (f x j)).byt 46 e)).2.2.1 rfl);unfold K2;simp only[if_true,beq_self_eq_true,ae2];rw[Ih];exact⟨by omega,by simpa using h,by rw[c];exact f⟩
  grind
theorem JO{h:B4}(ok:Cy h)(a:K2 h=true):C1 (U0 h)=(h,0):=by
 obtain⟨b,g,v4,v6⟩:=h;unfold U0;rw[if_pos a];unfold K2 at a;simp only at a ⊢;by_cases c:b=1
 ·subst c;simp only[if_true,j8,beq_iff_eq] at a ⊢;obtain⟨⟨f,rfl⟩,rfl⟩:=a;exact A51 (Ih.1 f)
 rw[if_neg c] at a ⊢;by_cases d:b=2
 ·subst d;simp only[if_true,j8,beq_iff_eq,am6] at a ⊢;obtain⟨rfl,rfl⟩:=a;exact Ai1 v4 ok.v4
 rw[if_neg d] at a ⊢;by_cases e:b=3
 ·subst e;simp only[if_true,j8,beq_iff_eq,am6] at a;obtain⟨rfl,rfl⟩:=a;exact Cn3 v6 ok.v6.1 ok.v6.2
 grind
theorem JH{h:B4}(a:K2 h=false):U0 h=[]:=by unfold U0;rw[a];rfl
theorem DE:∀(f:Nat) (l:By),aq2 f l=(W0 f l).isSome
 | 0,_=>rfl
 | f+1,l=>by
  unfold aq2 W0;split
  ·rfl
  ·split
   ·rfl
   ·rw[DE f,ah5]
theorem Bj0(l:By):Lib.validD l=(Ct l).isSome:=DE _ l
theorem KZ:∀(n m:Nat) (l:By),l.length<=n->l.length<=m->W0 n l=W0 m l
 | 0,m,l,b,_=>by
  have:l=[]:=k9.1 (by omega);subst this;cases m<;>simp[W0]
 | n+1,0,l,_,hm=>by
  have:l=[]:=k9.1 (by omega);subst this;simp[W0]
 | n+1,m+1,l,b,hm=>by
  unfold W0;split
  ·rfl
  ·rename_i a;have d:=ah3 l;have c:0<l.length:=ab5.2 a;rw[KZ n m (l.drop (v7 l).2) (by rw[o0];omega) (by rw[o0];omega)]
theorem B28(l:By)(a:l≠[]):Ct l=if (v7 l).1=65533/\(v7 l).2=1 then none else (Ct (l.drop (v7 l).2)).map ((v7 l).1::·):=by
 have c:0<l.length:=ab5.2 a;have d:=ah3 l;obtain⟨n,b⟩:∃n,l.length=n+1:=⟨l.length-1,by omega⟩
 unfold Ct;rw[b]
 conv=>lhs;unfold W0
 rw[if_neg a,KZ n (l.drop (v7 l).2).length _ (by rw[o0];omega) (af1 _)]
theorem QL:∀(f:Nat) (s:ByteArray) (pos:Nat) (p:List Nat),pos<=s.size->W0 f (s.data.toList.drop pos)=some p->s.size-pos<=f->al2 s f pos=p.length
 | 0,s,pos,p,e,h,d=>by
  simp only[W0,j4] at h;subst h;rfl
 | f+1,s,pos,p,e,h,d=>by
  have g:s.data.toList.length=s.size:=by rw[Array.length_toList];rfl
  unfold W0 at h;rw[ai0] at h;by_cases a:pos<s.size
  ·rw[if_neg (by rw[<-k9,o0];omega)] at h;split at h
   ·cases h
   ·cases b:W0 f (ad9 (ah8 s pos).2 (ad9 pos s.data.toList)) with
    | none=>rw[b] at h;cases h
    | some q=>
     rw[b] at h;simp only[ac1,j4] at h;subst h;have i:=Lib.decode_width_pos s pos a;have c:pos+(ah8 s pos).2<=s.size:=by
      have:=an7 (s.data.toList.drop pos) (by rw[ne_eq,<-k9,o0];omega);rw[ai0,o0] at this;omega
     rw[aj0] at b;unfold al2;rw[if_pos a,QL f s _ q c b (by omega)];grind
  ·rw[if_pos (by rw[<-k9,o0];omega)] at h;simp only[j4] at h;subst h;rw[Lib.runeCountFrom_end s _ _ a];rfl
theorem LM{l:By}{p:List Nat}(h:Ct l=some p):ag5 l=p.length:=by
 unfold ag5 Lib.runeCount;have a:(ByteArray.mk l.toArray).size=l.length:=by simp[ByteArray.size]
 refine QL _ _ 0 p (Nat.zero_le _) ?_ (by omega);rw[a,o7];simpa[Ct] using h
open Lib in theorem Dz4(n b a d e:Nat)(g:194<=b/\b<224)(f:a<256):decodeN n b a d e=if 2<=n/\128<=a/\a<=191 then ((b-192)*64+a-128,2) else (65533,1):=by
 unfold decodeN;rw[F7];by_cases c:2<=n/\128<=a/\a<=191
 ·rw[if_pos c,Q5,Q5];exact Prod.ext (by show b % 32*64+a % 64=(b-192)*64+a-128;omega) rfl
 ·rw[if_neg c,F7,F7,F7]
open Lib in theorem Dz5(n c a b f:Nat)(i:224<=c/\c<240)(g:a<256)(h:b<256):decodeN n c a b f=if 3<=n/\(128<=a/\a<=191)/\(128<=b/\b<=191) then
  (if 2048<=((c-224)*64+a-128)*64+b-128/\V8 (((c-224)*64+a-128)*64+b-128)=true then (((c-224)*64+a-128)*64+b-128,3) else (65533,1)) else (65533,1):=by
 unfold decodeN;rw[F7,F7];by_cases d:3<=n/\(128<=a/\a<=191)/\(128<=b/\b<=191)
 ·rw[if_pos d,Q5];have e:c % 16*4096+a % 64*64+b % 64=((c-224)*64+a-128)*64+b-128:=by omega
  rw[e];generalize ((c-224)*64+a-128)*64+b-128=v
  congr 1
  simp only[V8,j8,ai4,x7,ak3];apply propext;omega
 ·rw[if_neg d,F7,F7]
open Lib in theorem Dz6(n d a b c:Nat)(j:240<=d/\d<245)(g:a<256)(h:b<256)(i:c<256):decodeN n d a b c=if 4<=n/\(128<=a/\a<=191)/\(128<=b/\b<=191)/\(128<=c/\c<=191) then
  (if 65536<=(((d-240)*64+a-128)*64+b-128)*64+c-128/\V8 ((((d-240)*64+a-128)*64+b-128)*64+c-128)=true then ((((d-240)*64+a-128)*64+b-128)*64+c-128,4) else (65533,1)) else (65533,1):=by
 unfold decodeN;rw[F7,F7,F7];by_cases f:4<=n/\(128<=a/\a<=191)/\(128<=b/\b<=191)/\(128<=c/\c<=191)
 ·rw[if_pos f,Q5];have e:d % 8*262144+a % 64*4096+b % 64*64+c % 64=(((d-240)*64+a-128)*64+b-128)*64+c-128:=by omega
  rw[e];generalize (((d-240)*64+a-128)*64+b-128)*64+c-128=v
  congr 1
  simp only[V8,j8,ai4,x7,ak3];apply propext;omega
 ·rw[if_neg f,F7]
end
section
open Go Go.Proofs
theorem Vr(l:List Nat):X3 (l.map λn:Nat=>(n:Int))=Dg l:=by
 have b:(l.map λn:Nat=>(n:Int)).all ptI=l.all V8:=by
  rw[aq3]
  congr 1
 have c:(l.map λn:Nat=>(n:Int)).map j6=l:=by
  rw[af4];exact(z7 λa _=>by simp).trans (ah4 l)
 unfold X3;rw[p4,b,c];by_cases h:256<l.length
 ·rw[if_pos h];unfold Dg;rw[if_pos h]
 ·rw[if_neg h];cases d:l.all V8 with
  | true=>rw[if_pos rfl]
  | false=>
   rw[if_neg (by simp)];unfold Dg;grind
theorem Vp(l:List Nat):(B6 l).map elI=l.map λn:Nat=>(n:Int):=by unfold B6;rw[af4];exact z7 λa _=>rfl
theorem Ea(l:List Nat):(B6 l).all Nr=true:=by unfold B6;rw[aq3,x9];intro x _;rfl
theorem A34{R:Type}{a:Unit->Option R}{d:By->Bool->LL->Bool->Option R}(s:By)(z:Bool)(p:List Nat)(t:p.length<=1000000000):∀(r i n:Nat) (b:Bool),i+r=p.length->r<n->
  Y3 LF n s z (B6 p) b (p.length:Int) (i:Int) a d=if (p.drop i).any (λp=>x5 65 p&&x5 p 90) then a () else d s z (B6 p) (b&&!((p.drop i).any λp=>x5 128 p)):=by
 intro r
 induction r with
 | zero=>
  intro i n b h j;obtain⟨n,rfl⟩:∃m,n=m+1:=⟨n-1,by omega⟩
  rw[Y3];rw[A6,j2 (by omega)];simp
 | succ r k=>
  intro i n b h j;obtain⟨n,rfl⟩:∃m,n=m+1:=⟨n-1,by omega⟩
  rw[Y3];have f:A1 ((i:Int)+1)=((i+1:Nat):Int):=by rw[A7];rfl
  have g:p.drop i=p.getD i 0::p.drop (i+1):=by
   rw[b8,j5 (by omega),w9,ac9]
  rw[A8,D1,E9,j0,Qx (by omega),AM _ _ (by omega),g,aj9,aj9,f];simp only[cond_true,vl];generalize p.getD i 0=q;have go:∀c:Bool,Y3 LF n s z (B6 p) c (p.length:Int) ((i+1:Nat):Int) a d=_:=λc=>k (i+1) n c (by omega) (by omega)
  by_cases l:q<65
  ·rw[A8,show x5 65 q=false by rw[y9,ne_eq,x7];omega];have e:x5 128 q=false:=by rw[y9,ne_eq,x7];omega
   rw[show ltI (q:Int) (128:Int)=true from A8,e];simp only[j1,cond_false,ai8,af7];cases b<;>simp only[cond_true,cond_false]<;>rw[go]
  ·rw[A6,show x5 65 q=true by rw[x7];omega];simp only[b9,cond_true,ad2];by_cases e:90<q
   ·rw[A8,show x5 q 90=false by rw[y9,ne_eq,x7];omega];simp only[j1,cond_false,af7];by_cases o:q<128
    ·rw[show ltI (q:Int) (128:Int)=true from A8,show x5 128 q=false by rw[y9,ne_eq,x7];omega];cases b<;>simp only[cond_true,cond_false,af7]<;>rw[go]
    ·rw[show ltI (q:Int) (128:Int)=false from A6,show x5 128 q=true by rw[x7];omega];cases b<;>simp only[cond_true,cond_false,Bool.true_or,j1,an5]<;>rw[go]<;>simp
   ·rw[A6,show x5 q 90=true by rw[x7];omega];simp
theorem Ay8:∀(m:Nat) (s:By) (a:List Nat) (n i b:Nat) (f:Bool),s.length<=m->a.length<=256->(G9 s a n i b f).1.length<=256:=by
 intro m
 induction m with
 | zero=>
  intro s a n i b f e d;obtain rfl:=k9.1 (Nat.le_zero.1 e);rw[De];exact d
 | succ m j=>
  intro s a n i b f e d;by_cases h:s=[]
  ·grind
  ·by_cases c:(D7 b s i 1 0).2.2=0
   ·rw[Eh h _ _ _ _ _ c];have g:=Qq b s i 1 0 c;split
    ·split
     ·grind
     ·rename_i k;exact j _ _ _ _ _ _ (by omega) (by rw[Bl];omega)
    grind
   ·rw[Hb h _ _ _ _ _ c];grind
theorem Ac1(s:By):(O0 s).1.length<=256:=by
 unfold O0;split
 ·grind
 ·split
  ·grind
  ·split
   ·grind
   ·rename_i h;exact Ay8 _ _ _ _ _ _ _ (af1 _) (by rw[p4,y5];omega)
theorem A35{R:Type}{a:Bool->Option R}(s:By)(b:A3 s.length=true):Bq1 LF s a=a (Ec s):=by
 have c:=C7;unfold Bq1 Ec;rw[b,cond_true];by_cases h:(O0 s).2=0
 ·have e:(((O0 s).2:Int)!=(0:Int))=false:=by rw[h];rfl
  rw[e,cond_false,Dq,D1,h];have i:=Ac1 s;refine j7 (A34 s _ (O0 s).1 (by omega) (O0 s).1.length 0 LF true (by omega) (by omega)) ?_;rw[o7];cases d:(O0 s).1.any (λp=>x5 65 p&&x5 p 90) with
  | true=>simp
  | false=>
   rw[if_neg (by simp),Ea,Vp,Vr];simp only[cond_true,vl,ad2,b9];cases f:(O0 s).1.any (λp=>x5 128 p) with
   | false=>simp
   | true=>
    simp only[j1,b9,cond_true,ae2,beq_self_eq_true,ad2];by_cases g:(Dg (O0 s).1).2=0;all_goals grind
 grind
theorem B04{R:Type}{d:Unit->Option R}{e:By->Option R}(s:By)(w:s.length<=1000000000):∀(r i n:Nat),i+r=s.length->r<n->
  T0 LF n s (s.length:Int) (i:Int) d e=if (s.drop i).all L1 then e s else d ():=by
 intro r
 induction r with
 | zero=>
  intro i n l c;obtain⟨n,rfl⟩:∃m,n=m+1:=⟨n-1,by omega⟩
  rw[T0];rw[A6,j2 (by omega)];rfl
 | succ r o=>
  intro i n l c;obtain⟨n,rfl⟩:∃m,n=m+1:=⟨n-1,by omega⟩
  rw[T0];have k:A1 ((i:Int)+1)=((i+1:Nat):Int):=by rw[A7];rfl
  rw[A8,E9,D3,D4 s i (by omega),k,ab7];simp only[cond_true];rw[o (i+1) n (by omega) (by omega)];generalize s.getD i 0=b;have j:=Bn b;have u:((b.toNat:Int)!=45) = !(b==45):=congrArg _ (R5 b 45 (by omega));have v:((b.toNat:Int)!=95) = !(b==95):=congrArg _ (R5 b 95 (by omega));rw[u,v];have t:∀{x:Bool},L1 b=x->(if (L1 b&&(s.drop (i+1)).all L1)=true then e s else d ())=if (x&&(s.drop (i+1)).all L1)=true then e s else d ():=λh=>by rw[h]
  cases a:L1 b with
  | true=>
   rw[j] at a;simp only[ad2];by_cases f:b=45
   ·subst f;simp (disch:=decide) [ltI]
   ·by_cases g:b=95
    ·subst g;simp (disch:=decide) [ltI]
    ·rcases a with a|a|a|a
     ·rw[show ltI (b.toNat:Int) 97=false from A6,show ltI (122:Int) b.toNat=false from A6];rfl
     ·rw[show ltI (b.toNat:Int) 97=true from A8,show ltI (b.toNat:Int) 48=false from A6,show ltI (57:Int) b.toNat=false from A6];rfl
     ·exact absurd a f
     ·exact absurd a g
  | false=>
   have c:¬((97<=b.toNat/\b.toNat<=122)\/(48<=b.toNat/\b.toNat<=57)\/b=45\/b=95):=λh=>by rw[j.2 h] at a;cases a
   have p:(b==45)=false:=by simpa using λh=>c (.inr (.inr (.inl h)))
   have q:(b==95)=false:=by simpa using λh=>c (.inr (.inr (.inr h)))
   rw[p,q];simp only[b9,cond_true,ai8,p5,if_false];by_cases f:b.toNat<48
   ·rw[show ltI (b.toNat:Int) 97=true from A8,show ltI (b.toNat:Int) 48=true from A8];rfl
   ·by_cases g:b.toNat<97
    ·rw[show ltI (b.toNat:Int) 97=true from A8,show ltI (b.toNat:Int) 48=false from A6,show ltI (57:Int) b.toNat=true from A8];rfl
    ·rw[show ltI (b.toNat:Int) 97=false from A6,show ltI (122:Int) b.toNat=true from A8,show ltI (b.toNat:Int) 48=false from A6,show ltI (57:Int) b.toNat=true from A8];rfl
theorem B05{R:Type}{a:Bool->Option R}(s:By)(b:A3 s.length=true):C77 LF s a=a (K3 s):=by
 have k:=L3 b;have h:=C7;unfold C77 K3;by_cases c:s=[]
 ·simp_all
 ·have o:0<s.length:=ab5.2 c;have j:s.isEmpty=false:=by simpa using c
  rw[A6,cond_false,j];by_cases m:63<s.length
  ·rw[A8,show x5 s.length 63=false by rw[y9,ne_eq,x7];omega];rfl
  ·rw[A6,cond_false,show x5 s.length 63=true by rw[x7];omega,E9];have l:(bAt s 0==(45:Int))=(s.getD 0 0==45):=by rw[Ao];exact R5 _ 45 (by omega)
   have d:A1 ((s.length:Int)-1)=((s.length-1:Nat):Int):=by rw[A7];omega
   rw[l,d];simp only[cond_true,vl];rw[E9,D3,show((((s.getD (s.length-1) 0).toNat:Nat):Int)==45)=(s.getD (s.length-1) 0==45) from R5 _ 45 (by omega)];cases e:(s.getD 0 0==45) with
   | true=>
    grind
   | false=>
    rw[show(s.getD 0 0 !=45)=true by unfold bne;rw[e];rfl];simp only[cond_true,cond_false];cases f:(s.getD (s.length-1) 0==45) with
    | true=>
     grind
    | false=>
     rw[show(s.getD (s.length-1) 0 !=45)=true by unfold bne;rw[f];rfl];simp only[cond_false];refine j7 (B04 s k s.length 0 LF (by omega) (by omega)) ?_;rw[o7];cases n:s.all L1 with
     | false=>simp
     | true=>
      rw[if_pos rfl,b,cond_true];simp only[b9,ad2,ae2];show cond (!(xnB.isPrefixOf s)) _ _=_;cases g:xnB.isPrefixOf s with
      | false=>rfl
      | true=>
       have i:Ha s xnB=s.drop 4:=by unfold Ha;rw[g];rfl
       show cond (A3 (Ha s xnB).length) (a (Ec (Ha s xnB))) none=_;rw[i,E1 (by rw[o0];omega)];rfl
theorem Az7(a:List Nat)(b:Nat)(F:a.length<=256)(A:b<=256)(d:∀p∈a,p<=1114111):∀(f n:Nat) (s:QZ),s.done=a.countP (λp=>decide (p<n))->s.delta<=300->s.bias<=500->s.out.length+20*(a.length-s.done)<=80000->n<=1114112->
  (R9 a b f n s).out.length<=80000:=by
 intro f;have z:=C7
 induction f with
 | zero=>intro n s C w q x y;unfold R9;omega
 | succ f G=>
  intro n s C w q x y;have B:a.countP (λp=>decide (p<n))<=a.length:=aa4;by_cases h:s.done<a.length
  ·obtain⟨u,i,j⟩:=Ay4 (n:=n) (l:=a) (by omega);obtain⟨L,M,o⟩:=El n a 1114112;have N:=o u i j;have O:=d u i;have c:H5 n a 1114112∈a/\n<=H5 n a 1114112:=by grind
   have D:R9 a b (f+1) n s=R9 a b f (H5 n a 1114112+1) { H8 (H5 n a 1114112) b a { s with delta:=s.delta+(H5 n a 1114112-n)*(s.done+1) } with delta:=(H8 (H5 n a 1114112) b a { s with delta:=s.delta+(H5 n a 1114112-n)*(s.done+1) }).delta+1 }:=by
    rw[R9,if_pos h]
   rw[D];generalize H5 n a 1114112=m at *;have t:(m-n)*(s.done+1)<=1114112*256:=an9 (by omega) (by omega);have g:=Br3 false false a b m (by omega) F a.length 0 LF { s with delta:=s.delta+(m-n)*(s.done+1) } (by omega) (by omega) (by simp only;omega) q (by simp only;omega) (by simp only;omega) A;rw[o7] at g;obtain⟨_,H,I,J,K⟩:=g;have e:0<a.countP (· == m):=aj6.2 ⟨m,c.1,by simp⟩;rw[if_pos e] at K;have k:=Vh c.2 a o;generalize H8 m b a { s with delta:=s.delta+(m-n)*(s.done+1) } = v at *;simp only at I J;have r:a.countP (λp=>decide (p<m+1))<=a.length:=aa4;exact G (m+1) { v with delta:=v.delta+1 } (by simp only;omega) (by simp only;omega) H (by simp only;omega) (by omega)
  ·rw[R9,if_neg h];omega
theorem Ad1(p:List Nat):(Dg p).1.length<=80000:=by
 unfold Dg;split
 ·grind
 ·rename_i h;split
  ·grind
  ·rename_i a;have d:∀q∈p,q<=1114111:=λq e=>by
    have a:p.all V8=true:=by simpa using a
    have:=x9.1 a q e;simp only[V8,j8,x7] at this;omega
   have b:=Ta p;have c:p.countP (λq=>decide (q<128))<=p.length:=aa4;refine Az7 p _ (by omega) (by omega) d 256 128 _ b (by simp) (by simp) ?_ (by omega);grind
theorem WK{b:UInt8}(h:128<=b.toNat):X4 b=b:=by
 rcases K5 b with⟨_,e⟩|⟨_,e⟩|⟨_,a,_⟩
 all_goals omega
theorem WL{b:UInt8}(h:b.toNat<128):(X4 b).toNat<128:=by
 rcases K5 b with⟨_,e⟩|⟨_,e⟩|⟨_,a,e⟩
 all_goals grind
theorem Bv9(n:Nat)(a c d e:UInt8)(h:128<=a.toNat):an2 n a.toNat (X4 c).toNat (X4 d).toNat (X4 e).toNat=an2 n a.toNat c.toNat d.toNat e.toNat:=by
 have i:∀b:UInt8,b.toNat / 64=2->X4 b=b:=λb f=>WK (by omega)
 have j:∀b:UInt8,¬b.toNat / 64=2->¬(X4 b).toNat / 64=2:=λb f h=>by
  by_cases g:128<=b.toNat
  ·rw[WK g] at h;exact f h
  ·have:=WL (b:=b) (by omega);omega
 unfold an2;grind
theorem C24(l:By)(c:l≠[]):(v7 (B5 l)).2=(v7 l).2/\(¬((v7 l).1=65533/\(v7 l).2=1)->¬((v7 (B5 l)).1=65533/\(v7 (B5 l)).2=1)):=by
 cases l with
 | nil=>exact absurd rfl c
 | cons b t=>
  by_cases a:b.toNat<128
  ·have d:=ah2 b t a;have f:v7 (B5 (b::t))=((X4 b).toNat,1):=ah2 (X4 b) (B5 t) (WL a);rw[d,f];refine⟨rfl,λ_ h=>?_⟩;have:=WL a;omega
  ·have e:v7 (B5 (b::t))=v7 (b::t):=by
    rw[ao3,ao3,Z4,Dm,Dm,Dm,Dm];have e0:X4 ((b::t).getD 0 0)=b:=WK (b:=b) (show 128<=b.toNat by omega);rw[e0];exact Bv9 (b::t).length b ((b::t).getD 1 0) ((b::t).getD 2 0) ((b::t).getD 3 0) (show 128<=b.toNat by omega)
   grind
theorem PU:∀(f:Nat) (l:By),(W0 f l).isSome=true->(W0 f (B5 l)).isSome=true
 | 0,_,_=>rfl
 | f+1,l,h=>by
  unfold W0 at h ⊢;by_cases a:l=[]
  ·subst a;rfl
  ·rw[if_neg a] at h;rw[if_neg (by rw[PK];exact a)];obtain⟨b,c⟩:=C24 l a;split at h
   ·cases h
   ·rename_i d;rw[if_neg (c d),ah5,b,KD];rw[ah5] at h;exact PU f _ h
theorem Ai7{l:By}(h:(Ct l).isSome=true):(Ct (B5 l)).isSome=true:=by unfold Ct at h ⊢;rw[Z4];exact PU _ _ h
theorem Bz2(t:By)(C:t.length<=1000000000):∀(f pos:Nat) (P q:List Nat) (n:Nat),pos<=t.length->t.length-pos<=f->f<n->P.length<=pos->W0 f (t.drop pos)=some q->
  ∃m,∀(R:Type) (h:LL->By->Nat->Option R),Fk LF n (B6 P) t pos h=h (B6 (P++q)) t m:=by
 intro f
 induction f with
 | zero=>
  intro pos P q n u v w x a;obtain⟨n,rfl⟩:∃m,n=m+1:=⟨n-1,by omega⟩
  simp only[W0,j4] at a;subst a;refine⟨pos,λR h=>?_⟩;rw[Fk];rw[decide_eq_false (by omega),cond_false,aa0]
 | succ f z=>
  intro pos P q n u v w x a;obtain⟨n,rfl⟩:∃m,n=m+1:=⟨n-1,by omega⟩
  by_cases l:pos<t.length
  ·have b:t.drop pos≠[]:=by rw[ne_eq,<-k9,o0];omega
   have y:=ai0 ⟨t.toArray⟩ pos;have i:ah8 ⟨al8 t⟩ pos=v7 (t.drop pos):=by rw[<-y]
   unfold W0 at a;rw[if_neg b] at a;split at a
   ·cases a
   ·have D:=ah3 (t.drop pos);have j:=an7 (t.drop pos) b;have B:=Lib.decodeL_rune (t.drop pos);rw[o0] at j;rw[aj0] at a;generalize v7 (t.drop pos)=p at *;obtain⟨c,o⟩:=p;simp only at *;cases k:W0 f (t.drop (pos+o)) with
    | none=>rw[k] at a;cases a
    | some A=>
     rw[k] at a;simp only[ac1,j4] at a;subst a;obtain⟨m,e⟩:=z (pos+o) (P++[c]) A n (by omega) (by omega) (by omega) (by simp;omega) k;refine⟨m,λR h=>?_⟩;rw[Fk];rw[decide_eq_true l,cond_true,i,D1,F4 (by omega)];simp only[vl,cond_true];have r:A1 (c:Int)=(c:Int):=A7;have g:B6 P++[[SV.int .i64 (A1 (c:Int))]]=B6 (P++[c]):=by rw[r,Kq];rfl
     rw[g,e,x4];rfl
  ·have d:t.drop pos=[]:=by rw[<-k9,o0];omega
   unfold W0 at a;rw[d,if_pos rfl] at a;simp only[j4] at a;subst a;refine⟨pos,λR h=>?_⟩;rw[Fk];rw[decide_eq_false l,cond_false,aa0]
theorem A22(s:By)(i:A3 s.length=true):(∀(R:Type) (b:By->Int->Option R) (c:By->Int->LL->By->Nat->Option R),Af9 LF s b c=b (H9 s).1 ((H9 s).2:Nat))\/
  (∃l t m,∀(R:Type) (b:By->Int->Option R) (c:By->Int->LL->By->Nat->Option R),Af9 LF s b c=c (H9 s).1 ((H9 s).2:Nat) l t m):=by
 have x:=L3 i;have u:=C7;unfold H9;cases h:Ct s with
 | none=>
  refine .inl λR b c=>?_
  unfold Af9;rw[i,h];rfl
 | some p=>
  have k:=LM h;have top:∀(R:Type) (b:By->Int->Option R) (c:By->Int->LL->By->Nat->Option R),Af9 LF s b c=cond (ltI 256 (p.length:Int)) (b [] 3) (cond (ltI (p.length:Int) (s.length:Int)) (Fk LF LF [] (B5 s) 0 (λa g f=>cond (ag6 a Nr)
      (cond (((X3 (ab9 elI a)).2:Int)!=(0:Int))
       (c ([]:List UInt8) 14 a g f)
       (cond (L6 4 (o5 ((X3 (ab9 elI a))).1))
        (cond (A3 (o5 (xnB++((X3 (ab9 elI a))).1)))
         (cond (not (K3 (xnB++((X3 (ab9 elI a))).1)))
         (c ([]:List UInt8) 14 a g f)
         (c (xnB++((X3 (ab9 elI a))).1) 0 a g f))
         (none))
        (none)))
      (none)))
     (cond (A3 (o5 (B5 s)))
      (cond (not (K3 (B5 s)))
      (b ([]:List UInt8) 14)
      (b (B5 s) 0))
      (none))):=by
   intro R b c;unfold Af9;rw[i,h,k];rfl
  simp only;by_cases n:256<p.length
  ·rw[if_pos n];refine .inl λR b c=>?_
   rw[top,A8];rfl
  ·rw[if_neg n];by_cases o:p.length<s.length
   ·rw[if_pos o];have d:=Ai7 (l:=s) (by rw[h];rfl);cases r:Ct (B5 s) with
    | none=>rw[r] at d;cases d
    | some q=>
     have w:=Z4 s;obtain⟨m,e⟩:=Bz2 (B5 s) (by omega) (B5 s).length 0 [] q LF (by omega) (by omega) (by omega) (by simp) (by rw[o7];exact r);refine .inr ⟨B6 q,B5 s,m,λR b c=>?_⟩;rw[top,A6,cond_false,A8,cond_true];refine j7 (e R _) ?_;have v:=Ad1 q;rw[aa1,Ea,Vp,Vr,cond_true,M9 (by omega),cond_true,E1 (by rw[ae8];simp only[xnB,p6,ab2];omega),cond_true];simp only;by_cases j:(Dg q).2=0
     ·rw[j,if_pos rfl];cases y:K3 (xnB++(Dg q).1) with
      | true=>rfl
      | false=>rfl
     ·rw[if_neg j];have:(((Dg q).2:Int)!=(0:Int))=true:=by simpa using j
      rw[this];rfl
   ·rw[if_neg o];refine .inl λR b c=>?_
    rw[top,A6,cond_false,A6,cond_false,E1 (by rw[Z4];exact x),cond_true];cases K3 (B5 s)<;>rfl
theorem C66(s:By)(c:A3 s.length=true):∃r H,Af9 LF s (λa b=>rv (.tup [.s (.str a),.s (.int .i64 b)]) []) (λa b d f e=>rv (.tup [.s (.str a),.s (.int .i64 b)]) [.arr true 3 1 d,.iter f e])=rv r H/\
  r.stab [0,0] H = .tup [.s (.str (H9 s).1),.s (.int .i64 ((H9 s).2:Nat))]:=by
 rcases A22 s c with h|⟨l,t,m,h⟩
 ·exact⟨_,_,h _ _ _,rfl⟩
 ·exact⟨_,_,h _ _ _,rfl⟩
end
end Go.Proofs.YtfkhfkjcidamaaaGreatDoor.E
