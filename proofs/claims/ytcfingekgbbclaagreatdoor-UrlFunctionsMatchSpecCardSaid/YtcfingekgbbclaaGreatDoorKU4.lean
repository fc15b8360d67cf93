/-
  Parts of the proof, merged by a program of the prover's own; no condition.
-/
import Derived.Test.YtcfingekgbbclaaGreatDoorKU3
import Derived.Lib.JoinLaws
import Derived.Lib.TrimAscii
import Derived.Lib.TrimUEq
import Derived.Lib.ValidLaws
import Derived.Shelf.LaysM
import Derived.Shelf.Small.Strs
import Derived.Shelf.Spec.SlicesInsert
import Derived.Shelf.Spec.SlicesInsertGrow
import Derived.Shelf.Spec.TrailingZeros
import Derived.Shelf.Strconv.Itoa3
import Derived.Shelf.Strings.Count
import Derived.Shelf.Strings.Cut
import Derived.Shelf.Strings.IndexAnyAll
import Derived.Shelf.Strings.OnBuilder
import Derived.Shelf.Strings.Search3
import Derived.Shelf.Unicode.ValidAny
import Derived.Shelf.Utf8.RuneCount
import Derived.Test.YtcfingekgbbclaaGreatDoorProg
open List renaming getD_eq_getElem?_getD->a8,replicate->b9,drop_of_length_le->j1,getElem?_eq_getElem->j4,length_drop->j6,drop_zero->j9,length_cons->k9,length->o0,length_eq_zero_iff->o5,getD->o6,length_map->o9,length_take->p4,nil_append->p5,take_of_length_le->p6,append_assoc->p9,append_nil->s7,length_append->x5,all_eq_true->x7,getElem_cons_drop->y7,length_pos_iff->y8,length_nil->y9,countP_le_length->aa1,map_congr_left->ab0,map->ab4,flatten->ab8,all_cons->ac2,take->ac4,drop->ad0,mem_of_mem_take->ad3,take_zero->ad4,isPrefixOf->ae0,map_map->ae3,mem_of_mem_drop->ae9,map_append->af1,all->af6,countP_cons_of_neg->ag7,map_id->ah5,set->ah6,countP_pos_iff->ai2,replicate_succ->ai3,any_cons->ai4,map_drop->ai5,mem_cons->ai6,all_map->aj8,getElem?_map->aj9,take_add_one->ak0,toArray->ak1,cons_append->ak9,take_length->al0,append->al6,drop_drop->am3,map_take->am9,isEmpty->ao7,map_nil->ao8,mem_map->ao9
open Bool renaming not_false->b8,not_true->j0,and_eq_true->o8,false_eq_true->v7,eq_false_iff->y5,and_true->ac8,true_and->ac9,false_or->ae6,false_and->ah3,not_eq_true'->aj2,or_eq_true->al8,and_false->am0
open Int renaming toNat_natCast->c9,toNat->j5,eq_ofNat_of_zero_le->j8,tdiv->ac3,add->ad9,tmod->ae8,mul_nonneg->am1
open Option.some renaming injEq->j2
open Eq renaming trans->j7
open Go.Proofs.Tryz renaming prog->o7,underlying3->s8,zeroValue3->w8,underlying4->w9,zeroValue4->x4,underlying5->x8,underlying9->x9,zeroValue5->z7,zeroValue9->aa0,underlying0->aa4,sizeOf3->aa6,underlying53->aa8,zeroValue0->aa9,sizeOf4->ab1,isAgg3->ab2,zeroValue53->ab3,isAgg4->ab9,sizeOf5->ac0,sizeOf9->ac1,isAgg5->ac5,isAgg9->ac6,sizeOf0->ac7,sizeOf53->ad1,underlying23->ad2,isAgg0->ad5,isAgg53->ad6,zeroValue23->ad7,sizeOf23->ae7,func100->af2,func134->af3,isAgg23->af4,underlying112->af7,underlying140->af8,zeroValue112->ag2,zeroValue140->ag3,func102->ag9,func103->ah0,sizeOf112->ah9,sizeOf140->ai0,f155->ai1,isAgg112->ai7,isAgg140->ai8,underlying161->aj0,underlying162->aj1,func133->ak4,func163->ak5,underlying20->ak6,underlying38->ak7,zeroValue161->ak8,f136->al1,f141->al2,zeroValue20->al3,zeroValue38->al4,func99->al7,sizeOf161->am5,sizeOf162->am6,isAgg161->an1,isAgg162->an2,sizeOf20->an3,sizeOf38->an4,f104->an5,f106->an6,f110->an7,f126->an8,f132->an9,f169->ao0,f186->ao1,func140->ap2,func154->ap3,func162->ap4,func177->ap5,func178->ap6,isAgg20->ap7,isAgg38->ap8,f81->aq1,f92->aq2,func73->aq3
open Option renaming getD_some->p7,isSome_some->v8,map_some->w6,isSome_none->ae2,isSome_map->ag1,isSome->ag5
open Go.Lib renaming decodeL->s9,index->aa3,cut->ab6,join->ab7,runeCountL->af5,decodeL_width->ag0,decodeL_drop->ag6,deBruijn64tab->aj4,decodeL_ascii->aj5,firstTab->aj6,runeCountFrom->aj7,decodeN->al5,decodeL_le->am2,decodeL_N->am7,join_cons->am8,index_ge->ao2,joinTail->ao3,join_one->ao4,pow10Tab->ao5,validGoD->ao6
open Nat renaming ble->x3,ble_eq->x6,ble_eq_true_of_le->aa2,le_of_ble_eq_true->ab5,div_le_self->ae1,pow_succ->ae4,le_refl->af0,zero_add->ag8,min_eq_left->ah1,strongRecOn->ah2,mul_le_mul->ah7,mul_le_mul_right->ah8,blt_eq->ai9,add_zero->ak2,le_trans->ak3,mod_lt->am4,add_assoc->an0,sub_self->ap0
open Go.Shelf renaming Ren->aa5
open UInt8 renaming ofNat->aa7,toNat->aq4
open Classical renaming byContradiction->ad8
open Go.RowKit.Below renaming refl->ae5
open Function renaming comp_def->af9
open Go.Utf8 renaming decode->ag4
open Go.IntKind renaming u16->ah4,bits->aj3
open UInt8.toNat renaming inj->al9
open Go.RowKit renaming Below->ap1
open Go.Proofs.LaysM renaming n171->ap9
open Go.Proofs.Lays renaming n137->aq5,n138->aq6,n143->aq7,n145->aq8,n153->aq9,n156->ar0,n195->ar1,n196->ar2
open Go.Proofs.Lays2 renaming n21->ar3
open Go.Proofs.Lays7 renaming n27->ar4
namespace Go.Proofs.YtcfingekgbbclaaGreatDoor.E
set_option linter.all false
section
open Go Go.Proofs
theorem Dh2(a b:Nat)(c:a<65536)(d:b<65536):bOr .u16 (a:Int) (b:Int)=((a ||| b:Nat):Int):=by
 unfold bOr;rw[show aj3 .u16=16 from rfl,C87 16 a b (by omega) (by omega)];have:a ||| b<2 ^ 16:=Nat.or_lt_two_pow (by omega) (by omega)
 exact Jh
theorem Di8(a m:Nat)(h:a*2 ^ m<65536)(b:m<=16):Qx .u16 (a:Int) (m:Int)=((a*2 ^ m:Nat):Int):=by
 unfold Qx;rw[c9,show aj3 .u16=16 from rfl,ah1 b];have:(a:Int)*2 ^ m=((a*2 ^ m:Nat):Int):=by simp
 rw[this];exact Jh
theorem A78(v d:Nat)(b:v<4096)(a:d<16):bOr .u16 (Qx .u16 (v:Int) 4) (d:Int)=((v*16+d:Nat):Int):=by have:=Di8 v 4 (by omega) (by omega);rw[show((4:Nat):Int)=4 from rfl] at this;rw[this,Dh2 _ _ (by omega) (by omega),DQ v d 4 (by omega)]
theorem B68{R:Type}{c:Unit->Option R}{f:Int->Option R}(s:By)(B:s.length<=4):∀(r i v n:Nat),i+r=s.length->r<n->v<16 ^ i->
  En LF n s (v:Int) (s.length:Int) (i:Int) c f=match Gi v (s.drop i) with|some w=>f (w:Int)|none=>c ():=by
 intro r
 induction r with
 | zero=>
  intro i v n l o p;obtain⟨n,rfl⟩:∃m,n=m+1:=⟨n-1,by omega⟩
  rw[En];rw[A6,j1 (by omega)];rfl
 | succ r q=>
  intro i v n l o p;obtain⟨n,rfl⟩:∃m,n=m+1:=⟨n-1,by omega⟩
  rw[En,D2 s i (by omega)];rw[D0];have k:=(s.getD i 0).toNat_lt;generalize s.getD i 0=b at *;have j:((i:Int)+1)=((i+1:Nat):Int):=by omega
  have A:16 ^ i<=4096:=by
   have:i=0\/i=1\/i=2\/i=3:=by omega
   rcases this with rfl|rfl|rfl|rfl<;>decide
  simp (disch:=omega) only[B5,J6,cond_true,vl,C6,Vi,Vh,Vg];rw[j];simp only[Gi];have go:∀d:Nat,d<16->En LF n s ((v*16+d:Nat):Int) (s.length:Int) ((i+1:Nat):Int) c f=match Gi (v*16+d) (s.drop (i+1)) with|some w=>f (w:Int)|none=>c ():=
   λd z=>q (i+1) _ n (by omega) (by omega) (by rw[ae4];omega)
  rcases Ck b with⟨g,h,e⟩|⟨g,h,e⟩|⟨g,h,e⟩|⟨g,h,y,e⟩
  ·have a:Db (wu8 ((b.toNat:Int)-48))=((dig b:Nat):Int):=by rw[L4,Jh];omega
   simp (disch:=omega) only[B5,E1,j0,b8,cond_false,cond_true,a,A78,if_pos (show dig b<16 by omega)];exact go _ (by omega)
  ·have a:Db (wu8 (wu8 ((b.toNat:Int)-97)+10))=((dig b:Nat):Int):=by rw[WX (n:=(b.toNat:Int)-97) (by omega) (by omega),L4,Jh];omega
   simp (disch:=omega) only[B5,E1,j0,b8,cond_false,cond_true,a,A78,if_pos (show dig b<16 by omega)];exact go _ (by omega)
  ·have a:Db (wu8 (wu8 ((b.toNat:Int)-65)+10))=((dig b:Nat):Int):=by rw[WX (n:=(b.toNat:Int)-65) (by omega) (by omega),L4,Jh];omega
   simp (disch:=omega) only[B5,E1,j0,b8,cond_false,cond_true,a,A78,if_pos (show dig b<16 by omega)];exact go _ (by omega)
  ·rw[if_neg (show ¬dig b<16 by omega)];by_cases t:b.toNat<48
   ·simp (disch:=omega) only[B5,E1,j0,b8,cond_false,cond_true]
   ·by_cases u:b.toNat<65
    ·simp (disch:=omega) only[B5,E1,j0,b8,cond_false,cond_true]
    ·by_cases x:b.toNat<97
     ·simp (disch:=omega) only[B5,E1,j0,b8,cond_false,cond_true]
     ·simp (disch:=omega) only[B5,E1,j0,b8,cond_false,cond_true]
theorem Bn1{R:Type}{c:Int->Bool->Option R}(s:By)(d:A3 s.length=true):B70 LF s c=c (M0 (grp s):Int) (grp s).isSome:=by
 have:=C2;unfold B70 grp;by_cases a:s=[]
 ·subst a;rfl
 ·rw[show(s==([]:By))=false from beq_eq_false_iff_ne.2 a];by_cases b:4<s.length
  ·rw[A8,if_pos (.inr b)];rfl
  ·rw[A6,if_neg (by intro h;rcases h with h|h;exact a h;exact b h)];refine j7 (B68 s (by omega) s.length 0 0 LF (by omega) (by omega) (by decide)) ?_;rw[j9];cases Gi 0 s<;>rfl
theorem ZD:∀(s:By) (v w m:Nat),v<16 ^ m->Gi v s=some w->w<16 ^ (m+s.length)
 | [],v,w,m,a,h=>by simp only[Gi,j2] at h;subst h;simpa using a
 | b::r,v,w,m,a,h=>by
  simp only[Gi] at h;split at h
  ·have:=ZD r (v*16+dig b) w (m+1) (by rw[ae4];omega) h;grind
  ·cases h
theorem B69{s:By}{v:Nat}(h:grp s=some v):v<65536:=by
 unfold grp at h;split at h
 ·cases h
 ·rename_i a;have:=ZD s 0 v 0 (by decide) h;have b:s.length<=4:=by omega
  have:16 ^ (0+s.length)<=16 ^ 4:=Nat.pow_le_pow_right (by omega) (by omega);omega
theorem Bs8{R:Type}{c:Unit->Option R}{f:Int->Option R}(s:By)(B:s.length<=4):∀(r i v n:Nat),i+r=s.length->r<n->v<16 ^ i->
  Ex LF n s (v:Int) (i:Int) c f=match Gi v (s.drop i) with|some w=>f (w:Int)|none=>c ():=by
 intro r
 induction r with
 | zero=>
  intro i v n l o p;obtain⟨n,rfl⟩:∃m,n=m+1:=⟨n-1,by omega⟩
  rw[Ex];rw[A6,j1 (by omega)];rfl
 | succ r q=>
  intro i v n l o p;obtain⟨n,rfl⟩:∃m,n=m+1:=⟨n-1,by omega⟩
  rw[Ex,D2 s i (by omega)];rw[D0];have k:=(s.getD i 0).toNat_lt;generalize s.getD i 0=b at *;have j:((i:Int)+1)=((i+1:Nat):Int):=by omega
  have A:16 ^ i<=4096:=by
   have:i=0\/i=1\/i=2\/i=3:=by omega
   rcases this with rfl|rfl|rfl|rfl<;>decide
  simp (disch:=omega) only[B5,J6,cond_true,vl,C6,Wm,Wl,Wk];rw[j];simp only[Gi];have go:∀d:Nat,d<16->Ex LF n s ((v*16+d:Nat):Int) ((i+1:Nat):Int) c f=match Gi (v*16+d) (s.drop (i+1)) with|some w=>f (w:Int)|none=>c ():=
   λd z=>q (i+1) _ n (by omega) (by omega) (by rw[ae4];omega)
  rcases Ck b with⟨g,h,e⟩|⟨g,h,e⟩|⟨g,h,e⟩|⟨g,h,y,e⟩
  ·have a:wu8 ((b.toNat:Int)-48)=(b.toNat:Int)-48:=L4;simp (disch:=omega) only[B5,E1,j0,b8,cond_false,cond_true,a,C6,if_pos (show dig b<16 by omega)];rw[show(v:Int)*16+((b.toNat:Int)-48)=((v*16+dig b:Nat):Int) by omega];exact go _ (by omega)
  ·have a:wu8 ((b.toNat:Int)-97)=(b.toNat:Int)-97:=L4;simp (disch:=omega) only[B5,E1,j0,b8,cond_false,cond_true,a,C6,if_pos (show dig b<16 by omega)];rw[show(v:Int)*16+((b.toNat:Int)-97)+10=((v*16+dig b:Nat):Int) by omega];exact go _ (by omega)
  ·have a:wu8 ((b.toNat:Int)-65)=(b.toNat:Int)-65:=L4;simp (disch:=omega) only[B5,E1,j0,b8,cond_false,cond_true,a,C6,if_pos (show dig b<16 by omega)];rw[show(v:Int)*16+((b.toNat:Int)-65)+10=((v*16+dig b:Nat):Int) by omega];exact go _ (by omega)
  ·rw[if_neg (show ¬dig b<16 by omega)];by_cases t:b.toNat<48
   ·simp (disch:=omega) only[B5,E1,j0,b8,cond_false,cond_true]
   ·by_cases u:b.toNat<65
    ·simp (disch:=omega) only[B5,E1,j0,b8,cond_false,cond_true]
    ·by_cases x:b.toNat<97
     ·simp (disch:=omega) only[B5,E1,j0,b8,cond_false,cond_true]
     ·simp (disch:=omega) only[B5,E1,j0,b8,cond_false,cond_true]
theorem Bs9{R:Type}{b:Int->Bool->Option R}(s:By)(f:A3 s.length=true):Cc2 LF s b=b (M0 (grp s):Int) (grp s).isSome:=by
 have:=C2;unfold Cc2;by_cases a:s=[]
 ·subst a;rfl
 ·have g:0<s.length:=y8.2 a;rw[A6];by_cases c:4<s.length
  ·rw[A8];unfold grp;rw[if_pos (.inr c)];rfl
  ·rw[A6];refine j7 (Bs8 s (by omega) s.length 0 0 LF (by omega) (by omega) (by decide)) ?_;have e:grp s=Gi 0 s:=by
    unfold grp;grind
   rw[j9,<-e];cases d:grp s with
   | none=>rfl
   | some w=>
    have:=B69 d;simp only[M0,p7,v8];rw[Jh]
theorem G6(l:List Nat):(C9 l).length=l.length:=by simp[C9]
theorem Kl(a b:List Nat):C9 (a++b)=C9 a++C9 b:=by simp[C9]
theorem Xl(l:List Nat):(C9 l).isEmpty=l.isEmpty:=by cases l<;>rfl
theorem Lp{l:List Nat}{i:Nat}(h:i<l.length):okE ⟨true,false,[.int .u16]⟩ (C9 l) i 0=true:=by unfold okE C9;simp[a8,h,okS,SV.has]
theorem Sv(l:List Nat)(i:Nat):gE (C9 l) i 0=(l.getD i 0:Int):=by
 unfold gE gC C9;by_cases h:i<l.length
 ·simp[a8,j4 h,SV.gI]
 ·simp[a8,List.getElem?_eq_none (show l.length<=i by omega),SV.gI]
theorem Jr:∀(last:Bool) (l:List By) (r:List Nat),Dp last l=some r->r.length<=2*l.length
 | last,[],r,h=>by simp only[Dp,j2] at h;subst h;simp
 | last,x::l,r,h=>by
  simp only[Dp] at h;split at h
  ·cases a:Dp last l with
   | none=>simp[a] at h
   | some q=>
    simp only[a,w6,j2] at h;subst h;have:=Jr last l q a;grind
  grind
theorem A95{s:By}{v:Nat}(h:v4B s=some v):v<4294967296:=by
 unfold v4B at h;split at h
 ·rename_i a;have:=Bh2 (pcs 46 s) 0 v 0 (by decide) h;grind
 ·cases h
theorem Be9:∀(last:Bool) (l:List By) (r:List Nat),Dp last l=some r->∀x∈r,x<65536
 | last,[],r,h,x,a=>by simp only[Dp,j2] at h;subst h;simp at a
 | last,y::l,r,h,x,a=>by
  simp only[Dp] at h;split at h
  ·rename_i v c;cases b:Dp last l with
   | none=>simp[b] at h
   | some q=>
    simp only[b,w6,j2] at h;subst h;rcases ai6.1 a with rfl|a
    ·exact B69 c
    ·exact Be9 last l q b x a
  ·split at h
   ·rename_i v c;split at h
    ·simp only[j2] at h;subst h;have:=A95 c;grind
    grind
   ·cases h
theorem As6{R:Type}{k0:LL->Option R}{k1:LL->Option R}(last:Bool)(l:List By)(C:l.length<=1000000001)(w:∀x∈l,x.length<=1000000000):∀(r i n:Nat) (d:List Nat),i+r=l.length->r<n->d.length<=2*i->
  (∀q,Dp last (l.drop i)=some q->Dq LF n last (D4 l) (l.length:Int) (i:Int) (C9 d) k0 k1=k1 (C9 (d++q)))/\
  (Dp last (l.drop i)=none->∃k,Dq LF n last (D4 l) (l.length:Int) (i:Int) (C9 d) k0 k1=k0 k):=by
 intro r
 induction r with
 | zero=>
  intro i n d u y t;obtain⟨n,rfl⟩:∃m,n=m+1:=⟨n-1,by omega⟩
  rw[Dq,j1 (by omega)];rw[A6];refine⟨λq a=>?_,λh=>(by cases h)⟩;simp only[Dp,j2] at a;subst a;simp
 | succ r B=>
  intro i n d u y t;obtain⟨n,rfl⟩:∃m,n=m+1:=⟨n-1,by omega⟩
  rw[Dq,Ja l i (by omega)];have G:=w _ (NP (show i<l.length by omega));have f:((i:Int)+1)=((i+1:Nat):Int):=by omega
  simp (disch:=omega) only[B5,F3,J6,cond_true,c9,Q7,V6,E0,vl,G6,F0,C6];rw[f];simp only[Dp];cases D:grp (l.getD i []) with
  | some v=>
   simp only[v8,cond_true,M0,p7];have c:C9 d++[[SV.int .u16 (v:Int)]]=C9 (d++[v]):=by rw[Kl];rfl
   rw[c];have:=B (i+1) n (d++[v]) (by omega) (by omega) (by simp<;>omega);refine⟨λq a=>?_,λh=>?_⟩
   ·cases b:Dp last (l.drop (i+1)) with
    | none=>simp[b] at a
    | some j=>
     simp only[b,w6,j2] at a;subst a;rw[this.1 j b];simp
   ·cases b:Dp last (l.drop (i+1)) with
    | none=>exact this.2 b
    | some j=>simp[b] at h
  | none=>
   simp only[ae2,cond_false];cases z:v4B (l.getD i []) with
   | none=>
    simp only[ae2,b8,cond_true];exact⟨λq a=>(by cases a),λ_=>⟨_,rfl⟩⟩
   | some v=>
    have A:=A95 z;simp only[v8,j0,cond_false,M0,p7];cases last with
    | false=>
     simp only[b8,cond_true,v7,false_and,if_false];exact⟨λq a=>(by cases a),λ_=>⟨_,rfl⟩⟩
    | true=>
     simp only[j0,cond_false,true_and];by_cases F:r=0
     ·have e:l.drop (i+1)=[]:=j1 (by omega);rw[A6,e,if_pos rfl,show(16:Int)=((16:Nat):Int) from rfl,Qp .u32 v 16 (by decide)];refine⟨λq a=>?_,λh=>(by cases h)⟩;simp only[j2] at a;subst a;have o:Db ((v / 2 ^ 16:Nat):Int)=((v / 65536:Nat):Int):=Jh;have p:Db (v:Int)=((v % 65536:Nat):Int):=Aj6 v;rw[o,p,Kl];rfl
     ·have g:l.drop (i+1)≠[]:=by
       rw[Ja l (i+1) (by omega)];simp
      rw[A8,if_neg g];exact⟨λq a=>(by cases a),λ_=>⟨_,rfl⟩⟩
theorem Y1(c:UInt8){s:By}(a:s.length<=1000000000):(pcs c s).length<=1000000001:=by have:=Hv c s;grind
theorem As7(s:By)(last:Bool)(f:A3 s.length=true):∃r H,Bf0 LF s last (λl=>rv (.tup [.fl 0,.s (.bool true)]) [.arr true 24 1 l]) (λl=>rv (.tup [.fl 1,.s (.bool false)]) [.arr true 24 1 l,.arr true 24 1 []])=rv r H/\
  r.stab [1,0] H = .tup [.s (.sl (gvs s last).isEmpty (gvs s last).isEmpty 1 (C9 (gvs s last))),.s (.bool (P0 s last).isSome)]:=by
 have d:=L6 f;have:=C2;unfold Bf0 gvs P0;by_cases c:s=[]
 ·subst c;exact⟨_,_,rfl,rfl⟩
 ·rw[show(s==([]:By))=false from beq_eq_false_iff_ne.2 c,f,if_neg c];simp only[cond_false,cond_true,vl,List.getD_cons_zero,F3,show((1:Nat)==1)=true from rfl];obtain⟨a,b⟩:=As6 (k0:=λl=>rv (.tup [.fl 1,.s (.bool false)]) [.arr true 24 1 l,.arr true 24 1 []]) (k1:=λl=>rv (.tup [.fl 0,.s (.bool true)]) [.arr true 24 1 l]) last (pcs 58 s) (Y1 58 d) (λx h=>ak3 (Df h).2 d) (pcs 58 s).length 0 LF [] (by omega) (by have:=Y1 58 d;omega) (by simp);rw[j9] at a b;cases g:Dp last (pcs 58 s) with
  | some q=>
   refine⟨_,_,a q g,?_⟩;simp[PV.stab,Of,Qu,PV.snap,L3,Xl]
  | none=>
   obtain⟨i,e⟩:=b g;refine⟨_,_,e,?_⟩;simp[PV.stab,Of,Qu,PV.snap,L3,C9]
theorem HX:∀(s:By) (v:Nat) (b:UInt8),b∈s->16<=dig b->Gi v s=none
 | c::r,v,b,h,a=>by
  simp only[Gi];rcases ai6.1 h with rfl|h
  ·grind
  ·split
   ·exact HX r _ b h a
   ·rfl
theorem A96{s:By}{v:Nat}(h:v4B s=some v):grp s=none:=by
 unfold v4B at h;split at h
 ·rename_i a;have b:(46:UInt8)∈s:=by
   apply ad8;intro c;rw[Oq c] at a;simp at a
  unfold grp;split
  ·rfl
  ·exact HX s 0 46 b (by decide)
 ·cases h
theorem A10{R:Type}{k0:LL->Option R}{k1:LL->Option R}(last:Bool)(l:List By)(I:l.length<=1000000001)(D:∀x∈l,x.length<=1000000000):∀(r i n:Nat) (d:List Nat),i+r=l.length->r<n->d.length<=2*i->
  (∀q,Dp last (l.drop i)=some q->P6 LF n last (D4 l) (i:Int) (C9 d) k0 k1=k1 (C9 (d++q)))/\
  (Dp last (l.drop i)=none->∃k,P6 LF n last (D4 l) (i:Int) (C9 d) k0 k1=k0 k):=by
 intro r
 induction r with
 | zero=>
  intro i n d C F B;obtain⟨n,rfl⟩:∃m,n=m+1:=⟨n-1,by omega⟩
  rw[P6,j1 (by omega)];rw[F3,A6];refine⟨λq a=>?_,λh=>(by cases h)⟩;simp only[Dp,j2] at a;subst a;simp
 | succ r y=>
  intro i n d C F B;obtain⟨n,rfl⟩:∃m,n=m+1:=⟨n-1,by omega⟩
  rw[P6,Ja l i (by omega)];have L:=D _ (NP (show i<l.length by omega));have t:((i:Int)+1)=((i+1:Nat):Int):=by omega
  have w:A1 ((l.length:Int)-1)=((l.length-1:Nat):Int):=by rw[A7];omega
  simp (disch:=omega) only[B5,F3,J6,cond_true,c9,Q7,V6,E0,vl,Ka,Kb,G6,F0,C6,cond_false];rw[t];simp only[Dp];have e:∀(f:v4B (l.getD i [])=none\/(last=false\/l.drop (i+1)≠[])),
    (∀q,(match grp (l.getD i []) with|some v=>(Dp last (l.drop (i+1))).map (v::·)|none=>match v4B (l.getD i []) with|some v=>if last=true/\l.drop (i+1)=[] then some [v / 65536,v % 65536] else none|none=>none)=some q->
     (cond (!(grp (l.getD i [])).isSome) (k0 (C9 d)) (P6 LF n last (D4 l) ((i+1:Nat):Int) (C9 d++[[SV.int .u16 (M0 (grp (l.getD i [])):Int)]]) k0 k1))=k1 (C9 (d++q)))/\
    ((match grp (l.getD i []) with|some v=>(Dp last (l.drop (i+1))).map (v::·)|none=>match v4B (l.getD i []) with|some v=>if last=true/\l.drop (i+1)=[] then some [v / 65536,v % 65536] else none|none=>none)=none->
     ∃k,(cond (!(grp (l.getD i [])).isSome) (k0 (C9 d)) (P6 LF n last (D4 l) ((i+1:Nat):Int) (C9 d++[[SV.int .u16 (M0 (grp (l.getD i [])):Int)]]) k0 k1))=k0 k):=by
   intro f;cases J:grp (l.getD i []) with
   | some v=>
    simp only[v8,j0,cond_false,M0,p7];have c:C9 d++[[SV.int .u16 (v:Int)]]=C9 (d++[v]):=by rw[Kl];rfl
    rw[c];have:=y (i+1) n (d++[v]) (by omega) (by omega) (by simp<;>omega);refine⟨λq a=>?_,λh=>?_⟩
    ·cases b:Dp last (l.drop (i+1)) with
     | none=>simp[b] at a
     | some z=>
      simp only[b,w6,j2] at a;subst a;rw[this.1 z b];simp
    ·cases b:Dp last (l.drop (i+1)) with
     | none=>exact this.2 b
     | some z=>simp[b] at h
   | none=>
    simp only[ae2,b8,cond_true];refine⟨λq a=>?_,λ_=>⟨_,rfl⟩⟩;exfalso;cases g:v4B (l.getD i []) with
    | none=>rw[g] at a;cases a
    | some v=>
     rw[g] at a;rcases f with h|h|h
     ·rw[g] at h;cases h
     ·simp only[h,v7,false_and,if_false] at a;cases a
     ·simp only[if_neg (λhc:last=true/\l.drop (i+1)=[]=>h hc.2)] at a;cases a
  cases f:v4B (l.getD i []) with
  | none=>
   simp only[ae2,cond_false];have:=e (.inl f);simp only[f] at this;exact this
  | some v=>
   have H:=A95 f;have p:=A96 f;simp only[v8,cond_true,M0,p7];cases last with
   | false=>
    simp only[cond_false];have:=e (.inr (.inl rfl));simp only[f,M0] at this;exact this
   | true=>
    simp only[cond_true];by_cases K:r=0
    ·have j:l.drop (i+1)=[]:=j1 (by omega);have o:((i:Int)==(l.length:Int)-1)=true:=by rw[beq_iff_eq];omega
     rw[o,p,j];simp only[cond_true,and_self,if_true,j2];refine⟨λq a=>?_,λh=>(by cases h)⟩;subst a;rw[show(16:Int)=((16:Nat):Int) from rfl,Qp .u32 v 16 (by decide)];have w:Db ((v / 2 ^ 16:Nat):Int)=((v / 65536:Nat):Int):=Jh;have A:Db (v:Int)=((v % 65536:Nat):Int):=Aj6 v;rw[w,A];have c:C9 d++[[SV.int .u16 ((v / 65536:Nat):Int)],[SV.int .u16 ((v % 65536:Nat):Int)]]=C9 (d++[v / 65536,v % 65536]):=by rw[Kl];rfl
     rw[c];have G:0<n:=by omega
     exact(y (i+1) n (d++[v / 65536,v % 65536]) (by omega) (by omega) (by simp<;>omega)).1 [] (by rw[j];rfl) |>.trans (by simp)
    ·have u:l.drop (i+1)≠[]:=by
      rw[Ja l (i+1) (by omega)];simp
     have o:((i:Int)==(l.length:Int)-1)=false:=by rw[beq_eq_false_iff_ne];omega
     rw[o];simp only[cond_false];have:=e (.inr (.inr u));simp only[f,M0] at this;exact this
theorem A11(s:By)(last:Bool)(f:A3 s.length=true):∃r H,Ab5 LF s last (λl=>rv (.tup [.fl 0,.s (.bool true)]) [.arr true 24 1 l]) (λl=>rv (.tup [.fl 1,.s (.bool false)]) [.arr true 24 1 l,.arr true 24 1 []])=rv r H/\
  r.stab [1,0] H = .tup [.s (.sl (gvs s last).isEmpty (gvs s last).isEmpty 1 (C9 (gvs s last))),.s (.bool (P0 s last).isSome)]:=by
 have d:=L6 f;have:=C2;unfold Ab5 gvs P0;by_cases c:s=[]
 ·subst c;exact⟨_,_,rfl,rfl⟩
 ·rw[show(s==([]:By))=false from beq_eq_false_iff_ne.2 c,f,if_neg c];simp only[cond_false,cond_true,vl,show u8n 58=58 from rfl];obtain⟨a,b⟩:=A10 (k0:=λl=>rv (.tup [.fl 1,.s (.bool false)]) [.arr true 24 1 l,.arr true 24 1 []]) (k1:=λl=>rv (.tup [.fl 0,.s (.bool true)]) [.arr true 24 1 l]) last (pcs 58 s) (Y1 58 d) (λx h=>ak3 (Df h).2 d) (pcs 58 s).length 0 LF [] (by omega) (by have:=Y1 58 d;omega) (by simp);rw[j9] at a b;cases g:Dp last (pcs 58 s) with
  | some q=>
   refine⟨_,_,a q g,?_⟩;simp[PV.stab,Of,Qu,PV.snap,L3,Xl]
  | none=>
   obtain⟨i,e⟩:=b g;refine⟨_,_,e,?_⟩;simp[PV.stab,Of,Qu,PV.snap,L3,C9]
theorem Cs7{j:Type}{W:List j}(h:W.length=8):∃a b c d e f g i,W=[a,b,c,d,e,f,g,i]:=by
 match W,h with
 | [a,b,c,d,e,f,g,i],_=>exact⟨a,b,c,d,e,f,g,i,rfl⟩
def r8(n:Nat):LL:=b9 n [SV.int .u16 0]
theorem Ay4(n:Nat):r8 n=C9 (b9 n 0):=by simp[r8,C9]
theorem IA{s:By}{last:Bool}{q:List Nat}(h:P0 s last=some q):gvs s last=q:=by unfold gvs;rw[h];rfl
theorem Cp2(s:By):(ab6 s [58,58]).1.length<=s.length/\(ab6 s [58,58]).2.1.length<=s.length:=by unfold ab6;grind
theorem Bk0{R:Type}{K:LL->LL->Option R}(X Y:List Nat)(h:X.length+Y.length<=8) :
  Pe (C9 X) (C9 Y) (r8 8) K=K (C9 (X++b9 (8-X.length-Y.length) 0++Y)) (C9 (X++b9 (8-X.length-Y.length) 0++Y)):=by
 unfold Pe;have n:(ac4 0 (r8 8)++(ac4 8 (C9 X)++ad0 (0+min (C9 X).length 8) (r8 8)))=C9 (X++b9 (8-X.length) 0):=by
  rw[G6,ah1 (show X.length<=8 by omega),p6 (l:=C9 X) (i:=8) (by rw[G6];omega),Kl,ag8,Ay4,ad4,p5];unfold C9;rw[<-ai5,List.drop_replicate]
 have m:A1 (8-(Y.length:Int))=((8-Y.length:Nat):Int):=by rw[A7];omega
 have o:(C9 (X++b9 (8-X.length) 0)).length=8:=by simp[G6]<;>omega
 have j:(ac4 (8-Y.length) (C9 (X++b9 (8-X.length) 0))++(ac4 (8-(8-Y.length)) (C9 Y)++ad0 (8-Y.length+min Y.length (8-(8-Y.length))) (C9 (X++b9 (8-X.length) 0))))=C9 (X++b9 (8-X.length-Y.length) 0++Y):=by
  rw[j1 (by rw[o];omega),p6 (l:=C9 Y) (by rw[G6];omega),Kl (X++_) Y,s7]
  congr 1
  unfold C9;rw[<-am9,List.take_append,p6 (by omega),List.take_replicate];grind
 have k:(X++b9 (8-X.length-Y.length) 0++Y).length=8:=by simp<;>omega
 simp only[vl];rw[n];simp only[G6,m,c9];rw[j];simp only[G6];rw[show(r8 8).length=8 from rfl,show o0 (X++b9 (8-X.length) (0:Nat))=8 by simp<;>omega,H9,decide_eq_true (show 8-Y.length+(8-(8-Y.length))<=8 by omega)];simp only[decide_true,cond_true,af0,k];generalize (X++b9 (8-X.length-Y.length) 0++Y)=W at *;obtain⟨a,b,c,d,e,f,g,i,rfl⟩:=Cs7 k;rfl
theorem Ck1{R:Type}{k0:Int->Int->Int->Int->Int->Int->Int->Int->Bool->LL->LL->Option R}(s:By)(r:A3 s.length=true) :
  ∃l q,v6p LF s k0=k0 (v6c 0 s) (v6c 1 s) (v6c 2 s) (v6c 3 s) (v6c 4 s) (v6c 5 s) (v6c 6 s) (v6c 7 s) (v6B s).isSome l q:=by
 have C:=L6 r;have w:=Cp2 s;unfold v6p v6c;rw[r];have bad:∀(h:v6B s=none),k0 0 0 0 0 0 0 0 0 false (r8 8) (r8 8)=k0 ((((v6B s).getD z8).getD 0 0:Nat):Int) ((((v6B s).getD z8).getD 1 0:Nat):Int) ((((v6B s).getD z8).getD 2 0:Nat):Int) ((((v6B s).getD z8).getD 3 0:Nat):Int) ((((v6B s).getD z8).getD 4 0:Nat):Int) ((((v6B s).getD z8).getD 5 0:Nat):Int) ((((v6B s).getD z8).getD 6 0:Nat):Int) ((((v6B s).getD z8).getD 7 0:Nat):Int) (v6B s).isSome (r8 8) (r8 8):=by
  intro h;rw[h];rfl
 simp (disch:=omega) only[cond_true,vl,E0];have j:v6B s=match P0 (ab6 s [58,58]).1 (!(ab6 s [58,58]).2.2),P0 (ab6 s [58,58]).2.1 true with
  | some x,some y=>if (ab6 s [58,58]).2.2 then (if x.length+y.length<=7 then some (x++b9 (8-x.length-y.length) 0++y) else none)
   else if x.length+y.length=8 then some (x++y) else none
  | _,_=>none:=rfl
 generalize (ab6 s [58,58]).1=A at *;generalize (ab6 s [58,58]).2.1=B at *;generalize (ab6 s [58,58]).2.2=o at *;cases k:P0 A (!o) with
 | none=>exact⟨_,_,bad (by rw[j,k])⟩
 | some X=>
  cases m:P0 B true with
  | none=>exact⟨_,_,bad (by rw[j,k,m])⟩
  | some Y=>
   have u:X.length<=2000000002:=by
    unfold P0 at k;split at k
    ·grind
    ·have:=Jr _ _ _ k;have:=Y1 58 (s:=A) (by omega);omega
   have v:Y.length<=2000000002:=by
    unfold P0 at m;split at m
    ·grind
    ·have:=Jr _ _ _ m;have:=Y1 58 (s:=B) (by omega);omega
   rw[k,m] at j;simp only[IA k,IA m,G6,v8,j0,cond_false];rw[A7];have n:∀(W:List Nat),W.length=8->v6B s=some W->∃l q,(cond ((decide (8=(C9 W).length*1))&&(okS ⟨true,true,[.int .u16,.int .u16,.int .u16,.int .u16,.int .u16,.int .u16,.int .u16,.int .u16]⟩ (ab8 (C9 W)) 0))
     (k0 (SV.gI (o6 (ab8 (C9 W)) 0 SV.nilp)) (SV.gI (o6 (ab8 (C9 W)) 1 SV.nilp)) (SV.gI (o6 (ab8 (C9 W)) 2 SV.nilp)) (SV.gI (o6 (ab8 (C9 W)) 3 SV.nilp)) (SV.gI (o6 (ab8 (C9 W)) 4 SV.nilp)) (SV.gI (o6 (ab8 (C9 W)) 5 SV.nilp)) (SV.gI (o6 (ab8 (C9 W)) 6 SV.nilp)) (SV.gI (o6 (ab8 (C9 W)) 7 SV.nilp)) true (C9 W) (C9 W)) none) =
     k0 ((((v6B s).getD z8).getD 0 0:Nat):Int) ((((v6B s).getD z8).getD 1 0:Nat):Int) ((((v6B s).getD z8).getD 2 0:Nat):Int) ((((v6B s).getD z8).getD 3 0:Nat):Int) ((((v6B s).getD z8).getD 4 0:Nat):Int) ((((v6B s).getD z8).getD 5 0:Nat):Int) ((((v6B s).getD z8).getD 6 0:Nat):Int) ((((v6B s).getD z8).getD 7 0:Nat):Int) (v6B s).isSome l q:=by
    intro W t h;rw[h];obtain⟨a,b,c,d,e,f,g,i,rfl⟩:=Cs7 t;exact⟨_,_,rfl⟩
   cases o with
   | false=>
    simp only[b8,cond_true,v7,if_false] at j ⊢;by_cases p:X.length+Y.length=8
    ·rw[if_pos p] at j;rw[show((X.length:Int)+(Y.length:Int)!=8)=false by simp;omega];simp only[cond_false];rw[show(b9 8 [SV.int ah4 0])=r8 8 from rfl,Bk0 X Y (by omega)];have z:8-X.length-Y.length=0:=by omega
     rw[z];simp only[List.replicate_zero,s7];exact n (X++Y) (by simp<;>omega) j
    ·rw[if_neg p] at j;rw[show((X.length:Int)+(Y.length:Int)!=8)=true by simp;omega];exact⟨_,_,bad j⟩
   | true=>
    simp only[j0,cond_false,cond_true,if_true] at j ⊢;by_cases p:X.length+Y.length<=7
    ·rw[if_pos p] at j;rw[A6];simp only[cond_false];rw[show(b9 8 [SV.int ah4 0])=r8 8 from rfl,Bk0 X Y (by omega)];exact n _ (by simp<;>omega) j
    ·rw[if_neg p] at j;rw[A8];exact⟨_,_,bad j⟩
theorem VU(P T:List Nat)(t v:Nat):ah6 (C9 (P++t::T)) P.length (F8 (o6 (C9 (P++t::T)) P.length []) 0 [SV.int .u16 (v:Int)])=C9 (P++v::T):=by
 have a:o6 (C9 (P++t::T)) P.length []=[SV.int .u16 (t:Int)]:=by
  simp[C9,a8]
 rw[a];simp only[F8,List.set_cons_zero];simp[C9]
theorem Ch3(X T:List Nat)(i:Nat)(h:i<X.length):X.take (i+1)++T=X.take i++X.getD i 0::T:=by rw[ak0,j4 h,a8,j4 h,p9];rfl
theorem Db1{R:Type}{k0:LL->LL->Option R}(z:Bool)(X:List Nat)(h:X.length=8)(c:LL):∀(r i n:Nat),i+r=8->r<n->Me LF n z (C9 X) (i:Int) c (C9 (X.take i++b9 r 0)) k0=k0 c (C9 X):=by
 intro r
 induction r with
 | zero=>
  intro i n d f;obtain⟨n,rfl⟩:∃m,n=m+1:=⟨n-1,by omega⟩
  rw[Me];rw[A6,p6 (by omega)];simp
 | succ r g=>
  intro i n d f;obtain⟨n,rfl⟩:∃m,n=m+1:=⟨n-1,by omega⟩
  rw[Me];have a:((i:Int)+1)=((i+1:Nat):Int):=by omega
  have e:(X.take i).length=i:=by rw[p4];omega
  have b:=VU (X.take i) (b9 r 0) 0 (X.getD i 0);rw[e] at b;simp (disch:=first|omega|(simp[G6];omega)) only[B5,G6,J6,cond_true,c9,Lp,Sv,vl,C6,ai3,b];rw[decide_eq_true (show i<o0 (X.take i++(0:Nat)::b9 r (0:Nat)) by simp<;>omega),a];simp only[cond_true];have:=g (i+1) n (by omega) (by omega);rw[Ch3 X _ i (by omega)] at this;exact this
theorem Db2{R:Type}{k0:Bool->LL->LL->LL->Option R}(z:Bool)(X:List Nat)(k:X.length<=8)(e:Bool)(d c:LL):∀(r i n:Nat),i+r=X.length->r<n->Mg LF n z (C9 X) e d (i:Int) c (C9 (X.take i++b9 (8-i) 0)) k0=k0 e d c (C9 (X++b9 (8-X.length) 0)):=by
 intro r
 induction r with
 | zero=>
  intro i n f h;obtain⟨n,rfl⟩:∃m,n=m+1:=⟨n-1,by omega⟩
  rw[Mg];rw[G6,A6,p6 (by omega),show i=X.length by omega];rfl
 | succ r j=>
  intro i n f h;obtain⟨n,rfl⟩:∃m,n=m+1:=⟨n-1,by omega⟩
  rw[Mg];have a:((i:Int)+1)=((i+1:Nat):Int):=by omega
  have g:(X.take i).length=i:=by rw[p4];omega
  have b:=VU (X.take i) (b9 (7-i) 0) 0 (X.getD i 0);rw[g] at b;rw[show 8-i=7-i+1 by omega,ai3];simp (disch:=first|omega|(simp[G6];omega)) only[B5,G6,J6,cond_true,c9,Lp,Sv,vl,C6,b];rw[decide_eq_true (show i<o0 (X.take i++(0:Nat)::b9 (7-i) (0:Nat)) by simp<;>omega),a];simp only[cond_true];have:=j (i+1) n (by omega) (by omega);rw[Ch3 X _ i (by omega),show 8-(i+1)=7-i by omega] at this;exact this
theorem Db3{R:Type}{k0:LL->LL->Option R}(z:Bool)(Y P:List Nat)(o:P.length+Y.length=8)(e:LL):∀(r i n:Nat) (T:List Nat),i+r=Y.length->r<n->T.length=r->Mh LF n z (C9 Y) (i:Int) e (C9 (P++Y.take i++T)) k0=k0 e (C9 (P++Y)):=by
 intro r
 induction r with
 | zero=>
  intro i n T h k a;obtain⟨n,rfl⟩:∃m,n=m+1:=⟨n-1,by omega⟩
  rw[Mh];rw[G6,A6,p6 (by omega),o5.1 a];simp
 | succ r l=>
  intro i n T h k a;obtain⟨n,rfl⟩:∃m,n=m+1:=⟨n-1,by omega⟩
  obtain⟨t,T,rfl⟩:∃t b,T=t::b:=by
   match T,a with
   | t::b,_=>exact⟨t,b,rfl⟩
  rw[Mh];have c:((i:Int)+1)=((i+1:Nat):Int):=by omega
  have j:(P++Y.take i).length=P.length+i:=by simp<;>omega
  have d:=VU (P++Y.take i) T t (Y.getD i 0);rw[j] at d;have f:A1 (8-(Y.length:Int))=(P.length:Int):=by rw[A7];omega
  have g:A1 ((P.length:Int)+(i:Int))=((P.length+i:Nat):Int):=by rw[A7];rfl
  simp (disch:=first|omega|(simp[G6];omega)) only[B5,G6,J6,cond_true,c9,Lp,Sv,vl,f,g,C6,d];rw[decide_eq_true (show P.length+i<o0 (P++Y.take i++t::T) by simp<;>omega),c];simp only[cond_true];have:=l (i+1) n T (by omega) (by omega) (by simpa using a);rw[p9,Ch3 Y _ i (by omega),<-p9] at this;exact this
theorem Bv9{R:Type}{k0:Int->Int->Int->Int->Int->Int->Int->Int->Bool->LL->LL->Option R}(s:By)(B:A3 s.length=true) :
  ∃l L,Cg1 LF s k0=k0 (v6c 0 s) (v6c 1 s) (v6c 2 s) (v6c 3 s) (v6c 4 s) (v6c 5 s) (v6c 6 s) (v6c 7 s) (v6B s).isSome l L:=by
 have M:=L6 B;have F:=C2;unfold Cg1 v6c;rw[B];have bad:∀(h:v6B s=none),k0 0 0 0 0 0 0 0 0 false (r8 8) (r8 8)=k0 ((((v6B s).getD z8).getD 0 0:Nat):Int) ((((v6B s).getD z8).getD 1 0:Nat):Int) ((((v6B s).getD z8).getD 2 0:Nat):Int) ((((v6B s).getD z8).getD 3 0:Nat):Int) ((((v6B s).getD z8).getD 4 0:Nat):Int) ((((v6B s).getD z8).getD 5 0:Nat):Int) ((((v6B s).getD z8).getD 6 0:Nat):Int) ((((v6B s).getD z8).getD 7 0:Nat):Int) (v6B s).isSome (r8 8) (r8 8):=by
  intro h;rw[h];rfl
 have j:v6B s=match P0 (ab6 s [58,58]).1 (!(ab6 s [58,58]).2.2),P0 (ab6 s [58,58]).2.1 true with
  | some x,some y=>if (ab6 s [58,58]).2.2 then (if x.length+y.length<=7 then some (x++b9 (8-x.length-y.length) 0++y) else none)
   else if x.length+y.length=8 then some (x++y) else none
  | _,_=>none:=rfl
 have J:=Lib.index_room s [58,58];have I:=ao2 s [58,58];simp only[cond_true];by_cases C:HL s<0
 ·have n:ab6 s [58,58]=(s,[],false):=by
   unfold ab6;rw[if_neg (by unfold HL at C;omega)]
  rw[n] at j;simp only[b8,v7,if_false] at j;rw[B5 C];simp only[cond_true];cases m:P0 s true with
  | none=>
   rw[m] at j;exact⟨_,_,bad j⟩
  | some X=>
   have o:P0 [] true=some []:=rfl;have A:X.length<=2000000002:=by
    unfold P0 at m;split at m
    ·cases m;simp
    ·have:=Jr _ _ _ m;have:=Y1 58 (s:=s) (by omega);omega
   rw[m,o] at j;simp only[y9,ak2,s7] at j;simp only[v8,j0,cond_false,IA m,G6];by_cases p:X.length=8
   ·rw[if_pos p] at j;rw[show((X.length:Int)!=8)=false by simp;omega];simp only[cond_false];rw[show(b9 8 [SV.int ah4 0])=r8 8 from rfl];have h:=λK=>Db1 (R:=R) (k0:=K) X.isEmpty X p (r8 8) 8 0 LF (by omega) (by omega)
    simp only[ad4,p5] at h;rw[<-Ay4] at h;rw[show((0:Nat):Int)=0 from rfl] at h;rw[h];rw[j];clear h j m bad;obtain⟨a,b,c,d,e,f,g,i,rfl⟩:=Cs7 p;exact⟨_,_,rfl⟩
   ·rw[if_neg p] at j;rw[show((X.length:Int)!=8)=true by simp;omega];exact⟨_,_,bad j⟩
 ·have r:0<=HL s:=by omega
  have q:=J r;obtain⟨k,t⟩:=j8 r;have w:k+2<=s.length:=by
   have:HL s+2<=(s.length:Int):=q;omega
  have n:ab6 s [58,58]=(s.take k,s.drop (k+2),true):=by
   unfold ab6;have:aa3 s [58,58]=(k:Int):=t;rw[R9,this];rfl
  rw[n] at j;simp only[j0,if_true] at j;have D:A1 ((k:Int)+2)=((k+2:Nat):Int):=by rw[A7];rfl
  rw[t,A6,H9];simp only[cond_false,cond_true,vl,D,J8,P8,c9];rw[E0 (by simp<;>omega),H9,E0 (by simp<;>omega)];simp only[cond_true];cases m:P0 (s.take k) false with
  | none=>
   rw[m] at j;exact⟨_,_,bad j⟩
  | some X=>
   cases o:P0 (s.drop (k+2)) true with
   | none=>
    rw[m,o] at j;exact⟨_,_,bad j⟩
   | some Y=>
    have A:X.length<=2000000002:=by
     unfold P0 at m;split at m
     ·cases m;simp
     ·have:=Jr _ _ _ m;have:=Y1 58 (s:=s.take k) (by simp<;>omega);omega
    have H:Y.length<=2000000002:=by
     unfold P0 at o;split at o
     ·cases o;simp
     ·have:=Jr _ _ _ o;have:=Y1 58 (s:=s.drop (k+2)) (by simp<;>omega);omega
    rw[m,o] at j;simp only[v8,j0,cond_false,IA m,IA o,G6];rw[A7];by_cases p:X.length+Y.length<=7
    ·simp only[if_pos p] at j;rw[A6];simp only[cond_false];rw[show(b9 8 [SV.int ah4 0])=r8 8 from rfl];have v:=λK=>Db2 (R:=R) (k0:=K) X.isEmpty X (by omega) Y.isEmpty (C9 Y) (r8 8) X.length 0 LF (by omega) (by omega)
     simp only[ad4,p5] at v;rw[show(8-0:Nat)=8 from rfl,<-Ay4,show((0:Nat):Int)=0 from rfl] at v;rw[v];have u:X++b9 (8-X.length) 0=(X++b9 (8-X.length-Y.length) 0)++ac4 0 Y++b9 Y.length 0:=by
      simp only[ad4,s7,p9];rw[List.replicate_append_replicate]
      congr 2
      omega
     have z:=λK=>Db3 (R:=R) (k0:=K) Y.isEmpty Y (X++b9 (8-X.length-Y.length) 0) (by simp<;>omega) (r8 8) Y.length 0 LF (b9 Y.length 0) (by omega) (by omega) (by simp)
     rw[<-u,show((0:Nat):Int)=0 from rfl] at z;rw[z];rw[j];have G:o0 (X++b9 (8-X.length-Y.length) 0++Y)=8:=by simp<;>omega
     clear v z u j m o bad;generalize (X++b9 (8-X.length-Y.length) 0++Y)=W at *;obtain⟨a,b,c,d,e,f,g,i,rfl⟩:=Cs7 G;exact⟨_,_,rfl⟩
    ·simp only[if_neg p] at j;rw[A8];exact⟨_,_,bad j⟩
theorem Ad8{x:Nat}{r:List Nat}:Ov (x::r)=if x=0 then Ov r+1 else 0:=by unfold Ov;by_cases h:x=0<;>simp[h]
theorem VO(l:List Nat):Ov l<=l.length:=by unfold Ov;exact(List.takeWhile_sublist _).length_le
theorem Cn6{R:Type}{k0:Int->Int->Int->Int->LL->Option R}(W:List Nat)(l:W.length=8)(b a:Int)(i:Nat):∀(r j n:Nat),i+j+r=8->r<n->
  Hj LF n b a (i:Int) (j:Int) (C9 W) k0=k0 b a (i:Int) ((j+Ov (W.drop (i+j)):Nat):Int) (C9 W):=by
 intro r
 induction r with
 | zero=>
  intro j n f g;obtain⟨n,rfl⟩:∃m,n=m+1:=⟨n-1,by omega⟩
  rw[Hj];rw[A7,A6,j1 (by omega)];rfl
 | succ r k=>
  intro j n f g;obtain⟨n,rfl⟩:∃m,n=m+1:=⟨n-1,by omega⟩
  rw[Hj];have c:A1 ((i:Int)+(j:Int))=((i+j:Nat):Int):=by rw[A7];rfl
  have d:A1 ((j:Int)+1)=((j+1:Nat):Int):=by rw[A7];rfl
  have e:W.drop (i+j)=W.getD (i+j) 0::W.drop (i+(j+1)):=by
   rw[a8,j4 (by omega),p7,<-an0,y7]
  simp (disch:=first|omega|(simp[G6];omega)) only[c,d,B5,J6,cond_true,c9,Lp,Sv,vl];rw[e,Ad8];by_cases h:W.getD (i+j) 0=0
  ·rw[h,if_pos rfl,show(((0:Nat):Int)==0)=true from rfl,cond_true,k (j+1) n (by omega) (by omega)]
   congr 2
   omega
  ·rw[if_neg h,show(((W.getD (i+j) 0:Nat):Int)==0)=false by rw[beq_eq_false_iff_ne];omega];rfl
theorem B03{R:Type}{k0:Int->Int->LL->Option R}(W:List Nat)(f:W.length=8):∀(r i n z m:Nat),i+r=8->r<n->z<=8->m<=8->
  Dz LF n (z:Int) (m:Int) (i:Int) (C9 W) k0=k0 ((zGo (W.drop i) i z m).1:Nat) ((zGo (W.drop i) i z m).2:Nat) (C9 W):=by
 intro r
 induction r with
 | zero=>
  intro i n z m j o c l;obtain⟨n,rfl⟩:∃m,n=m+1:=⟨n-1,by omega⟩
  rw[Dz];rw[A6,j1 (by omega)];rfl
 | succ r d=>
  intro i n z m j o c l;obtain⟨n,rfl⟩:∃m,n=m+1:=⟨n-1,by omega⟩
  have e:=C2;rw[Dz];have a:=λK=>Cn6 (R:=R) (k0:=K) W f (z:Int) (m:Int) i r.succ 0 LF (by omega) (by omega)
  rw[show((0:Nat):Int)=0 from rfl] at a;simp only[ag8,ak2] at a;rw[A8,cond_true,a];have g:W.drop i=W.getD i 0::W.drop (i+1):=by
   rw[a8,j4 (by omega),p7,y7]
  have k:=VO (W.drop i);rw[j6] at k;have b:A1 ((i:Int)+1)=((i+1:Nat):Int):=by rw[A7];rfl
  rw[b];have c:zGo (W.drop i) i z m=if m<Ov (W.drop i) then zGo (W.drop (i+1)) (i+1) i (Ov (W.drop i)) else zGo (W.drop (i+1)) (i+1) z m:=by
   rw[g];rfl
  rw[c];by_cases h:m<Ov (W.drop i)
  ·rw[if_pos h,A8,cond_true];exact d (i+1) n i (Ov (W.drop i)) (by omega) (by omega) (by omega) (by omega)
  ·rw[if_neg h,A6,cond_false];exact d (i+1) n z m (by omega) (by omega) (by omega) (by omega)
theorem Qc{a b c d e f g i:Int}(h:ok8 a b c d e f g i=true):∃j k l m n o p q:Nat,a=j/\b=k/\c=l/\d=m/\e=n/\f=o/\g=p/\i=q/\j<65536/\k<65536/\l<65536/\m<65536/\n<65536/\o<65536/\p<65536/\q<65536:=by simp only[ok8,ac2,List.all_nil,ac8,o8,D9] at h;exact⟨a.toNat,b.toNat,c.toNat,d.toNat,e.toNat,f.toNat,g.toNat,i.toNat,by omega,by omega,by omega,by omega,by omega,by omega,by omega,by omega,by omega,by omega,by omega,by omega,by omega,by omega,by omega,by omega⟩
theorem Ba7{R:Type}{j:Int->Int->LL->Option R}(a b c d e f g i:Int)(t:ok8 a b c d e f g i=true):Bl3 LF a b c d e f g i j=j ((zGo (n8 a b c d e f g i) 0 0 0).1:Nat) ((zGo (n8 a b c d e f g i) 0 0 0).2:Nat) (C9 (n8 a b c d e f g i)):=by obtain⟨k,l,m,n,o,p,q,r,rfl,rfl,rfl,rfl,rfl,rfl,rfl,rfl,h⟩:=Qc t;have:=C2;unfold Bl3;exact B03 [k,l,m,n,o,p,q,r] rfl 8 0 LF 0 0 rfl (by omega) (by omega) (by omega)
theorem Gj{n:Nat}(h:n<16):R2 n=[Qv n]:=by rw[R2,dif_pos h]
theorem Fk{n:Nat}(h:¬n<16):R2 n=R2 (n / 16)++[Qv (n % 16)]:=by rw[R2,dif_neg h]
theorem IB:∀n:Nat,n<65536->1<=(R2 n).length/\(R2 n).length<=4:=by
 intro n d;by_cases a:n<16
 ·rw[Gj a];simp
 rw[Fk a];by_cases b:n / 16<16
 ·rw[Gj b];simp
 rw[Fk b];by_cases c:n / 16 / 16<16
 ·rw[Gj c];simp
 rw[Fk c,Gj (show n / 16 / 16 / 16<16 by omega)];simp
theorem Bf2(d:Nat)(h:d<16):Qv d≠58:=by
 have:∀d:Fin 16,Qv d.val≠58:=by decide
 exact this ⟨d,h⟩
theorem Bn4(n:Nat):∃p d,R2 n=p++[d]/\d≠58:=by
 by_cases a:n<16
 ·exact⟨[],_,by rw[Gj a];rfl,Bf2 n a⟩
 ·exact⟨_,_,Fk a,Bf2 _ (by omega)⟩
theorem B76(d:Nat)(h:d<16):cut ([48,49,50,51,52,53,54,55,56,57,97,98,99,100,101,102]:By) (d:Int) ((d+1:Nat):Int)=[Qv d]:=by
 have:∀d:Fin 16,(([48,49,50,51,52,53,54,55,56,57,97,98,99,100,101,102]:By).take (d.val+1)).drop d.val=[Qv d.val]:=by decide
 rw[Ek];exact this ⟨d,h⟩
theorem A13{R:Type}{c:By->Option R}:∀(v n:Nat) (s:By),v<65536->v+1<n->s.length+v<=70000->(0<v\/s=[])->
  Ae LF n s (v:Int) c=c (R2 v++s):=by
 intro v
 induction v using ah2 with
 | _ v q=>
  intro n s w r u h;obtain⟨n,rfl⟩:∃m,n=m+1:=⟨n-1,by omega⟩
  have l:ae8 (v:Int) 16=((v % 16:Nat):Int):=Bx v 16;have k:ac3 (v:Int) 16=((v / 16:Nat):Int):=L1 v 16;have i:Db (((v % 16:Nat):Int)+1)=((v % 16+1:Nat):Int):=by rw[Jh];rfl
  have j:Db ((v / 16:Nat):Int)=((v / 16:Nat):Int):=Jh;have last:∀(m:Nat) (t:By),t≠[]->Ae LF (m+1) t 0 c=c t:=by
   intro m t o;rw[Ae];rw[A6,show(t==([]:By))=false from beq_eq_false_iff_ne.2 o];rfl
  have a:(vl (Db ((ae8 (v:Int) 16)+1)) λd=>
    cond (I2 (ae8 (v:Int) 16) d 16)
    (vl (cut (([48,49,50,51,52,53,54,55,56,57,97,98,99,100,101,102]:List UInt8)) (ae8 (v:Int) 16) d) λe=>
     cond (E5 (o0 e) (o0 s))
     (vl (Db (ac3 (v:Int) 16)) λg=>Ae LF n (e++s) g c) none) none)=c (R2 v++s):=by
   simp only[vl,l,k,i,j];rw[H9,B76 _ (by omega),G2 (by simp;omega)];simp only[cond_true];by_cases b:v<16
   ·rw[Gj b,Nat.mod_eq_of_lt b,show v / 16=0 by omega];obtain⟨n,rfl⟩:∃m,n=m+1:=⟨n-1,by omega⟩
    exact last n _ (by simp)
   ·rw[q (v / 16) (by omega) n _ (by omega) (by omega) (by simp;omega) (.inl (by omega)),Fk b];simp
  rw[Ae];by_cases p:0<v
  ·rw[A8,cond_true];exact a
  ·have f:s=[]:=by rcases h with h|h;omega;exact h
   rw[A6,cond_false,show(s==([]:By))=true by simpa using f,cond_true];exact a
theorem A14{R:Type}{b:By->Option R}(v:Int)(c:ltN v 65536=true):Bi0 LF v b=b (R2 v.toNat):=by obtain⟨a,d⟩:=D9.1 c;obtain⟨m,rfl⟩:=j8 a;have:=C2;unfold Bi0;refine j7 (A13 m LF [] (by omega) (by omega) (by simp<;>omega) (.inr rfl)) ?_;grind
theorem VC{R:Type}{c:Int->Option R}{d:Unit->Option R}(s:By)(x:s.length<=1000000000):∀(r i n:Nat),i+r=s.length->r<n->
  T6 LF n s (i:Int) c d=if aa3 (s.drop i) [58,58]=-1 then d () else c ((i:Int)+aa3 (s.drop i) [58,58]):=by
 intro r
 induction r with
 | zero=>
  intro i n q u;obtain⟨n,rfl⟩:∃m,n=m+1:=⟨n-1,by omega⟩
  rw[T6];rw[A7,A6,j1 (by omega)];rfl
 | succ r h=>
  intro i n q u;obtain⟨n,rfl⟩:∃m,n=m+1:=⟨n-1,by omega⟩
  rw[T6];have f:A1 ((i:Int)+1)=((i+1:Nat):Int):=by rw[A7];rfl
  rw[f];by_cases t:i+1<s.length
  ·have h:=h (i+1) n (by omega) (by omega);rw[D2 s i (by omega)];have e:=D2 s (i+1) t;have p:=ao2 (s.drop (i+1)) [58,58];have l:aa3 (s.getD i 0::s.drop (i+1)) [58,58]=if ([58,58]:By).isPrefixOf (s.getD i 0::s.drop (i+1)) then 0 else if aa3 (s.drop (i+1)) [58,58]==-1 then -1 else aa3 (s.drop (i+1)) [58,58]+1:=by
    rw[aa3]
   have o:([58,58]:By).isPrefixOf (s.getD i 0::s.drop (i+1))=(s.getD i 0==58&&s.getD (i+1) 0==58):=by
    rw[e];simp only[ae0,ac8];rw[BEq.comm (a:=(58:UInt8)),BEq.comm (a:=(58:UInt8)) (b:=s.getD (i+1) 0)]
   have j:=P7 (s.getD i 0) 58 (by omega);have k:=P7 (s.getD (i+1) 0) 58 (by omega);rw[show((58:Nat):Int)=58 from rfl,show aa7 58=(58:UInt8) from rfl] at j k;have next:T6 LF n s ((i+1:Nat):Int) c d=if (if aa3 (s.drop (i+1)) [58,58]==-1 then (-1:Int) else aa3 (s.drop (i+1)) [58,58]+1)=-1 then d () else c ((i:Int)+(if aa3 (s.drop (i+1)) [58,58]==-1 then -1 else aa3 (s.drop (i+1)) [58,58]+1)):=by
    rw[h];by_cases g:aa3 (s.drop (i+1)) [58,58]=-1
    ·rw[g];rfl
    ·rw[if_neg g,show(aa3 (s.drop (i+1)) [58,58]==-1)=false from beq_eq_false_iff_ne.2 g];simp only[v7,if_false];rw[F9]
     congr 1
     omega
   rw[l,o,A8,E6,E6];simp only[cond_true,D0,vl,j,k];cases v:(s.getD i 0==58) with
   | false=>
    simp only[cond_false,ah3,v7,if_false];exact next
   | true=>
    cases w:(s.getD (i+1) 0==58) with
    | false=>
     simp only[cond_true,cond_false,am0,v7,if_false];exact next
    | true=>
     simp
  ·rw[A6,D2 s i (by omega),j1 (show s.length<=i+1 by omega)];have:aa3 [s.getD i 0] [58,58]=-1:=by
    rw[aa3];simp[ae0,aa3]
   rw[this];rfl
theorem VD{R:Type}{a:Int->Option R}(s:By)(b:A3 s.length=true):DU LF s a=a (HL s):=by have c:=L6 b;have:=C2;unfold DU HL;refine j7 (VC s c s.length 0 LF (by omega) (by omega)) ?_;grind
theorem Ls(n:Nat):ptI (n:Int)=U3 n:=rfl
theorem Aa7{R:Type}{a:Bool->Option R}(n:Int):UX LF n a=a (ptI n):=by
 unfold UX;by_cases h:n<0
 ·rw[B5 h];have:ptI n=false:=by
   cases n with
   | ofNat m=>exact absurd h (by simp)
   | negSucc m=>rfl
  grind
 ·obtain⟨m,rfl⟩:=j8 (show 0<=n by omega);rw[A6,Ls];unfold U3;by_cases b:1114111<m
  ·rw[A8];have:x3 m 1114111=false:=by rw[y5,ne_eq,x6];omega
   grind
  ·rw[A6];have:x3 m 1114111=true:=by rw[x6];omega
   rw[this];by_cases c:m<55296
   ·rw[A8];have:Nat.blt m 55296=true:=by rw[ai9];omega
    grind
   ·rw[A6];have e:Nat.blt m 55296=false:=by rw[y5,ne_eq,ai9];omega
    rw[e];simp only[b8,cond_true,cond_false,ae6,ac9]
    congr 1
theorem GG{d k:Nat}(h:455<d):Yu d k=Yu (d / 35) (k+36):=by rw[Yu,dif_pos h]
theorem Rv{d k:Nat}(h:¬ 455<d):Yu d k=k+36*d / (d+38):=by rw[Yu,dif_neg h]
theorem Aa2{R:Type}{k0:Int->Int->Option R}:∀(d n k:Nat),d<2305843009213693952->d<n->k+d<=4611686018427387904->
  ∃a b,a<=455/\b<=k+d/\Yu d k=b+36*a / (a+38)/\Fo LF n (d:Int) (k:Int) k0=k0 (a:Int) (b:Int):=by
 intro d
 induction d using ah2 with
 | _ d l=>
  intro n k p r q;obtain⟨n,rfl⟩:∃m,n=m+1:=⟨n-1,by omega⟩
  rw[Fo];by_cases h:455<d
  ·obtain⟨a,b,g,o,i,j⟩:=l (d / 35) (by omega) n (k+36) (by omega) (by omega) (by omega);refine⟨a,b,g,by omega,by rw[GG h];exact i,?_⟩;have e:ac3 (d:Int) 35=((d / 35:Nat):Int):=L1 d 35;have c:A1 ((d / 35:Nat):Int)=((d / 35:Nat):Int):=A7;have f:A1 ((k:Int)+36)=((k+36:Nat):Int):=by rw[A7];rfl
   rw[A8];simp only[cond_true,vl,e,c,f];exact j
  ·refine⟨d,k,by omega,by omega,Rv h,?_⟩;rw[A6];rfl
theorem Aa3{R:Type}{k0:Int->Option R}(d c:Int)(f:Bool)(z:ltN d 1152921504606846976=true)(A:ltN c 1000000=true)(B:ltI 0 c=true):IY LF d c f k0=k0 (P4 d.toNat c.toNat f:Nat):=by
 obtain⟨k,F⟩:=D9.1 z;obtain⟨j,D⟩:=D9.1 A;obtain⟨d,rfl⟩:=j8 k;obtain⟨c,rfl⟩:=j8 j;have J:=Lm.1 B;have C:=C2;have key:∀x:Nat,x<1152921504606846976->Fm LF (x:Int) (c:Int) k0=k0 ((Yu (x+x / c) 0:Nat):Int):=by
  intro x L;have G:x / c<=x:=ae1 _ _;unfold Fm;have g:ac3 (x:Int) (c:Int)=((x / c:Nat):Int):=L1 x c;generalize x / c=q at *;have h:A1 (q:Int)=(q:Int):=A7;have o:A1 ((x:Int)+(q:Int))=((x+q:Nat):Int):=by rw[A7];rfl
  rw[show((c:Int)!=0)=true by simp;omega];simp only[cond_true,vl,g,h,o];obtain⟨a,n,H,I,w,y⟩:=Aa2 (R:=R) (k0:=λb l=>vl (A1 ((36)*b)) λm=>vl (A1 (b+(38))) λe=>cond (e !=(0)) (vl (A1 (ac3 m e)) λi=>k0 (A1 (l+i))) none) (x+q) LF 0 (by omega) (by omega) (by omega);refine j7 y ?_;have K:36*a / (a+38)<=36*a:=ae1 _ _;have p:A1 (36*(a:Int))=((36*a:Nat):Int):=by rw[A7];rfl
  have r:A1 ((a:Int)+38)=((a+38:Nat):Int):=by rw[A7];rfl
  have t:ac3 ((36*a:Nat):Int) ((a+38:Nat):Int)=((36*a / (a+38):Nat):Int):=L1 _ _;have u:A1 ((36*a / (a+38):Nat):Int)=((36*a / (a+38):Nat):Int):=A7;have v:A1 ((n:Int)+((36*a / (a+38):Nat):Int))=((n+36*a / (a+38):Nat):Int):=by rw[A7];rfl
  simp only[vl,p,r,t,u,v];rw[show(((a+38:Nat):Int)!=0)=true by simp;omega,w];rfl
 unfold IY P4;rw[c9,c9];cases f with
 | true=>
  have g:ac3 (d:Int) 700=((d / 700:Nat):Int):=L1 d 700;have h:A1 ((d / 700:Nat):Int)=((d / 700:Nat):Int):=A7;simp only[cond_true,vl,g,h,if_true];exact key _ (by omega)
 | false=>
  have g:ac3 (d:Int) 2=((d / 2:Nat):Int):=L1 d 2;have h:A1 ((d / 2:Nat):Int)=((d / 2:Nat):Int):=A7;simp only[cond_false,vl,g,h,v7,if_false];exact key _ (by omega)
theorem MQ{d:Nat}(h:d<36):(Ac d).toNat=if d<26 then 97+d else 22+d:=by unfold Ac;split<;>simp<;>omega
theorem Br1{R:Type}{b:Int->Option R}(d:Int)(c:ltN d 36=true):Cu6 LF d b=b ((Ac d.toNat).toNat:Nat):=by
 obtain⟨a,e⟩:=D9.1 c;obtain⟨d,rfl⟩:=j8 a;unfold Cu6;rw[c9,MQ (by omega)];by_cases h:d<26
 ·rw[A8,if_pos h];simp only[cond_true,vl]
  congr 1
  rw[A7,L4];rfl
 ·rw[A6,if_neg h];simp only[cond_false,vl]
  congr 1
  rw[C6 (n:=48+(d:Int)) (by omega) (by omega),A7,L4];omega
theorem CV(b:UInt8):(97<=b.toNat/\b.toNat<=122/\Nf b=some (b.toNat-97))\/(65<=b.toNat/\b.toNat<=90/\Nf b=some (b.toNat-65))\/(48<=b.toNat/\b.toNat<=57/\Nf b=some (b.toNat-22))\/(¬(97<=b.toNat/\b.toNat<=122)/\¬(65<=b.toNat/\b.toNat<=90)/\¬(48<=b.toNat/\b.toNat<=57)/\Nf b=none):=by unfold Nf;grind
theorem Br9{R:Type}{g:Int->Option R}(b:Int)(h:inR b 256=true):Cb3 LF b g=g (D8 (u8n b)):=by
 simp only[inR,o8,decide_eq_true_eq] at h;have j:b=((u8n b).toNat:Int):=by
  unfold u8n;simp;omega
 generalize u8n b=c at *;subst j;have i:=c.toNat_lt;unfold Cb3 D8;simp only[Wg,Wf,vl];rcases CV c with⟨d,f,e⟩|⟨d,f,e⟩|⟨d,f,e⟩|⟨d,f,o,e⟩
 ·have a:A1 (wu8 ((c.toNat:Int)-97))=((c.toNat-97:Nat):Int):=by
   rw[L4,A7];omega
  simp (disch:=omega) only[B5,E1,j0,b8,cond_false,cond_true,a,e]
 ·have a:A1 (wu8 ((c.toNat:Int)-65))=((c.toNat-65:Nat):Int):=by
   rw[L4,A7];omega
  simp (disch:=omega) only[B5,E1,j0,b8,cond_false,cond_true,a,e]
 ·have a:A1 (A1 (wu8 ((c.toNat:Int)-48))+26)=((c.toNat-22:Nat):Int):=by
   rw[L4,C6 (n:=(c.toNat:Int)-48) (by omega) (by omega),A7];omega
  simp (disch:=omega) only[B5,E1,j0,b8,cond_false,cond_true,a,e]
 ·rw[e];by_cases k:c.toNat<48
  ·simp (disch:=omega) only[B5,E1,j0,b8,cond_false,cond_true]
  ·by_cases l:c.toNat<65
   ·simp (disch:=omega) only[B5,E1,j0,b8,cond_false,cond_true]
   ·by_cases m:c.toNat<97
    ·simp (disch:=omega) only[B5,E1,j0,b8,cond_false,cond_true]
    ·simp (disch:=omega) only[B5,E1,j0,b8,cond_false,cond_true]
theorem C00{l:LL}(h:l.all Vr=true):∃W:List Nat,l=C9 W/\(∀x∈W,x<65536):=by
 induction l with
 | nil=>exact⟨[],rfl,by simp⟩
 | cons x r c=>
  simp only[ac2,o8] at h;obtain⟨W,rfl,e⟩:=c h.2;have a:=h.1;unfold Vr at a;split at a
  ·rename_i n;obtain⟨b,d⟩:=D9.1 a;obtain⟨m,rfl⟩:=j8 b;refine⟨m::W,rfl,?_⟩;grind
  ·cases a
theorem WL{W:List Nat}(h:∀x∈W,x<65536):(C9 W).all Vr=true:=by rw[x7];intro x a;simp only[C9,ao9] at a;obtain⟨n,b,rfl⟩:=a;have:=h n b;exact Rb (v:=(n:Int)) (n:=65536) (by omega) (by omega)
theorem Uy(W:List Nat):(C9 W).map elN=W:=by
 unfold C9;rw[ae3]
 conv=>rhs;rw[<-ah5 W]
 apply ab0;intro x _;simp[elN,SV.gI]
theorem YT(l:List By):(D4 l).map elS=l:=by
 unfold D4;rw[ae3]
 conv=>rhs;rw[<-ah5 l]
 apply ab0;intro x _;simp[elS,SV.gS]
theorem Cg9(l:List By):(D4 l).all isS=true:=by rw[x7];intro x a;simp only[D4,ao9] at a;obtain⟨n,b,rfl⟩:=a;rfl
theorem Ah5{P:List Nat->Prop}(a:P [])(b:∀l x,P l->P (l++[x]))(l:List Nat):P l:=by
 have:∀r:List Nat,P r.reverse:=by
  intro r
  induction r with
  | nil=>exact a
  | cons x r c=>rw[List.reverse_cons];exact b _ _ c
 have:=this l.reverse;grind
theorem Bo5(l:List By)(x p:By)(h:l≠[]):ab7 (l++[x]) p=ab7 l p++p++x:=by
 cases l with
 | nil=>exact absurd rfl h
 | cons y r=>
  rw[ak9,am8,am8];unfold ao3;simp
theorem Jt:S8 []=[]:=rfl
theorem Zy(n:Nat):S8 [n]=R2 n:=by unfold S8;exact ao4 _ _
theorem Sy(l:List Nat)(n:Nat)(h:l≠[]):S8 (l++[n])=S8 l++[58]++R2 n:=by unfold S8;rw[af1,List.map_singleton,Bo5 _ _ _ (by simpa using h)]
theorem Ba:∀l:List Nat,(∀x∈l,x<65536)->(S8 l).length<=5*l.length:=by
 refine Ah5 ?_ ?_
 ·intro _;simp[Jt]
 ·intro l n c h;have d:=c (λx b=>h x (by simp[b]));have e:=IB n (h n (by simp));by_cases a:l=[]
  ·subst a;rw[p5,Zy];simp;omega
  ·rw[Sy l n a];simp;omega
theorem At4:∀(l:List Nat) (h:l≠[]),∃q d,S8 l=q++[d]/\d≠58:=by
 refine Ah5 ?_ ?_
 ·grind
 ·intro l n _ _;obtain⟨q,d,c,a⟩:=Bn4 n;by_cases b:l=[]
  ·subst b;exact⟨q,d,by rw[p5,Zy,c],a⟩
  ·exact⟨S8 l++[58]++q,d,by rw[Sy l n b,c];simp,a⟩
theorem Cj9{R:Type}{c:LL->Option R}(z t:Bool)(W:List Nat)(l:∀x∈W,x<65536)(p:W.length<=8):∀(r i n:Nat) (d:List By),i+r=W.length->r<n->d.length=i->
  Tz LF n z t (C9 W) (W.length:Int) (i:Int) (D4 d) c=c (D4 (d++(W.drop i).map R2)):=by
 intro r
 induction r with
 | zero=>
  intro i n d h j f;obtain⟨n,rfl⟩:∃m,n=m+1:=⟨n-1,by omega⟩
  rw[Tz];rw[A6,j1 (by omega)];simp
 | succ r k=>
  intro i n d h j f;obtain⟨n,rfl⟩:∃m,n=m+1:=⟨n-1,by omega⟩
  rw[Tz];have b:W.drop i=W.getD i 0::W.drop (i+1):=by
   rw[a8,j4 (by omega),p7,y7]
  have o:W.getD i 0<65536:=by
   rw[a8,j4 (by omega),p7];simp_all
  have e:A1 ((i:Int)+1)=((i+1:Nat):Int):=by rw[A7];rfl
  rw[b];generalize g:W.getD i 0=x at *;simp (disch:=omega) only[B5,J6,cond_true,G6,c9,Lp,Sv,vl,e,g,WW,Rb,F3,F0,show((16:Int)==16)=true from rfl];have a:D4 d++[[SV.str (R2 x)]]=D4 (d++[R2 x]):=by rw[Xi];rfl
  rw[a,k (i+1) n _ (by omega) (by omega) (by simp;omega)];simp
theorem Ck0{R:Type}{k0:By->LL->Option R}(z t:Bool)(l:LL)(c:l.all Vr=true)(a:x3 l.length 8=true):∃g,v6j LF z t l k0=k0 (S8 (l.map elN)) g:=by
 obtain⟨W,rfl,b⟩:=C00 c;have f:W.length<=8:=by rw[G6] at a;exact ab5 a
 have d:=C2;refine⟨D4 (W.map R2),?_⟩;unfold v6j;rw[G6];refine j7 (Cj9 z t W b f W.length 0 LF [] (by omega) (by omega) rfl) ?_;have e:=Ba W b;unfold S8 at e;rw[p5,j9,Cg9,YT,Uy,F3,M8,E0 (by simp;omega)];rfl
theorem XC:∀(l:List Nat) (i z m:Nat),z+m<=i+l.length->(zGo l i z m).1+(zGo l i z m).2<=i+l.length
 | [],i,z,m,h=>by simpa[zGo] using h
 | x::r,i,z,m,h=>by
  have a:=VO (x::r);simp only[zGo];simp only[k9] at h a ⊢;split
  ·have:=XC r (i+1) i (Ov (x::r)) (by omega);omega
  ·have:=XC r (i+1) z m (by omega);omega
theorem Cj8{R:Type}{k0:By->LL->Option R}(p r t u v w y A:Int)(G:ok8 p r t u v w y A=true):∃l,v6f LF p r t u v w y A k0=k0 (Nd (n8 p r t u v w y A)) l:=by
 obtain⟨a,b,c,d,e,f,g,j,rfl,rfl,rfl,rfl,rfl,rfl,rfl,rfl,h⟩:=Qc G;have C:n8 a b c d e f g j=[a,b,c,d,e,f,g,j]:=rfl;refine⟨C9 [a,b,c,d,e,f,g,j],?_⟩;unfold v6f;rw[G,C,cond_true];have o:([[SV.int .u16 (a:Int)],[SV.int .u16 (b:Int)],[SV.int .u16 (c:Int)],[SV.int .u16 (d:Int)],[SV.int .u16 (e:Int)],[SV.int .u16 (f:Int)],[SV.int .u16 (g:Int)],[SV.int .u16 (j:Int)]]:LL)=C9 [a,b,c,d,e,f,g,j]:=rfl;rw[o];have B:∀x∈[a,b,c,d,e,f,g,j],x<65536:=by simp_all
 have n:[a,b,c,d,e,f,g,j].length=8:=rfl;have k:=XC [a,b,c,d,e,f,g,j] 0 0 0 (by simp);unfold Nd;generalize [a,b,c,d,e,f,g,j]=W at *;generalize zGo W 0 0 0=q at *;obtain⟨z,m⟩:=q;rw[n] at k;simp only[vl] at k ⊢;have N:∀i,(C9 W).take i=C9 (W.take i):=λi=>by unfold C9;rw[am9]
 have J:∀i,(C9 W).drop i=C9 (W.drop i):=λi=>by unfold C9;rw[ai5]
 by_cases I:m<2
 ·rw[if_pos I,A8,cond_true,WL B,Uy];rfl
 ·have K:A1 ((z:Int)+(m:Int))=((z+m:Nat):Int):=by rw[A7];rfl
  have hA:∀x∈W.take z,x<65536:=λx D=>B x (ad3 D)
  have H:∀x∈W.drop (z+m),x<65536:=λx D=>B x (ae9 D)
  have O:=Ba _ hA;have P:=Ba _ H;have L:(W.take z).length<=8:=by rw[p4];omega
  have M:(W.drop (z+m)).length<=8:=by rw[j6];omega
  rw[if_neg I,A6,cond_false,H9,K];simp only[c9,Nat.sub_zero];rw[N,J,WL hA,Uy,G6,aa2 L,G2 (by omega),H9];have F:(C9 (W.drop (z+m))).take (8-(z+m))=C9 (W.drop (z+m)):=p6 (by rw[G6,j6];omega);rw[F,WL H,Uy,G6,aa2 M,G2 (by simp;omega)];simp
theorem Cy9{R:Type}{k0:Int->Int->Int->Int->LL->Option R}(W:List Nat)(l:W.length=8)(b a:Int)(i:Nat):∀(r j n:Nat),i+j+r=8->r<n->
  Md LF n b a (i:Int) (j:Int) (C9 W) k0=k0 b a (i:Int) ((j+Ov (W.drop (i+j)):Nat):Int) (C9 W):=by
 intro r
 induction r with
 | zero=>
  intro j n f g;obtain⟨n,rfl⟩:∃m,n=m+1:=⟨n-1,by omega⟩
  rw[Md];rw[A7,A6,j1 (by omega)];rfl
 | succ r k=>
  intro j n f g;obtain⟨n,rfl⟩:∃m,n=m+1:=⟨n-1,by omega⟩
  rw[Md];have c:A1 ((i:Int)+(j:Int))=((i+j:Nat):Int):=by rw[A7];rfl
  have d:A1 ((j:Int)+1)=((j+1:Nat):Int):=by rw[A7];rfl
  have e:W.drop (i+j)=W.getD (i+j) 0::W.drop (i+(j+1)):=by
   rw[a8,j4 (by omega),p7,<-an0,y7]
  simp (disch:=first|omega|(simp[G6];omega)) only[c,d,B5,J6,cond_true,c9,Lp,Sv,vl];rw[e,Ad8];by_cases h:W.getD (i+j) 0=0
  ·rw[h,if_pos rfl,show(((0:Nat):Int)==0)=true from rfl,cond_true,k (j+1) n (by omega) (by omega)]
   congr 2
   omega
  ·rw[if_neg h,show(((W.getD (i+j) 0:Nat):Int)==0)=false by rw[beq_eq_false_iff_ne];omega];rfl
def RR(z m:Nat)(a b:Int):Prop:=(2<=m/\a=z/\b=m)\/(m<2/\a=-1/\b=1)
theorem Cg0{R:Type}{k0:Int->Int->LL->Option R}(W:List Nat)(o:W.length=8):∀(r i n z m:Nat) (a b:Int),i+r=8->r<n->z<=8->m<=8->RR z m a b->
  ∃g j,RR (zGo (W.drop i) i z m).1 (zGo (W.drop i) i z m).2 g j/\Ic LF n a b (i:Int) (C9 W) k0=k0 g j (C9 W):=by
 intro r
 induction r with
 | zero=>
  intro i n z m a b t w e v h;obtain⟨n,rfl⟩:∃m,n=m+1:=⟨n-1,by omega⟩
  rw[Ic];rw[A6,j1 (by omega)];exact⟨a,b,h,rfl⟩
 | succ r f=>
  intro i n z m a b t w e v h;obtain⟨n,rfl⟩:∃m,n=m+1:=⟨n-1,by omega⟩
  have l:=C2;rw[Ic];have c:=λK=>Cy9 (R:=R) (k0:=K) W o a b i r.succ 0 LF (by omega) (by omega)
  rw[show((0:Nat):Int)=0 from rfl] at c;simp only[ag8,ak2] at c;rw[A8,cond_true,c];have p:W.drop i=W.getD i 0::W.drop (i+1):=by
   rw[a8,j4 (by omega),p7,y7]
  have u:=VO (W.drop i);rw[j6] at u;have d:A1 ((i:Int)+1)=((i+1:Nat):Int):=by rw[A7];rfl
  rw[d];have e:zGo (W.drop i) i z m=if m<Ov (W.drop i) then zGo (W.drop (i+1)) (i+1) i (Ov (W.drop i)) else zGo (W.drop (i+1)) (i+1) z m:=by
   rw[p];rfl
  rw[e];generalize Ov (W.drop i)=q at *;unfold RR at h;by_cases k:m<q
  ·rw[if_pos k];by_cases x:q<2
   ·rw[A6,cond_false];exact f (i+1) n i q a b (by omega) (by omega) (by omega) (by omega) (by unfold RR;omega)
   ·rw[A8,cond_true];exact f (i+1) n i q i q (by omega) (by omega) (by omega) (by omega) (by unfold RR;omega)
  ·rw[if_neg k,A6,cond_false];exact f (i+1) n z m a b (by omega) (by omega) (by omega) (by omega) h
theorem MW(q:By)(d:UInt8):(q++[d]).getD q.length 0=d:=by simp
theorem Bv8{R:Type}{k:By->LL->Option R}(W:List Nat)(u:W.length=8)(v:∀x∈W,x<65536)(a b:Int)(s c:By)(i n:Nat)(w:i<8)(o:(i:Int)≠a)(j:s.length<=1000)
  (h:(s=[]/\c=R2 (W.getD i 0))\/(∃q d,s=q++[d]/\d≠58/\c=s++[58]++R2 (W.getD i 0))\/(∃q,s=q++[58]/\c=s++R2 (W.getD i 0))) :
  R5 LF (n+1) a b s (i:Int) (C9 W) k=R5 LF n a b c ((i+1:Nat):Int) (C9 W) k:=by
 rw[R5];have t:W.getD i 0<65536:=by simp_all
 have m:A1 ((i:Int)+1)=((i+1:Nat):Int):=by rw[A7];rfl
 have y:=IB _ t;rw[A8,show((i:Int)==a)=false from beq_eq_false_iff_ne.2 o];generalize r:W.getD i 0=x at *;have ok:=Lp (l:=W) (i:=i) (by omega);simp (disch:=omega) only[cond_true,cond_false,J6,c9,ok,Sv,r,Rb,vl,m];rcases h with⟨rfl,rfl⟩|⟨q,d,rfl,p,rfl⟩|⟨q,rfl,rfl⟩
 ·have e:E5 ([]:By).length (R2 x).length=true:=G2 (by simp;omega);rw[e];rfl
 ·have f:A1 (((q++[d]).length:Int)-1)=((q.length:Nat):Int):=by rw[A7];simp
  rw[show((q++[d])==([]:By))=false by simp,f,J6 (by omega) (by simp<;>omega),D0,MW];have g:(d.toNat:Int)≠58:=by
   intro h;apply p;apply al9;grind
  rw[show((d.toNat:Int)!=58)=true from bne_iff_ne.2 g,G2 (by simp at j ⊢;omega),G2 (by simp at j ⊢;omega)];rfl
 ·have f:A1 (((q++[58]).length:Int)-1)=((q.length:Nat):Int):=by rw[A7];simp
  rw[show((q++[(58:UInt8)])==([]:By))=false by simp,f,J6 (by omega) (by simp<;>omega),D0,MW];have e:E5 (q++[(58:UInt8)]).length (R2 x).length=true:=G2 (by simp at j ⊢;omega);rw[e];rfl
theorem Bx2(W:List Nat)(i:Nat)(h:i<W.length):W.take (i+1)=W.take i++[W.getD i 0]:=by simp_all
theorem JS{R:Type}{k0:By->LL->Option R}(W:List Nat)(m:W.length=8)(f:∀x∈W,x<65536)(a b:Int)(e:Nat)(I:e<=8)(p:By)(z:p=[]\/∃q,p=q++[58])(A:p.length<=100)(o:Nat)(w:o<=8) :
  ∀(r i n:Nat),i+r=e->o<=i->(∀j:Nat,i<=j->j<e->(j:Int)≠a)->
   R5 LF (n+r) a b (p++S8 ((W.take i).drop o)) (i:Int) (C9 W) k0=R5 LF n a b (p++S8 ((W.take e).drop o)) (e:Int) (C9 W) k0:=by
 intro r
 induction r with
 | zero=>
  intro i n u w _;rw[show i=e by omega];rfl
 | succ r G=>
  intro i n u y g;rw[show n+(r+1)=(n+r)+1 by omega];have h:((W.take i).drop o).length=i-o:=by rw[j6,p4];omega
  have v:=Ba ((W.take i).drop o) (λx F=>f x (ad3 (ae9 F)));have D:(W.take (i+1)).drop o=(W.take i).drop o++[W.getD i 0]:=by
   rw[Bx2 W i (by omega),List.drop_append_of_le_length (by rw[p4];omega)]
  have C:(p++S8 ((W.take i).drop o)).length<=1000:=by rw[x5];omega
  rw[Bv8 W m f a b (p++S8 ((W.take i).drop o)) (p++S8 ((W.take (i+1)).drop o)) i (n+r) (by omega) (g i (by omega) (by omega)) C]
  ·exact G (i+1) n (by omega) (by omega) (λj H k=>g j (by omega) k)
  ·rw[D];generalize (W.take i).drop o=l at *;by_cases c:l=[]
   ·subst c;rw[p5,Zy,Jt,s7];rcases z with rfl|⟨q,rfl⟩
    ·exact .inl ⟨rfl,rfl⟩
    ·exact .inr (.inr ⟨q,rfl,rfl⟩)
   ·obtain⟨q,d,B,t⟩:=At4 l c;refine .inr (.inl ⟨p++q,d,by rw[B,p9],t,?_⟩);rw[Sy l _ c];simp
theorem Bv7{R:Type}{k0:By->LL->Option R}(A B C D F G H I:Int)(V:ok8 A B C D F G H I=true):Cy7 LF A B C D F G H I k0=k0 (Nd (n8 A B C D F G H I)) (C9 (n8 A B C D F G H I)):=by
 obtain⟨g,i,k,l,o,p,r,t,rfl,rfl,rfl,rfl,rfl,rfl,rfl,rfl,h⟩:=Qc V;have K:n8 g i k l o p r t=[g,i,k,l,o,p,r,t]:=rfl;unfold Cy7;rw[K];have y:([[SV.int .u16 (g:Int)],[SV.int .u16 (i:Int)],[SV.int .u16 (k:Int)],[SV.int .u16 (l:Int)],[SV.int .u16 (o:Int)],[SV.int .u16 (p:Int)],[SV.int .u16 (r:Int)],[SV.int .u16 (t:Int)]]:LL)=C9 [g,i,k,l,o,p,r,t]:=rfl;rw[y];have J:∀x∈[g,i,k,l,o,p,r,t],x<65536:=by simp_all
 have e:[g,i,k,l,o,p,r,t].length=8:=rfl;have w:=XC [g,i,k,l,o,p,r,t] 0 0 0 (by simp);have X:=C2;generalize [g,i,k,l,o,p,r,t]=W at *;obtain⟨a,b,L,Y⟩:=Cg0 (R:=R) (k0:=λv f M=>R5 LF LF v f [] 0 M (λd c=>k0 d c)) W e 8 0 LF 0 0 (-1) 1 (by omega) (by omega) (by omega) (by omega) (.inr ⟨by omega,rfl,rfl⟩);refine j7 Y ?_;rw[j9] at L;unfold Nd;generalize zGo W 0 0 0=q at *;obtain⟨z,m⟩:=q;rw[e] at w;simp only at w L ⊢;have stop:∀(n:Nat) (s:By),0<n->R5 LF n a b s ((8:Nat):Int) (C9 W) (λd c=>k0 d c)=k0 s (C9 W):=by
  intro n s O;obtain⟨n,rfl⟩:∃m,n=m+1:=⟨n-1,by omega⟩
  rw[R5];simp_all
 rcases L with⟨N,rfl,rfl⟩|⟨N,rfl,rfl⟩
 ·rw[F9];have u:=JS (R:=R) (k0:=λd c=>k0 d c) W e J (z:Int) (m:Int) z (by omega) [] (.inl rfl) (by simp) 0 (by omega) z 0 (LF-z) (by omega) (by omega) (λj _ h2=>by omega);rw[show LF-z+z=LF by omega] at u;simp only[ad4,j9,Jt,p5] at u;refine j7 u ?_;obtain⟨n,O⟩:∃n,LF-z=n+8+1:=⟨LF-z-9,by omega⟩
  rw[O,R5];have hA:∀x∈W.take z,x<65536:=λx Z=>J x (ad3 Z)
  have la:=Ba _ hA;have l1:(W.take z).length<=8:=by rw[p4];omega
  have S:A1 ((m:Int)-1)=((m-1:Nat):Int):=by rw[A7];omega
  have T:A1 ((z:Int)+((m-1:Nat):Int))=((z+(m-1):Nat):Int):=by rw[A7];omega
  have U:A1 (((z+(m-1):Nat):Int)+1)=((z+m:Nat):Int):=by rw[A7];omega
  rw[A8,G2 (by omega)];simp only[beq_self_eq_true,cond_true,vl,S,T,U];have P:=JS (R:=R) (k0:=λd c=>k0 d c) W e J (z:Int) (m:Int) 8 (by omega) (S8 (W.take z)++[58,58]) (.inr ⟨S8 (W.take z)++[58],by simp⟩) (by simp;omega) (z+m) (by omega) (8-(z+m)) (z+m) (n+(z+m)) (by omega) (by omega) (λj h1 _=>by omega);rw[show n+(z+m)+(8-(z+m))=n+8 by omega] at P;have Q:(W.take (z+m)).drop (z+m)=[]:=j1 (by rw[p4];omega);rw[Q,Jt,s7] at P;grind
 ·rw[if_pos N];have u:=JS (R:=R) (k0:=λd c=>k0 d c) W e J (-1) 1 8 (by omega) [] (.inl rfl) (by simp) 0 (by omega) 8 0 (LF-8) (by omega) (by omega) (λj _ _=>by omega);rw[show LF-8+8=LF by omega] at u;simp only[ad4,j9,Jt,p5] at u;grind
set_option maxRecDepth 100000
section
variable {Z R : Type} (L : Nat) (Y : F7) (Q : Yh Z) (s : Z) (k : Out -> St Z -> Option R)
noncomputable def SL(L:Nat):Cfg:=B4 L [161] (A2 []) [] (A2 [(1,[2]),(0,[0])]) [] (A2 []) (some [2]) [] [] []
noncomputable def C71{R:Type}(L:Nat)(a:Unit->Option R):Option R:=a ()
theorem B84(d:Nat):evC (SL L) (d+1) Z Q 161 [pI (16:Int)] [] s=C71 L  (λ_=>some (pB true,[],s)):=by refine(evE (fn:=Tryz.f161) (by kernel_rfl)).trans ?_;generalize evC (SL L) d=Y;unfold C71;kernel_rfl
noncomputable abbrev RZ:Code:=C4 an9
noncomputable def Ho(L:Nat):Cfg:=B4 L [132] (A2 [(11,[0,0,1,0,5,0,0,0,0,0,0]),(18,[0,0,1,0,5,0,0,0,3])]) [(161,PL),(162,C79)] (A2 [(30,[10,0]),(29,[10,0]),(28,[0,9,0,0,0,80]),(27,[0,3,5,0,0,0]),(26,[0,3,5,0,0,0]),(25,[0,3,5,0,0,0,75]),(16,[0,2,0,5,0,0,0]),(15,[0,0,1,0,5,0,0,0]),(14,[0,0,1,0,5,0,0,0,0,0,0]),(13,[0,0,1,0,5,0,0,0,0,0,0]),(12,[0,0,1,0,5,0,0,0,0,0,0]),(11,[0,0,1,0,5,0,0,0,0,0,0,29]),(10,[0,0,1,0,5,0,0,0,0,0,0]),(9,[0,0,0,0,0,5,0,0,0,0,0]),(8,[0,0,0,0,0,5,0,0,0,0]),(24,[0,2,0,5,0,0,0]),(23,[0,0,1,0,5,0,0,0]),(22,[0,0,1,0,5,0,0,0,3]),(21,[0,2,0,5,0,0,0,3,0]),(20,[0,0,1,0,5,0,0,0,3,0]),(19,[0,0,1,0,5,0,0,0,3]),(18,[0,0,1,0,5,0,0,0,3,50]),(17,[0,0,1,0,5,0,0,0,3]),(7,[0,0,0,0,0,5,0,0,0,20]),(6,[0,0,0,0,0,5,0,0,0]),(5,[0,0,0,0,0,5,0,0,0,16]),(4,[0,0,0,0,0,5,0,0,0]),(3,[0,0,0,0,0,5,0,0]),(2,[0,0,0,0,0,5,0]),(1,[0,0,0,0,0,5,0,16]),(0,[0,0,0,0,0,5,0])]) [161,162] (A2 [(0,[0,0,1,0,5,0,0,0]),(1,[0,0,1,0,5,0,0,0,0,0,0]),(2,[0,0,1,0,5,0,0,0]),(3,[0,0,1,0,5,0,0,0,3])]) (some [10,0]) [] [] []
noncomputable def Jq{R:Type}(L n:Nat)(b a:Bool)(c:LL)(g d:Int)(f:LL)(j:Bool->Bool->LL->Int->Int->LL->Option R):Option R:=match n with|0=>none|n+1=>cond (not (ltI g 16)) (vl (An4 .u64 g (15:Int)) λe=>cond (inR e 36) (vl (bAt (([48,49,50,51,52,53,54,55,56,57,97,98,99,100,101,102,103,104,105,106,107,108,109,110,111,112,113,114,115,116]:List UInt8)++[117,118,119,120,121,122]) e) λi=>cond (inR (A1 (d-1)) 65) (cond (decide ((j5 (A1 (d-1)))<f.length)) (vl (ah6 f (j5 (A1 (d-1))) (F8 (o6 f (j5 (A1 (d-1))) []) 0 [(SV.int .u8 i)])) λh=>Jq L n b a c (Tu .u64 g (4:Int)) (A1 (d-1)) h j) none) none) none) (j b a c g d f)
theorem YW(n b a c f d e):C5 2 ((Ho L).keep 11) (bd (Ho L) Y Q (cd [1,1,1,1,1,0,1,0,1,1,1,0,0,0] RZ)) n ⟨gp [(0,.s (.sl b a 0 c)),(0,p64 f),(1,pB false),(0,pB false),(5,.fl 0),(0,pS ([]:List UInt8)),(0,.ptr 1 0 0),(0,pI d),(0,p64 (4:Int)),(0,p64 (16:Int)),(0,p64 (15:Int))] 85,[.arr true 5 1 [],.arr false 138 1 e],s⟩ k =
 Jq L n b a c f d e (λb a c f d e=>k (.exit 0) ⟨gp [(0,.s (.sl b a 0 c)),(0,p64 f),(1,pB false),(0,pB false),(5,.fl 0),(0,pS ([]:List UInt8)),(0,.ptr 1 0 0),(0,pI d)] 88,[.arr true 5 1 [],.arr false 138 1 e],s⟩):=by
 induction n generalizing b a c f d e with
 | zero=>rfl
 | succ n g=>rw[Jq];simp only[<-g];kernel_rfl
noncomputable def YV{R:Type}(L:Nat)(e d:Bool)(ds:LL)(v:Int)(m:By->LL->Option R):Option R:=cond ((16:Int)==16) (cond ((16:Int)==16) (Jq L L e d ds v 65 (b9 65 [(SV.int .u8 (0:Int))]) (λg f j i a c=>cond (inR i 36) (vl (bAt (([48,49,50,51,52,53,54,55,56,57,97,98,99,100,101,102,103,104,105,106,107,108,109,110,111,112,113,114,115,116]:List UInt8)++[117,118,119,120,121,122]) i) λl=>cond (inR (A1 (a-1)) 65) (cond (decide ((j5 (A1 (a-1)))<c.length)) (vl (ah6 c (j5 (A1 (a-1))) (F8 (o6 c (j5 (A1 (a-1))) []) 0 [(SV.int .u8 l)])) λb=>cond (decide (b.length=65)) (cond (I2 (A1 (a-1)) (65:Int) 65) (cond (af6 (ac4 (65-(j5 (A1 (a-1)))) (ad0 (j5 (A1 (a-1))) b)) Nh) (vl (ab4 Lc (ac4 (65-(j5 (A1 (a-1)))) (ad0 (j5 (A1 (a-1))) b))) λh=>m h b) none) none) none) none) none) none)) none) none
theorem B63(d:Nat)(ds_z ds_t ds v):evC (Ho L) (d+1) Z Q 132 [.s (.sl ds_z ds_t 0 ds),p64 v,pI (16:Int),pB false,pB false] [] s=YV L ds_z ds_t ds v (λb a=>some (.tup [.fl 0,pS b],[.arr true 5 1 [],.arr false 138 1 a],s)):=by refine(evE (fn:=an9) (by kernel_rfl)).trans ?_;generalize evC (Ho L) d=Y;unfold YV;exact(j7 (by kernel_rfl) (A0 (A0 ((YW L Y Q s (E3 0 (E2 (Ho L) Y Q (cd [1,1,1,1,1,0,1,0,1,1,1,1] RZ) (E2 (Ho L) Y Q (cd [1,1,1,1,1,1] RZ) (F5 (Ho L) an9)))) L ds_z ds_t ds v 65 (b9 65 [(SV.int .u8 (0:Int))])).trans (by kernel_rfl)) rfl) rfl))
noncomputable def SK(L:Nat):Cfg:=B4 L [157] (A2 []) [(132,PA)] (A2 [(9,[4]),(8,[8]),(7,[4]),(6,[5,0]),(5,[0,4,0]),(4,[0,4]),(3,[4]),(2,[0,11]),(1,[0,0,8]),(0,[0,0])]) [] (A2 []) (some [4]) [] [] []
noncomputable def Bf7{R:Type}(L:Nat)(v:Int)(a:By->Option R):Option R:=cond (ltN v 65536) (cond ((16:Int)==16) (a (R2 (j5 v))) none) none
theorem B77(d:Nat)(v):evC (SK L) (d+1) Z Q 157 [p64 v,pI (16:Int)] [] s=Bf7 L v (λa=>some (pS a,[],s)):=by refine(evE (fn:=Tryz.f157) (by kernel_rfl)).trans ?_;generalize evC (SK L) d=Y;unfold Bf7;kernel_rfl
noncomputable def Ao2(L:Nat):Cfg:=B4 L [128] (A2 []) [(157,PK)] (A2 [(1,[4]),(0,[0,0])]) [157] (A2 []) (some [4]) [] [] []
noncomputable def Cq5{R:Type}(L:Nat)(v:Int)(a:By->Option R):Option R:=cond (ltN v 65536) (cond ((16:Int)==16) (a (R2 (j5 v))) none) none
theorem Cq6(d:Nat)(v):evC (Ao2 L) (d+1) Z Q 128 [p64 v,pI (16:Int)] [] s=Cq5 L v (λa=>some (pS a,[],s)):=by refine(evE (fn:=Tryz.f128) (by kernel_rfl)).trans ?_;generalize evC (Ao2 L) d=Y;unfold Cq5;kernel_rfl
end
end
end Go.Proofs.YtcfingekgbbclaaGreatDoor.E
namespace Go.Proofs
open Go.Shelf
def Tryz.lays156_ren:aa5:=⟨fun|156=>111|165=>142|166=>143|169=>144|240=>171|241=>172|276=>184|277=>185|n=>n,fun|31=>54|9=>9|3=>3|4=>4|0=>0|20=>20|72=>121|76=>125|70=>119|37=>38|75=>124|127=>149|164=>157|5=>5|80=>127|n=>n,fun|n=>n⟩
theorem Tryz.lays156:ar0 o7 Tryz.lays156_ren:={
 mixed:=by kernel_rfl
 f156:=Tryz.func111.trans (congrArg some (by kernel_rfl))
 f165:=Tryz.func142.trans (congrArg some (by kernel_rfl))
 f166:=Tryz.func143.trans (congrArg some (by kernel_rfl))
 f169:=Tryz.func144.trans (congrArg some (by kernel_rfl))
 f240:=Tryz.func171.trans (congrArg some (by kernel_rfl))
 f241:=Tryz.func172.trans (congrArg some (by kernel_rfl))
 f276:=Tryz.func184.trans (congrArg some (by kernel_rfl))
 f277:=Tryz.func185.trans (congrArg some (by kernel_rfl))
 t0:=aa4
 a0:=ad5
 z0:=ac7
 v0:=aa9
 t3:=s8
 a3:=ab2
 z3:=aa6
 v3:=w8
 t4:=w9
 a4:=ab9
 z4:=ab1
 v4:=x4
 t9:=x9
 a9:=ac6
 z9:=ac1
 v9:=aa0
 t20:=ak6
 a20:=ap7
 z20:=an3
 v20:=al3
 t31:=Tryz.underlying54
 a31:=Tryz.isAgg54
 z31:=Tryz.sizeOf54
 v31:=Tryz.zeroValue54
 t37:=ak7
 a37:=ap8
 z37:=an4
 v37:=al4
 t70:=Tryz.underlying119
 a70:=Tryz.isAgg119
 z70:=Tryz.sizeOf119
 v70:=Tryz.zeroValue119
 t72:=Tryz.underlying121
 a72:=Tryz.isAgg121
 z72:=Tryz.sizeOf121
 v72:=Tryz.zeroValue121
 t75:=Tryz.underlying124
 a75:=Tryz.isAgg124
 z75:=Tryz.sizeOf124
 v75:=Tryz.zeroValue124
 t76:=Tryz.underlying125
 a76:=Tryz.isAgg125
 z76:=Tryz.sizeOf125
 v76:=Tryz.zeroValue125
 t127:=Tryz.underlying149
 a127:=Tryz.isAgg149
 z127:=Tryz.sizeOf149
 v127:=Tryz.zeroValue149
 t164:=Tryz.underlying157
 a164:=Tryz.isAgg157
 z164:=Tryz.sizeOf157
 v164:=Tryz.zeroValue157 }
theorem Tryz.Builder_Extra_156:Builder.Extra o7 Tryz.lays156_ren:={
 sizeBuilder:=by kernel_rfl
 liesBuilder:=by kernel_rfl
 t5:=x8
 a5:=ac5
 z5:=ac0
 v5:=z7
 infoByte:=by kernel_rfl
 cellsByte:=by kernel_rfl
 sizeByte:=by kernel_rfl
 neB5:=by decide }
def Tryz.lays195_ren:aa5:=⟨fun|195=>140|n=>n,fun|9=>9|3=>3|0=>0|4=>4|n=>n,fun|n=>n⟩
theorem Tryz.lays195:ar1 o7 Tryz.lays195_ren:={
 mixed:=by kernel_rfl
 f195:=ap2.trans (congrArg some (by kernel_rfl))
 t0:=aa4
 a0:=ad5
 z0:=ac7
 v0:=aa9
 t3:=s8
 a3:=ab2
 z3:=aa6
 v3:=w8
 t4:=w9
 a4:=ab9
 z4:=ab1
 v4:=x4
 t9:=x9
 a9:=ac6
 z9:=ac1
 v9:=aa0 }
def Tryz.laysM171_ren:aa5:=⟨fun|171=>51|243=>69|246=>97|283=>129|284=>130|285=>131|286=>132|129=>159|317=>158|318=>160|319=>161|320=>162|337=>177|338=>178|n=>n,fun|3=>3|9=>9|2=>2|4=>4|171=>113|0=>0|53=>112|37=>38|5=>5|173=>116|212=>137|51=>23|20=>20|213=>138|46=>53|232=>161|233=>162|n=>n,fun|17=>1|18=>4|19=>5|n=>n⟩
theorem Tryz.laysM171:ap9 o7 Tryz.laysM171_ren:={
 mixed:=by kernel_rfl
 f129:=Tryz.func159.trans (congrArg some (by kernel_rfl))
 f171:=Tryz.func51.trans (congrArg some (by kernel_rfl))
 f243:=Tryz.func69.trans (congrArg some (by kernel_rfl))
 f246:=Tryz.func97.trans (congrArg some (by kernel_rfl))
 f283:=Tryz.func129.trans (congrArg some (by kernel_rfl))
 f284:=Tryz.func130.trans (congrArg some (by kernel_rfl))
 f285:=Tryz.func131.trans (congrArg some (by kernel_rfl))
 f286:=Tryz.func132.trans (congrArg some (by kernel_rfl))
 f317:=Tryz.func158.trans (congrArg some (by kernel_rfl))
 f318:=Tryz.func160.trans (congrArg some (by kernel_rfl))
 f319:=Tryz.func161.trans (congrArg some (by kernel_rfl))
 f320:=ap4.trans (congrArg some (by kernel_rfl))
 f337:=ap5.trans (congrArg some (by kernel_rfl))
 f338:=ap6.trans (congrArg some (by kernel_rfl))
 t0:=aa4
 a0:=ad5
 z0:=ac7
 v0:=aa9
 t2:=Tryz.underlying2
 a2:=Tryz.isAgg2
 z2:=Tryz.sizeOf2
 v2:=Tryz.zeroValue2
 t3:=s8
 a3:=ab2
 z3:=aa6
 v3:=w8
 t4:=w9
 a4:=ab9
 z4:=ab1
 v4:=x4
 t5:=x8
 a5:=ac5
 z5:=ac0
 v5:=z7
 t9:=x9
 a9:=ac6
 z9:=ac1
 v9:=aa0
 t20:=ak6
 a20:=ap7
 z20:=an3
 v20:=al3
 t37:=ak7
 a37:=ap8
 z37:=an4
 v37:=al4
 t46:=aa8
 a46:=ad6
 z46:=ad1
 v46:=ab3
 t51:=ad2
 a51:=af4
 z51:=ae7
 v51:=ad7
 t53:=af7
 a53:=ai7
 z53:=ah9
 v53:=ag2
 t171:=Tryz.underlying113
 a171:=Tryz.isAgg113
 z171:=Tryz.sizeOf113
 v171:=Tryz.zeroValue113
 t173:=Tryz.underlying116
 a173:=Tryz.isAgg116
 z173:=Tryz.sizeOf116
 v173:=Tryz.zeroValue116
 t212:=Tryz.underlying137
 a212:=Tryz.isAgg137
 z212:=Tryz.sizeOf137
 v212:=Tryz.zeroValue137
 t213:=Tryz.underlying138
 a213:=Tryz.isAgg138
 z213:=Tryz.sizeOf138
 t232:=aj0
 a232:=an1
 z232:=am5
 v232:=ak8
 t233:=aj1
 a233:=an2
 z233:=am6
 v233:=Tryz.zeroValue162
 g17:=by kernel_rfl
 g18:=by kernel_rfl
 g19:=by kernel_rfl
 i0:=by kernel_rfl
 i2:=by kernel_rfl
 i3:=by kernel_rfl
 i4:=by kernel_rfl
 i5:=by kernel_rfl
 i9:=by kernel_rfl
 i20:=by kernel_rfl
 i37:=by kernel_rfl
 i46:=by kernel_rfl
 i51:=by kernel_rfl
 i53:=by kernel_rfl
 i171:=by kernel_rfl
 i173:=by kernel_rfl
 i212:=by kernel_rfl
 i232:=by kernel_rfl
 i233:=by kernel_rfl
 m17:=by kernel_rfl
 m18:=by kernel_rfl
 m19:=by kernel_rfl }
def Tryz.lays143_ren:aa5:=⟨fun|143=>154|219=>99|217=>100|225=>103|224=>102|267=>133|266=>134|314=>163|n=>n,fun|9=>9|3=>3|4=>4|5=>5|46=>53|146=>140|51=>23|n=>n,fun|1=>0|n=>n⟩
theorem Tryz.lays143:aq7 o7 Tryz.lays143_ren:={
 mixed:=by kernel_rfl
 f143:=ap3.trans (congrArg some (by kernel_rfl))
 f217:=af2.trans (congrArg some (by kernel_rfl))
 f219:=al7.trans (congrArg some (by kernel_rfl))
 f224:=ag9.trans (congrArg some (by kernel_rfl))
 f225:=ah0.trans (congrArg some (by kernel_rfl))
 f266:=af3.trans (congrArg some (by kernel_rfl))
 f267:=ak4.trans (congrArg some (by kernel_rfl))
 f314:=ak5.trans (congrArg some (by kernel_rfl))
 t3:=s8
 a3:=ab2
 z3:=aa6
 v3:=w8
 t4:=w9
 a4:=ab9
 z4:=ab1
 v4:=x4
 t5:=x8
 a5:=ac5
 z5:=ac0
 v5:=z7
 t9:=x9
 a9:=ac6
 z9:=ac1
 v9:=aa0
 t46:=aa8
 a46:=ad6
 z46:=ad1
 v46:=ab3
 t51:=ad2
 a51:=af4
 z51:=ae7
 v51:=ad7
 t146:=af8
 a146:=ai8
 z146:=ai0
 v146:=ag3
 g1:=by kernel_rfl }
def Tryz.lays145_ren:aa5:=⟨fun|145=>54|220=>72|219=>99|217=>100|225=>103|224=>102|267=>133|266=>134|314=>163|n=>n,fun|9=>9|4=>4|59=>57|3=>3|5=>5|46=>53|146=>140|51=>23|n=>n,fun|1=>0|n=>n⟩
theorem Tryz.lays145:aq8 o7 Tryz.lays145_ren:={
 mixed:=by kernel_rfl
 f145:=Tryz.func54.trans (congrArg some (by kernel_rfl))
 f217:=af2.trans (congrArg some (by kernel_rfl))
 f219:=al7.trans (congrArg some (by kernel_rfl))
 f220:=Tryz.func72.trans (congrArg some (by kernel_rfl))
 f224:=ag9.trans (congrArg some (by kernel_rfl))
 f225:=ah0.trans (congrArg some (by kernel_rfl))
 f266:=af3.trans (congrArg some (by kernel_rfl))
 f267:=ak4.trans (congrArg some (by kernel_rfl))
 f314:=ak5.trans (congrArg some (by kernel_rfl))
 t3:=s8
 a3:=ab2
 z3:=aa6
 v3:=w8
 t4:=w9
 a4:=ab9
 z4:=ab1
 v4:=x4
 t5:=x8
 a5:=ac5
 z5:=ac0
 v5:=z7
 t9:=x9
 a9:=ac6
 z9:=ac1
 v9:=aa0
 t46:=aa8
 a46:=ad6
 z46:=ad1
 v46:=ab3
 t51:=ad2
 a51:=af4
 z51:=ae7
 v51:=ad7
 t59:=Tryz.underlying57
 a59:=Tryz.isAgg57
 z59:=Tryz.sizeOf57
 v59:=Tryz.zeroValue57
 t146:=af8
 a146:=ai8
 z146:=ai0
 v146:=ag3
 g1:=by kernel_rfl }
def Tryz.lays138_ren:aa5:=⟨fun|138=>166|195=>140|218=>181|143=>154|219=>99|217=>100|225=>103|224=>102|267=>133|266=>134|314=>163|n=>n,fun|9=>9|3=>3|4=>4|5=>5|0=>0|46=>53|146=>140|51=>23|n=>n,fun|1=>0|n=>n⟩
theorem Tryz.lays138:aq6 o7 Tryz.lays138_ren:={
 mixed:=by kernel_rfl
 f138:=Tryz.func166.trans (congrArg some (by kernel_rfl))
 f143:=ap3.trans (congrArg some (by kernel_rfl))
 f195:=ap2.trans (congrArg some (by kernel_rfl))
 f217:=af2.trans (congrArg some (by kernel_rfl))
 f218:=Tryz.func181.trans (congrArg some (by kernel_rfl))
 f219:=al7.trans (congrArg some (by kernel_rfl))
 f224:=ag9.trans (congrArg some (by kernel_rfl))
 f225:=ah0.trans (congrArg some (by kernel_rfl))
 f266:=af3.trans (congrArg some (by kernel_rfl))
 f267:=ak4.trans (congrArg some (by kernel_rfl))
 f314:=ak5.trans (congrArg some (by kernel_rfl))
 t0:=aa4
 a0:=ad5
 z0:=ac7
 v0:=aa9
 t3:=s8
 a3:=ab2
 z3:=aa6
 v3:=w8
 t4:=w9
 a4:=ab9
 z4:=ab1
 v4:=x4
 t5:=x8
 a5:=ac5
 z5:=ac0
 v5:=z7
 t9:=x9
 a9:=ac6
 z9:=ac1
 v9:=aa0
 t46:=aa8
 a46:=ad6
 z46:=ad1
 v46:=ab3
 t51:=ad2
 a51:=af4
 z51:=ae7
 v51:=ad7
 t146:=af8
 a146:=ai8
 z146:=ai0
 v146:=ag3
 g1:=by kernel_rfl }
def Tryz.lays196_ren:aa5:=⟨fun|196=>139|259=>167|n=>n,fun|9=>9|4=>4|3=>3|5=>5|12=>12|119=>144|0=>0|46=>53|139=>147|138=>146|53=>112|n=>n,fun|3=>2|4=>3|n=>n⟩
theorem Tryz.lays196:ar2 o7 Tryz.lays196_ren:={
 mixed:=by kernel_rfl
 f196:=Tryz.func139.trans (congrArg some (by kernel_rfl))
 f259:=Tryz.func167.trans (congrArg some (by kernel_rfl))
 t0:=aa4
 a0:=ad5
 z0:=ac7
 v0:=aa9
 t3:=s8
 a3:=ab2
 z3:=aa6
 v3:=w8
 t4:=w9
 a4:=ab9
 z4:=ab1
 v4:=x4
 t5:=x8
 a5:=ac5
 z5:=ac0
 v5:=z7
 t9:=x9
 a9:=ac6
 z9:=ac1
 v9:=aa0
 t12:=Tryz.underlying12
 a12:=Tryz.isAgg12
 z12:=Tryz.sizeOf12
 v12:=Tryz.zeroValue12
 t46:=aa8
 a46:=ad6
 z46:=ad1
 v46:=ab3
 t53:=af7
 a53:=ai7
 z53:=ah9
 v53:=ag2
 t119:=Tryz.underlying144
 a119:=Tryz.isAgg144
 z119:=Tryz.sizeOf144
 t138:=Tryz.underlying146
 a138:=Tryz.isAgg146
 z138:=Tryz.sizeOf146
 v138:=Tryz.zeroValue146
 t139:=Tryz.underlying147
 a139:=Tryz.isAgg147
 z139:=Tryz.sizeOf147
 v139:=Tryz.zeroValue147
 g3:=by kernel_rfl
 g4:=by kernel_rfl }
def Tryz.lays2_21_ren:aa5:=⟨fun|21=>187|27=>190|28=>191|35=>192|39=>193|n=>n,fun|22=>105|3=>3|4=>4|0=>0|n=>n,fun|n=>n⟩
theorem Tryz.lays2_21:ar3 o7 Tryz.lays2_21_ren:={
 mixed:=by kernel_rfl
 f21:=Tryz.func187.trans (congrArg some (by kernel_rfl))
 f27:=Tryz.func190.trans (congrArg some (by kernel_rfl))
 f28:=Tryz.func191.trans (congrArg some (by kernel_rfl))
 f35:=Tryz.func192.trans (congrArg some (by kernel_rfl))
 f39:=Tryz.func193.trans (congrArg some (by kernel_rfl))
 t0:=aa4
 a0:=ad5
 z0:=ac7
 v0:=aa9
 t3:=s8
 a3:=ab2
 z3:=aa6
 v3:=w8
 t4:=w9
 a4:=ab9
 z4:=ab1
 v4:=x4
 t22:=Tryz.underlying105
 a22:=Tryz.isAgg105
 z22:=Tryz.sizeOf105
 v22:=Tryz.zeroValue105
 i3:=by kernel_rfl }
def Tryz.lays7_27_ren:aa5:=⟨fun|27=>162|28=>177|29=>178|n=>n,fun|25=>53|3=>3|27=>23|22=>112|4=>4|53=>161|0=>0|5=>5|54=>162|n=>n,fun|0=>4|1=>5|n=>n⟩
theorem Tryz.lays7_27:ar4 o7 Tryz.lays7_27_ren:={
 mixed:=by kernel_rfl
 f27:=ap4.trans (congrArg some (by kernel_rfl))
 f28:=ap5.trans (congrArg some (by kernel_rfl))
 f29:=ap6.trans (congrArg some (by kernel_rfl))
 t0:=aa4
 a0:=ad5
 z0:=ac7
 v0:=aa9
 i0:=by kernel_rfl
 t3:=s8
 a3:=ab2
 z3:=aa6
 v3:=w8
 i3:=by kernel_rfl
 t4:=w9
 a4:=ab9
 z4:=ab1
 v4:=x4
 i4:=by kernel_rfl
 t5:=x8
 a5:=ac5
 z5:=ac0
 v5:=z7
 i5:=by kernel_rfl
 t22:=af7
 a22:=ai7
 z22:=ah9
 v22:=ag2
 i22:=by kernel_rfl
 t25:=aa8
 a25:=ad6
 z25:=ad1
 v25:=ab3
 i25:=by kernel_rfl
 t27:=ad2
 a27:=af4
 z27:=ae7
 v27:=ad7
 i27:=by kernel_rfl
 t53:=aj0
 a53:=an1
 z53:=am5
 v53:=ak8
 i53:=by kernel_rfl
 t54:=aj1
 a54:=an2
 z54:=am6
 g0:=by kernel_rfl
 g1:=by kernel_rfl }
def Tryz.lays137_ren:aa5:=⟨fun|137=>73|217=>100|266=>134|n=>n,fun|9=>9|5=>5|3=>3|n=>n,fun|n=>n⟩
theorem Tryz.lays137:aq5 o7 Tryz.lays137_ren:={
 mixed:=by kernel_rfl
 f137:=aq3.trans (congrArg some (by kernel_rfl))
 f217:=af2.trans (congrArg some (by kernel_rfl))
 f266:=af3.trans (congrArg some (by kernel_rfl))
 t3:=s8
 a3:=ab2
 z3:=aa6
 v3:=w8
 t5:=x8
 a5:=ac5
 z5:=ac0
 v5:=z7
 t9:=x9
 a9:=ac6
 z9:=ac1
 v9:=aa0 }
def Tryz.lays153_ren:aa5:=⟨fun|153=>58|152=>75|226=>76|227=>77|228=>78|137=>73|119=>101|224=>102|225=>103|217=>100|266=>134|n=>n,fun|9=>9|3=>3|4=>4|5=>5|21=>21|117=>73|116=>72|0=>0|46=>53|124=>98|n=>n,fun|n=>n⟩
theorem Tryz.lays153:aq9 o7 Tryz.lays153_ren:={
 mixed:=by kernel_rfl
 f119:=Tryz.func101.trans (congrArg some (by kernel_rfl))
 f137:=aq3.trans (congrArg some (by kernel_rfl))
 f152:=Tryz.func75.trans (congrArg some (by kernel_rfl))
 f153:=Tryz.func58.trans (congrArg some (by kernel_rfl))
 f217:=af2.trans (congrArg some (by kernel_rfl))
 f224:=ag9.trans (congrArg some (by kernel_rfl))
 f225:=ah0.trans (congrArg some (by kernel_rfl))
 f226:=Tryz.func76.trans (congrArg some (by kernel_rfl))
 f227:=Tryz.func77.trans (congrArg some (by kernel_rfl))
 f228:=Tryz.func78.trans (congrArg some (by kernel_rfl))
 f266:=af3.trans (congrArg some (by kernel_rfl))
 t0:=aa4
 a0:=ad5
 z0:=ac7
 v0:=aa9
 t3:=s8
 a3:=ab2
 z3:=aa6
 v3:=w8
 t4:=w9
 a4:=ab9
 z4:=ab1
 v4:=x4
 t5:=x8
 a5:=ac5
 z5:=ac0
 v5:=z7
 t9:=x9
 a9:=ac6
 z9:=ac1
 v9:=aa0
 t21:=Tryz.underlying21
 a21:=Tryz.isAgg21
 z21:=Tryz.sizeOf21
 v21:=Tryz.zeroValue21
 t46:=aa8
 a46:=ad6
 z46:=ad1
 v46:=ab3
 t116:=Tryz.underlying72
 a116:=Tryz.isAgg72
 z116:=Tryz.sizeOf72
 t117:=Tryz.underlying73
 a117:=Tryz.isAgg73
 z117:=Tryz.sizeOf73
 v117:=Tryz.zeroValue73
 t124:=Tryz.underlying98
 a124:=Tryz.isAgg98
 z124:=Tryz.sizeOf98
 v124:=Tryz.zeroValue98 }
end Go.Proofs
namespace Go.Proofs.YtcfingekgbbclaaGreatDoor.E
set_option linter.all false
section
open Go Go.Proofs Go.Sort
set_option maxRecDepth 100000
theorem TS{C:Cfg}{St:Nat->Prop}{w:World}{g:Nat}{k:IntKind}{zs:List Int}(a:GOK C St w)(b:C.G=GX)(h:GX.tab g=some (k,zs)):∃e x,w.heap[g]? = some (.cells (zs.map λz=>Value.int k z).toArray e x):=(a.1 g k zs (by rw[b];exact h)).2
theorem B66{C:Cfg}{St:Nat->Prop}{w:World}(a:GOK C St w)(b:C.G=GX):∃m,w.cell? ⟨0,0,none⟩=some (.int .i64 m):=(a.2 _ (by rw[b];rfl)).2
theorem DK{w:World}{g:Nat}{a:List Int}{k:IntKind}{e:TypeId}{x}(h:w.heap[g]? = some (.cells (a.map λz=>Value.int k z).toArray e x))(i:Nat)(b:i<a.length):w.cell? ⟨g,i,none⟩=some (.int k (a.getD i 0)):=by simp[World.cell?,h,a8,j4 b]
theorem Cq8{C:Cfg}{St:Nat->Prop}{w:World}(f:GOK C St w)(a:C.G=GX):Lib.Utf8Tabs 2 3 w:=by
 obtain⟨j,m,h⟩:=TS (g:=2) (k:=.u8) (zs:=aj6) f a rfl;obtain⟨b,n,d⟩:=TS (g:=3) (k:=.u8) (zs:=Ft) f a rfl;refine⟨λc a=>?_,λi l=>⟨?_,?_⟩⟩
 ·rw[DK h c (by simp[aj6];omega)];simp[aj6,a8,j4,a]
 ·rw[DK d (2*i) (by simp[Ft];omega)];have:2*i<32:=by omega
  simp[Ft,a8,this]
 ·rw[DK d (2*i+1) (by simp[Ft];omega)];have:2*i+1<32:=by omega
  have e:(2*i+1) / 2=i:=by omega
  have b:¬(2*i+1) % 2=0:=by omega
  simp[Ft,a8,this,e,b]
theorem B67{C:Cfg}{St:Nat->Prop}{w:World}(b:GOK C St w)(c:C.G=GX):Lib.TabIs o7 w "internal/strconv.uint64pow10" .u64 ao5:=by
 obtain⟨d,e,a⟩:=TS (g:=1) (k:=.u64) (zs:=ao5) b c rfl;unfold Lib.TabIs World.var?
 rw [show o7.globalNamed "internal/strconv.uint64pow10" = some 1 by kernel_rfl]
 simp only[Option.bind_some,a]
theorem Ba4:B0 o7 GX 154 FT:=by
 refine B0.fix (pf:=RD) _ (G7 (fn:=Tryz.f154) (by kernel_rfl) (by kernel_rfl) (by kernel_rfl) ?_);intro args ret o h;unfold RD at h;split at h
 ·rename_i s p;obtain⟨b,h⟩:=B9 h;obtain⟨rfl,rfl⟩:=I7 h;refine⟨rfl,rfl,λC r a t w q c f d=>?_⟩;obtain⟨U,V,rfl,j,k⟩:=d.arr2;obtain⟨n,rfl,rfl⟩:=j.inv_str;obtain⟨l,rfl,rfl⟩:=k.inv_str;obtain⟨m,g⟩:=B66 c a;have i:=L6 b;refine(Any.strings_Index Tryz.lays143 n l m w (by simp at i;omega) g).mono ?_;rintro e w' ⟨rfl,rfl⟩;exact⟨_,rfl,ae5 _ _,VP.mk_int _ _⟩
 ·cases h
theorem Cm1:B0 o7 GX 54 Am1:=by
 refine B0.fix (pf:=RC) _ (G7 (fn:=Tryz.f54) (by kernel_rfl) (by kernel_rfl) (by kernel_rfl) ?_);intro args ret q h;unfold RC at h;split at h
 ·rename_i s p;obtain⟨b,h⟩:=B9 h;obtain⟨rfl,rfl⟩:=I7 h;refine⟨rfl,rfl,λC t a u w r c f d=>?_⟩;obtain⟨U,V,rfl,j,k⟩:=d.arr2;obtain⟨o,rfl,rfl⟩:=j.inv_str;obtain⟨l,rfl,rfl⟩:=k.inv_str;obtain⟨m,g⟩:=B66 c a;have i:=L6 b;refine(Any.strings_Cut Tryz.lays145 o l m w (by simp at i;omega) g).mono ?_;rintro e w' ⟨rfl,n,rfl⟩;exact⟨_,rfl,Ny _ _,VP.mk_tup3 (VP.mk_str _) (VP.mk_str _) (VP.mk_bool _)⟩
 ·cases h
theorem Cm0:B0 o7 GX 166 Am0:=by
 refine B0.fix (pf:=RA) _ (G7 (fn:=Tryz.f166) (by kernel_rfl) (by kernel_rfl) (by kernel_rfl) ?_);intro args ret o h;unfold RA at h;split at h
 ·rename_i s p;obtain⟨f,h⟩:=B9 h;obtain⟨rfl,rfl⟩:=I7 h;refine⟨rfl,rfl,λC t g u w q r j i=>?_⟩;obtain⟨U,V,rfl,l,m⟩:=i.arr2;obtain⟨n,rfl,rfl⟩:=l.inv_str;obtain⟨b,rfl,k⟩:=m.inv_str;obtain⟨c,rfl⟩:∃c,p=[c]:=by
   match p,f with
   | [c],_=>exact⟨c,rfl⟩
  have a:b=⟨#[c]⟩:=by
   cases b with
   | mk d=>congr 1;exact Array.toList_inj.1 k
  subst a;refine(Any.strings_Count_one Tryz.lays138 n c w).mono ?_;rintro e w' ⟨rfl,rfl⟩;exact⟨_,rfl,ae5 _ _,VP.mk_int _ _⟩
 ·cases h
theorem Ck9:B0 o7 GX 51 Ak9:=by
 refine B0.fix (pf:=PM) _ (G7 (fn:=Tryz.f51) (by kernel_rfl) (by kernel_rfl) (by kernel_rfl) ?_);intro args ret l h;unfold PM at h;split at h
 ·rename_i n;obtain⟨b,h⟩:=B9 h;obtain⟨rfl,rfl⟩:=I7 h;refine⟨rfl,rfl,λC o a p w m c i g=>?_⟩;obtain⟨U,rfl,j⟩:=g.arr1;obtain rfl:=j.inv_int;obtain⟨d,f⟩:=D9.1 b;refine(Any.strconv_Itoa Tryz.laysM171 n (by omega) (by omega) w (B67 c a)).mono ?_;rintro e w' ⟨rfl,k,os,rfl⟩;refine⟨_,rfl,(Ny w k).trans (show ap1 w.heap.size _ _ from GO (w.drewN k) os),?_⟩;have:Lib.itoa n=Lib.decDigits n.toNat:=by unfold Lib.itoa;rw[F9]
  rw[this];exact VP.mk_str _
 ·cases h
theorem Bj3{l:LL}(h:l.all isS=true):l=D4 (l.map elS):=by
 unfold D4;rw[ae3]
 symm
 rw[ab0 (g:=id)]
 ·simp
 ·intro x a;have:=x7.1 h x a;unfold isS at this;split at this
  ·rfl
  grind
theorem Bk9:B0 o7 GX 111 RG:=by
 refine B0.fix (pf:=FX) _ (G7 (fn:=Tryz.f111) (by kernel_rfl) (by kernel_rfl) (by kernel_rfl) ?_);intro args ret Hc h;unfold FX at h;split at h
 ·rename_i z t l p;obtain⟨L,h⟩:=B9 h;obtain⟨O,h⟩:=B9 h;obtain⟨P,h⟩:=B9 h;obtain⟨rfl,rfl⟩:=I7 h;refine⟨rfl,rfl,λC hP Q Γ w Vs hG H R=>?_⟩;obtain⟨U,V,rfl,Z,hv⟩:=R.arr2;obtain⟨u,rfl,rfl⟩:=hv.inv_str;have m:=L6 O;have hn:=L6 P;have Y:=Z.inv_s;have c:∀(a:Option Addr) (cap:Nat),l=[]->Calls o7 111 #[.slice a 0 cap,.string u] w λe w'=>∃V,e = .returned V/\ap1 w.heap.size w w'/\VP Γ (A5 []) w' (.s (.str (ab7 (l.map elS) u.data.toList))) V:=by
   intro a cap T;subst T;refine(Any.strings_Join_none Tryz.lays156 Tryz.Builder_Extra_156 a cap u w).mono ?_;rintro e w' ⟨rfl,rfl⟩;exact⟨_,rfl,ae5 _ _,VP.mk_str _⟩
  cases Y with
  | nil=>exact c _ _ rfl
  | emp=>exact c _ _ rfl
  | sl _ _ g off n cap sz Vc I M hm ht S W y K=>
   subst I;have N:=Bj3 L;have J:∀i (h:i<l.length),∃b:ByteArray,(l[i])=[SV.str b.data.toList]/\w.cell? ⟨g,off+i,none⟩=some (.string b):=by
    intro i B;have d:=x7.1 L (l[i]) (List.getElem_mem B);unfold isS at d;split at d
    ·rename_i x r;have k:=y i B 0 (by rw[r];simp);have o:=K i B 0 (by rw[r];simp);simp only[r,List.getElem_cons_zero] at o;obtain⟨b,f,rfl⟩:=o.inv_str;rw[f] at k;exact⟨b,r,by simpa using k⟩
    ·cases d
   obtain⟨xs,q,A⟩:∃xs:List ByteArray,xs.map (·.data.toList)=l.map elS/\∀(j:Nat) x,xs[j]? = some x->w.cell? ⟨g,off+j,none⟩=some (.string x):=by
    refine⟨(l.map elS).map λs=>⟨s.toArray⟩,by simp[af9],?_⟩;intro j x d;simp only[aj9] at d;cases D:l[j]? with
    | none=>simp[D] at d
    | some el=>
     obtain⟨F,rfl⟩:=List.getElem?_eq_some_iff.1 D;obtain⟨b,f,v⟩:=J j F;simp only[D,w6,j2] at d;rw[f] at d;simp[elS,SV.gS] at d;rw[<-d];exact v
   have G:xs.length=l.length:=by
    have:=congrArg o0 q;simpa using this
   rw[<-q] at m ⊢;have f:g<w.heap.size:=H g S;have X:l.length<=140737488355328:=by omega
   refine(G▸Any.strings_Join Tryz.lays156 Tryz.Builder_Extra_156 g off cap xs u w A f (by omega) (by omega) (by omega)).mono ?_;rintro e w' ⟨rfl,hw⟩;exact⟨_,rfl,hw,VP.mk_str _⟩
 ·cases h
theorem KJ(b:Nat)(f:b<=9223372036854775808):B0 o7 GX 53 (Ko b):=by
 induction b with
 | zero=>
  intro args ret c h;exfalso;unfold Ko Hl at h;split at h
  ·rename_i n g;obtain⟨a,h⟩:=B9 h;have:=D9.1 a;omega
  ·cases h
 | succ b d=>
  refine B0.fix (pf:=Hl (b+1)) _ (I6 [] (C₀:=Zb b) (L5.ok (l:=[(53,Ko b)]) rfl ⟨d (by omega),trivial⟩) (I4 rfl (by kernel_rfl)) follows ?_);intro args ret c h;unfold Hl at h;split at h
  ·rename_i n;obtain⟨a,h⟩:=B9 h;obtain⟨rfl,rfl⟩:=I7 h;have e:=(Ar8 b noY () 0 n).trans (TR b (by omega) n a);exact⟨rfl,rfl,rfl,1,_,_,e,rfl⟩
  ·cases h
theorem OR:B0 o7 GX 53 Xv:=KJ 4294967296 (by omega)
theorem Dh0(x:Nat)(h:x<65536):An4 .u64 (x:Int) 15=((x % 16:Nat):Int):=by unfold An4;rw[show aj3 .u64=64 from rfl,show(15:Int)=((15:Nat):Int) from rfl,C69 64 x 15 (by omega) (by omega),show x &&& 15=x % 16 from Nat.and_two_pow_sub_one_eq_mod x 4];exact WW (by omega) (by omega)
theorem Dk6(x:Nat):Tu .u64 (x:Int) 4=((x / 16:Nat):Int):=by unfold Tu;show Int.fdiv (x:Int) 16=_;grind
theorem Be5(d:Nat)(h:d<16):bAt (([48,49,50,51,52,53,54,55,56,57,97,98,99,100,101,102,103,104,105,106,107,108,109,110,111,112,113,114,115,116]:List UInt8)++([117,118,119,120,121,122]:List UInt8)) (d:Int)=((Qv d).toNat:Int):=by
 have:∀d:Fin 16,bAt (([48,49,50,51,52,53,54,55,56,57,97,98,99,100,101,102,103,104,105,106,107,108,109,110,111,112,113,114,115,116]:List UInt8)++([117,118,119,120,121,122]:List UInt8)) (d.val:Int)=((Qv d.val).toNat:Int):=by decide
 exact this ⟨d,h⟩
def Ss(i:Nat)(s:By):LL:=b9 i [SV.int .u8 0]++s.map D7
theorem HK(i:Nat)(s:By):(Ss i s).length=i+s.length:=by simp[Ss]
theorem YL(i:Nat)(s:By)(c:UInt8):ah6 (Ss (i+1) s) i (F8 (o6 (Ss (i+1) s) i []) 0 [SV.int .u8 (c.toNat:Int)])=Ss i (c::s):=by
 have a:o6 (Ss (i+1) s) i []=[SV.int .u8 0]:=by
  unfold Ss;grind
 rw[a];unfold Ss;rw[List.replicate_succ',p9,List.set_append_right _ _ (by simp),List.length_replicate,ap0];rfl
theorem Ar5{R:Type}(z t:Bool)(l:LL){e:Bool->Bool->LL->Int->Int->LL->Option R}:∀(v i n:Nat) (s:By),v<65536->v<n->i+s.length=65->(R2 v).length+s.length<=60->
  ∃(u a:Nat) (b:By),u<16/\Qv u::b=R2 v++s/\a+b.length=65/\Jq LF n z t l (v:Int) (i:Int) (Ss i s) e=e z t l (u:Int) (a:Int) (Ss a b):=by
 intro v
 induction v using ah2 with
 | _ v w=>
  intro i n s r y q x;obtain⟨n,rfl⟩:∃m,n=m+1:=⟨n-1,by omega⟩
  rw[Jq];by_cases h:v<16
  ·refine⟨v,i,s,h,by rw[Gj h];rfl,q,?_⟩;rw[A8];rfl
  ·have d:=Fk h;have c:(R2 v).length=(R2 (v / 16)).length+1:=by rw[d];simp
   obtain⟨j,rfl⟩:∃j,i=j+1:=⟨i-1,by omega⟩
   have f:A1 (((j+1:Nat):Int)-1)=(j:Int):=by rw[A7];omega
   obtain⟨u,a,b,g,k,o,p⟩:=w (v / 16) (by omega) j n (Qv (v % 16)::s) (by omega) (by omega) (by rw[k9];omega) (by rw[k9];omega);refine⟨u,a,b,g,by rw[k,d];simp,o,?_⟩;rw[A6,b8,cond_true,Dh0 v r];simp only[vl];rw[Dk6,f,c9,E6,Be5 _ (by omega),E6];simp only[cond_true];rw[YL,HK,show(decide (j<j+1+s.length))=true from decide_eq_true (by omega)];exact p
theorem Bm9{R:Type}{k0:By->LL->Option R}(z t:Bool)(l:LL)(v:Int)(f:ltN v 65536=true):∃p,YV LF z t l v k0=k0 (R2 v.toNat) p:=by
 obtain⟨d,m⟩:=D9.1 f;obtain⟨v,rfl⟩:=j8 d;have k:=C2;have r:=IB v (by omega);rw[c9];unfold YV;have o:(b9 65 [SV.int .u8 (0:Int)])=Ss 65 []:=by unfold Ss;rw[ao8,s7]
 rw[o];obtain⟨u,i,s,g,c,q,h⟩:=Ar5 (R:=R) z t l v 65 LF [] (by omega) (by omega) rfl (by rw[y9];omega);rw[s7] at c;have n:s.length<=3:=by have:=congrArg o0 c;rw[k9] at this;omega
 obtain⟨j,rfl⟩:∃j,i=j+1:=⟨i-1,by omega⟩
 refine⟨Ss j (Qv u::s),?_⟩;rw[show((16:Int)==16)=true from rfl,cond_true,cond_true];refine j7 h ?_;have e:A1 (((j+1:Nat):Int)-1)=(j:Int):=by rw[A7];omega
 simp only[vl];rw[e,c9,E6,Be5 u g,E6];simp only[cond_true];have a:(Qv u::s).length=s.length+1:=rfl;have b:((Ss j (Qv u::s)).drop j).take (65-j)=(Qv u::s).map D7:=by
  unfold Ss;rw[List.drop_left' (by simp),p6 (by rw[o9,a];omega)]
 rw[YL,HK,HK,show(decide (j<j+1+s.length))=true from decide_eq_true (by omega),a,show(decide (j+(s.length+1)=65))=true from decide_eq_true (by omega),H9,b,W0,W8,c];rfl
theorem Ar6(z t:Bool)(l:LL)(v:Int)(c:ltN v 65536=true):∃r H,YV LF z t l v (λb a=>rv (.tup [.fl 0,.s (.str b)]) [.arr true 5 1 [],.arr false 138 1 a])=rv r H/\r.stab [1,0] H = .tup [.s (.sl true true 1 []),.s (.str (R2 v.toNat))]:=by obtain⟨d,e⟩:=Bm9 (k0:=(λb a=>rv (.tup [.fl 0,.s (.str b)]) [.arr true 5 1 [],.arr false 138 1 a])) z t l v c;exact⟨_,_,e,rfl⟩
theorem Bn0{C:Cfg}{St:Nat->Prop}{w:World}(c:GOK C St w)(d:C.G=GX):TabAt 5 aj4 w:=by obtain⟨e,f,b⟩:=TS (g:=5) (k:=.u8) (zs:=aj4.map λn:Nat=>(n:Int)) c d rfl;intro j a;rw[DK b j (by rw[o9];exact a)];simp[a8,j4 a]
theorem Dk7:B0 o7 GX 162 C79:=by
 refine B0.fix (pf:=B29) _ (G7 (fn:=Tryz.f162) (by kernel_rfl) (by kernel_rfl) (by kernel_rfl) ?_);intro args ret i h;unfold B29 at h;split at h
 ·rename_i x;obtain⟨b,h⟩:=B9 h;obtain⟨rfl,rfl⟩:=I7 h;obtain rfl:x=16:=eq_of_beq b;refine⟨rfl,rfl,λC k a l w j c f d=>?_⟩;obtain⟨U,rfl,g⟩:=d.arr1;obtain rfl:=g.inv_int;refine(Any7.bits_TrailingZeros Tryz.lays7_27 16 (by omega) w (λ_=>Bn0 c a)).mono ?_;rintro e w' ⟨rfl,rfl⟩;exact⟨_,rfl,ae5 _ _,VP.mk_int _ _⟩
 ·cases h
theorem C28:B0 o7 GX 161 PL:=by
 refine B0.fix (pf:=EL) _ (I6 [] (C₀:=SL LF) (L5.ok (l:=[]) rfl trivial) (I4 rfl (by kernel_rfl)) follows ?_);intro args ret b h;unfold EL at h;split at h
 ·rename_i x;obtain⟨a,h⟩:=B9 h;obtain⟨rfl,rfl⟩:=I7 h;obtain rfl:x=16:=eq_of_beq a;exact⟨rfl,rfl,rfl,1,_,_,B84 LF noY () 0,rfl⟩
 ·cases h
theorem C24:B0 o7 GX 132 PA:=by
 refine B0.fix (pf:=EF) _ (I6 [1,0] (C₀:=Ho LF) (L5.ok (l:=[(161,PL),(162,C79)]) rfl ⟨C28,Dk7,trivial⟩) (I4 rfl (by kernel_rfl)) follows ?_);intro args ret k h;unfold EF at h;split at h
 ·rename_i c a ds v b neg app;obtain⟨d,h⟩:=B9 h;obtain⟨f,h⟩:=B9 h;obtain⟨g,h⟩:=B9 h;obtain⟨i,h⟩:=B9 h;obtain⟨rfl,rfl⟩:=I7 h;obtain rfl:b=16:=eq_of_beq f;obtain rfl:neg=false:=by simpa using g
  obtain rfl:app=false:=by simpa using i
  obtain⟨r,H,e,j⟩:=Ar6 c a ds v d;exact⟨rfl,rfl,rfl,1,r,H,(B63 LF noY () 0 c a ds v).trans e,j⟩
 ·cases h
theorem C27:B0 o7 GX 157 PK:=by
 refine B0.fix (pf:=EK) _ (I6 [] (C₀:=SK LF) (L5.ok (l:=[(132,PA)]) rfl ⟨C24,trivial⟩) (I4 rfl (by kernel_rfl)) follows ?_);intro args ret f h;unfold EK at h;split at h
 ·rename_i v b;obtain⟨a,h⟩:=B9 h;obtain⟨c,h⟩:=B9 h;obtain⟨rfl,rfl⟩:=I7 h;obtain rfl:b=16:=eq_of_beq c;have e:Bf7 LF v (λd=>rv (.s (.str d)) [])=rv (.s (.str (R2 v.toNat))) []:=by
   unfold Bf7;rw[a];rfl
  exact⟨rfl,rfl,rfl,1,_,_,(B77 LF noY () 0 v).trans e,rfl⟩
 ·cases h
theorem Dd3:B0 o7 GX 128 B07:=by
 refine B0.fix (pf:=PB) _ (I6 [] (C₀:=Ao2 LF) (L5.ok (l:=[(157,PK)]) rfl ⟨C27,trivial⟩) (I4 rfl (by kernel_rfl)) follows ?_);intro args ret f h;unfold PB at h;split at h
 ·rename_i v b;obtain⟨a,h⟩:=B9 h;obtain⟨c,h⟩:=B9 h;obtain⟨rfl,rfl⟩:=I7 h;obtain rfl:b=16:=eq_of_beq c;have e:Cq5 LF v (λd=>rv (.s (.str d)) [])=rv (.s (.str (R2 v.toNat))) []:=by
   unfold Cq5;rw[a];rfl
  exact⟨rfl,rfl,rfl,1,_,_,(Cq6 LF noY () 0 v).trans e,rfl⟩
 ·cases h
end
section
open Go Go.Proofs
theorem Dc6(z t:Bool)(l:LL)(c:l.all Vr=true)(d:x3 l.length 8=true):∃r H,v6j LF z t l (λb a=>rv (.s (.str b)) [.arr true 9 1 a])=rv r H/\r.stab [] H = .s (.str (S8 (l.map elN))):=by obtain⟨f,e⟩:=Ck0 (k0:=(λb a=>rv (.s (.str b)) [.arr true 9 1 a])) z t l c d;exact⟨_,_,e,rfl⟩
theorem Dc4(a b c d f g h i:Int)(l:ok8 a b c d f g h i=true):∃r H,v6f LF a b c d f g h i (λk j=>rv (.s (.str k)) [.arr false 25 1 j])=rv r H/\r.stab [] H = .s (.str (Nd (n8 a b c d f g h i))):=by obtain⟨m,e⟩:=Cj8 (k0:=(λk j=>rv (.s (.str k)) [.arr false 25 1 j])) a b c d f g h i l;exact⟨_,_,e,rfl⟩
def v6V(s:By):PV:=.tup [.agg [.s (.int .u16 (v6c 0 s)),.s (.int .u16 (v6c 1 s)),.s (.int .u16 (v6c 2 s)),.s (.int .u16 (v6c 3 s)),.s (.int .u16 (v6c 4 s)),.s (.int .u16 (v6c 5 s)),.s (.int .u16 (v6c 6 s)),.s (.int .u16 (v6c 7 s))],.s (.bool (v6B s).isSome)]
theorem Dc9(s:By)(k:A3 s.length=true):∃r H,v6p LF s (λb c d f g h i j r8 a l10=>rv (.tup [.agg [.s (.int .u16 b),.s (.int .u16 c),.s (.int .u16 d),.s (.int .u16 f),.s (.int .u16 g),.s (.int .u16 h),.s (.int .u16 i),.s (.int .u16 j)],.s (.bool r8)]) [.arr false 25 1 a,.arr false 25 1 l10])=rv r H/\r.stab [0,0] H=v6V s:=by obtain⟨l,m,e⟩:=Ck1 (k0:=(λb c d f g h i j r8 a l10=>rv (.tup [.agg [.s (.int .u16 b),.s (.int .u16 c),.s (.int .u16 d),.s (.int .u16 f),.s (.int .u16 g),.s (.int .u16 h),.s (.int .u16 i),.s (.int .u16 j)],.s (.bool r8)]) [.arr false 25 1 a,.arr false 25 1 l10])) s k;exact⟨_,_,e,rfl⟩
theorem Cz1(s:By)(k:A3 s.length=true):∃r H,Cg1 LF s (λb c d f g h i j r8 a l10=>rv (.tup [.agg [.s (.int .u16 b),.s (.int .u16 c),.s (.int .u16 d),.s (.int .u16 f),.s (.int .u16 g),.s (.int .u16 h),.s (.int .u16 i),.s (.int .u16 j)],.s (.bool r8)]) [.arr false 25 1 a,.arr false 25 1 l10])=rv r H/\r.stab [0,0] H=v6V s:=by obtain⟨l,m,e⟩:=Bv9 (k0:=(λb c d f g h i j r8 a l10=>rv (.tup [.agg [.s (.int .u16 b),.s (.int .u16 c),.s (.int .u16 d),.s (.int .u16 f),.s (.int .u16 g),.s (.int .u16 h),.s (.int .u16 i),.s (.int .u16 j)],.s (.bool r8)]) [.arr false 25 1 a,.arr false 25 1 l10])) s k;exact⟨_,_,e,rfl⟩
set_option maxRecDepth 100000
section
variable {Z R : Type} (L : Nat) (Q : F7) (Y : Yh Z) (s : Z) (k : Out -> St Z -> Option R)
noncomputable abbrev XX:Code:=C4 aq1
noncomputable def Fu(L:Nat):Cfg:=B4 L [81] (A2 [(16,[2,0,4,41,0,0])]) [(59,EJ),(105,Bb0),(106,B09),(107,Bd2),(90,Pk),(108,B17),(109,LX),(110,B13),(111,RG)] (A2 [(28,[2,0]),(25,[2,0]),(27,[2,0]),(26,[2,10,64]),(24,[2,10,59]),(23,[2,10]),(22,[2,5,41,0,0]),(21,[2,5,41,0,0]),(20,[2,0]),(19,[2,5,0,1,0,37,0,0,10]),(18,[2,5,0,1,0,37,0,0]),(17,[2,5,0,0,39,0,0]),(16,[2,5,41,0,0,0]),(15,[2,5,41,0,0]),(14,[2,5]),(13,[2,0]),(12,[2,0]),(11,[2,3,37]),(10,[2,3,0]),(9,[2,1,32]),(8,[2,1]),(7,[2,0]),(6,[2,1,27]),(5,[2,1,0]),(2,[2,0]),(4,[2,0]),(3,[0,1,16]),(1,[0,1,11]),(0,[0,1])]) [59,106,107,90,108,110,111] (A2 [(3,[2,10]),(1,[2,5]),(2,[2,5,41,0,0]),(0,[0,1])]) (some [2,0]) [] [] []
noncomputable def R8{R:Type}(L n:Nat)(a:Nat)(i c:Int)(e:LL)(g:Int->LL->Option R)(h:Nat->LL->Option R):Option R:=match n with|0=>none|n+1=>cond (ltI c i) (cond (inR c a) (cond (okE Oz e (0+(j5 c)) 0) (vl (gX e (0+(j5 c)) 0) λb=>cond (A3 b.length) (vl (↑((I5 b)).2:Int) λd=>cond (d !=0) (g d e) (cond (inR c a) (cond (decide ((0+(j5 c))<e.length)) (vl (ah6 e (0+(j5 c)) (F8 (o6 e (0+(j5 c)) []) 0 [(SV.str ((I5 b)).1)])) λf=>R8 L n a i (A1 (c+1)) f g h) none) none)) none) none) none) (h a e)
theorem TT(n:Nat)(a:Nat)(d e:Int)(c:LL):C5 2 ((Fu L).keep 16) (bd (Fu L) Q Y (cd [1,1,1,1,1,1,1,0,1,0,0] XX)) n ⟨gp [(2,.ptr 0 0 0),(5,.vw 1 0 a),(41,.vw 1 0 a),(0,pI d),(0,pI e)] 31,[.box [pI (0:Int),pS ([]:List UInt8),p32 (0:Int),p16 (0:Int),p16 (0:Int),p16 (0:Int),p16 (0:Int),p16 (0:Int),p16 (0:Int),p16 (0:Int),p16 (0:Int)],.arr false 9 1 c],s⟩ k =
 R8 L n a d e c (λn0 b=>k .ret ⟨gp [(2,.ptr 0 0 0),(0,pI n0)] 80,[.box [pI (0:Int),pS ([]:List UInt8),p32 (0:Int),p16 (0:Int),p16 (0:Int),p16 (0:Int),p16 (0:Int),p16 (0:Int),p16 (0:Int),p16 (0:Int),p16 (0:Int)],.arr false 9 1 b],s⟩) (λa b=>k (.exit 1) ⟨gp [(2,.ptr 0 0 0),(5,.vw 1 0 a)] 75,[.box [pI (0:Int),pS ([]:List UInt8),p32 (0:Int),p16 (0:Int),p16 (0:Int),p16 (0:Int),p16 (0:Int),p16 (0:Int),p16 (0:Int),p16 (0:Int),p16 (0:Int)],.arr false 9 1 b],s⟩):=by
 induction n generalizing a d e c with
 | zero=>rfl
 | succ n f=>rw[R8];simp only[<-f];kernel_rfl
noncomputable def Zs{R:Type}(L:Nat)(a:By)(t:Int->By->Int->Int->Int->Int->Int->Int->Int->Int->Int->Int->Int->By->Int->Int->Int->Int->Int->Int->Int->Int->Int->Option R)(y:Int->By->Int->Int->By->LL->Option R):Option R:=cond (ltI 1024 (a.length:Int)) (t 0 ([]:List UInt8) 0 0 0 0 0 0 0 0 0 3 0 ([]:List UInt8) 0 0 0 0 0 0 0 0 0) (cond (A3 a.length) (cond (ae0 ([91]:List UInt8) a) (cond (A3 a.length) (cond (B82 a) (vl (↑(B2.kind ((O9 a)).1):Int) λf=>vl (B2.name ((O9 a)).1) λr=>vl (↑(B2.v4 ((O9 a)).1):Int) λg=>vl (↑(o6 (B2.v6 ((O9 a)).1) 0 0):Int) λh=>vl (↑(o6 (B2.v6 ((O9 a)).1) 1 0):Int) λi=>vl (↑(o6 (B2.v6 ((O9 a)).1) 2 0):Int) λj=>vl (↑(o6 (B2.v6 ((O9 a)).1) 3 0):Int) λl=>vl (↑(o6 (B2.v6 ((O9 a)).1) 4 0):Int) λm=>vl (↑(o6 (B2.v6 ((O9 a)).1) 5 0):Int) λn=>vl (↑(o6 (B2.v6 ((O9 a)).1) 6 0):Int) λo=>vl (↑(o6 (B2.v6 ((O9 a)).1) 7 0):Int) λp=>vl (↑((O9 a)).2:Int) λw=>t f r g h i j l m n o p w f r g h i j l m n o p) none) none) (cond (A3 a.length) (cond (not (ag5 (R1 a))) (t 0 ([]:List UInt8) 0 0 0 0 0 0 0 0 0 14 0 ([]:List UInt8) 0 0 0 0 0 0 0 0 0) (cond (A3 (o0 (Et a))) (vl (WJ (Et a) ([46]:List UInt8)) λb=>cond (A3 b.length) (cond (G0 b) (cond (A3 b.length) (vl (↑(M0 (pnB b)):Int) λq=>cond (not (ag5 (pnB b))) (t 0 ([]:List UInt8) 0 0 0 0 0 0 0 0 0 14 0 ([]:List UInt8) 0 0 0 0 0 0 0 0 0) (t 2 ([]:List UInt8) q 0 0 0 0 0 0 0 0 0 2 ([]:List UInt8) q 0 0 0 0 0 0 0 0)) none) (cond (A3 b.length) (cond (1==1) (vl (D4 (pcs (o6 ([46]:List UInt8) 0 0) b)) λu=>R8 L L (o0 (pcs (o6 ([46]:List UInt8) 0 0) b)) (↑(o0 (pcs (o6 ([46]:List UInt8) 0 0) b)):Int) 0 u (λx v=>y 0 ([]:List UInt8) x 0 ([]:List UInt8) v) (λc d=>cond (af6 (ac4 c (ad0 0 d)) isS) (cond (A3 (o0 (ab7 (ab4 elS (ac4 c (ad0 0 d))) ([46]:List UInt8)))) (cond (A3 (o0 (ac4 c (ad0 0 d)))) (vl (ab7 (ab4 elS (ac4 c (ad0 0 d))) ([46]:List UInt8)) λe=>cond (ltI 253 (e.length:Int)) (y 0 ([]:List UInt8) 3 0 ([]:List UInt8) d) (cond (A3 e.length) (cond (G0 e) (y 0 ([]:List UInt8) 14 0 ([]:List UInt8) d) (y 1 e 0 1 e d)) none)) none) none) none)) none) none)) none) none)) none)) none)
theorem Bn6(d:Nat)(raw0):evC (Fu L) (d+1) Z Y 81 [pS raw0] [] s=Zs L raw0 (λo p t M N O P S r8 T q r c u e f g h i j l m n=>some (.tup [.agg [pI o,pS p,p32 t,p16 M,p16 N,p16 O,p16 P,p16 S,p16 r8,p16 T,p16 q],pI r],[.box [pI c,pS u,p32 e,p16 f,p16 g,p16 h,p16 i,p16 j,p16 l,p16 m,p16 n]],s)) (λo p t K U J=>some (.tup [.agg [pI o,pS p,p32 (0:Int),p16 (0:Int),p16 (0:Int),p16 (0:Int),p16 (0:Int),p16 (0:Int),p16 (0:Int),p16 (0:Int),p16 (0:Int)],pI t],[.box [pI K,pS U,p32 (0:Int),p16 (0:Int),p16 (0:Int),p16 (0:Int),p16 (0:Int),p16 (0:Int),p16 (0:Int),p16 (0:Int),p16 (0:Int)],.arr false 9 1 J],s)):=by refine(evE (fn:=aq1) (by kernel_rfl)).trans ?_;generalize evC (Fu L) d=Q;unfold Zs;exact(j7 (by kernel_rfl) (A0 rfl (A0 (A0 (A0 (A0 (A4 λv=>(A4 λI=>(A4 λw=>(A4 λx=>(A4 λy=>(A4 λz=>(A4 λA=>(A4 λB=>(A4 λC=>(A4 λD=>(A4 λF=>(A4 λG=>rfl)))))))))))) rfl) rfl) (A0 (A0 rfl (A0 (A4 λa=>(A0 (A0 (A0 (A4 λH=>(A0 rfl rfl)) rfl) (A0 (A0 (A4 λb=>((TT L Q Y s (E3 1 (E2 (Fu L) Q Y (cd [1,1,1,1,1,1,1,1] XX) (F5 (Fu L) aq1))) L (o0 (pcs (o6 ([46]:List UInt8) 0 0) a)) (↑(o0 (pcs (o6 ([46]:List UInt8) 0 0) a)):Int) 0 b).trans (by kernel_rfl))) rfl) rfl)) rfl)) rfl)) rfl)) rfl)))
noncomputable abbrev Bd6:Code:=C4 an8
noncomputable def Kw(L:Nat):Cfg:=B4 L [126] (A2 [(6,[0,1,0,1,10,0,0])]) [(155,B16),(141,Al3)] (A2 [(13,[2]),(12,[0,3,0,2]),(11,[0,2,1,10,0,0]),(10,[0,2,1,10,0,0]),(9,[2]),(8,[0,2,1,1,8,0,0,8]),(7,[0,2,1,1,8,0,0]),(6,[0,2,1,10,0,0,0]),(5,[0,2,1,10,0,0]),(4,[0,2,1]),(3,[2]),(2,[0,2,11]),(1,[0,2,0]),(0,[0])]) [141] (A2 [(0,[0,2,1]),(1,[0,2,1,10,0,0])]) (some [2]) [] [] []
noncomputable def W7{R:Type}(L n:Nat)(i:By)(b:Bool)(a:LL)(c:Bool)(h e:Int)(f:Unit->Option R)(g:By->Bool->LL->Bool->Option R):Option R:=match n with|0=>none|n+1=>cond (ltI e h) (cond (inR e a.length) (cond (okE Kk a (j5 e) 0) (vl (gE a (j5 e) 0) λd=>cond (not (ltI d 65)) (cond (not (ltI 90 d)) (f ()) (cond c (W7 L n i b a (ltI d 128) h (A1 (e+1)) f g) (W7 L n i b a false h (A1 (e+1)) f g))) (cond c (W7 L n i b a (ltI d 128) h (A1 (e+1)) f g) (W7 L n i b a false h (A1 (e+1)) f g))) none) none) (g i b a c)
theorem ZV(n d a b c n4 n5):C5 0 ((Kw L).keep 6) (bd (Kw L) Q Y (cd [1,1,1,1,0,1,0,0] Bd6)) n ⟨gp [(0,pS d),(2,.s (.sl a a 1 b)),(1,pB c),(10,.s (.sl a a 1 b)),(0,pI n4),(0,pI n5)] 31,[],s⟩ k =
 W7 L n d a b c n4 n5 (λ_=>k .ret ⟨gp [(2,pB false)] 47,[],s⟩) (λd a b c=>k (.exit 0) ⟨gp [(0,pS d),(2,.s (.sl a a 1 b)),(1,pB c)] 44,[],s⟩):=by
 induction n generalizing d a b c n4 n5 with
 | zero=>rfl
 | succ n e=>rw[W7];simp only[<-e];kernel_rfl
noncomputable def Bg3{R:Type}(L:Nat)(d:By)(e:Bool->Option R):Option R:=cond (A3 d.length) (cond ((↑((M7 d)).2:Int)!=0) (e false) (W7 L L d (ao7 ((M7 d)).1) (Lo ((M7 d)).1) true (↑(o0 (Lo ((M7 d)).1)):Int) 0 (λ_=>e false) (λg c a b=>cond (af6 a Mx) (vl ((V2 (ab4 elI a))).1 λh=>vl (↑((V2 (ab4 elI a))).2:Int) λf=>cond (not b) (cond (f==0) (e (h==g)) (e false)) (e false)) none))) none
theorem B88(d:Nat)(s0):evC (Kw L) (d+1) Z Y 126 [pS s0] [] s=Bg3 L s0 (λa=>some (pB a,[],s)):=by refine(evE (fn:=an8) (by kernel_rfl)).trans ?_;generalize evC (Kw L) d=Q;unfold Bg3;exact(j7 (by kernel_rfl) (A0 (A0 rfl ((ZV L Q Y s (E3 0 (E2 (Kw L) Q Y (cd [1,1,1,1,1] Bd6) (F5 (Kw L) an8))) L s0 (ao7 ((M7 s0)).1) (Lo ((M7 s0)).1) true (↑(o0 (Lo ((M7 s0)).1)):Int) 0).trans (by kernel_rfl))) rfl))
noncomputable abbrev B39:Code:=C4 aq2
noncomputable def Sg(L:Nat):Cfg:=B4 L [92] (A2 [(4,[0,1,26,0])]) [(57,Ak5),(126,Bb3)] (A2 [(11,[2]),(10,[5,0]),(9,[0,28,0]),(8,[2]),(7,[0,28,0,28]),(6,[0,3,24,0]),(5,[0,2,25,0]),(4,[0,28,0,0]),(3,[0,28,0]),(2,[2]),(1,[0,26]),(0,[0])]) [57,126] (A2 [(0,[0]),(1,[0,28,0])]) (some [2]) [] [] []
noncomputable def Q6{R:Type}(L n:Nat)(b:By)(e a:Int)(c:Unit->Option R)(d:By->Option R):Option R:=match n with|0=>none|n+1=>cond (ltI a e) (cond (inR a b.length) (cond (not (ltI (bAt b a) (97:Int))) (cond (not (not (ltI 122 (bAt b a)))) (cond (not (ltI (bAt b a) (48:Int))) (cond (not (not (ltI 57 (bAt b a)))) (cond ((bAt b a)!=45) (cond ((bAt b a)!=95) (c ()) (Q6 L n b e (A1 (a+1)) c d)) (Q6 L n b e (A1 (a+1)) c d)) (Q6 L n b e (A1 (a+1)) c d)) (cond ((bAt b a)!=45) (cond ((bAt b a)!=95) (c ()) (Q6 L n b e (A1 (a+1)) c d)) (Q6 L n b e (A1 (a+1)) c d))) (Q6 L n b e (A1 (a+1)) c d)) (cond (not (ltI (bAt b a) (48:Int))) (cond (not (not (ltI 57 (bAt b a)))) (cond ((bAt b a)!=45) (cond ((bAt b a)!=95) (c ()) (Q6 L n b e (A1 (a+1)) c d)) (Q6 L n b e (A1 (a+1)) c d)) (Q6 L n b e (A1 (a+1)) c d)) (cond ((bAt b a)!=45) (cond ((bAt b a)!=95) (c ()) (Q6 L n b e (A1 (a+1)) c d)) (Q6 L n b e (A1 (a+1)) c d)))) none) (d b)
theorem Av4(n a n1 n2):C5 0 ((Sg L).keep 4) (bd (Sg L) Q Y (cd [1,1,0,1,0,0] B39)) n ⟨gp [(0,pS a),(28,pI n1),(0,pI n2)] 41,[],s⟩ k =
 Q6 L n a n1 n2 (λ_=>k .ret ⟨gp [(2,pB false)] 69,[],s⟩) (λa=>k (.exit 0) ⟨gp [(0,pS a)] 71,[],s⟩):=by
 induction n generalizing a n1 n2 with
 | zero=>rfl
 | succ n b=>rw[Q6];simp only[<-b];kernel_rfl
noncomputable def Ct6{R:Type}(L:Nat)(a:By)(b:Bool->Option R):Option R:=cond (ltI (a.length:Int) (1:Int)) (b false) (cond (ltI 63 (a.length:Int)) (b false) (cond (inR 0 a.length) (cond ((bAt a (0:Int))==45) (b false) (vl (A1 ((a.length:Int)-1)) λd=>cond (inR d a.length) (cond ((bAt a d)==45) (b false) (Q6 L L a (a.length:Int) 0 (λ_=>b false) (λc=>cond (A3 c.length) (vl (Gd c ([120,110,45,45]:List UInt8)) λe=>cond (not (ae0 ([120,110,45,45]:List UInt8) c)) (b true) (cond (A3 e.length) (b (Dg e)) none)) none))) none)) none))
theorem Ct7(d:Nat)(s0):evC (Sg L) (d+1) Z Y 92 [pS s0] [] s=Ct6 L s0 (λb=>some (pB b,[],s)):=by refine(evE (fn:=aq2) (by kernel_rfl)).trans ?_;generalize evC (Sg L) d=Q;unfold Ct6;exact(j7 (by kernel_rfl) (A0 rfl (A0 rfl (A0 (A0 rfl (A4 λa=>(A0 (A0 rfl ((Av4 L Q Y s (E3 0 (E2 (Sg L) Q Y (cd [1,1,1] B39) (F5 (Sg L) aq2))) L s0 (s0.length:Int) 0).trans (by kernel_rfl))) rfl))) rfl))))
noncomputable abbrev An5:Code:=C4 an7
noncomputable def Ob(L:Nat):Cfg:=B4 L [110] (A2 [(9,[2,0,1,20])]) [(139,XS),(140,XQ),(56,Al0),(141,Al3),(92,PU)] (A2 [(18,[2,0]),(17,[2,0]),(16,[4,41]),(15,[4]),(14,[2,0]),(13,[8,32]),(12,[8,0]),(11,[5,20]),(10,[5,1,18]),(9,[5,20,0,0]),(8,[5,20]),(7,[4,0]),(6,[4,19]),(5,[0,3]),(2,[2,0]),(4,[2,0]),(3,[0,13]),(1,[0,9]),(0,[0])]) [139,140,56,141,92] (A2 [(1,[5]),(2,[5,20]),(0,[0])]) (some [2,0]) [] [] []
noncomputable def Eo{R:Type}(L n:Nat)(c:LL)(b:By)(a:Nat)(e:LL->By->Nat->Option R):Option R:=match n with|0=>none|n+1=>cond (decide (a<b.length)) (vl ((ag4 ⟨ak1 b⟩ a)).1 λd=>cond (F6 (c.length+1)) (Eo L n (c++[[(SV.int .i64 (A1 d))]]) b (a+((ag4 ⟨ak1 b⟩ a)).2) e) none) (e c b a)
theorem At7(n:Nat)(a:LL)(c:By)(b:Nat):C5 2 ((Ob L).keep 9) (bd (Ob L) Q Y (cd [1,1,1,0,1,0,1,0,1,0,0] An5)) n ⟨gp [(5,.fl 0),(20,.it 1)] 21,[.arr true 3 1 a,.iter c b],s⟩ k =
 Eo L n a c b (λa c b=>k (.exit 1) ⟨gp [(5,.fl 0)] 42,[.arr true 3 1 a,.iter c b],s⟩):=by
 induction n generalizing a c b with
 | zero=>rfl
 | succ n d=>rw[Eo];simp only[<-d];kernel_rfl
noncomputable def ZS{R:Type}(L:Nat)(b:By)(g:By->Int->Option R)(h:By->Int->LL->By->Nat->Option R):Option R:=cond (A3 b.length) (cond (not (ag5 (Cv b))) (g ([]:List UInt8) 4) (cond (A3 b.length) (vl (↑(af5 b):Int) λi=>cond (ltI 256 i) (g ([]:List UInt8) 3) (cond (A3 b.length) (cond (A3 b.length) (vl (↑(af5 b):Int) λj=>cond (ltI j (b.length:Int)) (Eo L L [] (B6 b) 0 (λa e d=>cond (af6 a Mx) (vl ((V2 (ab4 elI a))).1 λf=>vl (↑((V2 (ab4 elI a))).2:Int) λl=>cond (l !=0) (h ([]:List UInt8) 14 a e d) (cond (E5 4 f.length) (vl (([120,110,45,45]:List UInt8)++f) λc=>cond (A3 c.length) (cond (not (K5 c)) (h ([]:List UInt8) 14 a e d) (h c 0 a e d)) none) none)) none)) (cond (A3 (o0 (B6 b))) (cond (not (K5 (B6 b))) (g ([]:List UInt8) 14) (g (B6 b) 0)) none)) none) none)) none)) none
theorem Cs5(d:Nat)(s0):evC (Ob L) (d+1) Z Y 110 [pS s0] [] s=ZS L s0 (λa b=>some (.tup [pS a,pI b],[],s)) (λa b c h e=>some (.tup [pS a,pI b],[.arr true 3 1 c,.iter h e],s)):=by refine(evE (fn:=an7) (by kernel_rfl)).trans ?_;generalize evC (Ob L) d=Q;unfold ZS;exact(j7 (by kernel_rfl) (A0 (A0 rfl (A0 (A4 λf=>(A0 rfl (A0 (A0 (A4 λg=>(A0 ((At7 L Q Y s (E3 1 (E2 (Ob L) Q Y (cd [1,1,1,0,1,0,1,1] An5) (E2 (Ob L) Q Y (cd [1,1,1,1] An5) (F5 (Ob L) an7)))) L [] (B6 s0) 0).trans (by kernel_rfl)) (A0 (A0 rfl rfl) rfl))) rfl) rfl))) rfl)) rfl))
noncomputable abbrev Rx:Code:=C4 al1
noncomputable def Im(L:Nat):Cfg:=B4 L [136] (A2 []) [] (A2 [(7,[2]),(2,[2]),(4,[2]),(6,[2]),(5,[0,23]),(3,[0,12]),(1,[0,2]),(0,[0])]) [] (A2 [(0,[])]) (some [2]) [] [] []
noncomputable def Vk{R:Type}(a:Int)(h:Bool)(f:Int->Option R)(g:Int->Bool->Option R):Option R:=cond h (vl (A1 (wu8 (a-97))) λb=>vl (A1 (b+10)) λc=>f c) (cond (not (ltI a 65)) (cond (not (ltI 70 a)) (vl (A1 (wu8 (a-65))) λd=>vl (A1 (d+10)) λe=>f e) (g a (not (ltI 70 a)))) (g a false))
abbrev NC(b:Code):Prop:=∀(k:Out->St Z->Option R) a c,A9 (Im L) Q Y b ⟨gp [(0,p8 a),(12,pB c)] 21,[],s⟩ k=Vk a c (λn0=>k .ret ⟨gp [(2,pI n0)] 32,[],s⟩) (λa c=>k .normal ⟨gp [(0,p8 a),(23,pB c)] 10,[],s⟩)
theorem At0:NC (R:=R) L Q Y s (cd [1,0,0,1,1,1] Rx):=by intro k a b;unfold Vk;kernel_rfl
noncomputable def Vl{R:Type}(b:Int)(l:Bool)(f:Int->Option R)(j:Int->Bool->Option R):Option R:=cond l (vl (A1 (wu8 (b-48))) λg=>f g) (cond (not (ltI b 97)) (Vk b (not (ltI 102 b)) (λh=>f h) (λc d=>j c d)) (Vk b false (λi=>f i) (λe a=>j e a)))
abbrev Zr(b:Code):Prop:=∀(k:Out->St Z->Option R) a c,A9 (Im L) Q Y b ⟨gp [(0,p8 a),(2,pB c)] 31,[],s⟩ k=Vl a c (λn0=>k .ret ⟨gp [(2,pI n0)] 32,[],s⟩) (λa c=>k .normal ⟨gp [(0,p8 a),(23,pB c)] 10,[],s⟩)
theorem At1(a:Code)(b:NC (R:=R) L Q Y s a):Zr (R:=R) L Q Y s (cd [1,0,0,1] (G5 [1,0,0,1,1,1] a Rx)):=by intro k c d;unfold Vl;simp only[<-b k];kernel_rfl
theorem At2:Zr (R:=R) L Q Y s (cd [1,0,0,1] Rx):=by intro k a b;exact j7 (by kernel_rfl) (At1 L Q Y s (cd [1,0,0,1,1,1] Rx) (At0 L Q Y s) k a b)
noncomputable def B75{R:Type}(L:Nat)(c:Int)(d:Int->Option R):Option R:=cond (not (ltI c 48)) (Vl c (not (ltI 57 c)) (λa=>d a) (λe f=>d (-1))) (Vl c false (λb=>d b) (λg h=>d (-1)))
theorem Cr3(b:Code)(a:Zr (R:=PV × List Blk × Z) L Q Y s b)(c:Int):A9 (Im L) Q Y (cd [] (G5 [1,0,0,1] b Rx)) ⟨[p8 c]++tps 34,[],s⟩ (F5 (Im L) al1)=B75 L c (λe=>some (pI e,[],s)):=by unfold B75;exact let d:=(E3 0 (E2 (Im L) Q Y (cd [1,1] Rx) (F5 (Im L) al1)));(j7 (by kernel_rfl) (A0 ((a d c (not (ltI 57 c))).trans (by kernel_rfl)) ((a d c false).trans (by kernel_rfl))))
theorem Cr4(d:Nat)(b0):evC (Im L) (d+1) Z Y 136 [p8 b0] [] s=B75 L b0 (λa=>some (pI a,[],s)):=
 (evE (fn:=al1) (by kernel_rfl)).trans (j7 (by kernel_rfl) (Cr3 L (evC (Im L) d) Y s (cd [1,0,0,1] Rx) (At2 L (evC (Im L) d) Y s) b0))
noncomputable abbrev B37:Code:=C4 an6
noncomputable def Se(L:Nat):Cfg:=B4 L [106] (A2 [(3,[0,1,0,0,0])]) [(136,B10)] (A2 [(14,[2,0]),(4,[0,3,0]),(13,[0,3,0]),(12,[0,3,0]),(11,[2,0]),(10,[0,3,0,0,0,39]),(9,[0,3,0,0,0]),(8,[2,0]),(7,[0,3,0,25]),(6,[0,3,0]),(5,[0,3,0,14]),(3,[0,3,0,8]),(2,[0,3,0]),(1,[0,3]),(0,[0])]) [136] (A2 [(0,[4]),(1,[0,3,0])]) (some [2,0]) [] [] []
noncomputable def R3{R:Type}(L n:Nat)(b:By)(a:Int)(c:LL)(f:LL->Option R)(g:LL->Option R):Option R:=match n with|0=>none|n+1=>cond (ltI a (b.length:Int)) (cond (inR a b.length) (cond ((bAt b a)!=37) (cond (inR a b.length) (cond (F6 (c.length+1)) (R3 L n b (A1 (a+1)) (c++[[(SV.int .u8 (bAt b a))]]) f g) none) none) (cond (not (ltI (A1 (a+2)) (b.length:Int))) (f c) (cond (inR (A1 (a+1)) b.length) (vl (bAt b (A1 (a+1))) λd=>cond (inR d 256) (cond (inR (A1 (a+2)) b.length) (vl (bAt b (A1 (a+2))) λe=>cond (inR e 256) (cond (ltI (El (u8n d)) (0:Int)) (f c) (cond (ltI (El (u8n e)) (0:Int)) (f c) (vl (A1 ((16:Int)*(El (u8n d)))) λh=>vl (A1 (h+(El (u8n e)))) λi=>cond (F6 (c.length+1)) (vl (A1 ((A1 (a+2))+1)) λj=>R3 L n b j (c++[[(SV.int .u8 (wu8 i))]]) f g) none))) none) none) none) none))) none) (g c)
theorem As9(n s0 i1 l2):C5 1 ((Se L).keep 3) (bd (Se L) Q Y (cd [1,0,1,1,0,1,0,0] B37)) n ⟨gp [(0,pS s0),(3,.fl 0),(0,pI i1)] 54,[.arr false 5 1 l2],s⟩ k =
 R3 L n s0 i1 l2 (λa=>k .ret ⟨gp [(2,pS ([]:List UInt8)),(0,pB false)] 56,[.arr false 5 1 a],s⟩) (λa=>k (.exit 0) ⟨gp [(4,.fl 0)] 55,[.arr false 5 1 a],s⟩):=by
 induction n generalizing s0 i1 l2 with
 | zero=>rfl
 | succ n b=>rw[R3];simp only[<-b];kernel_rfl
noncomputable def B74{R:Type}(L:Nat)(c:By)(d:By->Bool->LL->Option R):Option R:=cond ((decide ((0:Int)<=(c.length:Int)))&&(F6 (j5 (c.length:Int)))) (R3 L L c 0 [] (λb=>d ([]:List UInt8) false b) (λa=>cond (af6 a Nh) (d (ab4 Lc a) true a) none)) none
theorem Cr1(d:Nat)(s0):evC (Se L) (d+1) Z Y 106 [pS s0] [] s=B74 L s0 (λb c a=>some (.tup [pS b,pB c],[.arr false 5 1 a],s)):=by refine(evE (fn:=an6) (by kernel_rfl)).trans ?_;generalize evC (Se L) d=Q;unfold B74;exact(j7 (by kernel_rfl) (A0 ((As9 L Q Y s (E3 0 (E2 (Se L) Q Y (cd [1,0,1,1,1] B37) (F5 (Se L) an6))) L s0 0 []).trans (by kernel_rfl)) rfl))
noncomputable def SJ(L:Nat):Cfg:=B4 L [105] (A2 []) [(135,C64)] (A2 [(6,[2,0]),(5,[2,0]),(4,[2,2,15]),(3,[2,2,0]),(2,[0,1,1,8]),(1,[0,1,1]),(0,[0,1])]) [] (A2 []) (some [2,0]) [] [] []
noncomputable def Bf1{R:Type}(L:Nat)(b:By)(l:Int->Int->Int->Int->Int->Int->Int->Int->Int->Int->Int->LL->Option R)(m:Unit->Option R):Option R:=vl (A1 ((b.length:Int)-1)) λa=>cond (inR a b.length) (cond ((bAt b a)==93) (cond (I2 1 a b.length) (cond (A3 (o0 (cut b 1 a))) (vl (↑(v6c 0 (cut b 1 a)):Int) λc=>vl (↑(v6c 1 (cut b 1 a)):Int) λd=>vl (↑(v6c 2 (cut b 1 a)):Int) λe=>vl (↑(v6c 3 (cut b 1 a)):Int) λf=>vl (↑(v6c 4 (cut b 1 a)):Int) λg=>vl (↑(v6c 5 (cut b 1 a)):Int) λh=>vl (↑(v6c 6 (cut b 1 a)):Int) λi=>vl (↑(v6c 7 (cut b 1 a)):Int) λj=>cond (ag5 (v6B (cut b 1 a))) (l 3 c d e f g h i j 0 3 [[(SV.int .u16 c)],[(SV.int .u16 d)],[(SV.int .u16 e)],[(SV.int .u16 f)],[(SV.int .u16 g)],[(SV.int .u16 h)],[(SV.int .u16 i)],[(SV.int .u16 j)]]) (l 0 0 0 0 0 0 0 0 0 14 0 [[(SV.int .u16 c)],[(SV.int .u16 d)],[(SV.int .u16 e)],[(SV.int .u16 f)],[(SV.int .u16 g)],[(SV.int .u16 h)],[(SV.int .u16 i)],[(SV.int .u16 j)]])) none) none) (m ())) none
theorem B72(d:Nat)(s0):evC (SJ L) (d+1) Z Y 105 [pS s0] [] s=Bf1 L s0 (λl c e f g h i j r8 m b a=>some (.tup [.agg [pI l,pS ([]:List UInt8),p32 (0:Int),p16 c,p16 e,p16 f,p16 g,p16 h,p16 i,p16 j,p16 r8],pI m],[.box [pI b,pS ([]:List UInt8),p32 (0:Int),p16 c,p16 e,p16 f,p16 g,p16 h,p16 i,p16 j,p16 r8],.arr false 25 1 a],s)) (λ_=>some (.tup [.agg [pI (0:Int),pS ([]:List UInt8),p32 (0:Int),p16 (0:Int),p16 (0:Int),p16 (0:Int),p16 (0:Int),p16 (0:Int),p16 (0:Int),p16 (0:Int),p16 (0:Int)],pI (14:Int)],[.box [pI (0:Int),pS ([]:List UInt8),p32 (0:Int),p16 (0:Int),p16 (0:Int),p16 (0:Int),p16 (0:Int),p16 (0:Int),p16 (0:Int),p16 (0:Int),p16 (0:Int)]],s)):=by refine(evE (fn:=Tryz.f105) (by kernel_rfl)).trans ?_;generalize evC (SJ L) d=Q;unfold Bf1;kernel_rfl
noncomputable def Ao6(L:Nat):Cfg:=B4 L [46] (A2 []) [(64,C58)] (A2 [(9,[2]),(4,[2]),(6,[2]),(8,[2]),(7,[1,31]),(5,[1,1,1,16]),(3,[1,1,1,0]),(2,[1,1,1]),(1,[1,1]),(0,[1])]) [64] (A2 [(0,[])]) (some [2]) [] [] []
noncomputable def Ng{R:Type}(L:Nat)(c:Int)(b:By)(d e f g h i j l a:Int)(m:Bool->Int->By->Int->Int->Int->Int->Int->Int->Int->Int->Int->LL->Option R):Option R:=cond (c==1) (cond (A3 b.length) (cond (Ee b) (cond (d==0) (m ((e==0)&&((f==0)&&((g==0)&&((h==0)&&((i==0)&&((j==0)&&((l==0)&&((a==0)&&true)))))))) c b d e f g h i j l a (b9 8 [(SV.int .u16 (0:Int))])) (m false c b d e f g h i j l a (b9 8 [(SV.int .u16 (0:Int))]))) (m false c b d e f g h i j l a (b9 8 [(SV.int .u16 (0:Int))]))) none) (cond (c==2) (cond (b==[]) (m ((e==0)&&((f==0)&&((g==0)&&((h==0)&&((i==0)&&((j==0)&&((l==0)&&((a==0)&&true)))))))) c b d e f g h i j l a (b9 8 [(SV.int .u16 (0:Int))])) (m false c b d e f g h i j l a (b9 8 [(SV.int .u16 (0:Int))]))) (cond (c==3) (cond (b==[]) (m (d==0) c b d e f g h i j l a (b9 8 [(SV.int .u16 (0:Int))])) (m false c b d e f g h i j l a (b9 8 [(SV.int .u16 (0:Int))]))) (m false c b d e f g h i j l a (b9 8 [(SV.int .u16 (0:Int))]))))
theorem Cs0(d:Nat)(h0 h1 h2 h3 h4 h5 h6 h7 h8 h9 h10):evC (Ao6 L) (d+1) Z Y 46 [.agg [pI h0,pS h1,p32 h2,p16 h3,p16 h4,p16 h5,p16 h6,p16 h7,p16 h8,p16 h9,p16 h10]] [] s=Ng L h0 h1 h2 h3 h4 h5 h6 h7 h8 h9 h10 (λm e n f g h i j n8 l b c a=>some (pB m,[.box [pI e,pS n,p32 f,p16 g,p16 h,p16 i,p16 j,p16 n8,p16 l,p16 b,p16 c],.arr false 25 1 a],s)):=by refine(evE (fn:=Tryz.f46) (by kernel_rfl)).trans ?_;generalize evC (Ao6 L) d=Q;unfold Ng;kernel_rfl
noncomputable def Ao4(L:Nat):Cfg:=B4 L [50] (A2 []) [(46,B12),(67,C60),(68,C62)] (A2 [(7,[2]),(2,[2]),(4,[2]),(6,[2]),(5,[1,11]),(3,[1,5]),(1,[1,1]),(0,[1])]) [46,67,68] (A2 [(0,[1])]) (some [2]) [] [] []
noncomputable def Cr7{R:Type}(L:Nat)(j:Int)(l:By)(b c d e f g h i a:Int)(o:By->Int->By->Int->Int->Int->Int->Int->Int->Int->Int->Int->Option R):Option R:=cond (A3 l.length) (cond (ltN b 4294967296) (cond (ok8 c d e f g h i a) (cond (not (T8 (mkH j l b (n8 c d e f g h i a)))) (o ([]:List UInt8) j l b c d e f g h i a) (cond (j==1) (o l j l b c d e f g h i a) (cond (j==2) (cond (ltN b 4294967296) (o (Hh (j5 b)) j l b c d e f g h i a) none) (cond (ok8 c d e f g h i a) (vl (Nd (n8 c d e f g h i a)) λm=>cond (E5 1 m.length) (vl (([91]:List UInt8)++m) λn=>cond (E5 n.length 1) (vl (n++[93]) λp=>o p j l b c d e f g h i a) none) none) none)))) none) none) none
theorem Cr8(d:Nat)(h0 h1 h2 h3 h4 h5 h6 h7 h8 h9 h10):evC (Ao4 L) (d+1) Z Y 50 [.agg [pI h0,pS h1,p32 h2,p16 h3,p16 h4,p16 h5,p16 h6,p16 h7,p16 h8,p16 h9,p16 h10]] [] s=Cr7 L h0 h1 h2 h3 h4 h5 h6 h7 h8 h9 h10 (λl c m e f g h i n8 j a b=>some (pS l,[.box [pI c,pS m,p32 e,p16 f,p16 g,p16 h,p16 i,p16 n8,p16 j,p16 a,p16 b]],s)):=by refine(evE (fn:=Tryz.f50) (by kernel_rfl)).trans ?_;generalize evC (Ao4 L) d=Q;unfold Cr7;kernel_rfl
end
section
variable {Z R : Type} (L : Nat) (Y : F7) (Q : Yh Z) (s : Z) (k : Out -> St Z -> Option R)
noncomputable def Ap0(L:Nat):Cfg:=B4 L [182] (A2 []) [] (A2 [(2,[2]),(1,[1,1]),(0,[1])]) [] (A2 []) (some [2]) [] [] []
noncomputable def Da7{R:Type}(L:Nat)(b:Int)(a:Int->Option R):Option R:=a b
theorem Cv5(d:Nat)(b):evC (Ap0 L) (d+1) Z Q 182 [pI b] [] s=Da7 L b (λn0=>some (.fnr (Fn.func 188) [] [.ptr 1 0 0,.ptr 0 0 0],[.box [pI n0],.box [pI (0:Int)]],s)):=by refine(evE (fn:=Tryz.f182) (by kernel_rfl)).trans ?_;generalize evC (Ap0 L) d=Y;unfold Da7;kernel_rfl
noncomputable def SU(L:Nat):Cfg:=B4 L [188] (A2 []) [] (A2 [(2,[2]),(1,[0,0]),(0,[0,0])]) [] (A2 []) (some [2]) [] [] []
noncomputable def Bh6{R:Type}(L:Nat)(k b:Int)(d:Int->Int->Int->Option R):Option R:=vl (A1 ((A1 (k+36))-b)) λa=>vl (if ((26:Int)<(if ((1:Int) > a) then (1:Int) else a)) then (26:Int) else (if ((1:Int) > a) then (1:Int) else a)) λc=>d c (A1 (k+36)) b
theorem Cb1(d:Nat)(k b):evC (SU L) (d+1) Z Q 188 [.ptr 0 0 0,.ptr 1 0 0] [.box [pI k],.box [pI b]] s=Bh6 L k b (λe a c=>some (pI e,[.box [pI a],.box [pI c]],s)):=by refine(evE (fn:=Tryz.f188) (by kernel_rfl)).trans ?_;generalize evC (SU L) d=Y;unfold Bh6;kernel_rfl
noncomputable abbrev C85:Code:=C4 ao0
noncomputable def Zd(L:Nat):Cfg:=B4 L [169] (A2 [(2,[0,0,4,0])]) [(182,EV),(183,Al2)] (A2 [(6,[0,0,5]),(5,[0,0,5,0]),(4,[6]),(3,[0,0,5,0,6]),(2,[0,0,5,0]),(1,[0,0,5]),(0,[0,0,0])]) [183] (A2 [(0,[6]),(1,[0,0,5])]) (some [6]) [(188,Pl)] [] [188]
noncomputable def Hu{R:Type}(L n:Nat)(f:Int)(p:Bool)(g:LL)(a b:Int)(o:Bool->LL->Int->Int->Option R):Option R:=match n with|0=>none|n+1=>cond (ltN b 1000000000000) (cond (ltN a 1000000) (cond (ltI f (K4 b a)) (cond (ltN f 36) (vl (↑(aq4 (Ac (j5 f))):Int) λh=>cond (F6 (g.length+1)) (o p (g++[[(SV.int .u8 h)]]) a (ad9 b (36:Int))) none) none) (vl (A1 (f-(K4 b a))) λi=>vl (A1 ((36:Int)-(K4 b a))) λc=>cond (c !=0) (vl (A1 ((K4 b a)+(ae8 i c))) λd=>cond (ltN d 36) (vl (↑(aq4 (Ac (j5 d))):Int) λj=>cond (F6 (g.length+1)) (vl (A1 (f-(K4 b a))) λl=>vl (A1 ((36:Int)-(K4 b a))) λe=>cond (e !=0) (vl (A1 (ac3 l e)) λm=>Hu L n m p (g++[[(SV.int .u8 j)]]) a (ad9 b (36:Int)) o) none) none) none) none)) none) none
theorem Aw4(n q0 z1 l2 a n4):C5 3 ((Zd L).keep 2) (bd (Zd L) Y Q (cd [1,1,0,0] C85)) n ⟨gp [(0,.fl 0),(0,pI q0),(5,.fnr (Fn.func 188) [] [.ptr 2 0 0,.ptr 1 0 0])] 31,[.arr z1 5 1 l2,.box [pI a],.box [pI n4]],s⟩ k =
 Hu L n q0 z1 l2 a n4 (λe c d a=>k .ret ⟨gp [(6,.fl 0)] 32,[.arr e 5 1 c,.box [pI d],.box [pI a]],s⟩):=by
 induction n generalizing q0 z1 l2 a n4 with
 | zero=>rfl
 | succ n b=>rw[Hu];simp only[<-b];kernel_rfl
noncomputable def Da5{R:Type}(L:Nat)(q b:Int)(z:Bool)(l:LL)(f:Bool->LL->Int->Int->Option R):Option R:=Hu L L q z l b 0 (λe a c d=>f e a c d)
theorem Cu3(d:Nat)(q b z l):evC (Zd L) (d+1) Z Q 169 [.fl 0,pI q,pI b] [.arr z 5 1 l] s=Da5 L q b z l (λf a c e=>some (.fl 0,[.arr f 5 1 a,.box [pI c],.box [pI e]],s)):=by refine(evE (fn:=ao0) (by kernel_rfl)).trans ?_;generalize evC (Zd L) d=Y;unfold Da5;exact(j7 (by kernel_rfl) ((Aw4 L Y Q s (E3 0 (F5 (Zd L) ao0)) L q z l b 0).trans (by kernel_rfl)))
noncomputable abbrev Ec:Code:=C4 al2
noncomputable def P5(L:Nat):Cfg:=B4 L [141] (A2 [(29,[0,1,0,0,2,0,0,0,0,61,0,0]),(21,[0,1,0,0,2,0,0,0,0,0,38,0,0]),(17,[0,1,0,0,2,0,0,0,0]),(5,[0,1,0,0,15,0,0])]) [(168,Nn),(170,Nm)] (A2 [(40,[2,0]),(18,[0,3,2,0,0,0,0]),(39,[0,3,2,0,0,0,0]),(38,[0,3,2,0,0,0,0,61,0,0]),(32,[0,3,2,0,0,0,0,61,0,0]),(37,[0,3,2,0,0,0,0,61,0,0]),(36,[0,3,2,0,0,0,0,61,0,0]),(35,[0,3,2,0,1,0,61,0,0]),(34,[0,3,2,0,0,1,61,0,0]),(33,[0,3,2,0,0,0,0,61,0,0,9]),(31,[0,3,2,0,0,0,0,4,56,0,0,3]),(30,[0,3,2,0,0,0,0,4,56,0,0]),(29,[0,3,2,0,0,0,0,61,0,0,0]),(28,[0,3,2,0,0,0,0,61,0,0]),(27,[0,3,2,0,0,0,0]),(26,[0,3,2,1,0,0,0]),(25,[0,3,2,0,0,0,0,0,38,0,0]),(24,[0,3,2,0,0,0,0,0,38,0,0]),(23,[0,3,2,0,0,0,0,0,1,36,0,0,5]),(22,[0,3,2,0,0,0,0,0,1,36,0,0]),(21,[0,3,2,0,0,0,0,0,38,0,0,0]),(20,[0,3,2,0,0,0,0,0,38,0,0]),(19,[0,3,2,0,0,0,0,0]),(17,[0,3,2,0,0,0,0,36]),(16,[0,3,2,0,0,0,0]),(15,[0,3,2,0,0,0]),(14,[0,3,2]),(13,[0,3,2,32]),(12,[0,3,2]),(11,[0,3,15,0,0]),(10,[0,3,15,0,0]),(9,[0,3,1,13,0,0,7]),(8,[2,0]),(7,[0,3,1,13,0,0,5]),(6,[0,3,1,13,0,0]),(5,[0,3,15,0,0,0]),(4,[0,3,15,0,0]),(3,[0,3]),(2,[2,0]),(1,[0,18]),(0,[0])]) [168,170] (A2 [(2,[4]),(3,[0,3,2,0,0,0,0]),(6,[0,3,2,0,0,0,0]),(7,[0,3,2,0,0,0,0,61,0,0]),(8,[0,3,2,0,0,0,0,61,0,0]),(4,[0,3,2,0,0,0,0,0]),(5,[0,3,2,0,0,0,0,0,38,0,0]),(0,[0,3]),(1,[0,3,15,0,0])]) (some [2,0]) [(169,PX)] [] [169]
noncomputable def T5{R:Type}(L n:Nat)(c b:Bool)(a:LL)(i e:Int)(f:LL)(g:LL->Option R)(h:Bool->Bool->LL->LL->Option R):Option R:=match n with|0=>none|n+1=>cond (ltI e i) (cond (inR e a.length) (cond (okE Kk a (j5 e) 0) (vl (gE a (j5 e) 0) λd=>cond (not (ptI d)) (g f) (cond (ltI d 128) (cond (F6 (f.length+1)) (T5 L n c b a i (A1 (e+1)) (f++[[(SV.int .u8 (wu8 d))]]) g h) none) (T5 L n c b a i (A1 (e+1)) f g h))) none) none) (h c b a f)
theorem Ax3(n b a c n3 n4 l5):C5 1 ((P5 L).keep 5) (bd (P5 L) Y Q (cd [1,1,1,0,1,0,0] Ec)) n ⟨gp [(0,.s (.sl b a 1 c)),(3,.fl 0),(15,.s (.sl b a 1 c)),(0,pI n3),(0,pI n4)] 84,[.arr true 5 1 l5],s⟩ k =
 T5 L n b a c n3 n4 l5 (λe=>k .ret ⟨gp [(2,pS ([]:List UInt8)),(0,pI (2:Int))] 103,[.arr true 5 1 e],s⟩) (λb a c f=>k (.exit 0) ⟨gp [(0,.s (.sl b a 1 c)),(3,.fl 0)] 102,[.arr true 5 1 f],s⟩):=by
 induction n generalizing b a c n3 n4 l5 with
 | zero=>rfl
 | succ n d=>rw[T5];simp only[<-d];kernel_rfl
noncomputable def Hx{R:Type}(L n:Nat)(c b:Bool)(a:LL)(d o e f g m q h:Int)(i:LL)(p:Bool->Bool->LL->Int->Int->Int->Int->Int->Int->LL->Option R):Option R:=match n with|0=>none|n+1=>cond (ltI h q) (cond (inR h a.length) (cond (okE Kk a (j5 h) 0) (vl (gE a (j5 h) 0) λj=>cond (not (ltI j o)) (vl (if (j<m) then j else m) λl=>Hx L n c b a d o e f g l q (A1 (h+1)) i p) (Hx L n c b a d o e f g m q (A1 (h+1)) i p)) none) none) (p c b a d o e f g m i)
theorem Ax4(n b a c d i e f g h n9 n10 l11):C5 1 ((P5 L).keep 21) (bd (P5 L) Y Q (cd [1,1,1,1,1,1,1,0,1,0,0,1,0,0,1,0,1,0,0] Ec)) n ⟨gp [(0,.s (.sl b a 1 c)),(3,.fl 0),(2,pI d),(0,pI i),(0,pI e),(0,pI f),(0,pI g),(0,pI h),(38,.s (.sl b a 1 c)),(0,pI n9),(0,pI n10)] 53,[.arr true 5 1 l11],s⟩ k =
 Hx L n b a c d i e f g h n9 n10 l11 (λb a c d i e f g h l=>k (.exit 4) ⟨gp [(0,.s (.sl b a 1 c)),(3,.fl 0),(2,pI d),(0,pI i),(0,pI e),(0,pI f),(0,pI g),(0,pI h)] 94,[.arr true 5 1 l],s⟩):=by
 induction n generalizing b a c d i e f g h n9 n10 l11 with
 | zero=>rfl
 | succ n j=>rw[Hx];simp only[<-j];kernel_rfl
noncomputable def Br{R:Type}(L n:Nat)(d c:Bool)(a:LL)(e l b g f n8 j:Int)(l10:LL)(r:Bool->Bool->LL->Int->Int->Int->Int->Int->LL->Option R):Option R:=match n with|0=>none|n+1=>cond (ltI j n8) (cond (inR j a.length) (cond (okE Kk a (j5 j) 0) (vl (gE a (j5 j) 0) λi=>cond (ltI i l) (vl (A1 (b+1)) λo=>Br L n d c a e l o g f n8 (A1 (j+1)) l10 r) (cond (i==l) (cond (ltN b 1152921504606846976) (cond (ltN g 1000000) (cond (x3 l10.length 100000) (vl (al6 l10 (ab4 D7 (O4 (j5 b) 0 (j5 g)))) λm=>vl (A1 (f+1)) λh=>cond (ltN b 1152921504606846976) (cond (ltN h 1000000) (cond (ltI 0 h) (vl (↑(P4 (j5 b) (j5 h) (f==e)):Int) λp=>vl (A1 (f+1)) λq=>Br L n d c a e l 0 p q n8 (A1 (j+1)) m r) none) none) none) none) none) none) (Br L n d c a e l b g f n8 (A1 (j+1)) l10 r))) none) none) (r d c a e l b g f l10)
theorem Ax5(n b a c d h e f g n8 n9 l10):C5 1 ((P5 L).keep 29) (bd (P5 L) Y Q (cd [1,1,1,1,1,1,1,0,1,0,0,1,0,0,1,1,1,1,0,1,0,0] Ec)) n ⟨gp [(0,.s (.sl b a 1 c)),(3,.fl 0),(2,pI d),(0,pI h),(0,pI e),(0,pI f),(0,pI g),(61,.s (.sl b a 1 c)),(0,pI n8),(0,pI n9)] 31,[.arr true 5 1 l10],s⟩ k =
 Br L n b a c d h e f g n8 n9 l10 (λb a c d h e f g j=>k (.exit 6) ⟨gp [(0,.s (.sl b a 1 c)),(3,.fl 0),(2,pI d),(0,pI h),(0,pI e),(0,pI f),(0,pI g)] 95,[.arr true 5 1 j],s⟩):=by
 induction n generalizing b a c d h e f g n8 n9 l10 with
 | zero=>rfl
 | succ n i=>rw[Br];simp only[<-i];kernel_rfl
noncomputable def Eu{R:Type}(L n:Nat)(j i:Bool)(b:LL)(v K w y u:Int)(J:LL)(I:LL->Option R):Option R:=match n with|0=>none|n+1=>cond (ltI u (b.length:Int)) (Hx L L j i b v K w y u 1114112 (b.length:Int) 0 J (λe c a l B o q g x z=>vl (A1 (g+1)) λC=>vl (A1 ((A1 (x-B))*C)) λD=>Br L L e c a l x (A1 (o+D)) q g (a.length:Int) 0 z (λf d h m F p r t A=>vl (A1 (p+1)) λG=>vl (A1 (F+1)) λH=>Eu L n f d h m H G r t A I))) (I J)
theorem JB(n points_z0 points_t1 points2 basic3 n4 delta5 bias6 done7 l8):C5 1 ((P5 L).keep 17) (bd (P5 L) Y Q (cd [1,1,1,1,1,1,1,0,1,0,0] Ec)) n ⟨gp [(0,.s (.sl points_z0 points_t1 1 points2)),(3,.fl 0),(2,pI basic3),(0,pI n4),(0,pI delta5),(0,pI bias6),(0,pI done7)] 95,[.arr true 5 1 l8],s⟩ k =
 Eu L n points_z0 points_t1 points2 basic3 n4 delta5 bias6 done7 l8 (λB=>k (.exit 2) ⟨gp [(4,.fl 0)] 102,[.arr true 5 1 B],s⟩):=by
 induction n generalizing points_z0 points_t1 points2 basic3 n4 delta5 bias6 done7 l8 with
 | zero=>rfl
 | succ n A=>rw[Eu];exact(j7 (by kernel_rfl) (A0 ((Ax4 L Y Q s (E3 4 (E2 (P5 L) Y Q (cd [1,1,1,1,1,1,1,0,1,0,0,1,0,0,1,1] Ec) (E3 3 (E2 (P5 L) Y Q (cd [1,1,1,1,1,1,1,0,1,0,0,1,1] Ec) (lpK 1 ((P5 L).keep 17) (bd (P5 L) Y Q (cd [1,1,1,1,1,1,1,0,1,0,0] Ec)) n k))))) L points_z0 points_t1 points2 basic3 n4 delta5 bias6 done7 1114112 (points2.length:Int) 0 l8).trans (congr rfl (Cq7 λd b a g x i j m t q=>(j7 (by kernel_rfl) (A4 λy=>(A4 λu=>((Ax5 L Y Q s (E3 6 (E2 (P5 L) Y Q (cd [1,1,1,1,1,1,1,0,1,0,0,1,0,0,1,1,1,1,1] Ec) (E3 3 (E2 (P5 L) Y Q (cd [1,1,1,1,1,1,1,0,1,0,0,1,1] Ec) (lpK 1 ((P5 L).keep 17) (bd (P5 L) Y Q (cd [1,1,1,1,1,1,1,0,1,0,0] Ec)) n k))))) L d b a g t (A1 (i+u)) j m (a.length:Int) 0 q).trans (congr rfl (fx9 λe c f h z p l o r=>(j7 (by kernel_rfl) (A4 λv=>(A4 λw=>(A e c f h w v l o r))))))))))))) rfl))
noncomputable def Aa5{R:Type}(L:Nat)(l j:Bool)(p:LL)(m:Unit->Option R)(h:By->Int->LL->Option R):Option R:=cond (ltI 256 (p.length:Int)) (m ()) (T5 L L l j p (p.length:Int) 0 [] (λi=>h ([]:List UInt8) 2 i) (λb a c g=>vl (g.length:Int) λf=>cond (ltI 0 f) (cond (F6 (g.length+1)) (Eu L L b a c f 128 0 72 f (g++[[(SV.int .u8 (45:Int))]]) (λd=>cond (af6 d Nh) (h (ab4 Lc d) 0 d) none)) none) (Eu L L b a c f 128 0 72 f g (λe=>cond (af6 e Nh) (h (ab4 Lc e) 0 e) none))))
theorem Cu8(d:Nat)(p_z p_t p):evC (P5 L) (d+1) Z Q 141 [.s (.sl p_z p_t 1 p)] [] s=Aa5 L p_z p_t p (λ_=>some (.tup [pS ([]:List UInt8),pI (3:Int)],[],s)) (λi j h=>some (.tup [pS i,pI j],[.arr true 5 1 h],s)):=by refine(evE (fn:=al2) (by kernel_rfl)).trans ?_;generalize evC (P5 L) d=Y;unfold Aa5;exact let g:=(E3 2 (E2 (P5 L) Y Q (cd [1,1,1,1,1,1,1,1] Ec) (F5 (P5 L) al2)));(j7 (by kernel_rfl) (A0 rfl ((Ax3 L Y Q s (E3 0 (E2 (P5 L) Y Q (cd [1,1,1,1] Ec) (F5 (P5 L) al2))) L p_z p_t p (p.length:Int) 0 []).trans (congr (congr rfl (by kernel_rfl)) (fx4 λb a c f=>(j7 (by kernel_rfl) (A4 λe=>(A0 (A0 ((JB L Y Q s g L b a c e 128 0 72 e (f++[[(SV.int .u8 (45:Int))]])).trans (by kernel_rfl)) rfl) ((JB L Y Q s g L b a c e 128 0 72 e f).trans (by kernel_rfl))))))))))
end
theorem Xj(k b:Nat):K4 ((36*k:Nat):Int) (b:Int)=(thr k b:Int):=by unfold K4 thr;omega
theorem Br7{R:Type}{a:Int->Option R}(b:Int):Da7 LF b a=a b:=rfl
theorem Ax8{R:Type}{a:Int->Int->Int->Option R}(k b:Int)(e:ltN k 1000000000000=true)(f:ltN b 1000000=true):Bh6 LF k b a=a (K4 k b) (ad9 k 36) b:=by
 obtain⟨g,h⟩:=D9.1 e;obtain⟨i,j⟩:=D9.1 f;unfold Bh6;have c:A1 (k+36)=k+36:=A7;have d:A1 (k+36-b)=k+36-b:=A7;simp only[vl,c,d];have:(if (26:Int)<(if (1:Int) > k+36-b then (1:Int) else k+36-b) then (26:Int) else (if (1:Int) > k+36-b then (1:Int) else k+36-b))=K4 k b:=by
  unfold K4;omega
 grind
theorem Px{q k b:Nat}(h:q<thr k b):O4 q k b=[Ac q]:=by rw[O4,dif_pos h]
theorem Zj{q k b:Nat}(h:¬q<thr k b):O4 q k b=Ac (thr k b+(q-thr k b) % (36-thr k b))::O4 ((q-thr k b) / (36-thr k b)) (k+1) b:=by rw[O4,dif_neg h]
theorem TN{x y m:Nat}(a:10<=y)(h:x<10*m):x / y<m:=by have b:x / y<=x / 10:=Nat.div_le_div_left a (by omega);omega
theorem Ar2(b:Nat):∀(r q k:Nat),q<10 ^ r->(O4 q k b).length<=r+1:=by
 intro r
 induction r with
 | zero=>
  intro q k h;have c:=U7 k b;rw[Px (by simp at h;omega)];simp
 | succ r d=>
  intro q k h;have c:=U7 k b;by_cases a:q<thr k b
  ·rw[Px a];simp
  ·rw[Zj a,k9];have:=d ((q-thr k b) / (36-thr k b)) (k+1) (TN (by omega) (by rw[ae4] at h;omega));omega
theorem Bq4(z:Bool)(b:Nat)(K:b<1000000):∀(r q k n:Nat) (l:LL),q<10 ^ r->q<1152921504606846976->k+r<=1000->r<n->l.length+r<=200000->
  ∃(d f:Int),∀(R:Type) (a:Bool->LL->Int->Int->Option R),Hu LF n (q:Int) z l (b:Int) ((36*k:Nat):Int) a=a z (l++(O4 q k b).map D7) d f:=by
 have c:∀(q k n:Nat) (l:LL),q<thr k b->k<=1000->l.length<=200000->∃(d f:Int),∀(R:Type) (a:Bool->LL->Int->Int->Option R),Hu LF (n+1) (q:Int) z l (b:Int) ((36*k:Nat):Int) a=a z (l++(O4 q k b).map D7) d f:=by
  intro q k n l g i j;have p:=U7 k b;refine⟨(b:Int),ad9 ((36*k:Nat):Int) 36,λR a=>?_⟩;rw[Hu];rw[L0,L0,Xj,A8,L0,Px g];simp only[vl,cond_true,c9];rw[F0 (by omega)];rfl
 intro r
 induction r with
 | zero=>
  intro q k n l h _ i H j;have p:=U7 k b;obtain⟨n,rfl⟩:∃m,n=m+1:=⟨n-1,by omega⟩
  exact c q k n l (by simp at h;omega) (by omega) (by omega)
 | succ r I=>
  intro q k n l h o i H j;have p:=U7 k b;obtain⟨n,rfl⟩:∃m,n=m+1:=⟨n-1,by omega⟩
  by_cases g:q<thr k b
  ·exact c q k n l g (by omega) (by omega)
  ·have D:(q-thr k b) / (36-thr k b)<10 ^ r:=TN (by omega) (by rw[ae4] at h;omega);have F:(q-thr k b) / (36-thr k b)<=q:=ak3 (ae1 _ _) (by omega);have G:(q-thr k b) % (36-thr k b)<36-thr k b:=am4 _ (by omega);obtain⟨d,f,e⟩:=I ((q-thr k b) / (36-thr k b)) (k+1) n (l++[D7 (Ac (thr k b+(q-thr k b) % (36-thr k b)))]) D (by omega) (by omega) (by omega) (by rw[x5,List.length_singleton];omega);refine⟨d,f,λR a=>?_⟩;rw[Hu];have t:A1 ((q:Int)-(thr k b:Int))=((q-thr k b:Nat):Int):=by rw[A7];omega
   have u:A1 ((36:Int)-(thr k b:Int))=((36-thr k b:Nat):Int):=by rw[A7];omega
   have v:ae8 ((q-thr k b:Nat):Int) ((36-thr k b:Nat):Int)=(((q-thr k b) % (36-thr k b):Nat):Int):=Bx _ _;have w:ac3 ((q-thr k b:Nat):Int) ((36-thr k b:Nat):Int)=(((q-thr k b) / (36-thr k b):Nat):Int):=L1 _ _;have C:((((36-thr k b:Nat):Int))!=0)=true:=by rw[bne_iff_ne];omega
   rw[L0,L0,Xj,A6];simp only[vl,t,u,v,w,C,cond_true,cond_false];rw[Zj g];generalize hA:(q-thr k b) / (36-thr k b)=A at *;generalize J:(q-thr k b) % (36-thr k b)=B at *;have x:A1 ((thr k b:Int)+(B:Int))=((thr k b+B:Nat):Int):=by rw[A7];rfl
   have y:A1 (A:Int)=(A:Int):=A7;rw[x,y,L0,F0 (by omega),c9,show ad9 ((36*k:Nat):Int) 36=((36*(k+1):Nat):Int) from(by show((36*k:Nat):Int)+36=_;omega)];refine j7 (e R a) ?_;simp[p9]
theorem Bq5(q b:Int)(z:Bool)(l:LL)(h:ltN q 1152921504606846976=true)(i:ltN b 1000000=true)(j:x3 l.length 100000=true) :
  ∃(c d:Int),∀(R:Type) (a:Bool->LL->Int->Int->Option R),Da5 LF q b z l a=a z (al6 l ((O4 q.toNat 0 b.toNat).map D7)) c d:=by
 obtain⟨f,m⟩:=D9.1 h;obtain⟨g,n⟩:=D9.1 i;obtain⟨q,rfl⟩:=j8 f;obtain⟨b,rfl⟩:=j8 g;have o:=ab5 j;have k:=C2;obtain⟨c,d,e⟩:=Bq4 z b (by omega) 19 q 0 LF l (by omega) (by omega) (by omega) (by omega) (by omega);exact⟨c,d,λR a=>e R _⟩
def Am(l:List Int):LL:=l.map λx=>[SV.int .i64 x]
def B3(l:List Nat):LL:=l.map λx:Nat=>[SV.int .i64 (x:Int)]
theorem Qb(l:List Nat):Am (l.map λn:Nat=>(n:Int))=B3 l:=by simp[Am,B3,af9]
theorem U0(l:List Int):(Am l).length=l.length:=by simp[Am]
theorem D1(l:List Nat):(B3 l).length=l.length:=by simp[B3]
theorem Jx(a b:List Nat):B3 (a++b)=B3 a++B3 b:=by simp[B3]
theorem UP{l:List Int}{i:Nat}(h:i<l.length):okE Kk (Am l) i 0=true:=by unfold okE Am Kk;simp[a8,h,okS,SV.has]
theorem Ar9(l:List Int)(i:Nat)(h:i<l.length):gE (Am l) i 0=l.getD i 0:=by unfold gE gC Am;simp[a8,j4 h,SV.gI]
theorem Qd{l:List Nat}{i:Nat}(h:i<l.length):okE Kk (B3 l) i 0=true:=by rw[<-Qb];exact UP (by simpa using h)
theorem Zo(l:List Nat)(i:Nat)(h:i<l.length):gE (B3 l) i 0=(l.getD i 0:Int):=by rw[<-Qb,Ar9 _ _ (by simpa using h)];grind
theorem Bf5{l:LL}(h:l.all Mx=true):∃P:List Int,l=Am P:=by
 induction l with
 | nil=>exact⟨[],rfl⟩
 | cons x r b=>
  simp only[ac2,o8] at h;obtain⟨P,rfl⟩:=b h.2;have a:=h.1;unfold Mx at a;split at a
  ·rename_i n;exact⟨n::P,rfl⟩
  ·cases a
theorem YS(P:List Int):(Am P).map elI=P:=by
 unfold Am;rw[ae3]
 conv=>rhs;rw[<-ah5 P]
 apply ab0;intro x _;simp[elI,SV.gI]
theorem YR(l:List Int)(i:Nat)(h:i<l.length):l.drop i=l.getD i 0::l.drop (i+1):=by simp_all
theorem Uw(l:List Nat)(i:Nat)(h:i<l.length):l.drop i=l.getD i 0::l.drop (i+1):=by simp_all
theorem Co1:∀(r d k:Nat),d<456*35 ^ r->Yu d k<=k+36*r+36:=by
 intro r
 induction r with
 | zero=>
  intro d k h;rw[Rv (by simp at h;omega)];have:36*d / (d+38)<=36:=by
   apply Nat.div_le_of_le_mul;omega
  omega
 | succ r b=>
  intro d k h;by_cases a:455<d
  ·rw[GG a];grind
  grind
theorem Nt(d c:Nat)(f:Bool)(h:d<1152921504606846976):P4 d c f<=500:=by
 unfold P4;have a:∀x:Nat,x<=d->Yu (x+x / c) 0<=500:=by
  intro x a;have:=ae1 x c;have:=Co1 11 (x+x / c) 0 (by omega);omega
 grind
theorem MT{q k b:Nat}(h:q<1152921504606846976):(O4 q k b).length<=20:=Ar2 b 19 q k (by omega)
theorem Bh4(z t:Bool)(c:List Nat)(a m:Nat)(Q:m<=1114112)(P:c.length<=256):∀(r i n:Nat) (s:OU),i+r=c.length->r<n->s.delta+r<=1000000000000->s.bias<=500->s.out.length+20*r<=90000->s.done+r<=1000->a<=256->
  (∀(R:Type) (d:Bool->Bool->LL->Int->Int->Int->Int->Int->LL->Option R),Br LF n z t (B3 c) (a:Int) (m:Int) (s.delta:Int) (s.bias:Int) (s.done:Int) (c.length:Int) (i:Int) (s.out.map D7) d =
   d z t (B3 c) (a:Int) (m:Int) ((H6 m a (c.drop i) s).delta:Int) ((H6 m a (c.drop i) s).bias:Int) ((H6 m a (c.drop i) s).done:Int) ((H6 m a (c.drop i) s).out.map D7))/\
  (H6 m a (c.drop i) s).bias<=500/\(H6 m a (c.drop i) s).out.length<=s.out.length+20*(c.drop i).countP (· == m)/\(H6 m a (c.drop i) s).done=s.done+(c.drop i).countP (· == m)/\
  (H6 m a (c.drop i) s).delta<=(if 0<(c.drop i).countP (· == m) then r else s.delta+r):=by
 intro r
 induction r with
 | zero=>
  intro i n s N O K x L M y;obtain⟨n,rfl⟩:∃m,n=m+1:=⟨n-1,by omega⟩
  rw[j1 (by omega)];refine⟨λR d=>?_,x,by simp[H6],by simp[H6],by simp[H6]⟩;rw[Br];rw[A6];rfl
 | succ r F=>
  intro i n s N O K x L M y;obtain⟨n,rfl⟩:∃m,n=m+1:=⟨n-1,by omega⟩
  rw[Uw c i (by omega)];have C:=Zo c i (by omega);have ok:=Qd (l:=c) (i:=i) (by omega);generalize c.getD i 0=p at *;have A:A1 ((i:Int)+1)=((i+1:Nat):Int):=by rw[A7];rfl
  have I:A1 ((s.delta:Int)+1)=((s.delta+1:Nat):Int):=by rw[A7];rfl
  have J:A1 ((s.done:Int)+1)=((s.done+1:Nat):Int):=by rw[A7];rfl
  by_cases D:p<m
  ·have e:(p==m)=false:=by rw[beq_eq_false_iff_ne];omega
   have j:H6 m a (p::c.drop (i+1)) s=H6 m a (c.drop (i+1)) { s with delta:=s.delta+1 }:=by rw[H6,if_pos D]
   obtain⟨o,u,v,w,f⟩:=F (i+1) n { s with delta:=s.delta+1 } (by omega) (by omega) (by simp only;omega) x (by simp only;omega) (by simp only;omega) y;rw[j,ag7 (by rw[e];simp)];refine⟨λR d=>?_,u,v,w,?_⟩
   ·rw[Br];rw[A8,D1,E6,c9,ok];simp only[cond_true,vl,C,A,I];rw[A8,cond_true];exact o R d
   ·simp only at f;split at f<;>split<;>omega
  ·by_cases H:p=m
   ·subst H;have G:=MT (q:=s.delta) (k:=0) (b:=s.bias) (by omega);have B:=Nt s.delta (s.done+1) (s.done==a) (by omega);have j:H6 p a (p::c.drop (i+1)) s=H6 p a (c.drop (i+1)) { delta:=0,bias:=P4 s.delta (s.done+1) (s.done==a),done:=s.done+1,out:=s.out++O4 s.delta 0 s.bias }:=by rw[H6,if_neg D,if_pos rfl]
    obtain⟨o,u,v,w,f⟩:=F (i+1) n { delta:=0,bias:=P4 s.delta (s.done+1) (s.done==a),done:=s.done+1,out:=s.out++O4 s.delta 0 s.bias } (by omega) (by omega) (by simp only;omega) B (by simp only[x5];omega) (by simp only;omega) y;rw[j,List.countP_cons_of_pos (by simp)];refine⟨λR d=>?_,u,?_,?_,?_⟩
    ·rw[Br];have g:((s.done:Int)==(a:Int))=(s.done==a):=by grind
     rw[A8,D1,E6,c9,ok];simp only[cond_true,vl,C,A,J];rw[A6,cond_false,beq_self_eq_true,cond_true,L0,L0,o9,aa2 (show s.out.length<=100000 by omega),L0,A8,g];simp only[cond_true,c9];have h:al6 (s.out.map D7) ((O4 s.delta 0 s.bias).map D7)=(s.out++O4 s.delta 0 s.bias).map D7:=by rw[af1];rfl
     rw[h];exact o R d
    ·simp only[x5] at v;omega
    ·simp only at w;omega
    ·simp only at f;rw[R9];split at f<;>omega
   ·have e:(p==m)=false:=by rw[beq_eq_false_iff_ne];omega
    have j:H6 m a (p::c.drop (i+1)) s=H6 m a (c.drop (i+1)) s:=by rw[H6,if_neg D,if_neg H]
    obtain⟨o,u,v,w,f⟩:=F (i+1) n s (by omega) (by omega) (by omega) x (by omega) (by omega) y;rw[j,ag7 (by rw[e];simp)];refine⟨λR d=>?_,u,v,w,?_⟩
    ·rw[Br];rw[A8,D1,E6,c9,ok];simp only[cond_true,vl,C,A];rw[A6,cond_false,show((p:Int)==(m:Int))=false by rw[beq_eq_false_iff_ne];omega,cond_false];exact o R d
    ·split at f<;>split<;>omega
theorem Ax6{R:Type}{k0:Bool->Bool->LL->Int->Int->Int->Int->Int->Int->LL->Option R}(z t:Bool)(a:List Nat)(k:a.length<=256)(n0:Nat)(b delta c done:Int)(l:LL):∀(r i n m:Nat),i+r=a.length->r<n->
  Hx LF n z t (B3 a) b (n0:Int) delta c done (m:Int) (a.length:Int) (i:Int) l k0=k0 z t (B3 a) b (n0:Int) delta c done ((H3 n0 (a.drop i) m:Nat):Int) l:=by
 intro r
 induction r with
 | zero=>
  intro i n m g j;obtain⟨n,rfl⟩:∃m,n=m+1:=⟨n-1,by omega⟩
  rw[Hx];rw[A6,j1 (by omega)];rfl
 | succ r d=>
  intro i n m g j;obtain⟨n,rfl⟩:∃m,n=m+1:=⟨n-1,by omega⟩
  have f:=Zo a i (by omega);have ok:=Qd (l:=a) (i:=i) (by omega);rw[Hx,Uw a i (by omega)];generalize a.getD i 0=p at *;have e:A1 ((i:Int)+1)=((i+1:Nat):Int):=by rw[A7];rfl
  rw[A8,D1,E6,c9,ok];simp only[cond_true,vl,f,e,H3];by_cases h:n0<=p
  ·rw[if_pos h,A6,b8,cond_true];have:(if (p:Int)<(m:Int) then (p:Int) else (m:Int))=((min m p:Nat):Int):=by split<;>omega
   rw[this];exact d (i+1) n (min m p) (by omega) (by omega)
  ·rw[if_neg h,A8,j0,cond_false];exact d (i+1) n m (by omega) (by omega)
theorem Dr(n:Nat):∀(l:List Nat) (m:Nat),(H3 n l m=m\/(H3 n l m∈l/\n<=H3 n l m))/\H3 n l m<=m/\∀p∈l,n<=p->H3 n l m<=p
 | [],m=>⟨.inl rfl,af0 _,λp h=>by cases h⟩
 | q::r,m=>by
  obtain⟨a,b,c⟩:=Dr n r (if n<=q then min m q else m);simp only[H3];grind
theorem Up{n m:Nat}(a:n<=m):∀l:List Nat,(∀p∈l,n<=p->m<=p)->l.countP (λp=>decide (p<m+1))=l.countP (λp=>decide (p<n))+l.countP (· == m)
 | [],_=>rfl
 | p::l,h=>by
  have d:=Up a l (λq b=>h q (List.mem_cons_of_mem _ b));have c:=h p List.mem_cons_self;grind
theorem Aq0{n:Nat}{l:List Nat}(h:l.countP (λp=>decide (p<n))<l.length):∃p∈l,n<=p:=by
 apply ad8;intro a;have:l.countP (λp=>decide (p<n))=l.length:=by simp_all
 omega
theorem Ca8(z t:Bool)(a:List Nat)(b:Nat)(x:a.length<=256)(N:b<=256)(g:∀p∈a,p<=1114111):∀(f n d:Nat) (s:OU),s.done=a.countP (λp=>decide (p<n))->a.length<=s.done+f->f<d->s.delta<=300->s.bias<=500->s.out.length+20*(a.length-s.done)<=80000->n<=1114112->
  ∀(R:Type) (k0:LL->Option R),Eu LF d z t (B3 a) (b:Int) (n:Int) (s.delta:Int) (s.bias:Int) (s.done:Int) (s.out.map D7) k0=k0 ((Q1 a b f n s).out.map D7):=by
 intro f;have M:=C2
 induction f with
 | zero=>
  intro n d s P S T I v J L R k0;obtain⟨d,rfl⟩:∃m,d=m+1:=⟨d-1,by omega⟩
  rw[Eu];rw[D1,A6];rfl
 | succ f U=>
  intro n d s P S T I v J L R k0;obtain⟨d,rfl⟩:∃m,d=m+1:=⟨d-1,by omega⟩
  rw[Eu];rw[D1];have O:a.countP (λp=>decide (p<n))<=a.length:=aa1;by_cases j:s.done<a.length
  ·obtain⟨A,k,q⟩:=Aq0 (n:=n) (l:=a) (by omega);obtain⟨g1,g2,u⟩:=Dr n a 1114112;have g4:=u A k q;have g5:=g A k;have e:H3 n a 1114112∈a/\n<=H3 n a 1114112:=by grind
   have Q:Q1 a b (f+1) n s=Q1 a b f (H3 n a 1114112+1) { H6 (H3 n a 1114112) b a { s with delta:=s.delta+(H3 n a 1114112-n)*(s.done+1) } with delta:=(H6 (H3 n a 1114112) b a { s with delta:=s.delta+(H3 n a 1114112-n)*(s.done+1) }).delta+1 }:=by
    rw[Q1,if_pos j]
   rw[Q,A8,cond_true];have c:=λ(K:Bool->Bool->LL->Int->Int->Int->Int->Int->Int->LL->Option R)=>Ax6 (k0:=K) z t a x n (b:Int) (s.delta:Int) (s.bias:Int) (s.done:Int) (s.out.map D7) a.length 0 LF 1114112 (by omega) (by omega)
   rw[j9] at c;refine j7 (c _) ?_;generalize H3 n a 1114112=m at *;have y:(m-n)*(s.done+1)<=1114112*256:=ah7 (by omega) (by omega);have B:A1 ((s.done:Int)+1)=((s.done+1:Nat):Int):=by rw[A7];rfl
   have C:A1 ((m:Int)-(n:Int))=((m-n:Nat):Int):=by rw[A7];omega
   have D:A1 (((m-n:Nat):Int)*((s.done+1:Nat):Int))=(((m-n)*(s.done+1):Nat):Int):=by
    rw[<-Int.natCast_mul];exact A7
   have F:A1 ((s.delta:Int)+(((m-n)*(s.done+1):Nat):Int))=((s.delta+(m-n)*(s.done+1):Nat):Int):=by
    rw[A7];rfl
   simp only[vl,B,C,D,F];have i:=Bh4 z t a b m (by omega) x a.length 0 LF { s with delta:=s.delta+(m-n)*(s.done+1) } (by omega) (by omega) (by simp only;omega) v (by simp only;omega) (by simp only;omega) N;rw[j9] at i;obtain⟨V,W,X,Y,Z⟩:=i;rw[D1];refine j7 (V R _) ?_;have h:0<a.countP (· == m):=ai2.2 ⟨m,e.1,by simp⟩;rw[if_pos h] at Z;have r:=Up e.2 a u;generalize H6 m b a { s with delta:=s.delta+(m-n)*(s.done+1) } = o at *;simp only at X Y;have G:A1 ((o.delta:Int)+1)=((o.delta+1:Nat):Int):=by rw[A7];rfl
   have H:A1 ((m:Int)+1)=((m+1:Nat):Int):=by rw[A7];rfl
   have w:a.countP (λp=>decide (p<m+1))<=a.length:=aa1;simp only[G,H];exact U (m+1) d { o with delta:=o.delta+1 } (by simp only;omega) (by simp only;omega) (by omega) (by simp only;omega) W (by simp only;omega) (by omega) R k0
  ·rw[A6];rw[Q1,if_neg j];rfl
def U9(l:List Int):By:=(l.filter λx=>decide (x<128)).map λx=>aa7 x.toNat
theorem Ci3(x:Int)(a:0<=x)(h:x<128):[SV.int .u8 (wu8 x)]=D7 (aa7 x.toNat):=by
 unfold D7;have e:wu8 x=x:=by unfold wu8;exact Int.emod_eq_of_lt a (show x<256 by omega)
 rw[e];have:((aa7 x.toNat).toNat:Int)=x:=by simp;omega
 rw[this]
theorem Tc{x:Int}(h:ptI x=true):0<=x/\x<=1114111:=by
 cases x with
 | negSucc m=>cases h
 | ofNat m=>
  have:U3 m=true:=h;unfold U3 at this;simp only[o8,x6] at this;grind
theorem Ax1(z t:Bool)(P:List Int)(A:P.length<=256):∀(r i n:Nat) (out:By),i+r=P.length->r<n->out.length+r<=1000->
  ((P.drop i).all ptI=true->∀(R:Type) (a:LL->Option R) (b:Bool->Bool->LL->LL->Option R),T5 LF n z t (Am P) (P.length:Int) (i:Int) (out.map D7) a b=b z t (Am P) ((out++U9 (P.drop i)).map D7))/\
  ((P.drop i).all ptI=false->∃l,∀(R:Type) (a:LL->Option R) (b:Bool->Bool->LL->LL->Option R),T5 LF n z t (Am P) (P.length:Int) (i:Int) (out.map D7) a b=a l):=by
 intro r
 induction r with
 | zero=>
  intro i n out u v w;obtain⟨n,rfl⟩:∃m,n=m+1:=⟨n-1,by omega⟩
  rw[j1 (by omega)];refine⟨λ_ R a b=>?_,λh=>(by cases h)⟩;rw[T5];rw[A6];simp[U9]
 | succ r q=>
  intro i n out u v w;obtain⟨n,rfl⟩:∃m,n=m+1:=⟨n-1,by omega⟩
  have j:=Ar9 P i (by omega);have ok:=UP (l:=P) (i:=i) (by omega);rw[YR P i (by omega)];generalize P.getD i 0=x at *;have p:A1 ((i:Int)+1)=((i+1:Nat):Int):=by rw[A7];rfl
  cases f:ptI x with
  | false=>
   refine⟨λh=>?_,λ_=>⟨out.map D7,λR a b=>?_⟩⟩
   ·rw[ac2,f] at h;cases h
   ·rw[T5];rw[A8,U0,E6,c9,ok];simp only[cond_true,vl,j,f,b8]
  | true=>
   obtain⟨y,B⟩:=Tc f;rw[ac2,f,ac9];by_cases c:x<128
   ·have d:U9 (x::P.drop (i+1))=aa7 x.toNat::U9 (P.drop (i+1)):=by
     unfold U9;rw[List.filter_cons_of_pos (by simpa using c)];rfl
    have g:out.map D7++[[SV.int .u8 (wu8 x)]]=(out++[aa7 x.toNat]).map D7:=by rw[Ci3 x y c];simp
    obtain⟨k,o⟩:=q (i+1) n (out++[aa7 x.toNat]) (by omega) (by omega) (by simp;omega);have step:∀(R:Type) (a:LL->Option R) (b:Bool->Bool->LL->LL->Option R),T5 LF (n+1) z t (Am P) (P.length:Int) (i:Int) (out.map D7) a b=T5 LF n z t (Am P) (P.length:Int) ((i+1:Nat):Int) ((out++[aa7 x.toNat]).map D7) a b:=by
     intro R a b;rw[T5];rw[A8,U0,E6,c9,ok];simp only[cond_true,vl,j,f,j0,cond_false,p];rw[B5 c,o9,F0 (by omega),g];rfl
    refine⟨λh R a b=>?_,λh=>?_⟩
    ·rw[step,k h,d];simp
    ·obtain⟨l,e⟩:=o h;exact⟨l,λR a b=>by rw[step];exact e R a b⟩
   ·have d:U9 (x::P.drop (i+1))=U9 (P.drop (i+1)):=by
     unfold U9;rw[List.filter_cons_of_neg (by simpa using c)]
    obtain⟨k,o⟩:=q (i+1) n out (by omega) (by omega) (by omega);have step:∀(R:Type) (a:LL->Option R) (b:Bool->Bool->LL->LL->Option R),T5 LF (n+1) z t (Am P) (P.length:Int) (i:Int) (out.map D7) a b=T5 LF n z t (Am P) (P.length:Int) ((i+1:Nat):Int) (out.map D7) a b:=by
     intro R a b;rw[T5];rw[A8,U0,E6,c9,ok];simp only[cond_true,vl,j,f,j0,cond_false,p];rw[A6];rfl
    refine⟨λh R a b=>?_,λh=>?_⟩
    ·rw[step,k h,d]
    ·obtain⟨l,e⟩:=o h;exact⟨l,λR a b=>by rw[step];exact e R a b⟩
theorem Bh7{P:List Int}(h:P.all ptI=true):∃a:List Nat,P=a.map (λn:Nat=>(n:Int))/\a.all U3=true/\∀p∈a,p<=1114111:=by
 induction P with
 | nil=>exact⟨[],rfl,rfl,by simp⟩
 | cons x P c=>
  rw[ac2,o8] at h;obtain⟨a,rfl,b,e⟩:=c h.2;obtain⟨d,f⟩:=Tc h.1;obtain⟨m,rfl⟩:=j8 d;refine⟨m::a,rfl,?_,?_⟩
  ·rw[ac2,b,ac8];exact h.1
  grind
theorem GN(a:List Nat):U9 (a.map λn:Nat=>(n:Int))=I3 a:=by
 unfold U9 I3
 induction a with
 | nil=>rfl
 | cons p r b=>
  grind
theorem Sd(a:List Nat):(I3 a).length=a.countP (λp=>decide (p<128)):=by unfold I3;grind
theorem Ax2(z t:Bool)(P:List Int):(V2 P=([],3)/\∀(R:Type) (b:Unit->Option R) (f:By->Int->LL->Option R),Aa5 LF z t (Am P) b f=b ())\/
  (∃l,∀(R:Type) (b:Unit->Option R) (f:By->Int->LL->Option R),Aa5 LF z t (Am P) b f=f (V2 P).1 ((V2 P).2:Nat) l):=by
 have x:=C2;by_cases j:256<P.length
 ·refine .inl ⟨by unfold V2;rw[if_pos j],λR b f=>?_⟩;unfold Aa5;rw[U0,A8];rfl
 ·right
  obtain⟨v,w⟩:=Ax1 z t P (by omega) P.length 0 LF [] (by omega) (by omega) (by simp;omega);rw[j9] at v w;cases g:P.all ptI with
  | false=>
   obtain⟨l,e⟩:=w g;refine⟨l,λR b f=>?_⟩;unfold Aa5;rw[U0,A6,cond_false];refine j7 (e R _ _) ?_;unfold V2;rw[if_neg j,g];rfl
  | true=>
   obtain⟨a,rfl,A,q⟩:=Bh7 g;rw[o9] at j;have m:V2 (a.map λn:Nat=>(n:Int))=Cl a:=by
    unfold V2;rw[o9,if_neg j,g];simp[af9]
   have k:=Sd a;have y:a.countP (λp=>decide (p<128))<=a.length:=aa1;have main:∀(o:By),o.length<=300->∀(R:Type) (b:LL->Option R),Eu LF LF z t (B3 a) ((I3 a).length:Int) 128 0 72 ((I3 a).length:Int) (o.map D7) b=b ((Q1 a (I3 a).length 256 128 { delta:=0,bias:=72,done:=(I3 a).length,out:=o }).out.map D7):=by
    intro o B R b;exact Ca8 z t a (I3 a).length (by omega) (by omega) q 256 128 LF { delta:=0,bias:=72,done:=(I3 a).length,out:=o } k (by simp only;omega) (by omega) (by simp) (by simp) (by simp only;omega) (by omega) R b
   have d:Cl a=((Q1 a (I3 a).length 256 128 { delta:=0,bias:=72,done:=(I3 a).length,out:=if (I3 a).isEmpty then [] else I3 a++[45] }).out,0):=by
    unfold Cl;grind
   refine⟨(Cl a).1.map D7,λR b f=>?_⟩;unfold Aa5;rw[U0,o9,A6,cond_false,m];have i:=v g R;rw[o9] at i;refine j7 (i _ _) ?_;rw[p5,GN,Qb];simp only[vl,o9];by_cases c:I3 a=[]
   ·rw[c,y9,A6,cond_false];have r:=main [] (by simp) R;rw[c,y9] at r;rw[ao8] at r;refine j7 (r _) ?_;rw[c] at d;rw[d];simp only[List.isEmpty_nil,if_true,y9];rw[W0,W8];rfl
   ·have u:0<(I3 a).length:=y8.2 c;rw[A8,cond_true,F0 (by omega),cond_true];have h:(I3 a).map D7++[[SV.int .u8 (45:Int)]]=(I3 a++[45]).map D7:=by rw[af1];rfl
    rw[h];refine j7 (main (I3 a++[45]) (by simp;omega) R _) ?_;rw[d,if_neg (by simpa using c)];rw[W0,W8];rfl
theorem Cu9(z t:Bool)(p:LL)(b:p.all Mx=true):∃r H,Aa5 LF z t p (λ_=>rv (.tup [.s (.str []),.s (.int .i64 3)]) []) (λd e l=>rv (.tup [.s (.str d),.s (.int .i64 e)]) [.arr true 5 1 l])=rv r H/\
  r.stab [0,0] H = .tup [.s (.str (V2 (p.map elI)).1),.s (.int .i64 ((V2 (p.map elI)).2:Nat))]:=by
 obtain⟨P,rfl⟩:=Bf5 b;rw[YS];rcases Ax2 z t P with⟨c,a⟩|⟨l,a⟩
 ·exact⟨_,_,a _ _ _,by rw[c];rfl⟩
 ·exact⟨_,_,a _ _ _,rfl⟩
section
variable {Z R : Type} (L : Nat) (Y : F7) (Q : Yh Z) (s : Z) (k : Out -> St Z -> Option R)
noncomputable abbrev C84:Code:=C4 ao1
noncomputable def Za(L:Nat):Cfg:=B4 L [186] (A2 [(3,[0,1,0,0])]) [(182,EV),(189,Al4)] (A2 [(17,[2]),(16,[0,2,0,53]),(15,[0,2,0]),(14,[2]),(13,[0,2,0,1,45]),(12,[0,2,0,0,0]),(11,[2]),(10,[0,2,0,0,41]),(9,[0,2,0,0]),(8,[0,2,0,0]),(7,[2]),(6,[0,2,0,0,18]),(5,[0,2,0,0]),(4,[2]),(3,[0,2,0,11]),(2,[0,2,0]),(1,[0,2]),(0,[0])]) [189] (A2 [(0,[2]),(1,[0,2,0])]) (some [2]) [(188,Pl)] [] [188]
noncomputable def Em{R:Type}(L n:Nat)(o:Int)(b:By)(i m c:Int)(f j:Bool)(h:LL)(n8:Int)(g:Int->By->Int->Int->Int->Bool->Bool->LL->Int->Option R):Option R:=match n with|0=>none|n+1=>cond (b==[]) (g 4 b i m c f j h n8) (cond (inR 0 b.length) (cond (inR (bAt b (0:Int)) 256) (vl (D8 (u8n (bAt b (0:Int)))) λe=>cond (ltI e 0) (g 4 b i m c f j h n8) (cond (I2 1 (b.length:Int) b.length) (vl (cut b 1 (b.length:Int)) λd=>vl (A1 (m+(A1 (e*o)))) λa=>cond (ltI 1099511627776 a) (g 19 d i a c f j h n8) (cond (ltN n8 1000000000000) (cond (ltN c 1000000) (cond (ltI e (K4 n8 c)) (g 0 d i a c f j h (ad9 n8 (36:Int))) (vl (A1 ((36:Int)-(K4 n8 c))) λl=>cond (ltI 1099511627776 (A1 (o*l))) (g 19 d i a c f j h (ad9 n8 (36:Int))) (Em L n (A1 (o*l)) d i a c f j h (ad9 n8 (36:Int)) g))) none) none)) none)) none) none)
theorem Ar0(n w0 f d e a b g c n8):C5 4 ((Za L).keep 3) (bd (Za L) Y Q (cd [1,1,1,0,0] C84)) n ⟨gp [(0,.ptr 0 0 0),(2,.fnr (Fn.func 188) [] [.ptr 3 0 0,.ptr 2 0 0]),(0,pI w0)] 54,[.box [pS f,.fl 1,pI d,pI e,pI a,pB b],.arr g 3 1 c,.box [pI a],.box [pI n8]],s⟩ k =
 Em L n w0 f d e a b g c n8 (λn0 f d e a b g c n8=>k .ret ⟨gp [(2,pI n0)] 56,[.box [pS f,.fl 1,pI d,pI e,pI a,pB b],.arr g 3 1 c,.box [pI a],.box [pI n8]],s⟩):=by
 induction n generalizing w0 f d e a b g c n8 with
 | zero=>rfl
 | succ n h=>rw[Em];simp only[<-h];kernel_rfl
noncomputable def C91{R:Type}(L:Nat)(g:By)(n i b:Int)(q z:Bool)(l:LL)(p:Int->By->Int->Int->Int->Bool->Bool->LL->Int->Option R):Option R:=Em L L 1 g n i b q z l 0 (λj o m d e a h c f=>p j o m d e a h c f)
theorem Cp9(d:Nat)(rest n i b st z l):evC (Za L) (d+1) Z Q 186 [.ptr 0 0 0] [.box [pS rest,.fl 1,pI n,pI i,pI b,pB st],.arr z 3 1 l] s=C91 L rest n i b st z l (λh j f g a c m e n8=>some (pI h,[.box [pS j,.fl 1,pI f,pI g,pI a,pB c],.arr m 3 1 e,.box [pI a],.box [pI n8]],s)):=by refine(evE (fn:=ao1) (by kernel_rfl)).trans ?_;generalize evC (Za L) d=Y;unfold C91;exact(j7 (by kernel_rfl) ((Ar0 L Y Q s (E3 0 (F5 (Za L) ao1)) L 1 rest n i b st z l 0).trans (by kernel_rfl)))
noncomputable def SH(L:Nat):Cfg:=B4 L [175] (A2 []) [(170,Nm),(168,Nn)] (A2 [(16,[2]),(15,[]),(14,[0]),(13,[2]),(12,[0,67]),(11,[2]),(10,[0,4,60]),(9,[0,4]),(8,[0,4]),(7,[0,4]),(6,[0,4]),(5,[0,2,1]),(4,[2]),(3,[0,2,0,8]),(2,[0,2,0]),(1,[0,2]),(0,[0])]) [170,168] (A2 []) (some [2]) [(186,OZ),(187,RF)] [] [186,187]
noncomputable def Be6{R:Type}(L:Nat)(a:By)(n i b:Int)(m z:Bool)(l:LL)(j:Int->By->Int->Int->Int->Bool->Bool->LL->Option R):Option R:=cond (A3 a.length) (cond (ltN b 1000000) (cond (ltN i 1099511627777) (cond ((IS b a i)!=0) (j (IS b a i) (IU b a i) n (Tb b a i) b m z l) (vl (A1 ((l.length:Int)+1)) λc=>vl (A1 ((Tb b a i)-i)) λh=>cond (ltN h 1152921504606846976) (cond (ltN c 1000000) (cond (ltI 0 c) (vl (↑(P4 (j5 h) (j5 c) (not m)):Int) λf=>cond (c !=0) (vl (A1 (ac3 (Tb b a i) c)) λd=>cond (c !=0) (vl (ae8 (Tb b a i) c) λe=>cond (not (ptI (A1 (n+d)))) (j 2 (IU b a i) (A1 (n+d)) e f true z l) (cond (ltI 256 c) (j 3 (IU b a i) (A1 (n+d)) e f true z l) (cond (ltN e (Nat.add l.length 1)) (cond (x3 l.length 100000) (vl (Lh l (j5 e) (A1 (n+d))) λg=>j 0 (IU b a i) (A1 (n+d)) (A1 (e+1)) f true z g) none) none))) none) none) none) none) none)) none) none) none
theorem B60(d:Nat)(rest n i b st z l):evC (SH L) (d+1) Z Q 175 [.ptr 0 0 0] [.box [pS rest,.fl 1,pI n,pI i,pI b,pB st],.arr z 3 1 l] s=Be6 L rest n i b st z l (λh j e f g a m c=>some (pI h,[.box [pS j,.fl 1,pI e,pI f,pI g,pB a],.arr m 3 1 c],s)):=by refine(evE (fn:=Tryz.f175) (by kernel_rfl)).trans ?_;generalize evC (SH L) d=Y;unfold Be6;kernel_rfl
noncomputable abbrev Ry:Code:=C4 ai1
noncomputable def Z0(L:Nat):Cfg:=B4 L [155] (A2 [(20,[2,0,1]),(13,[0,1,0,1,0,22,0]),(4,[0,1,0,9,0])]) [(80,DD)] (A2 [(24,[2,0]),(23,[2,0]),(22,[5,2,59]),(21,[5,2]),(20,[5,58]),(19,[2,0]),(18,[5,53]),(17,[5]),(16,[0,4,0,22,0]),(15,[0,4,0,22,0]),(14,[0,4,0,0,21,0]),(13,[0,4,0,22,0,0]),(12,[0,4,0,22,0]),(11,[0,4,0,21]),(10,[0,4,0]),(9,[0,4]),(8,[0,12,0]),(7,[2,0]),(6,[0,12,0,5]),(5,[0,3,8,0]),(4,[0,12,0,0]),(3,[0,12,0]),(2,[2,0]),(1,[0,10]),(0,[0])]) [80] (A2 [(4,[5]),(5,[5]),(2,[0,4,0]),(3,[0,4,0,22,0]),(0,[0]),(1,[0,12,0])]) (some [2,0]) [(175,DB)] [] [175] (nt:=[(152,1,3,1)])
noncomputable def Lr{R:Type}(L n:Nat)(b:By)(e a:Int)(c:Unit->Option R)(d:By->Option R):Option R:=match n with|0=>none|n+1=>cond (ltI a e) (cond (inR a b.length) (cond (not (ltI (bAt b a) (128:Int))) (c ()) (Lr L n b e (A1 (a+1)) c d)) none) (d b)
theorem Aw9(n a n1 n2):C5 0 ((Z0 L).keep 4) (bd (Z0 L) Y Q (cd [1,1,0,1,0,0] Ry)) n ⟨gp [(0,pS a),(12,pI n1),(0,pI n2)] 59,[],s⟩ k =
 Lr L n a n1 n2 (λ_=>k .ret ⟨gp [(2,.fl 0),(0,pI (4:Int))] 70,[.arr true 3 1 []],s⟩) (λa=>k (.exit 0) ⟨gp [(0,pS a)] 73,[],s⟩):=by
 induction n generalizing a n1 n2 with
 | zero=>rfl
 | succ n b=>rw[Lr];simp only[<-b];kernel_rfl
noncomputable def Hw{R:Type}(L n:Nat)(c:By)(a b:Int)(d:LL)(e:By->Int->LL->Option R):Option R:=match n with|0=>none|n+1=>cond (ltI b a) (cond (inR b c.length) (cond (F6 (d.length+1)) (Hw L n c a (A1 (b+1)) (d++[[(SV.int .i64 (A1 (bAt c b)))]]) e) none) none) (e c a d)
theorem Ax0(n b a n2 l3):C5 2 ((Z0 L).keep 13) (bd (Z0 L) Y Q (cd [1,1,1,1,0,1,1,0,0,1,0,0] Ry)) n ⟨gp [(0,pS b),(4,.ptr 1 0 0),(0,pI a),(22,pI a),(0,pI n2)] 43,[.arr true 3 1 l3,.box [pS b,.fl 0,pI (128:Int),pI (0:Int),pI (72:Int),pB false]],s⟩ k =
 Hw L n b a n2 l3 (λb a d=>k (.exit 2) ⟨gp [(0,pS b),(4,.ptr 1 0 0),(0,pI a)] 67,[.arr true 3 1 d,.box [pS b,.fl 0,pI (128:Int),pI (0:Int),pI (72:Int),pB false]],s⟩):=by
 induction n generalizing b a n2 l3 with
 | zero=>rfl
 | succ n c=>rw[Hw];simp only[<-c];kernel_rfl
noncomputable def R4{R:Type}(L n:Nat)(b:LL)(a:By)(c d e:Int)(f:Bool)(i:Int->LL->By->Int->Int->Int->Bool->Option R)(j:LL->By->Int->Int->Int->Bool->Option R):Option R:=match n with|0=>none|n+1=>cond (not (a==[])) (cond (A3 a.length) (cond (ltN e 1000000) (cond (ltN d 1099511627777) (cond (ltN c 1152921504606846976) (cond (x3 b.length 100000) (vl ((E9 (DS.mk a c d e f b))).1 λh=>vl (DS.l ((E9 (DS.mk a c d e f b))).2) λg=>cond (h !=0) (i h g (DS.rest ((E9 (DS.mk a c d e f b))).2) (DS.n ((E9 (DS.mk a c d e f b))).2) (DS.i ((E9 (DS.mk a c d e f b))).2) (DS.b ((E9 (DS.mk a c d e f b))).2) (DS.st ((E9 (DS.mk a c d e f b))).2)) (R4 L n g (DS.rest ((E9 (DS.mk a c d e f b))).2) (DS.n ((E9 (DS.mk a c d e f b))).2) (DS.i ((E9 (DS.mk a c d e f b))).2) (DS.b ((E9 (DS.mk a c d e f b))).2) (DS.st ((E9 (DS.mk a c d e f b))).2) i j)) none) none) none) none) none) (j b a c d e f)
theorem JA(n d f e a b c):C5 2 ((Z0 L).keep 20) (bd (Z0 L) Y Q (cd [1,1,1,1,1,1,0,0,0] Ry)) n ⟨gp [(5,.ptr 1 0 0)] 68,[.arr true 3 1 d,.box [pS f,.fl 0,pI e,pI a,pI b,pB c]],s⟩ k =
 R4 L n d f e a b c (λn0 i l a b j g=>k .ret ⟨gp [(2,.fl 2),(0,pI n0)] 70,[.arr true 3 1 i,.box [pS l,.fl 0,pI a,pI b,pI j,pB g],.arr true 3 1 []],s⟩) (λd f e a b c=>k (.exit 4) ⟨gp [(5,.ptr 1 0 0)] 68,[.arr true 3 1 d,.box [pS f,.fl 0,pI e,pI a,pI b,pB c]],s⟩):=by
 induction n generalizing d f e a b c with
 | zero=>rfl
 | succ n h=>rw[R4];simp only[<-h];kernel_rfl
noncomputable def Wd{R:Type}(L:Nat)(M:By)(N:Int->Option R)(K:Int->LL->By->Int->Int->Int->Bool->Option R)(O:LL->By->Int->Int->Int->Bool->Option R):Option R:=cond (ltI 1024 (M.length:Int)) (N 3) (Lr L L M (M.length:Int) 0 (λ_=>N 4) (λa=>cond (A3 a.length) (vl (K9 (u8n (45:Int)) a) λC=>cond (ltI 0 C) (Hw L L a C 0 [] (λb h c=>vl (A1 (h+1)) λD=>cond (I2 D (b.length:Int) b.length) (vl (cut b D (b.length:Int)) λJ=>cond (ltI 256 (c.length:Int)) (K 3 c J 128 0 72 false) (R4 L L c J 128 0 72 false (λn i F o p q d=>K n i F o p q d) (λj G r t u e=>O j G r t u e))) none)) (R4 L L [] a 128 0 72 false (λv l H w x y f=>K v l H w x y f) (λm I z A B g=>O m I z A B g))) none))
theorem Cu4(d:Nat)(s0):evC (Z0 L) (d+1) Z Q 155 [pS s0] [] s=Wd L s0 (λg=>some (.tup [.fl 0,pI g],[.arr true 3 1 []],s)) (λg o v e f r m=>some (.tup [.fl 2,pI g],[.arr true 3 1 o,.box [pS v,.fl 0,pI e,pI f,pI r,pB m],.arr true 3 1 []],s)) (λn u q e f l=>some (.tup [.fl 0,pI (0:Int)],[.arr true 3 1 n,.box [pS u,.fl 0,pI q,pI e,pI f,pB l]],s)):=by refine(evE (fn:=ai1) (by kernel_rfl)).trans ?_;generalize evC (Z0 L) d=Y;unfold Wd;exact let i:=(E3 4 (E2 (Z0 L) Y Q (cd [1,1,1,1,1,1,1] Ry) (F5 (Z0 L) ai1)));(j7 (by kernel_rfl) (A0 rfl ((Aw9 L Y Q s (E3 0 (E2 (Z0 L) Y Q (cd [1,1,1] Ry) (F5 (Z0 L) ai1))) L s0 (s0.length:Int) 0).trans (congr (congr rfl (by kernel_rfl)) (fx1 λa=>(j7 (by kernel_rfl) (A0 (A4 λc=>(A0 ((Ax0 L Y Q s (E3 2 (E2 (Z0 L) Y Q (cd [1,1,1,1,0,1,1,0,1] Ry) (E2 (Z0 L) Y Q (cd [1,1,1,1,1] Ry) (F5 (Z0 L) ai1)))) L a c 0 []).trans (congr rfl (fx3 λt j b=>(j7 (by kernel_rfl) (A4 λp=>(A0 (A4 λh=>(A0 rfl ((JA L Y Q s i L b h 128 0 72 false).trans (by kernel_rfl)))) rfl)))))) ((JA L Y Q s i L [] a 128 0 72 false).trans (by kernel_rfl)))) rfl)))))))
noncomputable abbrev XY:Code:=C4 an5
noncomputable def Fv(L:Nat):Cfg:=B4 L [104] (A2 [(2,[0,0,2,0])]) [] (A2 [(6,[4]),(3,[0,0,3]),(5,[4]),(4,[0,0,3,11]),(2,[0,0,3,4]),(1,[0,0,3]),(0,[0,0])]) [] (A2 [(0,[]),(1,[0,0,3])]) (some [4]) [] [] []
noncomputable def Cn{R:Type}(L n:Nat)(b:By)(c a:Int)(d:Int->Option R)(e:Unit->Option R):Option R:=match n with|0=>none|n+1=>cond (not (ltI a 0)) (cond (inR a b.length) (cond ((bAt b a)==c) (d a) (Cn L n b c (A1 (a-1)) d e)) none) (e ())
theorem TX(n s0 c1 i2):C5 0 ((Fv L).keep 2) (bd (Fv L) Y Q (cd [1,0,1,0,0] XY)) n ⟨gp [(0,pS s0),(0,p8 c1),(3,pI i2)] 13,[],s⟩ k =
 Cn L n s0 c1 i2 (λn0=>k .ret ⟨gp [(4,pI n0)] 14,[],s⟩) (λ_=>k (.exit 0) ⟨gp [] 19,[],s⟩):=by
 induction n generalizing s0 c1 i2 with
 | zero=>rfl
 | succ n a=>rw[Cn];simp only[<-a];kernel_rfl
noncomputable def TW{R:Type}(L:Nat)(d:By)(e:Int)(c:Int->Option R):Option R:=vl (A1 ((d.length:Int)-1)) λa=>Cn L L d e a (λb=>c b) (λ_=>c (-1))
theorem Bo3(d:Nat)(s0 c1):evC (Fv L) (d+1) Z Q 104 [pS s0,p8 c1] [] s=TW L s0 c1 (λb=>some (pI b,[],s)):=by refine(evE (fn:=an5) (by kernel_rfl)).trans ?_;generalize evC (Fv L) d=Y;unfold TW;exact(j7 (by kernel_rfl) (A4 λa=>((TX L Y Q s (E3 0 (E2 (Fv L) Y Q (cd [1,1] XY) (F5 (Fv L) an5))) L s0 c1 a).trans (by kernel_rfl))))
noncomputable def SM(L:Nat):Cfg:=B4 L [80] (A2 []) [(104,XL)] (A2 [(1,[4]),(0,[0,0])]) [104] (A2 []) (some [4]) [] [] []
noncomputable def Bf9{R:Type}(L:Nat)(b:By)(a:Int)(c:Int->Option R):Option R:=cond (A3 b.length) (cond (inR a 256) (c (K9 (u8n a) b)) none) none
theorem B86(d:Nat)(s0 c1):evC (SM L) (d+1) Z Q 80 [pS s0,p8 c1] [] s=Bf9 L s0 c1 (λa=>some (pI a,[],s)):=by refine(evE (fn:=Tryz.f80) (by kernel_rfl)).trans ?_;generalize evC (SM L) d=Y;unfold Bf9;kernel_rfl
end
theorem Fd(c:UInt8):-1<=D8 c/\D8 c<=35:=by unfold D8 Nf;grind
theorem Mm(k b:Int):1<=K4 k b/\K4 k b<=26:=by unfold K4;omega
theorem Cs{x w:Int}(b:0<=x)(c:x<=35)(a:0<=w)(w1:w<=1099511627776):0<=x*w/\x*w<=38482906972160:=by refine⟨am1 b a,?_⟩;have:=Int.mul_le_mul c w1 a (show(0:Int)<=35 by omega);omega
theorem Uu(b:Int):∀(s:By) (i w k:Int),0<=i->0<=w->w<=1099511627776->(S7 b s i w k).1=0->i<=(S7 b s i w k).2.2/\(S7 b s i w k).2.2<=1099511627776/\(S7 b s i w k).2.1.length<s.length
 | [],i,w,k,_,_,_,h=>by simp[S7] at h
 | c::r,i,w,k,m,d,a,h=>by
  have l:=Fd c;have o:=Mm k b;unfold S7 at h ⊢;split at h
  ·simp at h
  ·rename_i e;rw[if_neg e];have n:=Cs (by omega) l.2 d a;split at h
   ·simp at h
   ·rename_i f;rw[if_neg f];split at h
    ·grind
    ·rename_i g;rw[if_neg g];split at h
     ·omega
     ·rename_i j;rw[if_neg j];obtain⟨p,q,t⟩:=Uu b r (i+D8 c*w) (w*(36-K4 k b)) (k+36) (by omega) (am1 d (by omega)) (by omega) h;grind
theorem Bm4(f:Int)(b:Int)(g z:Bool)(l:LL)(M:0<=b)(N:b<1000000):∀(s:By) (n:Nat) (i w k:Int),s.length<n->s.length<=1000000000->0<=i->i<=1099511627776->0<=w->w<=1099511627776->0<=k->k+36*s.length<=100000000000->
  ∃H,∀(R:Type) (a:Int->By->Int->Int->Int->Bool->Bool->LL->Int->Option R),Em LF n w s f i b g z l k a=a (S7 b s i w k).1 (S7 b s i w k).2.1 f (S7 b s i w k).2.2 b g z l H:=by
 intro s
 induction s with
 | nil=>
  intro n i w k K L O B G h P o;obtain⟨n,rfl⟩:∃m,n=m+1:=⟨n-1,by omega⟩
  refine⟨k,λR a=>?_⟩;rw[Em];rfl
 | cons c r T=>
  intro n i w k K L O B G h P o;obtain⟨n,rfl⟩:∃m,n=m+1:=⟨n-1,by omega⟩
  rw[k9] at K L o;have S:=Fd c;have V:=Mm k b;have Q:u8n (bAt (c::r) 0)=c:=by unfold u8n bAt;simp
  have C:inR (bAt (c::r) 0) 256=true:=by rw[Z9];have:=c.toNat_lt;exact J6 (by omega) (by simp;omega)
  have j:cut (c::r) 1 ((c::r).length:Int)=r:=by
   have:=Ek (c::r) 1 (c::r).length;grind
  have F:((c::r)==([]:By))=false:=rfl;have start:∀(R:Type) (a:Int->By->Int->Int->Int->Bool->Bool->LL->Int->Option R),Em LF (n+1) w (c::r) f i b g z l k a =
    cond (ltI (D8 c) 0) (a 4 (c::r) f i b g z l k)
     (vl (A1 (i+(A1 (D8 c*w)))) λd=>cond (ltI 1099511627776 d) (a 19 r f d b g z l k)
      (cond (ltI (D8 c) (K4 k b)) (a 0 r f d b g z l (ad9 k 36))
       (vl (A1 (36-(K4 k b))) λp=>cond (ltI 1099511627776 (A1 (w*p))) (a 19 r f d b g z l (ad9 k 36)) (Em LF n (A1 (w*p)) r f d b g z l (ad9 k 36) a)))):=by
   intro R a;rw[Em];rw[F,C,J6 (by omega) (by rw[k9];omega),Z5 (by omega) (by rw[k9];omega) (by omega),j,Q,L0,L0];rfl
  unfold S7;by_cases u:D8 c<0
  ·rw[if_pos u];refine⟨k,λR a=>?_⟩;rw[start,B5 u];rfl
  ·rw[if_neg u];have U:=Cs (by omega) S.2 G h;have q:A1 (D8 c*w)=D8 c*w:=A7;have t:A1 (i+D8 c*w)=i+D8 c*w:=A7;by_cases v:1099511627776<i+D8 c*w
   ·rw[if_pos v];refine⟨k,λR a=>?_⟩;rw[start,A6,q,t];simp only[vl,cond_false];rw[B5 v];rfl
   ·rw[if_neg v];by_cases y:D8 c<K4 k b
    ·rw[if_pos y];refine⟨ad9 k 36,λR a=>?_⟩;rw[start,A6,q,t];simp only[vl,cond_false];rw[A6,B5 y];rfl
    ·rw[if_neg y];have I:A1 (36-K4 k b)=36-K4 k b:=A7;have D:=Cs (x:=36-K4 k b) (by omega) (by omega) G h;rw[Int.mul_comm] at D;have J:A1 (w*(36-K4 k b))=w*(36-K4 k b):=A7;by_cases A:1099511627776<w*(36-K4 k b)
     ·rw[if_pos A];refine⟨ad9 k 36,λR a=>?_⟩;rw[start,A6,q,t];simp only[vl,cond_false];rw[A6,A6,I,J,B5 A];rfl
     ·rw[if_neg A];obtain⟨H,e⟩:=T n (i+D8 c*w) (w*(36-K4 k b)) (k+36) (by omega) (by omega) (by omega) (by omega) (by omega) (by omega) (by omega) (by omega);refine⟨H,λR a=>?_⟩;rw[start,A6,q,t];simp only[vl,cond_false];rw[A6,A6,I,J,A6];exact e R a
theorem Bm5(a:By)(n i b:Int)(f z:Bool)(l:LL)(h:A3 a.length=true)(j:ltN b 1000000=true)(k:ltN i 1099511627777=true) :
  ∃c,∀(R:Type) (d:Int->By->Int->Int->Int->Bool->Bool->LL->Int->Option R),C91 LF a n i b f z l d=d (IS b a i) (IU b a i) n (Tb b a i) b f z l c:=by
 have q:=L6 h;obtain⟨g,p⟩:=D9.1 j;obtain⟨o,r⟩:=D9.1 k;have m:=C2;obtain⟨c,e⟩:=Bm4 n b f z l g (by omega) a LF i 1 0 (by omega) (by omega) o (by omega) (by omega) (by omega) (by omega) (by omega);exact⟨c,λR d=>e R _⟩
theorem Ar1{R:Type}{j:Int->By->Int->Int->Int->Bool->Bool->LL->Option R}(a:By)(n i b:Int)(d z:Bool)(l:LL)(y:A3 a.length=true)(C:ltN b 1000000=true)(g:ltN i 1099511627777=true)(D:ltN n 1152921504606846976=true)(h:x3 l.length 100000=true) :
  Be6 LF a n i b d z l j=j (E9 ⟨a,n,i,b,d,l⟩).1 (E9 ⟨a,n,i,b,d,l⟩).2.rest (E9 ⟨a,n,i,b,d,l⟩).2.n (E9 ⟨a,n,i,b,d,l⟩).2.i (E9 ⟨a,n,i,b,d,l⟩).2.b (E9 ⟨a,n,i,b,d,l⟩).2.st z (E9 ⟨a,n,i,b,d,l⟩).2.l:=by
 obtain⟨F,P⟩:=D9.1 g;obtain⟨n0,Q⟩:=D9.1 D;have M:=ab5 h;unfold Be6 E9;rw[y,C,g];simp only[cond_true];by_cases e:IS b a i=0
 ·rw[if_pos e,e];obtain⟨G,I,S⟩:=Uu b a i 1 0 F (by omega) (by omega) e;have H:i<=Tb b a i:=G;have J:Tb b a i<=1099511627776:=I;have o:A1 ((l.length:Int)+1)=(l.length:Int)+1:=A7;simp only[vl];rw[o];generalize Tb b a i=x at *;have f:0<=x:=by omega
  obtain⟨X,rfl⟩:=j8 f;have p:A1 ((X:Int)-i)=(X:Int)-i:=A7;have u:((l.length:Int)+1)=((l.length+1:Nat):Int):=rfl;have v:ac3 (X:Int) ((l.length+1:Nat):Int)=((X / (l.length+1):Nat):Int):=L1 _ _;have w:ae8 (X:Int) ((l.length+1:Nat):Int)=((X % (l.length+1):Nat):Int):=Bx _ _;have L:=ae1 X (l.length+1);have N:=am4 X (show 0<l.length+1 by omega);rw[p,u,v,w];generalize hA:X / (l.length+1)=A at *;generalize K:X % (l.length+1)=B at *;have q:A1 (A:Int)=(A:Int):=A7;have r:A1 (n+(A:Int))=n+(A:Int):=A7;have t:A1 ((B:Int)+1)=(B:Int)+1:=A7;have k:((0:Int)!=0)=false:=rfl;have m:((((l.length+1:Nat):Int))!=0)=true:=by rw[bne_iff_ne];omega
  rw[q,r,t,k,L0,L0,A8,m];simp only[cond_true,cond_false];cases O:ptI (n+(A:Int)) with
  | false=>simp
  | true=>
   simp only[j0,cond_false,if_true];by_cases c:(256:Int)<((l.length+1:Nat):Int)
   ·rw[if_pos c,B5 c];rfl
   ·rw[if_neg c,A6,cond_false,Rb (by omega) (by show(B:Int)<((l.length+1:Nat):Int);omega),h];rfl
 ·rw[if_neg e,show(IS b a i !=0)=true from bne_iff_ne.2 e];rfl
theorem IH(c:UInt8):∀l:By,-1<=K9 c l
 | []=>by simp[K9]
 | b::r=>by
  have:=IH c r;unfold K9;omega
theorem II(c b:UInt8):∀l:By,K9 c (l++[b])=if b=c then (l.length:Int) else K9 c l
 | []=>by
  by_cases h:b=c<;>simp[K9,h]
 | a::l=>by
  have d:=II c b l;rw[ak9,K9,d];by_cases h:b=c
  ·grind
  ·rw[if_neg h,if_neg h];rfl
theorem ZN{R:Type}{b:Int->Option R}{d:Unit->Option R}(s:By)(c:UInt8)(l:s.length<=1000000000):∀(m n:Nat),m<=s.length->m<n->
  Cn LF n s (c.toNat:Int) ((m:Int)-1) b d=if K9 c (s.take m)<0 then d () else b (K9 c (s.take m)):=by
 intro m
 induction m with
 | zero=>
  intro n g i;obtain⟨n,rfl⟩:∃m,n=m+1:=⟨n-1,by omega⟩
  rw[Cn];rw[A8];rfl
 | succ m k=>
  intro n g i;obtain⟨n,rfl⟩:∃m,n=m+1:=⟨n-1,by omega⟩
  rw[Cn];have e0:(((m+1:Nat):Int)-1)=(m:Int):=by omega
  have e:A1 ((m:Int)-1)=(m:Int)-1:=A7;have j:s.take (m+1)=s.take m++[s.getD m 0]:=by
   rw[ak0,a8,j4 (by omega)];rfl
  rw[e0,e,A6,E6,D0,j,II];simp only[b8,cond_true];by_cases h:s.getD m 0=c
  ·rw[if_pos h,h,beq_self_eq_true,cond_true,p4,ah1 (by omega),F9]
  ·have a:(((s.getD m 0).toNat:Int)==(c.toNat:Int))=false:=by
    rw[beq_eq_false_iff_ne];intro f;exact h (al9 (Int.ofNat.inj f))
   rw[if_neg h,a,cond_false];exact k n (by omega) (by omega)
theorem Ci5{c:Int}(h:inR c 256=true):c=((u8n c).toNat:Int):=by simp only[inR,o8,decide_eq_true_eq] at h;unfold u8n;simp;omega
theorem ZO{R:Type}{a:Int->Option R}(s:By)(c:Int)(e:A3 s.length=true)(f:inR c 256=true):TW LF s c a=a (K9 (u8n c) s):=by
 have j:=L6 e;have g:=C2;have i:=Ci5 f;generalize u8n c=d at *;subst i;unfold TW;have b:A1 ((s.length:Int)-1)=(s.length:Int)-1:=A7;simp only[vl];rw[b];refine j7 (ZN s d (by omega) s.length LF (by omega) (by omega)) ?_;rw[al0];have:=IH d s;by_cases h:K9 d s<0
 ·rw[if_pos h,show K9 d s=-1 by omega]
 ·rw[if_neg h]
theorem At8{R:Type}{a:Int->Option R}(s:By)(c:Int)(b:A3 s.length=true)(d:inR c 256=true):Bf9 LF s c a=a (K9 (u8n c) s):=by unfold Bf9;grind
theorem Oi:∀s:By,(45∈s->K9 45 s=(G3 s:Int))/\(45∉s->K9 45 s=-1/\G3 s=0)
 | []=>⟨λh=>(by cases h),λ_=>⟨rfl,rfl⟩⟩
 | b::r=>by
  obtain⟨a,c⟩:=Oi r;unfold K9 G3;grind
theorem Aj1{c:UInt8}(h:Nf c=none):D8 c=-1:=by unfold D8;rw[h]
theorem Aj2{c:UInt8}{x:Nat}(h:Nf c=some x):D8 c=x:=by unfold D8;rw[h]
theorem Uv(b:Nat):∀(s:By) (i w k:Nat),S7 (b:Int) s (i:Int) (w:Int) ((36*k:Nat):Int)=((((D6 b s i w k).2.2:Nat):Int),(S7 (b:Int) s (i:Int) (w:Int) ((36*k:Nat):Int)).2)/\
  ((D6 b s i w k).2.2=0->(S7 (b:Int) s (i:Int) (w:Int) ((36*k:Nat):Int)).2=((D6 b s i w k).2.1,((D6 b s i w k).1:Int)))
 | [],i,w,k=>⟨rfl,λh=>by simp[D6] at h⟩
 | c::r,i,w,k=>by
  unfold S7 D6;cases d:Nf c with
  | none=>
   rw[Aj1 d,R9];grind
  | some x=>
   rw[Aj2 d,F9,Xj];have e:(i:Int)+(x:Int)*(w:Int)=((i+x*w:Nat):Int):=by push_cast;rfl
   have n:=U7 k b;have f:(w:Int)*(36-(thr k b:Int))=((w*(36-thr k b):Nat):Int):=by grind
   have g:((36*k:Nat):Int)+36=((36*(k+1):Nat):Int):=by omega
   have a:Cb=1099511627776:=by decide
   rw[e,f,g,a];simp only;generalize i+x*w=I;generalize w*(36-thr k b)=W;by_cases j:1099511627776<I
   ·grind
   ·rw[F9,if_neg j];by_cases l:x<thr k b
    ·grind
    ·rw[F9,if_neg l];by_cases m:1099511627776<W
     ·grind
     ·rw[F9,if_neg m];exact Uv b r I W (k+1)
theorem B78(l:List Nat)(i n:Nat):Lh (B3 l) i (n:Int)=B3 (U1 l i n):=by unfold Lh U1 B3;simp_all
theorem UN(b:Nat)(s:By)(i:Nat):IS (b:Int) s (i:Int)=((D6 b s i 1 0).2.2:Int)/\((D6 b s i 1 0).2.2=0->IU (b:Int) s (i:Int)=(D6 b s i 1 0).2.1/\Tb (b:Int) s (i:Int)=((D6 b s i 1 0).1:Int)):=by obtain⟨a,c⟩:=Uv b s i 1 0;have e:S7 (b:Int) s (i:Int) 1 0=S7 (b:Int) s (i:Int) ((1:Nat):Int) ((36*0:Nat):Int):=rfl;unfold IS IU Tb;rw[e];refine⟨by rw[a],λh=>?_⟩;have:=c h;rw[this];exact⟨rfl,rfl⟩
theorem Dh5(s:By)(a:List Nat)(n i b:Nat)(c:Bool)(h:(D6 b s i 1 0).2.2=0)(q:i<=(D6 b s i 1 0).1)(o:U3 (n+(D6 b s i 1 0).1 / (a.length+1))=true)(p:¬ 256<a.length+1) :
  E9 ⟨s,(n:Int),(i:Int),(b:Int),c,B3 a⟩=(0,⟨(D6 b s i 1 0).2.1,((n+(D6 b s i 1 0).1 / (a.length+1):Nat):Int),(((D6 b s i 1 0).1 % (a.length+1)+1:Nat):Int),((P4 ((D6 b s i 1 0).1-i) (a.length+1) (!c):Nat):Int),true,B3 (U1 a ((D6 b s i 1 0).1 % (a.length+1)) (n+(D6 b s i 1 0).1 / (a.length+1)))⟩):=by
 obtain⟨j,k⟩:=UN b s i;obtain⟨l,m⟩:=k h;unfold E9;simp only;rw[j,h,if_pos (show((0:Nat):Int)=0 from rfl),l,m,D1];generalize (D6 b s i 1 0).1=X at *;have d:((a.length:Int)+1)=((a.length+1:Nat):Int):=rfl;have e:ac3 (X:Int) ((a.length+1:Nat):Int)=((X / (a.length+1):Nat):Int):=L1 _ _;have f:ae8 (X:Int) ((a.length+1:Nat):Int)=((X % (a.length+1):Nat):Int):=Bx _ _;have g:(n:Int)+((X / (a.length+1):Nat):Int)=((n+X / (a.length+1):Nat):Int):=rfl;rw[d,e,f,g,Ls,o,if_pos rfl,F9,c9,B78,c9,show((X:Int)-(i:Int)).toNat=X-i by omega];rfl
theorem C92(s:By)(a:List Nat)(n i b:Nat)(f:Bool):((D6 b s i 1 0).2.2≠0->(E9 ⟨s,(n:Int),(i:Int),(b:Int),f,B3 a⟩).1=((D6 b s i 1 0).2.2:Int))/\
  ((D6 b s i 1 0).2.2=0->U3 (n+(D6 b s i 1 0).1 / (a.length+1))=false->(E9 ⟨s,(n:Int),(i:Int),(b:Int),f,B3 a⟩).1=2)/\
  ((D6 b s i 1 0).2.2=0->U3 (n+(D6 b s i 1 0).1 / (a.length+1))=true->256<a.length+1->(E9 ⟨s,(n:Int),(i:Int),(b:Int),f,B3 a⟩).1=3):=by
 obtain⟨c,l⟩:=UN b s i;have g:(((B3 a).length:Int)+1)=((a.length+1:Nat):Int):=by rw[D1];rfl
 have j:∀X:Nat,ac3 (X:Int) ((a.length+1:Nat):Int)=((X / (a.length+1):Nat):Int):=λX=>L1 _ _
 have k:∀A:Nat,(n:Int)+(A:Int)=((n+A:Nat):Int):=λA=>rfl
 refine⟨λh=>?_,λh e=>?_,λh e o=>?_⟩
 ·unfold E9;simp only;rw[c,F9]
 ·obtain⟨m,d⟩:=l h;unfold E9;simp only;rw[c,h,if_pos (show((0:Nat):Int)=0 from rfl),d,g,j,k,Ls,e,if_neg (by simp)]
 ·obtain⟨m,d⟩:=l h;unfold E9;simp only;rw[c,h,if_pos (show((0:Nat):Int)=0 from rfl),d,g,j,k,Ls,e,if_pos rfl,R9]
theorem Cj(a:List Nat)(n i b:Nat)(f:Bool):G9 [] a n i b f=(a,0):=by rw[G9];rfl
theorem Ge{s:By}(c:s≠[])(a:List Nat)(n i b:Nat)(f:Bool)(h:(D6 b s i 1 0).2.2≠0):G9 s a n i b f=([],(D6 b s i 1 0).2.2):=by rw[G9,dif_neg c];grind
theorem Dl{s:By}(c:s≠[])(a:List Nat)(n i b:Nat)(f:Bool)(h:(D6 b s i 1 0).2.2=0):G9 s a n i b f =
  if U3 (n+(D6 b s i 1 0).1 / (a.length+1)) then (if 256<a.length+1 then ([],3) else G9 (D6 b s i 1 0).2.1 (U1 a ((D6 b s i 1 0).1 % (a.length+1)) (n+(D6 b s i 1 0).1 / (a.length+1))) (n+(D6 b s i 1 0).1 / (a.length+1)) ((D6 b s i 1 0).1 % (a.length+1)+1) (P4 ((D6 b s i 1 0).1-i) (a.length+1) f) false) else ([],2):=by
 rw[G9,dif_neg c];simp only;rw[dif_pos h]
theorem Az(l:List Nat)(i n:Nat):(U1 l i n).length=l.length+1:=by unfold U1;grind
theorem Br0:∀(r:Nat) (s:By) (a:List Nat) (n i b f:Nat) (c:Bool),s.length<=r->r<f->s.length<=1000000->a.length<=256->n<=1114111->i<=1000->b<=500->
  ((G9 s a n i b (!c)).2=0->∃u t q p j,∀(R:Type) (d:Int->LL->By->Int->Int->Int->Bool->Option R) (g:LL->By->Int->Int->Int->Bool->Option R),R4 LF f (B3 a) s (n:Int) (i:Int) (b:Int) c d g=g (B3 (G9 s a n i b (!c)).1) u t q p j)/\
  ((G9 s a n i b (!c)).2≠0->(G9 s a n i b (!c)).1=[]/\∃l u t q p j,∀(R:Type) (d:Int->LL->By->Int->Int->Int->Bool->Option R) (g:LL->By->Int->Int->Int->Bool->Option R),R4 LF f (B3 a) s (n:Int) (i:Int) (b:Int) c d g=d ((G9 s a n i b (!c)).2:Nat) l u t q p j):=by
 intro r
 induction r with
 | zero=>
  intro s a n i b f c h K _ _ _ _ _;obtain⟨f,rfl⟩:∃m,f=m+1:=⟨f-1,by omega⟩
  have v:s=[]:=o5.1 (by omega);subst v;rw[Cj];refine⟨λ_=>⟨[],n,i,b,c,λR d g=>?_⟩,λh=>absurd rfl h⟩;rw[R4];rfl
 | succ r L=>
  intro s a n i b f c h K X Y Z h4 h5;obtain⟨f,rfl⟩:∃m,f=m+1:=⟨f-1,by omega⟩
  by_cases v:s=[]
  ·subst v;rw[Cj];refine⟨λ_=>⟨[],n,i,b,c,λR d g=>?_⟩,λh=>absurd rfl h⟩;rw[R4];rfl
  ·have start:∀(R:Type) (d:Int->LL->By->Int->Int->Int->Bool->Option R) (g:LL->By->Int->Int->Int->Bool->Option R),R4 LF (f+1) (B3 a) s (n:Int) (i:Int) (b:Int) c d g =
     cond ((E9 ⟨s,n,i,b,c,B3 a⟩).1 !=0) (d (E9 ⟨s,n,i,b,c,B3 a⟩).1 (E9 ⟨s,n,i,b,c,B3 a⟩).2.l (E9 ⟨s,n,i,b,c,B3 a⟩).2.rest (E9 ⟨s,n,i,b,c,B3 a⟩).2.n (E9 ⟨s,n,i,b,c,B3 a⟩).2.i (E9 ⟨s,n,i,b,c,B3 a⟩).2.b (E9 ⟨s,n,i,b,c,B3 a⟩).2.st)
      (R4 LF f (E9 ⟨s,n,i,b,c,B3 a⟩).2.l (E9 ⟨s,n,i,b,c,B3 a⟩).2.rest (E9 ⟨s,n,i,b,c,B3 a⟩).2.n (E9 ⟨s,n,i,b,c,B3 a⟩).2.i (E9 ⟨s,n,i,b,c,B3 a⟩).2.b (E9 ⟨s,n,i,b,c,B3 a⟩).2.st d g):=by
    intro R d g;rw[R4];rw[show(s==([]:By))=false from beq_eq_false_iff_ne.2 v,M8,L0,L0,L0,D1,aa2 (show a.length<=100000 by omega)];rfl
   obtain⟨G,H,I⟩:=C92 s a n i b c;have o:=Dh5 s a n i b c;generalize E9 ⟨s,n,i,b,c,B3 a⟩=D at *;by_cases k:(D6 b s i 1 0).2.2=0
   ·rw[Dl v a n i b (!c) k];obtain⟨M,N⟩:=UN b s i;obtain⟨O,P⟩:=N k;have J:IS (b:Int) s (i:Int)=0:=by rw[M,k];rfl
    obtain⟨U,V,W⟩:=Uu b s i 1 0 (by omega) (by omega) (by omega) J;have A:(i:Int)<=Tb (b:Int) s (i:Int):=U;have B:Tb (b:Int) s (i:Int)<=1099511627776:=V;have C:(IU (b:Int) s (i:Int)).length<s.length:=W;rw[P] at A B;rw[O] at C;cases x:U3 (n+(D6 b s i 1 0).1 / (a.length+1)) with
    | false=>
     rw[if_neg (by simp)];refine⟨λh=>by simp at h,λ_=>⟨rfl,D.2.l,D.2.rest,D.2.n,D.2.i,D.2.b,D.2.st,λR d g=>?_⟩⟩
     ·rw[start,H k x];rfl
    | true=>
     rw[if_pos rfl];by_cases w:256<a.length+1
     ·rw[if_pos w];refine⟨λh=>by simp at h,λ_=>⟨rfl,D.2.l,D.2.rest,D.2.n,D.2.i,D.2.b,D.2.st,λR d g=>?_⟩⟩;rw[start,I k x w];rfl
     ·rw[if_neg w];have o:=o k (by omega) x w;have z:n+(D6 b s i 1 0).1 / (a.length+1)<=1114111:=by
       unfold U3 at x;simp_all
      have F:=am4 (D6 b s i 1 0).1 (show 0<a.length+1 by omega);have y:=Nt ((D6 b s i 1 0).1-i) (a.length+1) (!c) (by omega);have:=L (D6 b s i 1 0).2.1 (U1 a ((D6 b s i 1 0).1 % (a.length+1)) (n+(D6 b s i 1 0).1 / (a.length+1))) (n+(D6 b s i 1 0).1 / (a.length+1)) ((D6 b s i 1 0).1 % (a.length+1)+1) (P4 ((D6 b s i 1 0).1-i) (a.length+1) (!c)) f true (by omega) (by omega) (by omega) (by rw[Az];omega) z (by omega) y;obtain⟨Q,S⟩:=this;refine⟨λh=>?_,λh=>?_⟩
      ·obtain⟨u,t,q,p,j,e⟩:=Q h;refine⟨u,t,q,p,j,λR d g=>?_⟩;rw[start,o];exact e R d g
      ·obtain⟨T,l,u,t,q,p,j,e⟩:=S h;refine⟨T,l,u,t,q,p,j,λR d g=>?_⟩;rw[start,o];exact e R d g
   ·rw[Ge v a n i b (!c) k];refine⟨λh=>absurd h k,λ_=>⟨rfl,D.2.l,D.2.rest,D.2.n,D.2.i,D.2.b,D.2.st,λR d g=>?_⟩⟩;rw[start,G k,show(((D6 b s i 1 0).2.2:Int)!=0)=true by rw[bne_iff_ne];omega];rfl
theorem Ct(l:List Nat):Lo l=B3 l:=rfl
theorem Aw7{R:Type}{k0:Unit->Option R}{k1:By->Option R}(s:By)(f:s.length<=1000000):∀(r i n:Nat),i+r=s.length->r<n->
  Lr LF n s (s.length:Int) (i:Int) k0 k1=if (s.drop i).any (λb=>x3 128 b.toNat) then k0 () else k1 s:=by
 intro r
 induction r with
 | zero=>
  intro i n c d;obtain⟨n,rfl⟩:∃m,n=m+1:=⟨n-1,by omega⟩
  rw[Lr];rw[A6,j1 (by omega)];rfl
 | succ r e=>
  intro i n c d;obtain⟨n,rfl⟩:∃m,n=m+1:=⟨n-1,by omega⟩
  rw[Lr];have a:A1 ((i:Int)+1)=((i+1:Nat):Int):=by rw[A7];rfl
  rw[A8,E6,D0,D2 s i (by omega),a,ai4];simp only[cond_true];generalize s.getD i 0=b;by_cases h:128<=b.toNat
  ·rw[A6,aa2 h];rfl
  ·have:x3 128 b.toNat=false:=by rw[y5,ne_eq,x6];exact h
   rw[A8,this,ae6];exact e (i+1) n (by omega) (by omega)
theorem Bq9{R:Type}{k0:By->Int->LL->Option R}(s:By)(q:s.length<=1000000)(k:Nat)(p:k<=s.length):∀(r i n:Nat) (l:List Nat),i+r=k->r<n->l.length=i->
  Hw LF n s (k:Int) (i:Int) (B3 l) k0=k0 s (k:Int) (B3 (l++((s.take k).drop i).map (·.toNat))):=by
 intro r
 induction r with
 | zero=>
  intro i n l f h g;obtain⟨n,rfl⟩:∃m,n=m+1:=⟨n-1,by omega⟩
  rw[Hw];rw[A6,j1 (by rw[p4];omega)];simp
 | succ r j=>
  intro i n l f h g;obtain⟨n,rfl⟩:∃m,n=m+1:=⟨n-1,by omega⟩
  rw[Hw];have c:A1 ((i:Int)+1)=((i+1:Nat):Int):=by rw[A7];rfl
  have e:(s.take k).drop i=s.getD i 0::(s.take k).drop (i+1):=by
   rw[D2 (s.take k) i (by rw[p4];omega)]
   congr 1
   rw[a8,a8,List.getElem?_take_of_lt (by omega)]
  rw[A8,E6,D0,e,D1,F0 (by omega),c];simp only[cond_true];generalize s.getD i 0=b;have o:=b.toNat_lt;have d:A1 (b.toNat:Int)=(b.toNat:Int):=A7;have a:B3 l++[[SV.int .i64 (A1 (b.toNat:Int))]]=B3 (l++[b.toNat]):=by rw[d,Jx];rfl
  rw[a,j (i+1) n _ (by omega) (by omega) (by simp;omega)];simp
theorem Oj:∀s:By,G3 s<=s.length-1
 | []=>by simp[G3]
 | b::r=>by
  have:=Oj r;unfold G3;grind
theorem Aw8(s:By)(M:A3 s.length=true):(∃e,M7 s=([],e)/\∀(R:Type) (k0:Int->Option R) (k1:Int->LL->By->Int->Int->Int->Bool->Option R) (a:LL->By->Int->Int->Int->Bool->Option R),Wd LF s k0 k1 a=k0 (e:Nat))\/
  (∃e l k j i f c,M7 s=([],e)/\∀(R:Type) (k0:Int->Option R) (k1:Int->LL->By->Int->Int->Int->Bool->Option R) (a:LL->By->Int->Int->Int->Bool->Option R),Wd LF s k0 k1 a=k1 (e:Nat) l k j i f c)\/
  ((M7 s).2=0/\∃k j i f c,∀(R:Type) (k0:Int->Option R) (k1:Int->LL->By->Int->Int->Int->Bool->Option R) (a:LL->By->Int->Int->Int->Bool->Option R),Wd LF s k0 k1 a=a (B3 (M7 s).1) k j i f c):=by
 have N:=C2;unfold M7;by_cases C:1024<s.length
 ·rw[if_pos C];refine .inl ⟨3,rfl,λR k0 k1 a=>?_⟩;unfold Wd;rw[A8];rfl
 ·rw[if_neg C];have r:=λ(R:Type) (G:Unit->Option R) (H:By->Option R)=>Aw7 (k0:=G) (k1:=H) s (by omega) s.length 0 LF (by omega) (by omega)
  rw[j9] at r;cases A:s.any (λb=>x3 128 b.toNat) with
  | true=>
   rw[if_pos rfl];refine .inl ⟨4,rfl,λR k0 k1 a=>?_⟩;unfold Wd;rw[A6,cond_false];refine j7 (r R _ _) ?_;rw[A,if_pos rfl];rfl
  | false=>
   rw[if_neg (by simp)];obtain⟨I,J⟩:=Oi s;have O:=Oj s;have key:∀(d:List Nat) (t:By),d.length<=256->t.length<=1024->(∀(R:Type) (k0:Int->Option R) (k1:Int->LL->By->Int->Int->Int->Bool->Option R) (a:LL->By->Int->Int->Int->Bool->Option R),Wd LF s k0 k1 a=R4 LF LF (B3 d) t 128 0 72 false k1 a)->
     (∃e l k j i f c,G9 t d 128 0 72 true=([],e)/\∀(R:Type) (k0:Int->Option R) (k1:Int->LL->By->Int->Int->Int->Bool->Option R) (a:LL->By->Int->Int->Int->Bool->Option R),Wd LF s k0 k1 a=k1 (e:Nat) l k j i f c)\/
     ((G9 t d 128 0 72 true).2=0/\∃k j i f c,∀(R:Type) (k0:Int->Option R) (k1:Int->LL->By->Int->Int->Int->Bool->Option R) (a:LL->By->Int->Int->Int->Bool->Option R),Wd LF s k0 k1 a=a (B3 (G9 t d 128 0 72 true).1) k j i f c):=by
    intro d t P V B;obtain⟨D,F⟩:=Br0 t.length t d 128 0 72 LF false (af0 _) (by omega) (by omega) P (by omega) (by omega) (by omega);rw[b8] at D F;by_cases w:(G9 t d 128 0 72 true).2=0
    ·obtain⟨k,j,i,f,c,e⟩:=D w;exact .inr ⟨w,k,j,i,f,c,λR k0 k1 a=>by rw[B];exact e R k1 a⟩
    ·obtain⟨S,l,k,j,i,f,c,e⟩:=F w;exact .inl ⟨_,l,k,j,i,f,c,Prod.ext S rfl,λR k0 k1 a=>by rw[B];exact e R k1 a⟩
   have Q:u8n 45=45:=rfl;have top:∀(R:Type) (k0:Int->Option R) (k1:Int->LL->By->Int->Int->Int->Bool->Option R) (a:LL->By->Int->Int->Int->Bool->Option R),Wd LF s k0 k1 a =
     cond (ltI 0 (K9 45 s)) (Hw LF LF s (K9 45 s) 0 [] (λn x u=>cond (I2 (A1 (x+1)) (n.length:Int) n.length)
      (vl (cut n (A1 (x+1)) (n.length:Int)) λy=>cond (ltI 256 (u.length:Int)) (k1 3 u y 128 0 72 false) (R4 LF LF u y 128 0 72 false k1 a)) none))
      (R4 LF LF [] s 128 0 72 false k1 a):=by
    intro R k0 k1 a;unfold Wd;rw[A6,cond_false];refine j7 (r R _ _) ?_;rw[A,if_neg (by simp),M,Q];rfl
   by_cases T:0<G3 s
   ·have v:45∈s:=by
     apply ad8;intro h;have:=(J h).2;omega
    have z:=I v;generalize G3 s=m at *;have g:=λ(R:Type) (K:By->Int->LL->Option R)=>Bq9 (k0:=K) s (by omega) m (by omega) m 0 LF [] (by omega) (by omega) rfl
    rw[j9] at g;have L:A1 ((m:Int)+1)=((m+1:Nat):Int):=by rw[A7];rfl
    have p:((s.take m).map (·.toNat)).length=m:=by rw[o9,p4];omega
    have q:∀(R:Type) (k0:Int->Option R) (k1:Int->LL->By->Int->Int->Int->Bool->Option R) (a:LL->By->Int->Int->Int->Bool->Option R),Wd LF s k0 k1 a =
      cond (ltI 256 (m:Int)) (k1 3 (B3 ((s.take m).map (·.toNat))) (s.drop (m+1)) 128 0 72 false) (R4 LF LF (B3 ((s.take m).map (·.toNat))) (s.drop (m+1)) 128 0 72 false k1 a):=by
     intro R k0 k1 a;rw[top,z,A8,cond_true];refine j7 (g R _) ?_;rw[L,H9,Ek,al0,p5,D1,p];rfl
    by_cases o:256<m
    ·rw[if_pos o];refine .inr (.inl ⟨3,B3 ((s.take m).map (·.toNat)),s.drop (m+1),128,0,72,false,rfl,λR k0 k1 a=>?_⟩);rw[q,A8];rfl
    ·rw[if_neg o,if_neg (show ¬m=0 by omega)];exact .inr (key _ (s.drop (m+1)) (by rw[p];omega) (by rw[j6];omega) (λR k0 k1 a=>by rw[q,A6];rfl))
   ·have w:G3 s=0:=by omega
    have z:¬ 0<K9 45 s:=by
     by_cases U:45∈s;all_goals grind
    rw[w,F9,if_pos rfl];refine .inr (key [] s (by simp) (by omega) (λR k0 k1 a=>?_));rw[top,A6];rfl
theorem Vy(l:List Nat):(B3 l).isEmpty=l.isEmpty:=by cases l<;>rfl
theorem Cu5(s:By)(k:A3 s.length=true):∃r H,Wd LF s (λf=>rv (.tup [.fl 0,.s (.int .i64 f)]) [.arr true 3 1 []]) (λf o w c d t j=>rv (.tup [.fl 2,.s (.int .i64 f)]) [.arr true 3 1 o,.box [.s (.str w),.fl 0,.s (.int .i64 c),.s (.int .i64 d),.s (.int .i64 t),.s (.bool j)],.arr true 3 1 []]) (λn v q c d i=>rv (.tup [.fl 0,.s (.int .i64 (0:Int))]) [.arr true 3 1 n,.box [.s (.str v),.fl 0,.s (.int .i64 q),.s (.int .i64 c),.s (.int .i64 d),.s (.bool i)]])=rv r H/\
  r.stab [1,0] H = .tup [.s (.sl (M7 s).1.isEmpty (M7 s).1.isEmpty 1 (Lo (M7 s).1)),.s (.int .i64 ((M7 s).2:Nat))]:=by
 rcases Aw8 s k with⟨e,a,b⟩|⟨e,l,u,p,m,h,g,a,b⟩|⟨a,u,p,m,h,g,b⟩
 ·refine⟨_,_,b _ _ _ _,?_⟩;rw[a];rfl
 ·refine⟨_,_,b _ _ _ _,?_⟩;rw[a];rfl
 ·refine⟨_,_,b _ _ _ _,?_⟩;rw[a,Ct];simp[PV.stab,Of,Qu,PV.snap,L3,Vy]
end
section
open Go
theorem IF(x y:By)(r:List By)(p:By):ab7 (x::y::r) p=x++(p++ab7 (y::r) p):=by simp[ab7,List.intercalate]
theorem Aa4(c:UInt8):∀l:List By,l≠[]->(∀x∈l,c∉x)->pcs c (ab7 l [c])=l
 | [],h,_=>absurd rfl h
 | [x],_,h=>by rw[ao4,Oq (h x (by simp))]
 | x::y::r,_,h=>by
  rw[IF,List.singleton_append,UU (h x (by simp)),Aa4 c (y::r) (by simp) (λz a=>h z (by simp[a]))]
theorem Fl(s:By):(B6 s).length=s.length:=o9 _
theorem Lk(s:By)(i:Nat):(B6 s).getD i 0=Bp (s.getD i 0):=by unfold B6;simp only[a8,aj9];cases s[i]?<;>rfl
theorem Bp5{s:By}:B6 s=[]↔s=[]:=by unfold B6;simp
theorem Au6(s:By)(i:Nat):(B6 s).drop i=B6 (s.drop i):=by unfold B6;rw[ai5]
theorem Ok(b:UInt8):T1 b=true↔(97<=b.toNat/\b.toNat<=122)\/(48<=b.toNat/\b.toNat<=57)\/b=45\/b=95:=by simp[T1,or_assoc]
theorem Au0{b:UInt8}(h:T1 b=true):b.toNat<128/\(b.toNat<65\/90<b.toNat)/\b≠46/\b≠37/\b≠91:=by
 rw[Ok] at h;have key:∀c:UInt8,b=c->b.toNat=c.toNat:=λc e=>by rw[e]
 rcases h with h|h|h|h
 ·refine⟨by omega,by omega,?_,?_,?_⟩<;>intro e<;>have:=key _ e<;>simp at this<;>omega
 ·refine⟨by omega,by omega,?_,?_,?_⟩<;>intro e<;>have:=key _ e<;>simp at this<;>omega
 all_goals simp_all
structure VL (s:By):Prop where
 ne:s≠[]
 le:s.length<=63
 byt:∀b∈s,T1 b=true
theorem Qs{s:By}(h:K5 s=true):VL s:=by unfold K5 at h;simp only[o8,aj2,x7] at h;obtain⟨⟨⟨⟨⟨a,c⟩,g⟩,i⟩,d⟩,j⟩:=h;refine⟨by intro e;subst e;simp at a,ab5 c,λb f=>d b f⟩
structure VN (s:By):Prop where
 le:s.length<=253
 num:G0 s=false
 all:∀x∈pcs 46 s,K5 x=true
theorem KG{s:By}:Ee s=true↔VN s:=by unfold Ee;simp only[o8,aj2,x7];exact⟨λh=>⟨ab5 h.1.1,h.1.2,h.2⟩,λh=>⟨⟨aa2 h.le,h.num⟩,h.all⟩⟩
theorem Db9(v:Nat)(h:v<4294967296):(Hh v).length<=43:=by unfold Hh;have a:=F2 (v / 16777216) (by omega);have b:=F2 (v / 65536 % 256) (by omega);have c:=F2 (v / 256 % 256) (by omega);have d:=F2 (v % 256) (by omega);grind
theorem Aa6(free:Nat):∀(l:List By) (v x:Nat),We free v l=some x->x<(v+1)*256 ^ (l.length-1)*2 ^ free
 | [],v,x,h=>by simp[We] at h
 | [p],v,x,h=>by
  simp only[We] at h;split at h
  ·cases h
  ·split at h
   ·rename_i n c b;simp only[j2] at h;subst h;simp only[k9,y9,ap0,Nat.pow_zero,Nat.mul_one,Nat.add_mul];omega
   ·cases h
 | p::q::r,v,x,h=>by
  rw[We] at h;split at h
  ·cases h
  ·simp only at h;split at h
   ·rename_i n c a;have d:=Aa6 free (q::r) _ x h;refine Nat.lt_of_lt_of_le d (ah8 _ ?_);simp only[k9,Nat.add_sub_cancel];rw[ae4,Nat.mul_comm (256 ^ r.length) 256,<-Nat.mul_assoc];exact ah8 _ (by omega)
   ·cases h
theorem Cv0{s:By}{v:Nat}(h:pnB s=some v):v<4294967296:=by
 unfold pnB at h;split at h
 ·cases h
 ·rename_i b;have a:=(Ap s).1;have:=Aa6 _ _ _ _ h;generalize (C8 s).length=n at *;have:n=1\/n=2\/n=3\/n=4:=by omega
  grind
def sh(n:Nat)(i:Int):Int:=if i=-1 then -1 else i+n
theorem Cj7(a:List Nat)(e:a.length=8)(h:∀x∈a,x<65536):(Nd a).length<=90:=by
 unfold Nd;split
 ·have:=Ba a h;omega
 ·have c:=Ba (a.take (zGo a 0 0 0).1) (λx b=>h x (ad3 b));have d:=Ba (a.drop ((zGo a 0 0 0).1+(zGo a 0 0 0).2)) (λx b=>h x (ae9 b));grind
theorem ZE{s:By}{last:Bool}{r:List Nat}(h:P0 s last=some r):∀x∈r,x<65536:=by
 unfold P0 at h;split at h
 ·grind
 ·exact Be9 _ _ _ h
theorem Dc2{s:By}{a:List Nat}(h:v6B s=some a):a.length=8/\∀x∈a,x<65536:=by
 unfold v6B at h;split at h
 ·rename_i x y b c;have d:=ZE b;have e:=ZE c;grind
 ·cases h
theorem Ch6{s:By}(h:(I5 s).2=0):K5 (I5 s).1=true:=by unfold I5 at h ⊢;grind
theorem Jl:∀l:List By,(F4 l).2=0->(∀x∈(F4 l).1,K5 x=true)/\(F4 l).1.length=l.length
 | [],_=>⟨by simp[F4],rfl⟩
 | x::r,h=>by
  unfold F4 at h ⊢;by_cases a:(I5 x).2=0
  ·rw[if_pos a] at h ⊢;obtain⟨d,c⟩:=Jl r h;refine⟨λy b=>?_,by simp[c]⟩;rcases ai6.1 b with rfl|b
   ·exact Ch6 a
   grind
  grind
structure Ni (h:B2):Prop where
 v4:h.v4<4294967296
 v6:h.v6.length=8/\∀x∈h.v6,x<65536
 kd:h.kind<4
theorem Bl2:z8.length=8/\∀x∈z8,x<65536:=by decide
theorem Bq6(s:By):Ni (C7 s).1/\((C7 s).2=0->T8 (C7 s).1=true):=by
 have no:Ni K3:=⟨by decide,Bl2,by decide⟩
 unfold C7;split
 ·grind
 split
 ·split
  ·cases d:v6B ((s.take (s.length-1)).drop 1) with
   | none=>exact⟨no,by simp⟩
   | some a=>exact⟨⟨show 0<4294967296 by decide,Dc2 d,show 3<4 by decide⟩,λ_=>by simp[T8]⟩
  grind
 cases l:R1 s with
 | none=>exact⟨no,by simp⟩
 | some t=>
  simp only;split
  ·cases d:pnB (I1 t) with
   | none=>exact⟨no,by simp⟩
   | some v=>exact⟨⟨Cv0 d,Bl2,show 2<4 by decide⟩,λ_=>by simp[T8]⟩
  split
  ·rename_i g;split
   ·grind
   split
   ·grind
   ·rename_i k h;refine⟨⟨show 0<4294967296 by decide,Bl2,show 1<4 by decide⟩,λ_=>?_⟩;obtain⟨f,i⟩:=Jl _ g;have b:(F4 (pcs 46 (I1 t))).1≠[]:=by
     intro e;rw[e] at i;have:=Aw6 46 (I1 t);grind
    have c:=Aa4 46 (F4 (pcs 46 (I1 t))).1 b (λx j e=>(Au0 ((Qs (f x j)).byt 46 e)).2.2.1 rfl);unfold T8;simp only[if_true,beq_self_eq_true,ac8];rw[KG];exact⟨by omega,by simpa using h,by rw[c];exact f⟩
  grind
theorem HW{h:B2}(a:T8 h=false):Iv h=[]:=by unfold Iv;rw[a];rfl
theorem BY:∀(f:Nat) (l:By),ao6 f l=(Y7 f l).isSome
 | 0,_=>rfl
 | f+1,l=>by
  unfold ao6 Y7;split
  ·rfl
  ·split
   ·rfl
   ·rw[BY f,ag1]
theorem A97(l:By):Lib.validD l=(Cv l).isSome:=BY _ l
theorem JC:∀(n m:Nat) (l:By),l.length<=n->l.length<=m->Y7 n l=Y7 m l
 | 0,m,l,b,_=>by
  have:l=[]:=o5.1 (by omega);subst this;cases m<;>simp[Y7]
 | n+1,0,l,_,hm=>by
  have:l=[]:=o5.1 (by omega);subst this;simp[Y7]
 | n+1,m+1,l,b,hm=>by
  unfold Y7;split
  ·rfl
  ·rename_i a;have d:=ag0 l;have c:0<l.length:=y8.2 a;rw[JC n m (l.drop (s9 l).2) (by rw[j6];omega) (by rw[j6];omega)]
theorem Br8(l:By)(a:l≠[]):Cv l=if (s9 l).1=65533/\(s9 l).2=1 then none else (Cv (l.drop (s9 l).2)).map ((s9 l).1::·):=by
 have c:0<l.length:=y8.2 a;have d:=ag0 l;obtain⟨n,b⟩:∃n,l.length=n+1:=⟨l.length-1,by omega⟩
 unfold Cv;rw[b]
 conv=>lhs;unfold Y7
 rw[if_neg a,JC n (l.drop (s9 l).2).length _ (by rw[j6];omega) (af0 _)]
theorem OE:∀(f:Nat) (s:ByteArray) (pos:Nat) (p:List Nat),pos<=s.size->Y7 f (s.data.toList.drop pos)=some p->s.size-pos<=f->aj7 s f pos=p.length
 | 0,s,pos,p,e,h,d=>by
  simp only[Y7,j2] at h;subst h;rfl
 | f+1,s,pos,p,e,h,d=>by
  have g:s.data.toList.length=s.size:=by rw[Array.length_toList];rfl
  unfold Y7 at h;rw[ag6] at h;by_cases a:pos<s.size
  ·rw[if_neg (by rw[<-o5,j6];omega)] at h;split at h
   ·cases h
   ·cases b:Y7 f (ad0 (ag4 s pos).2 (ad0 pos s.data.toList)) with
    | none=>rw[b] at h;cases h
    | some q=>
     rw[b] at h;simp only[w6,j2] at h;subst h;have i:=Lib.decode_width_pos s pos a;have c:pos+(ag4 s pos).2<=s.size:=by
      have:=am2 (s.data.toList.drop pos) (by rw[ne_eq,<-o5,j6];omega);rw[ag6,j6] at this;omega
     rw[am3] at b;unfold aj7;rw[if_pos a,OE f s _ q c b (by omega)];grind
  ·rw[if_pos (by rw[<-o5,j6];omega)] at h;simp only[j2] at h;subst h;rw[Lib.runeCountFrom_end s _ _ a];rfl
theorem JN{l:By}{p:List Nat}(h:Cv l=some p):af5 l=p.length:=by
 unfold af5 Lib.runeCount;have a:(ByteArray.mk l.toArray).size=l.length:=by simp[ByteArray.size]
 refine OE _ _ 0 p (Nat.zero_le _) ?_ (by omega);rw[a,j9];simpa[Cv] using h
open Lib in theorem Dk0(n b a d e:Nat)(g:194<=b/\b<224)(f:a<256):decodeN n b a d e=if 2<=n/\128<=a/\a<=191 then ((b-192)*64+a-128,2) else (65533,1):=by
 unfold decodeN;rw[F9];by_cases c:2<=n/\128<=a/\a<=191
 ·rw[if_pos c,R9,R9];exact Prod.ext (by show b % 32*64+a % 64=(b-192)*64+a-128;omega) rfl
 ·rw[if_neg c,F9,F9,F9]
open Lib in theorem Dk1(n c a b f:Nat)(i:224<=c/\c<240)(g:a<256)(h:b<256):decodeN n c a b f=if 3<=n/\(128<=a/\a<=191)/\(128<=b/\b<=191) then
  (if 2048<=((c-224)*64+a-128)*64+b-128/\U3 (((c-224)*64+a-128)*64+b-128)=true then (((c-224)*64+a-128)*64+b-128,3) else (65533,1)) else (65533,1):=by
 unfold decodeN;rw[F9,F9];by_cases d:3<=n/\(128<=a/\a<=191)/\(128<=b/\b<=191)
 ·rw[if_pos d,R9];have e:c % 16*4096+a % 64*64+b % 64=((c-224)*64+a-128)*64+b-128:=by omega
  rw[e];generalize ((c-224)*64+a-128)*64+b-128=v
  congr 1
  simp only[U3,o8,al8,x6,ai9];apply propext;omega
 ·rw[if_neg d,F9,F9]
open Lib in theorem Dk2(n d a b c:Nat)(j:240<=d/\d<245)(g:a<256)(h:b<256)(i:c<256):decodeN n d a b c=if 4<=n/\(128<=a/\a<=191)/\(128<=b/\b<=191)/\(128<=c/\c<=191) then
  (if 65536<=(((d-240)*64+a-128)*64+b-128)*64+c-128/\U3 ((((d-240)*64+a-128)*64+b-128)*64+c-128)=true then ((((d-240)*64+a-128)*64+b-128)*64+c-128,4) else (65533,1)) else (65533,1):=by
 unfold decodeN;rw[F9,F9,F9];by_cases f:4<=n/\(128<=a/\a<=191)/\(128<=b/\b<=191)/\(128<=c/\c<=191)
 ·rw[if_pos f,R9];have e:d % 8*262144+a % 64*4096+b % 64*64+c % 64=(((d-240)*64+a-128)*64+b-128)*64+c-128:=by omega
  rw[e];generalize (((d-240)*64+a-128)*64+b-128)*64+c-128=v
  congr 1
  simp only[U3,o8,al8,x6,ai9];apply propext;omega
 ·rw[if_neg f,F9]
end
section
open Go Go.Proofs
theorem Uz(l:List Nat):V2 (l.map λn:Nat=>(n:Int))=Cl l:=by
 have b:(l.map λn:Nat=>(n:Int)).all ptI=l.all U3:=by
  rw[aj8]
  congr 1
 have c:(l.map λn:Nat=>(n:Int)).map j5=l:=by
  rw[ae3];exact(ab0 λa _=>by simp).trans (ah5 l)
 unfold V2;rw[o9,b,c];by_cases h:256<l.length
 ·rw[if_pos h];unfold Cl;rw[if_pos h]
 ·rw[if_neg h];cases d:l.all U3 with
  | true=>rw[if_pos rfl]
  | false=>
   rw[if_neg (by simp)];unfold Cl;grind
theorem Ux(l:List Nat):(B3 l).map elI=l.map λn:Nat=>(n:Int):=by unfold B3;rw[ae3];exact ab0 λa _=>rfl
theorem Dd(l:List Nat):(B3 l).all Mx=true:=by unfold B3;rw[aj8,x7];intro x _;rfl
theorem Au8{R:Type}{a:Unit->Option R}{d:By->Bool->LL->Bool->Option R}(s:By)(z:Bool)(p:List Nat)(t:p.length<=1000000000):∀(r i n:Nat) (b:Bool),i+r=p.length->r<n->
  W7 LF n s z (B3 p) b (p.length:Int) (i:Int) a d=if (p.drop i).any (λp=>x3 65 p&&x3 p 90) then a () else d s z (B3 p) (b&&!((p.drop i).any λp=>x3 128 p)):=by
 intro r
 induction r with
 | zero=>
  intro i n b h j;obtain⟨n,rfl⟩:∃m,n=m+1:=⟨n-1,by omega⟩
  rw[W7];rw[A6,j1 (by omega)];simp
 | succ r k=>
  intro i n b h j;obtain⟨n,rfl⟩:∃m,n=m+1:=⟨n-1,by omega⟩
  rw[W7];have f:A1 ((i:Int)+1)=((i+1:Nat):Int):=by rw[A7];rfl
  have g:p.drop i=p.getD i 0::p.drop (i+1):=by
   rw[a8,j4 (by omega),p7,y7]
  rw[A8,D1,E6,c9,Qd (by omega),Zo _ _ (by omega),g,ai4,ai4,f];simp only[cond_true,vl];generalize p.getD i 0=q;have go:∀c:Bool,W7 LF n s z (B3 p) c (p.length:Int) ((i+1:Nat):Int) a d=_:=λc=>k (i+1) n c (by omega) (by omega)
  by_cases l:q<65
  ·rw[A8,show x3 65 q=false by rw[y5,ne_eq,x6];omega];have e:x3 128 q=false:=by rw[y5,ne_eq,x6];omega
   rw[show ltI (q:Int) (128:Int)=true from A8,e];simp only[j0,cond_false,ah3,ae6];cases b<;>simp only[cond_true,cond_false]<;>rw[go]
  ·rw[A6,show x3 65 q=true by rw[x6];omega];simp only[b8,cond_true,ac9];by_cases e:90<q
   ·rw[A8,show x3 q 90=false by rw[y5,ne_eq,x6];omega];simp only[j0,cond_false,ae6];by_cases o:q<128
    ·rw[show ltI (q:Int) (128:Int)=true from A8,show x3 128 q=false by rw[y5,ne_eq,x6];omega];cases b<;>simp only[cond_true,cond_false,ae6]<;>rw[go]
    ·rw[show ltI (q:Int) (128:Int)=false from A6,show x3 128 q=true by rw[x6];omega];cases b<;>simp only[cond_true,cond_false,Bool.true_or,j0,am0]<;>rw[go]<;>simp
   ·rw[A6,show x3 q 90=true by rw[x6];omega];simp
theorem Aq4:∀(m:Nat) (s:By) (a:List Nat) (n i b:Nat) (f:Bool),s.length<=m->a.length<=256->(G9 s a n i b f).1.length<=256:=by
 intro m
 induction m with
 | zero=>
  intro s a n i b f e d;obtain rfl:=o5.1 (Nat.le_zero.1 e);rw[Cj];exact d
 | succ m j=>
  intro s a n i b f e d;by_cases h:s=[]
  ·grind
  ·by_cases c:(D6 b s i 1 0).2.2=0
   ·rw[Dl h _ _ _ _ _ c];have g:=Pv b s i 1 0 c;split
    ·split
     ·grind
     ·rename_i k;exact j _ _ _ _ _ _ (by omega) (by rw[Az];omega)
    grind
   ·rw[Ge h _ _ _ _ _ c];grind
theorem YM(s:By):(M7 s).1.length<=256:=by
 unfold M7;split
 ·grind
 ·split
  ·grind
  ·split
   ·grind
   ·rename_i h;exact Aq4 _ _ _ _ _ _ _ (af0 _) (by rw[o9,p4];omega)
theorem Au9{R:Type}{a:Bool->Option R}(s:By)(b:A3 s.length=true):Bg3 LF s a=a (Dg s):=by
 have c:=C2;unfold Bg3 Dg;rw[b,cond_true];by_cases h:(M7 s).2=0
 ·have e:(((M7 s).2:Int)!=(0:Int))=false:=by rw[h];rfl
  rw[e,cond_false,Ct,D1,h];have i:=YM s;refine j7 (Au8 s _ (M7 s).1 (by omega) (M7 s).1.length 0 LF true (by omega) (by omega)) ?_;rw[j9];cases d:(M7 s).1.any (λp=>x3 65 p&&x3 p 90) with
  | true=>simp
  | false=>
   rw[if_neg (by simp),Dd,Ux,Uz];simp only[cond_true,vl,ac9,b8];cases f:(M7 s).1.any (λp=>x3 128 p) with
   | false=>simp
   | true=>
    simp only[j0,b8,cond_true,ac8,beq_self_eq_true,ac9];by_cases g:(Cl (M7 s).1).2=0;all_goals grind
 grind
theorem Bp9{R:Type}{d:Unit->Option R}{e:By->Option R}(s:By)(w:s.length<=1000000000):∀(r i n:Nat),i+r=s.length->r<n->
  Q6 LF n s (s.length:Int) (i:Int) d e=if (s.drop i).all T1 then e s else d ():=by
 intro r
 induction r with
 | zero=>
  intro i n l c;obtain⟨n,rfl⟩:∃m,n=m+1:=⟨n-1,by omega⟩
  rw[Q6];rw[A6,j1 (by omega)];rfl
 | succ r o=>
  intro i n l c;obtain⟨n,rfl⟩:∃m,n=m+1:=⟨n-1,by omega⟩
  rw[Q6];have k:A1 ((i:Int)+1)=((i+1:Nat):Int):=by rw[A7];rfl
  rw[A8,E6,D0,D2 s i (by omega),k,ac2];simp only[cond_true];rw[o (i+1) n (by omega) (by omega)];generalize s.getD i 0=b;have j:=Ok b;have u:((b.toNat:Int)!=45) = !(b==45):=congrArg _ (P7 b 45 (by omega));have v:((b.toNat:Int)!=95) = !(b==95):=congrArg _ (P7 b 95 (by omega));rw[u,v];have t:∀{x:Bool},T1 b=x->(if (T1 b&&(s.drop (i+1)).all T1)=true then e s else d ())=if (x&&(s.drop (i+1)).all T1)=true then e s else d ():=λh=>by rw[h]
  cases a:T1 b with
  | true=>
   rw[j] at a;simp only[ac9];by_cases f:b=45
   ·subst f;simp (disch:=decide) [ltI]
   ·by_cases g:b=95
    ·subst g;simp (disch:=decide) [ltI]
    ·rcases a with a|a|a|a
     ·rw[show ltI (b.toNat:Int) 97=false from A6,show ltI (122:Int) b.toNat=false from A6];rfl
     ·rw[show ltI (b.toNat:Int) 97=true from A8,show ltI (b.toNat:Int) 48=false from A6,show ltI (57:Int) b.toNat=false from A6];rfl
     ·exact absurd a f
     ·exact absurd a g
  | false=>
   have c:¬((97<=b.toNat/\b.toNat<=122)\/(48<=b.toNat/\b.toNat<=57)\/b=45\/b=95):=λh=>by rw[j.2 h] at a;cases a
   have p:(b==45)=false:=by simpa using λh=>c (.inr (.inr (.inl h)))
   have q:(b==95)=false:=by simpa using λh=>c (.inr (.inr (.inr h)))
   rw[p,q];simp only[b8,cond_true,ah3,v7,if_false];by_cases f:b.toNat<48
   ·rw[show ltI (b.toNat:Int) 97=true from A8,show ltI (b.toNat:Int) 48=true from A8];rfl
   ·by_cases g:b.toNat<97
    ·rw[show ltI (b.toNat:Int) 97=true from A8,show ltI (b.toNat:Int) 48=false from A6,show ltI (57:Int) b.toNat=true from A8];rfl
    ·rw[show ltI (b.toNat:Int) 97=false from A6,show ltI (122:Int) b.toNat=true from A8,show ltI (b.toNat:Int) 48=false from A6,show ltI (57:Int) b.toNat=true from A8];rfl
theorem Bq0{R:Type}{a:Bool->Option R}(s:By)(b:A3 s.length=true):Ct6 LF s a=a (K5 s):=by
 have k:=L6 b;have h:=C2;unfold Ct6 K5;by_cases c:s=[]
 ·simp_all
 ·have o:0<s.length:=y8.2 c;have j:s.isEmpty=false:=by simpa using c
  rw[A6,cond_false,j];by_cases m:63<s.length
  ·rw[A8,show x3 s.length 63=false by rw[y5,ne_eq,x6];omega];rfl
  ·rw[A6,cond_false,show x3 s.length 63=true by rw[x6];omega,E6];have l:(bAt s 0==(45:Int))=(s.getD 0 0==45):=by rw[Z9];exact P7 _ 45 (by omega)
   have d:A1 ((s.length:Int)-1)=((s.length-1:Nat):Int):=by rw[A7];omega
   rw[l,d];simp only[cond_true,vl];rw[E6,D0,show((((s.getD (s.length-1) 0).toNat:Nat):Int)==45)=(s.getD (s.length-1) 0==45) from P7 _ 45 (by omega)];cases e:(s.getD 0 0==45) with
   | true=>
    grind
   | false=>
    rw[show(s.getD 0 0 !=45)=true by unfold bne;rw[e];rfl];simp only[cond_true,cond_false];cases f:(s.getD (s.length-1) 0==45) with
    | true=>
     grind
    | false=>
     rw[show(s.getD (s.length-1) 0 !=45)=true by unfold bne;rw[f];rfl];simp only[cond_false];refine j7 (Bp9 s k s.length 0 LF (by omega) (by omega)) ?_;rw[j9];cases n:s.all T1 with
     | false=>simp
     | true=>
      rw[if_pos rfl,b,cond_true];simp only[b8,ac9,ac8];show cond (!(xnB.isPrefixOf s)) _ _=_;cases g:xnB.isPrefixOf s with
      | false=>rfl
      | true=>
       have i:Gd s xnB=s.drop 4:=by unfold Gd;rw[g];rfl
       show cond (A3 (Gd s xnB).length) (a (Dg (Gd s xnB))) none=_;rw[i,E0 (by rw[j6];omega)];rfl
theorem Ar3(a:List Nat)(b:Nat)(F:a.length<=256)(A:b<=256)(d:∀p∈a,p<=1114111):∀(f n:Nat) (s:OU),s.done=a.countP (λp=>decide (p<n))->s.delta<=300->s.bias<=500->s.out.length+20*(a.length-s.done)<=80000->n<=1114112->
  (Q1 a b f n s).out.length<=80000:=by
 intro f;have z:=C2
 induction f with
 | zero=>intro n s C w q x y;unfold Q1;omega
 | succ f G=>
  intro n s C w q x y;have B:a.countP (λp=>decide (p<n))<=a.length:=aa1;by_cases h:s.done<a.length
  ·obtain⟨u,i,j⟩:=Aq0 (n:=n) (l:=a) (by omega);obtain⟨L,M,o⟩:=Dr n a 1114112;have N:=o u i j;have O:=d u i;have c:H3 n a 1114112∈a/\n<=H3 n a 1114112:=by grind
   have D:Q1 a b (f+1) n s=Q1 a b f (H3 n a 1114112+1) { H6 (H3 n a 1114112) b a { s with delta:=s.delta+(H3 n a 1114112-n)*(s.done+1) } with delta:=(H6 (H3 n a 1114112) b a { s with delta:=s.delta+(H3 n a 1114112-n)*(s.done+1) }).delta+1 }:=by
    rw[Q1,if_pos h]
   rw[D];generalize H3 n a 1114112=m at *;have t:(m-n)*(s.done+1)<=1114112*256:=ah7 (by omega) (by omega);have g:=Bh4 false false a b m (by omega) F a.length 0 LF { s with delta:=s.delta+(m-n)*(s.done+1) } (by omega) (by omega) (by simp only;omega) q (by simp only;omega) (by simp only;omega) A;rw[j9] at g;obtain⟨_,H,I,J,K⟩:=g;have e:0<a.countP (· == m):=ai2.2 ⟨m,c.1,by simp⟩;rw[if_pos e] at K;have k:=Up c.2 a o;generalize H6 m b a { s with delta:=s.delta+(m-n)*(s.done+1) } = v at *;simp only at I J;have r:a.countP (λp=>decide (p<m+1))<=a.length:=aa1;exact G (m+1) { v with delta:=v.delta+1 } (by simp only;omega) (by simp only;omega) H (by simp only;omega) (by omega)
  ·rw[Q1,if_neg h];omega
theorem YU(p:List Nat):(Cl p).1.length<=80000:=by
 unfold Cl;split
 ·grind
 ·rename_i h;split
  ·grind
  ·rename_i a;have d:∀q∈p,q<=1114111:=λq e=>by
    have a:p.all U3=true:=by simpa using a
    have:=x7.1 a q e;simp only[U3,o8,x6] at this;omega
   have b:=Sd p;have c:p.countP (λq=>decide (q<128))<=p.length:=aa1;refine Ar3 p _ (by omega) (by omega) d 256 128 _ b (by simp) (by simp) ?_ (by omega);grind
theorem UF{b:UInt8}(h:128<=b.toNat):Bp b=b:=by
 rcases T3 b with⟨_,e⟩|⟨_,e⟩|⟨_,a,_⟩
 all_goals omega
theorem UG{b:UInt8}(h:b.toNat<128):(Bp b).toNat<128:=by
 rcases T3 b with⟨_,e⟩|⟨_,e⟩|⟨_,a,e⟩
 all_goals grind
theorem Bm0(n:Nat)(a c d e:UInt8)(h:128<=a.toNat):al5 n a.toNat (Bp c).toNat (Bp d).toNat (Bp e).toNat=al5 n a.toNat c.toNat d.toNat e.toNat:=by
 have i:∀b:UInt8,b.toNat / 64=2->Bp b=b:=λb f=>UF (by omega)
 have j:∀b:UInt8,¬b.toNat / 64=2->¬(Bp b).toNat / 64=2:=λb f h=>by
  by_cases g:128<=b.toNat
  ·rw[UF g] at h;exact f h
  ·have:=UG (b:=b) (by omega);omega
 unfold al5;grind
theorem Cp4(l:By)(c:l≠[]):(s9 (B6 l)).2=(s9 l).2/\(¬((s9 l).1=65533/\(s9 l).2=1)->¬((s9 (B6 l)).1=65533/\(s9 (B6 l)).2=1)):=by
 cases l with
 | nil=>exact absurd rfl c
 | cons b t=>
  by_cases a:b.toNat<128
  ·have d:=aj5 b t a;have f:s9 (B6 (b::t))=((Bp b).toNat,1):=aj5 (Bp b) (B6 t) (UG a);rw[d,f];refine⟨rfl,λ_ h=>?_⟩;have:=UG a;omega
  ·have e:s9 (B6 (b::t))=s9 (b::t):=by
    rw[am7,am7,Fl,Lk,Lk,Lk,Lk];have e0:Bp ((b::t).getD 0 0)=b:=UF (b:=b) (show 128<=b.toNat by omega);rw[e0];exact Bm0 (b::t).length b ((b::t).getD 1 0) ((b::t).getD 2 0) ((b::t).getD 3 0) (show 128<=b.toNat by omega)
   grind
theorem NQ:∀(f:Nat) (l:By),(Y7 f l).isSome=true->(Y7 f (B6 l)).isSome=true
 | 0,_,_=>rfl
 | f+1,l,h=>by
  unfold Y7 at h ⊢;by_cases a:l=[]
  ·subst a;rfl
  ·rw[if_neg a] at h;rw[if_neg (by rw[Bp5];exact a)];obtain⟨b,c⟩:=Cp4 l a;split at h
   ·cases h
   ·rename_i d;rw[if_neg (c d),ag1,b,Au6];rw[ag1] at h;exact NQ f _ h
theorem Aa8{l:By}(h:(Cv l).isSome=true):(Cv (B6 l)).isSome=true:=by unfold Cv at h ⊢;rw[Fl];exact NQ _ _ h
theorem Bo9(t:By)(C:t.length<=1000000000):∀(f pos:Nat) (P q:List Nat) (n:Nat),pos<=t.length->t.length-pos<=f->f<n->P.length<=pos->Y7 f (t.drop pos)=some q->
  ∃m,∀(R:Type) (h:LL->By->Nat->Option R),Eo LF n (B3 P) t pos h=h (B3 (P++q)) t m:=by
 intro f
 induction f with
 | zero=>
  intro pos P q n u v w x a;obtain⟨n,rfl⟩:∃m,n=m+1:=⟨n-1,by omega⟩
  simp only[Y7,j2] at a;subst a;refine⟨pos,λR h=>?_⟩;rw[Eo];rw[decide_eq_false (by omega),cond_false,s7]
 | succ f z=>
  intro pos P q n u v w x a;obtain⟨n,rfl⟩:∃m,n=m+1:=⟨n-1,by omega⟩
  by_cases l:pos<t.length
  ·have b:t.drop pos≠[]:=by rw[ne_eq,<-o5,j6];omega
   have y:=ag6 ⟨t.toArray⟩ pos;have i:ag4 ⟨ak1 t⟩ pos=s9 (t.drop pos):=by rw[<-y]
   unfold Y7 at a;rw[if_neg b] at a;split at a
   ·cases a
   ·have D:=ag0 (t.drop pos);have j:=am2 (t.drop pos) b;have B:=Lib.decodeL_rune (t.drop pos);rw[j6] at j;rw[am3] at a;generalize s9 (t.drop pos)=p at *;obtain⟨c,o⟩:=p;simp only at *;cases k:Y7 f (t.drop (pos+o)) with
    | none=>rw[k] at a;cases a
    | some A=>
     rw[k] at a;simp only[w6,j2] at a;subst a;obtain⟨m,e⟩:=z (pos+o) (P++[c]) A n (by omega) (by omega) (by omega) (by simp;omega) k;refine⟨m,λR h=>?_⟩;rw[Eo];rw[decide_eq_true l,cond_true,i,D1,F0 (by omega)];simp only[vl,cond_true];have r:A1 (c:Int)=(c:Int):=A7;have g:B3 P++[[SV.int .i64 (A1 (c:Int))]]=B3 (P++[c]):=by rw[r,Jx];rfl
     rw[g,e,p9];rfl
  ·have d:t.drop pos=[]:=by rw[<-o5,j6];omega
   unfold Y7 at a;rw[d,if_pos rfl] at a;simp only[j2] at a;subst a;refine⟨pos,λR h=>?_⟩;rw[Eo];rw[decide_eq_false l,cond_false,s7]
theorem At6(s:By)(i:A3 s.length=true):(∀(R:Type) (b:By->Int->Option R) (c:By->Int->LL->By->Nat->Option R),ZS LF s b c=b (I5 s).1 ((I5 s).2:Nat))\/
  (∃l t m,∀(R:Type) (b:By->Int->Option R) (c:By->Int->LL->By->Nat->Option R),ZS LF s b c=c (I5 s).1 ((I5 s).2:Nat) l t m):=by
 have x:=L6 i;have u:=C2;unfold I5;cases h:Cv s with
 | none=>
  refine .inl λR b c=>?_
  unfold ZS;rw[i,h];rfl
 | some p=>
  have k:=JN h;have top:∀(R:Type) (b:By->Int->Option R) (c:By->Int->LL->By->Nat->Option R),ZS LF s b c=cond (ltI 256 (p.length:Int)) (b [] 3) (cond (ltI (p.length:Int) (s.length:Int)) (Eo LF LF [] (B6 s) 0 (λa g f=>cond (af6 a Mx)
      (cond (((V2 (ab4 elI a)).2:Int)!=(0:Int))
       (c ([]:List UInt8) 14 a g f)
       (cond (E5 4 (o0 ((V2 (ab4 elI a))).1))
        (cond (A3 (o0 (xnB++((V2 (ab4 elI a))).1)))
         (cond (not (K5 (xnB++((V2 (ab4 elI a))).1)))
         (c ([]:List UInt8) 14 a g f)
         (c (xnB++((V2 (ab4 elI a))).1) 0 a g f))
         (none))
        (none)))
      (none)))
     (cond (A3 (o0 (B6 s)))
      (cond (not (K5 (B6 s)))
      (b ([]:List UInt8) 14)
      (b (B6 s) 0))
      (none))):=by
   intro R b c;unfold ZS;rw[i,h,k];rfl
  simp only;by_cases n:256<p.length
  ·rw[if_pos n];refine .inl λR b c=>?_
   rw[top,A8];rfl
  ·rw[if_neg n];by_cases o:p.length<s.length
   ·rw[if_pos o];have d:=Aa8 (l:=s) (by rw[h];rfl);cases r:Cv (B6 s) with
    | none=>rw[r] at d;cases d
    | some q=>
     have w:=Fl s;obtain⟨m,e⟩:=Bo9 (B6 s) (by omega) (B6 s).length 0 [] q LF (by omega) (by omega) (by omega) (by simp) (by rw[j9];exact r);refine .inr ⟨B3 q,B6 s,m,λR b c=>?_⟩;rw[top,A6,cond_false,A8,cond_true];refine j7 (e R _) ?_;have v:=YU q;rw[p5,Dd,Ux,Uz,cond_true,G2 (by omega),cond_true,E0 (by rw[x5];simp only[xnB,k9,y9];omega),cond_true];simp only;by_cases j:(Cl q).2=0
     ·rw[j,if_pos rfl];cases y:K5 (xnB++(Cl q).1) with
      | true=>rfl
      | false=>rfl
     ·rw[if_neg j];have:(((Cl q).2:Int)!=(0:Int))=true:=by simpa using j
      rw[this];rfl
   ·rw[if_neg o];refine .inl λR b c=>?_
    rw[top,A6,cond_false,A6,cond_false,E0 (by rw[Fl];exact x),cond_true];cases K5 (B6 s)<;>rfl
theorem Cs6(s:By)(c:A3 s.length=true):∃r H,ZS LF s (λa b=>rv (.tup [.s (.str a),.s (.int .i64 b)]) []) (λa b d f e=>rv (.tup [.s (.str a),.s (.int .i64 b)]) [.arr true 3 1 d,.iter f e])=rv r H/\
  r.stab [0,0] H = .tup [.s (.str (I5 s).1),.s (.int .i64 ((I5 s).2:Nat))]:=by
 rcases At6 s c with h|⟨l,t,m,h⟩
 ·exact⟨_,_,h _ _ _,rfl⟩
 ·exact⟨_,_,h _ _ _,rfl⟩
theorem Bn3{R:Type}{g:Int->Option R}(b:Int)(h:inR b 256=true):B75 LF b g=g (El (u8n b)):=by
 simp only[inR,o8,decide_eq_true_eq] at h;have j:b=((u8n b).toNat:Int):=by
  unfold u8n;simp;omega
 generalize u8n b=c at *;subst j;have i:=c.toNat_lt;unfold B75;simp only[Vl,Vk,vl,El];rcases Ck c with⟨d,f,e⟩|⟨d,f,e⟩|⟨d,f,e⟩|⟨d,f,o,e⟩
 ·have a:A1 (wu8 ((c.toNat:Int)-48))=((dig c:Nat):Int):=by
   rw[L4,A7];omega
  rw[R9];simp (disch:=omega) only[B5,E1,j0,b8,cond_false,cond_true,a]
 ·have a:A1 (A1 (wu8 ((c.toNat:Int)-97))+10)=((dig c:Nat):Int):=by
   rw[L4,C6 (n:=(c.toNat:Int)-97) (by omega) (by omega),A7];omega
  rw[R9];simp (disch:=omega) only[B5,E1,j0,b8,cond_false,cond_true,a]
 ·have a:A1 (A1 (wu8 ((c.toNat:Int)-65))+10)=((dig c:Nat):Int):=by
   rw[L4,C6 (n:=(c.toNat:Int)-65) (by omega) (by omega),A7];omega
  rw[R9];simp (disch:=omega) only[B5,E1,j0,b8,cond_false,cond_true,a]
 ·rw[e,if_neg (by decide)];by_cases k:c.toNat<48
  ·simp (disch:=omega) only[B5,E1,j0,b8,cond_false,cond_true]
  ·by_cases l:c.toNat<65
   ·simp (disch:=omega) only[B5,E1,j0,b8,cond_false,cond_true]
   ·by_cases m:c.toNat<97
    ·simp (disch:=omega) only[B5,E1,j0,b8,cond_false,cond_true]
    ·simp (disch:=omega) only[B5,E1,j0,b8,cond_false,cond_true]
theorem UV{b:UInt8}(r:By)(h:b≠37):R1 (b::r)=(R1 r).map (b::·):=by
 conv=>lhs;unfold R1
 grind
theorem IZ(x y:UInt8)(r:By):R1 (37::x::y::r)=if dig x<16/\dig y<16 then (R1 r).map (aa7 (16*dig x+dig y)::·) else none:=by
 conv=>lhs;unfold R1
 grind
theorem YO(x:UInt8):ltI (El x) 0 = !(decide (dig x<16)):=by
 unfold El;by_cases h:dig x<16
 ·simp_all
 ·rw[if_neg h,A8,decide_eq_false h];rfl
theorem DR:∀(s t:By),R1 s=some t->t.length<=s.length
 | [],t,h=>by simp only[R1,j2] at h;subst h;exact af0 _
 | b::r,t,h=>by
  by_cases c:b=37
  ·subst c
   match r,h with
   | [],h=>cases h
   | [x],h=>cases h
   | x::y::d,h=>
    rw[IZ] at h;split at h
    ·cases a:R1 d with
     | none=>rw[a] at h;cases h
     | some q=>
      rw[a] at h;simp only[w6,j2] at h;subst h;have:=DR d q a;simp only[k9];omega
    ·cases h
  ·rw[UV _ c] at h;cases a:R1 r with
   | none=>rw[a] at h;cases h
   | some q=>
    rw[a] at h;simp only[w6,j2] at h;subst h;have:=DR r q a;grind
theorem Bn2(s:By)(P:s.length<=1000000000):∀(m i n:Nat) (a:By),i<=s.length->s.length-i<=m->m<n->a.length<=i->
  (∀t,R1 (s.drop i)=some t->∀(R:Type) (c:LL->Option R) (d:LL->Option R),R3 LF n s (i:Int) (a.map D7) c d=d ((a++t).map D7))/\
  (R1 (s.drop i)=none->∃l,∀(R:Type) (c:LL->Option R) (d:LL->Option R),R3 LF n s (i:Int) (a.map D7) c d=c l):=by
 intro m
 induction m with
 | zero=>
  intro i n a J K L I;obtain⟨n,rfl⟩:∃m,n=m+1:=⟨n-1,by omega⟩
  rw[j1 (by omega)];refine⟨λt f R c d=>?_,λh=>(by cases h)⟩;simp only[R1,j2] at f;subst f;rw[R3];rw[A6,s7];rfl
 | succ m G=>
  intro i n a J K L I;obtain⟨n,rfl⟩:∃m,n=m+1:=⟨n-1,by omega⟩
  by_cases z:i<s.length
  ·have D:A1 ((i:Int)+1)=((i+1:Nat):Int):=by rw[A7];rfl
   have F:A1 ((i:Int)+2)=((i+2:Nat):Int):=by rw[A7];rfl
   have H:A1 (((i+2:Nat):Int)+1)=((i+3:Nat):Int):=by rw[A7];omega
   have p:(a.map D7).length=a.length:=o9 _;have v:∀b:UInt8,a.map D7++[[SV.int .u8 (b.toNat:Int)]]=(a++[b]).map D7:=λb=>by rw[af1];rfl
   have C:(((s.getD i 0).toNat:Int)!=37) = !(s.getD i 0==37):=congrArg _ (P7 _ 37 (by omega));rw[D2 s i z];by_cases g:s.getD i 0=37
   ·by_cases O:i+2<s.length
    ·rw[D2 s (i+1) (by omega),D2 s (i+1+1) (by omega),g,IZ];obtain⟨A,B⟩:=G (i+3) n (a++[aa7 (16*dig (s.getD (i+1) 0)+dig (s.getD (i+2) 0))]) (by omega) (by omega) (by omega) (by simp;omega);have top:∀(R:Type) (c:LL->Option R) (d:LL->Option R),R3 LF (n+1) s (i:Int) (a.map D7) c d=cond (decide (dig (s.getD (i+1) 0)<16)&&decide (dig (s.getD (i+2) 0)<16)) (R3 LF n s ((i+3:Nat):Int) ((a++[aa7 (16*dig (s.getD (i+1) 0)+dig (s.getD (i+2) 0))]).map D7) c d) (c (a.map D7)):=by
      intro R c d;rw[R3];rw[A8,E6,D0,C,g,p,F,A8,D,E6,E6,D0,D0];simp only[cond_true,vl,j0,cond_false,beq_self_eq_true,WM,Ik,YO,F0 (show a.length+1<=68719476736 by omega),H];generalize s.getD (i+1) 0=x at *;generalize s.getD (i+2) 0=y at *;by_cases M:dig x<16
      ·by_cases N:dig y<16
       ·have w1:El x=(dig x:Int):=by unfold El;rw[if_pos M]
        have S:El y=(dig y:Int):=by unfold El;rw[if_pos N]
        have T:A1 ((16:Int)*(dig x:Int))=((16*dig x:Nat):Int):=by rw[A7];omega
        have U:A1 (((16*dig x:Nat):Int)+(dig y:Int))=((16*dig x+dig y:Nat):Int):=by rw[A7];omega
        have V:wu8 ((16*dig x+dig y:Nat):Int)=((aa7 (16*dig x+dig y)).toNat:Int):=by
         rw[L4];simp;omega
        grind
       grind
      grind
     by_cases o:dig (s.getD (i+1) 0)<16/\dig (s.getD (i+2) 0)<16
     ·rw[if_pos o];have w:(decide (dig (s.getD (i+1) 0)<16)&&decide (dig (s.getD (i+2) 0)<16))=true:=by rw[decide_eq_true o.1,decide_eq_true o.2];rfl
      refine⟨λt f R c d=>?_,λh=>?_⟩
      ·cases j:R1 (s.drop (i+3)) with
       | none=>rw[show i+1+1+1=i+3 from rfl,j] at f;cases f
       | some q=>
        rw[show i+1+1+1=i+3 from rfl,j] at f;simp only[w6,j2] at f;subst f;rw[top,w,cond_true,A q j,p9];rfl
      ·cases j:R1 (s.drop (i+3)) with
       | some q=>rw[show i+1+1+1=i+3 from rfl,j] at h;cases h
       | none=>
        obtain⟨l,e⟩:=B j;exact⟨l,λR c d=>by rw[top,w,cond_true,e]⟩
     ·rw[if_neg o];have w:(decide (dig (s.getD (i+1) 0)<16)&&decide (dig (s.getD (i+2) 0)<16))=false:=by grind
      exact⟨λt h=>(by cases h),λ_=>⟨_,λR c d=>by rw[top,w,cond_false]⟩⟩
    ·have k:R1 (s.getD i 0::s.drop (i+1))=none:=by
      rw[g];cases o:s.drop (i+1) with
      | nil=>rfl
      | cons x r=>
       cases r with
       | nil=>rfl
       | cons y Q=>
        exfalso;have:=congrArg o0 o;rw[j6,k9,k9] at this;omega
     rw[k];refine⟨λt h=>(by cases h),λ_=>⟨a.map D7,λR c d=>?_⟩⟩;rw[R3];rw[A8,E6,D0,C,g,F,A6];rfl
   ·rw[UV _ g];obtain⟨A,B⟩:=G (i+1) n (a++[s.getD i 0]) (by omega) (by omega) (by omega) (by simp;omega);have u:(s.getD i 0==37)=false:=by simpa using g
    have top:∀(R:Type) (c:LL->Option R) (d:LL->Option R),R3 LF (n+1) s (i:Int) (a.map D7) c d=R3 LF n s ((i+1:Nat):Int) ((a++[s.getD i 0]).map D7) c d:=by
     intro R c d;rw[R3];rw[A8,E6,D0,C,u,p,F0 (by omega),D,v];rfl
    refine⟨λt f R c d=>?_,λh=>?_⟩
    ·cases j:R1 (s.drop (i+1)) with
     | none=>rw[j] at f;cases f
     | some q=>
      rw[j] at f;simp only[w6,j2] at f;subst f;rw[top,A q j,p9];rfl
    ·cases j:R1 (s.drop (i+1)) with
     | some q=>rw[j] at h;cases h
     | none=>
      obtain⟨l,e⟩:=B j;exact⟨l,λR c d=>by rw[top,e]⟩
  ·rw[j1 (by omega)];refine⟨λt f R c d=>?_,λh=>(by cases h)⟩;simp only[R1,j2] at f;subst f;rw[R3];rw[A6,s7];rfl
theorem Cr2(s:By)(f:A3 s.length=true):∃r H,B74 LF s (λj k i=>rv (.tup [.s (.str j),.s (.bool k)]) [.arr false 5 1 i])=rv r H/\
  r.stab [0,0] H = .tup [.s (.str (Et s)),.s (.bool (R1 s).isSome)]:=by
 have h:=L6 f;have g:=C2;have a:((decide ((0:Int)<=(s.length:Int)))&&(F6 (j5 (s.length:Int))))=true:=by
  rw[c9,F0 (by omega),decide_eq_true (by omega)];rfl
 obtain⟨c,d⟩:=Bn2 s h s.length 0 LF [] (by omega) (by omega) (by omega) (by simp);rw[j9] at c d;unfold Et;cases b:R1 s with
 | none=>
  obtain⟨l,e⟩:=d b;refine⟨.tup [.s (.str []),.s (.bool false)],[.arr false 5 1 l],?_,rfl⟩;unfold B74;rw[a,cond_true];exact e _ _ _
 | some t=>
  refine⟨.tup [.s (.str t),.s (.bool true)],[.arr false 5 1 (t.map D7)],?_,rfl⟩;unfold B74;rw[a,cond_true];refine j7 (c t b _ _ _) ?_;rw[p5,W0,W8];rfl
abbrev Qt(i:Int)(j:By)(v4 a b c d e f g h:Int):List PV:=[.s (.int .i64 i),.s (.str j),.s (.int .u32 v4),.s (.int .u16 a),.s (.int .u16 b),.s (.int .u16 c),.s (.int .u16 d),.s (.int .u16 e),.s (.int .u16 f),.s (.int .u16 g),.s (.int .u16 h)]
def BN(h:B2):PV:=.agg [.s (.int .i64 (h.kind:Nat)),.s (.str h.name),.s (.int .u32 (h.v4:Nat)),.s (.int .u16 (h.v6.getD 0 0:Nat)),.s (.int .u16 (h.v6.getD 1 0:Nat)),.s (.int .u16 (h.v6.getD 2 0:Nat)),.s (.int .u16 (h.v6.getD 3 0:Nat)),.s (.int .u16 (h.v6.getD 4 0:Nat)),.s (.int .u16 (h.v6.getD 5 0:Nat)),.s (.int .u16 (h.v6.getD 6 0:Nat)),.s (.int .u16 (h.v6.getD 7 0:Nat))]
abbrev Dk3:Int->Int->Int->Int->Int->Int->Int->Int->Int->Int->Int->LL->Option (PV × List Blk × Unit):=λj c d e f g h i r8 k b a=>rv (.tup [.agg (Qt j [] 0 c d e f g h i r8),.s (.int .i64 k)]) [.box (Qt b [] 0 c d e f g h i r8),.arr false 25 1 a]
abbrev Dh7:Unit->Option (PV × List Blk × Unit):=λ_=>rv (.tup [.agg (Qt 0 [] 0 0 0 0 0 0 0 0 0),.s (.int .i64 14)]) [.box (Qt 0 [] 0 0 0 0 0 0 0 0 0)]
theorem DN(s:By)(c:UInt8)(h:s≠[]):(s.getLast? = some c)↔s.getD (s.length-1) 0=c:=by have:0<s.length:=y8.2 h;grind
theorem B73(s:By)(g:A3 s.length=true)(e:B82 s=true):∃r H,Bf1 LF s Dk3 Dh7=rv r H/\r.stab [0,0] H = .tup [BN (O9 s).1,.s (.int .i64 ((O9 s).2:Nat))]:=by
 have m:=L6 g;have c:s≠[]:=by rintro rfl;cases e
 have l:0<s.length:=y8.2 c;have i:s.getD 0 0=91:=by
  cases s with
  | nil=>exact absurd rfl c
  | cons b t=>
   simp only[B82,ae0,ac8,beq_iff_eq] at e;grind
 have f:A1 ((s.length:Int)-1)=((s.length-1:Nat):Int):=by rw[A7];omega
 have k:(((s.getD (s.length-1) 0).toNat:Int)==93)=(s.getD (s.length-1) 0==93):=P7 _ 93 (by omega);have bad:∃r H,Dh7 ()=rv r H/\r.stab [0,0] H = .tup [BN K3,.s (.int .i64 14)]:=⟨_,_,rfl,rfl⟩
 unfold Bf1 O9;simp only[vl,f];rw[E6,D0,k,cond_true];by_cases d:s.getD (s.length-1) 0=93
 ·have h:2<=s.length:=by grind
  rw[if_pos ⟨(DN s 93 c).2 d,h⟩,d,beq_self_eq_true,cond_true,show(1:Int)=((1:Nat):Int) from rfl,H9,cond_true,Ek];have j:((s.take (s.length-1)).drop 1).length<=s.length:=by rw[j6,p4];omega
  rw[M8,cond_true];unfold v6c;cases n:v6B ((s.take (s.length-1)).drop 1) with
  | none=>exact⟨_,_,rfl,rfl⟩
  | some a=>exact⟨_,_,rfl,rfl⟩
 grind
theorem Ch0(l:List By)(i:Nat)(y:By)(h:i<l.length):ah6 (D4 l) i (F8 ((D4 l).getD i []) 0 [SV.str y])=D4 (l.set i y):=by
 have e:(D4 l).getD i []=[SV.str (l.getD i [])]:=by
  unfold D4;grind
 rw[e];unfold D4;rw[List.map_set];rfl
theorem ZI(N:Nat)(hN:N<=1000000001):∀(a:List By) (done:List By) (n:Nat),done.length+a.length=N->a.length<n->(∀x∈a,x.length<=1000000000)->
  ((F4 a).2=0->∀(R:Type) (b:Int->LL->Option R) (c:Nat->LL->Option R),R8 LF n N (N:Int) (done.length:Int) (D4 (done++a)) b c=c N (D4 (done++(F4 a).1)))/\
  ((F4 a).2≠0->∃l,∀(R:Type) (b:Int->LL->Option R) (c:Nat->LL->Option R),R8 LF n N (N:Int) (done.length:Int) (D4 (done++a)) b c=b ((F4 a).2:Nat) l):=by
 intro a
 induction a with
 | nil=>
  intro done n i o p;obtain⟨n,rfl⟩:∃m,n=m+1:=⟨n-1,by simp at o;omega⟩
  simp only[y9] at i;refine⟨λ_ R b c=>?_,λh=>absurd rfl h⟩;rw[R8];rw[A6];rfl
 | cons x r z=>
  intro done n i o p;simp only[k9] at i o;obtain⟨n,rfl⟩:∃m,n=m+1:=⟨n-1,by omega⟩
  have v:A1 ((done.length:Int)+1)=((done.length+1:Nat):Int):=by rw[A7];rfl
  have q:(done++x::r).length=N:=by rw[x5,k9];omega
  have k:(done++x::r).getD done.length []=x:=by grind
  have f:∀y,(done++x::r).set done.length y=(done++[y])++r:=λy=>by grind
  have top:∀(R:Type) (b:Int->LL->Option R) (c:Nat->LL->Option R),R8 LF (n+1) N (N:Int) (done.length:Int) (D4 (done++x::r)) b c=cond (((I5 x).2:Int)!=0) (b ((I5 x).2:Nat) (D4 (done++x::r))) (R8 LF n N (N:Int) ((done.length+1:Nat):Int) (D4 ((done++[(I5 x).1])++r)) b c):=by
   intro R b c;rw[R8];rw[A8,E6,c9,ag8,Q7 (by omega),V6,k];simp only[vl,cond_true];rw[E0 (p x (by simp)),F3,decide_eq_true (show done.length<(done++x::r).length by omega),Ch0 _ _ _ (by omega),f,v];rfl
  unfold F4;obtain⟨t,u⟩:=z (done++[(I5 x).1]) n (by simp;omega) (by omega) (λy w=>p y (by simp[w]));have j:(done++[(I5 x).1]).length=done.length+1:=by simp
  rw[j] at t u;by_cases h:(I5 x).2=0
  ·rw[if_pos h];have g:(((I5 x).2:Int)!=0)=false:=by rw[h];rfl
   refine⟨λd R b c=>?_,λd=>?_⟩
   ·rw[top,g,cond_false,t d,p9];rfl
   ·obtain⟨l,e⟩:=u d;exact⟨l,λR b c=>by rw[top,g,cond_false,e]⟩
  ·rw[if_neg h];have g:(((I5 x).2:Int)!=0)=true:=by simpa using h
   exact⟨λd=>absurd d h,λ_=>⟨_,λR b c=>by rw[top,g,cond_true]⟩⟩
theorem UA(p:By)(m:Nat):∀l:List By,(∀x∈l,x.length<=m)->(ab7 l p).length<=(m+p.length)*l.length
 | [],_=>by simp[ab7]
 | [x],h=>by
  have:=h x (by simp);rw[show ab7 [x] p=x by simp[ab7,ao3]];grind
 | x::y::r,h=>by
  have b:=h x (by simp);have c:=UA p m (y::r) (λz a=>h z (by simp[a]));rw[IF,x5,x5,k9,Nat.mul_add,Nat.mul_one];omega
theorem RW(l:List By):(D4 l).all isS=true:=by unfold D4;rw[aj8,x7];intro x _;rfl
theorem Ch9(s:By):WJ s [46]=I1 s:=by
 unfold WJ I1;by_cases h:s.getLast? = some 46
 ·obtain⟨t,rfl⟩:=List.getLast?_eq_some_iff.1 h;grind
 ·rw[if_neg h,if_neg];rw[List.isSuffixOf_iff_suffix];rintro⟨t,a⟩;grind
abbrev Dh8:Int->By->Int->Int->Int->Int->Int->Int->Int->Int->Int->Int->Int->By->Int->Int->Int->Int->Int->Int->Int->Int->Int->Option (PV × List Blk × Unit):=λn o p q r t u v r8 w k l a m b c d e f g h i j=>rv (.tup [.agg (Qt n o p q r t u v r8 w k),.s (.int .i64 l)]) [.box (Qt a m b c d e f g h i j)]
abbrev Dh9:Int->By->Int->Int->By->LL->Option (PV × List Blk × Unit):=λc d e b f a=>rv (.tup [.agg (Qt c d 0 0 0 0 0 0 0 0 0),.s (.int .i64 e)]) [.box (Qt b f 0 0 0 0 0 0 0 0 0),.arr false 9 1 a]
theorem Bn7(s:By)(n:A3 s.length=true):∃r H,Zs LF s Dh8 Dh9=rv r H/\r.stab [0,0] H = .tup [BN (C7 s).1,.s (.int .i64 ((C7 s).2:Nat))]:=by
 have Q:=L6 n;have A:=C2;have bad:∀e:Nat,∃r H,Dh8 0 [] 0 0 0 0 0 0 0 0 0 (e:Int) 0 [] 0 0 0 0 0 0 0 0 0=rv r H/\r.stab [0,0] H = .tup [BN K3,.s (.int .i64 (e:Nat))]:=λe=>⟨_,_,rfl,rfl⟩
 have a:∀(e:Nat) (l:LL),∃r H,Dh9 0 [] (e:Int) 0 [] l=rv r H/\r.stab [0,0] H = .tup [BN K3,.s (.int .i64 (e:Nat))]:=λe l=>⟨_,_,rfl,rfl⟩
 by_cases i:1024<s.length
 ·have e:C7 s=(K3,3):=by unfold C7;rw[if_pos i]
  rw[e];unfold Zs;rw[A8,cond_true];exact bad 3
 ·have f:([91]:By).isPrefixOf s=decide (s.head? = some 91):=by
   cases s with
   | nil=>rfl
   | cons b t=>
    grind
  by_cases d:s.head? = some 91
  ·have j:([91]:By).isPrefixOf s=true:=by rw[f,decide_eq_true d]
   have e:C7 s=O9 s:=by unfold C7 O9;rw[if_neg i,if_pos d]<;>rfl
   rw[e];unfold Zs;rw[A6,cond_false,n,cond_true,j,cond_true,cond_true,show B82 s=true from j,cond_true];exact⟨_,_,rfl,rfl⟩
  ·have j:([91]:By).isPrefixOf s=false:=by rw[f,decide_eq_false d]
   unfold Zs;rw[A6,cond_false,n,cond_true,j,cond_false,cond_true];cases k:R1 s with
   | none=>
    have e:C7 s=(K3,14):=by unfold C7;rw[if_neg i,if_neg d,k]
    rw[e];exact bad 14
   | some t=>
    have L:t.length<=s.length:=DR s t k;have M:Et s=t:=by unfold Et;rw[k];rfl
    rw[M,M8];simp only[v8,j0,cond_false,cond_true,vl];rw[Ch9];have K:(I1 t).length<=t.length:=by unfold I1;split<;>simp
    have B:C7 s=if G0 (I1 t) then (match pnB (I1 t) with
      | some v=>(⟨2,[],v,z8⟩,0)
      | none=>(K3,14))
     else if (F4 (pcs 46 (I1 t))).2=0 then (
      let name:=ab7 (F4 (pcs 46 (I1 t))).1 [46]
      if 253<name.length then (K3,3) else if G0 name then (K3,14) else (⟨1,name,0,z8⟩,0))
     else (K3,(F4 (pcs 46 (I1 t))).2):=by
     unfold C7;rw[if_neg i,if_neg d,k];rfl
    rw[B];generalize I1 t=u at *;rw[M8,cond_true];cases O:G0 u with
    | true=>
     rw[if_pos rfl,cond_true,cond_true];cases P:pnB u with
     | none=>exact bad 14
     | some v=>exact⟨_,_,rfl,rfl⟩
    | false=>
     rw[if_neg (by simp),cond_false,cond_true,show((1:Nat)==1)=true from rfl,cond_true];have C:([46]:By).getD 0 0=46:=rfl;rw[C];have J:=Hv 46 u;have D:=Gc 46 u;obtain⟨w,y⟩:=ZI (pcs 46 u).length (by omega) (pcs 46 u) [] LF (by simp) (by omega) (λx p=>by have:=(Df p).2;omega);rw[p5,y9] at w y;by_cases g:(F4 (pcs 46 u)).2=0
     ·rw[if_pos g];obtain⟨z,N⟩:=Jl _ g;have G:=UA [46] 63 (F4 (pcs 46 u)).1 (λx p=>(Qs (z x p)).le);have F:∀{R:Type} (m:Int->LL->Option R) (h:Nat->LL->Option R),R8 LF LF (pcs 46 u).length ((pcs 46 u).length:Int) 0 (D4 (pcs 46 u)) m h=h (pcs 46 u).length (D4 (F4 (pcs 46 u)).1):=λm h=>w g _ m h
      rw[F];have hA:(F4 (pcs 46 u)).1.length<=1025:=by omega
      have o:ac4 (pcs 46 u).length (ad0 0 (D4 (F4 (pcs 46 u)).1))=D4 (F4 (pcs 46 u)).1:=by
       rw[j9,p6 (by rw[F3];omega)]
      have q:(63+([46]:By).length)*(F4 (pcs 46 u)).1.length<=64*1025:=ah7 (by simp) hA;rw[o,RW,YT,F3,M8,M8];simp only[cond_true];generalize ab7 (F4 (pcs 46 u)).1 [46]=name at *;by_cases c:253<name.length
      ·rw[if_pos c,A8,cond_true];exact a 3 _
      ·rw[if_neg c,A6,cond_false];cases I:G0 name with
       | true=>exact a 14 _
       | false=>exact⟨_,_,rfl,rfl⟩
     ·rw[if_neg g];obtain⟨l,e⟩:=y g;simp_all
end
end Go.Proofs.YtcfingekgbbclaaGreatDoor.E
