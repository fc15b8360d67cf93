/-
  Parts of the proof, merged by a program of the prover's own; no condition.
-/
import Derived.Test.YtfkhfkjcidamaaaGreatDoorKMS3
import Derived.Lib.JoinLaws
import Derived.Lib.TrimAscii
import Derived.Lib.TrimUEq
import Derived.Lib.ValidLaws
import Derived.Shelf.LaysM
import Derived.Shelf.Small.Strs
import Derived.Shelf.Spec.SlicesInsert
import Derived.Shelf.Spec.SlicesInsertGrow
import Derived.Shelf.Spec.TrailingZeros
import Derived.Shelf.Strconv.Itoa3
import Derived.Shelf.Strings.Count
import Derived.Shelf.Strings.Cut
import Derived.Shelf.Strings.IndexAnyAll
import Derived.Shelf.Strings.OnBuilder
import Derived.Shelf.Strings.Search3
import Derived.Shelf.Unicode.ValidAny
import Derived.Shelf.Utf8.RuneCount
import Derived.Test.YtfkhfkjcidamaaaGreatDoorProg
open List renaming replicate->a8,getD_eq_getElem?_getD->b8,drop_of_length_le->j1,getElem?_eq_getElem->j4,length_drop->j9,length_eq_zero_iff->o0,drop_zero->o5,length->o6,getD->o7,length_map->p4,length_take->p5,nil_append->p7,length_cons->p9,take_of_length_le->v8,append_assoc->x3,append_nil->x5,all_eq_true->y8,getElem_cons_drop->aa2,map_congr_left->aa3,countP_le_length->aa6,length_nil->ab4,length_pos_iff->ab7,all_cons->ab9,map->ac1,flatten->ac5,mem_of_mem_take->ac6,length_append->ad4,take->ad7,mem_of_mem_drop->ae0,take_zero->ae1,cons_append->ae3,drop->ae4,map_cons->ae8,mem_cons->ae9,isPrefixOf->af1,mem_singleton->af3,map_map->af8,map_append->ag4,all->ag9,getLastD_eq_getLast?->ah2,map_id->ah6,countP_cons_of_neg->ai3,mem_append->ai7,take_append_drop->ai9,drop_drop->aj2,getLast?_append->aj3,countP_pos_iff->aj8,getD_cons_zero->aj9,replicate_succ->ak0,any_cons->ak1,map_drop->ak2,getElem?_map->al4,mem_map->al5,mem_of_head?->al6,set->al7,take_add_one->al8,toArray->al9,isEmpty_iff->am9,take_length->an0,append->an6,map_take->ao9,all_map->aq8,isEmpty->aq9,map_nil->ar0
open Int renaming toNat_natCast->b9,toNat->j6,eq_ofNat_of_zero_le->j8,tdiv->ad0,add->af0,tmod->ag3,mul_nonneg->ao0
open Bool renaming not_false->j0,not_true->j2,and_eq_true->k9,false_eq_true->p6,eq_false_iff->aa1,true_and->ad6,and_true->ae7,false_or->ag1,or_eq_true->ai6,false_and->aj0,not_eq_true'->ak9,and_false->an9
open Option.some renaming injEq->j5
open Eq renaming trans->j7
open Go.Lib renaming index->o8,decodeL->w8,decDigits->x4,cut->ab1,join->ab6,decDigits_one->af6,join_one->af7,runeCountL->ag8,decodeL_ascii->ah4,decodeL_width->ah5,decodeL_drop->ai2,deBruijn64tab->al1,firstTab->al2,runeCountFrom->al3,decodeN->an5,decodeL_le->ao1,decodeL_N->ao7,join_cons->ao8,index_ge->aq4,join_nil->aq5,pow10Tab->aq6,validGoD->aq7
open Go.Proofs.Tryz renaming prog->o9,underlying3->w6,zeroValue3->x6,underlying4->x7,zeroValue4->x9,underlying5->y9,underlying9->aa0,zeroValue5->aa4,zeroValue9->aa5,underlying0->aa8,underlying103->aa9,sizeOf3->ab2,zeroValue103->ab3,zeroValue0->ab5,sizeOf4->ab8,isAgg3->ac0,isAgg4->ac7,sizeOf5->ac8,sizeOf9->ac9,sizeOf103->ad1,isAgg5->ad2,isAgg9->ad3,sizeOf0->ad5,isAgg103->ad8,underlying24->ad9,isAgg0->ae2,zeroValue24->ae5,sizeOf24->ag2,func187->ag5,func217->ag6,isAgg24->ag7,underlying167->ah0,underlying216->ah1,zeroValue167->ah8,zeroValue216->ah9,func188->ai4,func189->ai5,sizeOf167->aj5,sizeOf216->aj6,f180->aj7,isAgg167->ak3,isAgg216->ak4,underlying154->ak6,underlying249->ak7,underlying250->ak8,func152->am3,func190->am4,func218->am5,underlying20->am6,zeroValue154->am7,zeroValue249->am8,f181->an2,f220->an3,zeroValue20->an4,sizeOf154->ao4,sizeOf249->ao5,sizeOf250->ao6,isAgg154->ap1,isAgg249->ap2,isAgg250->ap3,sizeOf20->ap4,f104->ap5,f133->ap6,f141->ap7,f164->ap8,f198->ap9,f201->aq0,f214->aq1,f231->aq2,f236->aq3,func157->ar4,func179->ar5,func223->ar6,func248->ar7,func258->ar8,func259->ar9,isAgg20->as0
open Option renaming getD_some->v7,isSome_some->y7,map_some->ac4,isSome_none->af4,isSome_map->ah7,isSome->ai1,bind_some->an1
open UInt8 renaming ofNat->w9,toNat_inj->an8,toNat->as2
open Nat renaming ble->x8,ble_eq->y5,ble_eq_true_of_le->aa7,le_of_ble_eq_true->ac2,strongRecOn->ac3,div_le_self->af2,le_refl->af5,pow_succ->af9,min_eq_left->ai8,mul_le_mul_right->aj4,blt_eq->ak5,add_zero->am0,le_trans->am1,zero_add->am2,mod_lt->ao2,mul_le_mul->ao3,add_assoc->ap0,sub_self->ar1
open Go.Shelf renaming Ren->ab0
open Classical renaming byContradiction->ae6
open Go.RowKit.Below renaming refl->ag0
open Function renaming comp_def->ah3
open Go.Utf8 renaming decode->ai0
open Go.IntKind renaming u16->aj1,bits->al0
open UInt8.toNat renaming inj->an7
open Ne renaming symm->ar2
open Go.RowKit renaming Below->ar3
open Go.Proofs.LaysM renaming n171->as1
open Go.Proofs.Lays renaming n137->as3,n138->as4,n143->as5,n145->as6,n153->as7,n156->as8,n195->as9,n196->at3
open Go.Proofs.Lays2 renaming n21->at4
open Go.Proofs.Lays7 renaming n27->at5
namespace Go.Proofs.YtfkhfkjcidamaaaGreatDoor.E
set_option linter.all false
section
open Go Go.Proofs
theorem D27(a b:Nat)(c:a<65536)(d:b<65536):bOr .u16 (a:Int) (b:Int)=((a ||| b:Nat):Int):=by
 unfold bOr;rw[show al0 .u16=16 from rfl,Dt0 16 a b (by omega) (by omega)];have:a ||| b<2 ^ 16:=Nat.or_lt_two_pow (by omega) (by omega)
 exact Kk
theorem D47(a m:Nat)(h:a*2 ^ m<65536)(b:m<=16):Sn .u16 (a:Int) (m:Int)=((a*2 ^ m:Nat):Int):=by
 unfold Sn;rw[b9,show al0 .u16=16 from rfl,ai8 b];have:(a:Int)*2 ^ m=((a*2 ^ m:Nat):Int):=by simp
 rw[this];exact Kk
theorem Bl6(v d:Nat)(b:v<4096)(a:d<16):bOr .u16 (Sn .u16 (v:Int) 4) (d:Int)=((v*16+d:Nat):Int):=by have:=D47 v 4 (by omega) (by omega);rw[show((4:Nat):Int)=4 from rfl] at this;rw[this,D27 _ _ (by omega) (by omega),GK v d 4 (by omega)]
theorem Co2{R:Type}{c:Unit->Option R}{f:Int->Option R}(s:By)(B:s.length<=4):∀(r i v n:Nat),i+r=s.length->r<n->v<16 ^ i->
  Fs LF n s (v:Int) (s.length:Int) (i:Int) c f=match Ai v (s.drop i) with|some w=>f (w:Int)|none=>c ():=by
 intro r
 induction r with
 | zero=>
  intro i v n l o p;obtain⟨n,rfl⟩:∃m,n=m+1:=⟨n-1,by omega⟩
  rw[Fs];rw[A6,j1 (by omega)];rfl
 | succ r q=>
  intro i v n l o p;obtain⟨n,rfl⟩:∃m,n=m+1:=⟨n-1,by omega⟩
  rw[Fs,D6 s i (by omega)];rw[D3];have k:=(s.getD i 0).toNat_lt;generalize s.getD i 0=b at *;have j:((i:Int)+1)=((i+1:Nat):Int):=by omega
  have A:16 ^ i<=4096:=by
   have:i=0\/i=1\/i=2\/i=3:=by omega
   rcases this with rfl|rfl|rfl|rfl<;>decide
  simp (disch:=omega) only[B9,K7,cond_true,vl,D1,Xd,Xc,Xb];rw[j];simp only[Ai];have go:∀d:Nat,d<16->Fs LF n s ((v*16+d:Nat):Int) (s.length:Int) ((i+1:Nat):Int) c f=match Ai (v*16+d) (s.drop (i+1)) with|some w=>f (w:Int)|none=>c ():=
   λd z=>q (i+1) _ n (by omega) (by omega) (by rw[af9];omega)
  rcases Dm b with⟨g,h,e⟩|⟨g,h,e⟩|⟨g,h,e⟩|⟨g,h,y,e⟩
  ·have a:Eg (wu8 ((b.toNat:Int)-48))=((dig b:Nat):Int):=by rw[N1,Kk];omega
   simp (disch:=omega) only[B9,E6,j2,j0,cond_false,cond_true,a,Bl6,if_pos (show dig b<16 by omega)];exact go _ (by omega)
  ·have a:Eg (wu8 (wu8 ((b.toNat:Int)-97)+10))=((dig b:Nat):Int):=by rw[Ab6 (n:=(b.toNat:Int)-97) (by omega) (by omega),N1,Kk];omega
   simp (disch:=omega) only[B9,E6,j2,j0,cond_false,cond_true,a,Bl6,if_pos (show dig b<16 by omega)];exact go _ (by omega)
  ·have a:Eg (wu8 (wu8 ((b.toNat:Int)-65)+10))=((dig b:Nat):Int):=by rw[Ab6 (n:=(b.toNat:Int)-65) (by omega) (by omega),N1,Kk];omega
   simp (disch:=omega) only[B9,E6,j2,j0,cond_false,cond_true,a,Bl6,if_pos (show dig b<16 by omega)];exact go _ (by omega)
  ·rw[if_neg (show ¬dig b<16 by omega)];by_cases t:b.toNat<48
   ·simp (disch:=omega) only[B9,E6,j2,j0,cond_false,cond_true]
   ·by_cases u:b.toNat<65
    ·simp (disch:=omega) only[B9,E6,j2,j0,cond_false,cond_true]
    ·by_cases x:b.toNat<97
     ·simp (disch:=omega) only[B9,E6,j2,j0,cond_false,cond_true]
     ·simp (disch:=omega) only[B9,E6,j2,j0,cond_false,cond_true]
theorem B21{R:Type}{c:Int->Bool->Option R}(s:By)(d:A3 s.length=true):Co4 LF s c=c (N7 (grp s):Int) (grp s).isSome:=by
 have:=C5;unfold Co4 grp;by_cases a:s=[]
 ·subst a;rfl
 ·rw[show(s==([]:By))=false from beq_eq_false_iff_ne.2 a];by_cases b:4<s.length
  ·rw[A8,if_pos (.inr b)];rfl
  ·rw[A6,if_neg (by intro h;rcases h with h|h;exact a h;exact b h)];refine j7 (Co2 s (by omega) s.length 0 0 LF (by omega) (by omega) (by decide)) ?_;rw[o5];cases Ai 0 s<;>rfl
theorem Ah7:∀(s:By) (v w m:Nat),v<16 ^ m->Ai v s=some w->w<16 ^ (m+s.length)
 | [],v,w,m,a,h=>by simp only[Ai,j5] at h;subst h;simpa using a
 | b::r,v,w,m,a,h=>by
  simp only[Ai] at h;split at h
  ·have:=Ah7 r (v*16+dig b) w (m+1) (by rw[af9];omega) h;grind
  ·cases h
theorem Co3{s:By}{v:Nat}(h:grp s=some v):v<65536:=by
 unfold grp at h;split at h
 ·cases h
 ·rename_i a;have:=Ah7 s 0 v 0 (by decide) h;have b:s.length<=4:=by omega
  have:16 ^ (0+s.length)<=16 ^ 4:=Nat.pow_le_pow_right (by omega) (by omega);omega
theorem B88{R:Type}{c:Unit->Option R}{f:Int->Option R}(s:By)(B:s.length<=4):∀(r i v n:Nat),i+r=s.length->r<n->v<16 ^ i->
  Gb LF n s (v:Int) (i:Int) c f=match Ai v (s.drop i) with|some w=>f (w:Int)|none=>c ():=by
 intro r
 induction r with
 | zero=>
  intro i v n l o p;obtain⟨n,rfl⟩:∃m,n=m+1:=⟨n-1,by omega⟩
  rw[Gb];rw[A6,j1 (by omega)];rfl
 | succ r q=>
  intro i v n l o p;obtain⟨n,rfl⟩:∃m,n=m+1:=⟨n-1,by omega⟩
  rw[Gb,D6 s i (by omega)];rw[D3];have k:=(s.getD i 0).toNat_lt;generalize s.getD i 0=b at *;have j:((i:Int)+1)=((i+1:Nat):Int):=by omega
  have A:16 ^ i<=4096:=by
   have:i=0\/i=1\/i=2\/i=3:=by omega
   rcases this with rfl|rfl|rfl|rfl<;>decide
  simp (disch:=omega) only[B9,K7,cond_true,vl,D1,Yk,Yj,Yi];rw[j];simp only[Ai];have go:∀d:Nat,d<16->Gb LF n s ((v*16+d:Nat):Int) ((i+1:Nat):Int) c f=match Ai (v*16+d) (s.drop (i+1)) with|some w=>f (w:Int)|none=>c ():=
   λd z=>q (i+1) _ n (by omega) (by omega) (by rw[af9];omega)
  rcases Dm b with⟨g,h,e⟩|⟨g,h,e⟩|⟨g,h,e⟩|⟨g,h,y,e⟩
  ·have a:wu8 ((b.toNat:Int)-48)=(b.toNat:Int)-48:=N1;simp (disch:=omega) only[B9,E6,j2,j0,cond_false,cond_true,a,D1,if_pos (show dig b<16 by omega)];rw[show(v:Int)*16+((b.toNat:Int)-48)=((v*16+dig b:Nat):Int) by omega];exact go _ (by omega)
  ·have a:wu8 ((b.toNat:Int)-97)=(b.toNat:Int)-97:=N1;simp (disch:=omega) only[B9,E6,j2,j0,cond_false,cond_true,a,D1,if_pos (show dig b<16 by omega)];rw[show(v:Int)*16+((b.toNat:Int)-97)+10=((v*16+dig b:Nat):Int) by omega];exact go _ (by omega)
  ·have a:wu8 ((b.toNat:Int)-65)=(b.toNat:Int)-65:=N1;simp (disch:=omega) only[B9,E6,j2,j0,cond_false,cond_true,a,D1,if_pos (show dig b<16 by omega)];rw[show(v:Int)*16+((b.toNat:Int)-65)+10=((v*16+dig b:Nat):Int) by omega];exact go _ (by omega)
  ·rw[if_neg (show ¬dig b<16 by omega)];by_cases t:b.toNat<48
   ·simp (disch:=omega) only[B9,E6,j2,j0,cond_false,cond_true]
   ·by_cases u:b.toNat<65
    ·simp (disch:=omega) only[B9,E6,j2,j0,cond_false,cond_true]
    ·by_cases x:b.toNat<97
     ·simp (disch:=omega) only[B9,E6,j2,j0,cond_false,cond_true]
     ·simp (disch:=omega) only[B9,E6,j2,j0,cond_false,cond_true]
theorem B89{R:Type}{b:Int->Bool->Option R}(s:By)(f:A3 s.length=true):Cu9 LF s b=b (N7 (grp s):Int) (grp s).isSome:=by
 have:=C5;unfold Cu9;by_cases a:s=[]
 ·subst a;rfl
 ·have g:0<s.length:=ab7.2 a;rw[A6];by_cases c:4<s.length
  ·rw[A8];unfold grp;rw[if_pos (.inr c)];rfl
  ·rw[A6];refine j7 (B88 s (by omega) s.length 0 0 LF (by omega) (by omega) (by decide)) ?_;have e:grp s=Ai 0 s:=by
    unfold grp;grind
   rw[o5,<-e];cases d:grp s with
   | none=>rfl
   | some w=>
    have:=Co3 d;simp only[N7,v7,y7];rw[Kk]
theorem H7(l:List Nat):(D2 l).length=l.length:=by simp[D2]
theorem Lr(a b:List Nat):D2 (a++b)=D2 a++D2 b:=by simp[D2]
theorem Zk(l:List Nat):(D2 l).isEmpty=l.isEmpty:=by cases l<;>rfl
theorem Mz{l:List Nat}{i:Nat}(h:i<l.length):okE ⟨true,false,[.int .u16]⟩ (D2 l) i 0=true:=by unfold okE D2;simp[b8,h,okS,SV.has]
theorem Up(l:List Nat)(i:Nat):gE (D2 l) i 0=(l.getD i 0:Int):=by
 unfold gE gC D2;by_cases h:i<l.length
 ·simp[b8,j4 h,SV.gI]
 ·simp[b8,List.getElem?_eq_none (show l.length<=i by omega),SV.gI]
theorem Kw:∀(last:Bool) (l:List By) (r:List Nat),Db last l=some r->r.length<=2*l.length
 | last,[],r,h=>by simp only[Db,j5] at h;subst h;simp
 | last,x::l,r,h=>by
  simp only[Db] at h;split at h
  ·cases a:Db last l with
   | none=>simp[a] at h
   | some q=>
    simp only[a,ac4,j5] at h;subst h;have:=Kw last l q a;grind
  grind
theorem Bn3{s:By}{v:Nat}(h:v4B s=some v):v<4294967296:=by
 unfold v4B at h;split at h
 ·rename_i a;have:=Bv8 (pcs 46 s) 0 v 0 (by decide) h;grind
 ·cases h
theorem Bt4:∀(last:Bool) (l:List By) (r:List Nat),Db last l=some r->∀x∈r,x<65536
 | last,[],r,h,x,a=>by simp only[Db,j5] at h;subst h;simp at a
 | last,y::l,r,h,x,a=>by
  simp only[Db] at h;split at h
  ·rename_i v c;cases b:Db last l with
   | none=>simp[b] at h
   | some q=>
    simp only[b,ac4,j5] at h;subst h;rcases ae9.1 a with rfl|a
    ·exact Co3 c
    ·exact Bt4 last l q b x a
  ·split at h
   ·rename_i v c;split at h
    ·simp only[j5] at h;subst h;have:=Bn3 c;grind
    grind
   ·cases h
theorem A52{R:Type}{k0:LL->Option R}{k1:LL->Option R}(last:Bool)(l:List By)(C:l.length<=1000000001)(w:∀x∈l,x.length<=1000000000):∀(r i n:Nat) (d:List Nat),i+r=l.length->r<n->d.length<=2*i->
  (∀q,Db last (l.drop i)=some q->Et LF n last (D5 l) (l.length:Int) (i:Int) (D2 d) k0 k1=k1 (D2 (d++q)))/\
  (Db last (l.drop i)=none->∃k,Et LF n last (D5 l) (l.length:Int) (i:Int) (D2 d) k0 k1=k0 k):=by
 intro r
 induction r with
 | zero=>
  intro i n d u y t;obtain⟨n,rfl⟩:∃m,n=m+1:=⟨n-1,by omega⟩
  rw[Et,j1 (by omega)];rw[A6];refine⟨λq a=>?_,λh=>(by cases h)⟩;simp only[Db,j5] at a;subst a;simp
 | succ r B=>
  intro i n d u y t;obtain⟨n,rfl⟩:∃m,n=m+1:=⟨n-1,by omega⟩
  rw[Et,Kc l i (by omega)];have G:=w _ (RF (show i<l.length by omega));have f:((i:Int)+1)=((i+1:Nat):Int):=by omega
  simp (disch:=omega) only[B9,F2,K7,cond_true,b9,R1,V3,E5,vl,H7,F7,D1];rw[f];simp only[Db];cases D:grp (l.getD i []) with
  | some v=>
   simp only[y7,cond_true,N7,v7];have c:D2 d++[[SV.int .u16 (v:Int)]]=D2 (d++[v]):=by rw[Lr];rfl
   rw[c];have:=B (i+1) n (d++[v]) (by omega) (by omega) (by simp<;>omega);refine⟨λq a=>?_,λh=>?_⟩
   ·cases b:Db last (l.drop (i+1)) with
    | none=>simp[b] at a
    | some j=>
     simp only[b,ac4,j5] at a;subst a;rw[this.1 j b];simp
   ·cases b:Db last (l.drop (i+1)) with
    | none=>exact this.2 b
    | some j=>simp[b] at h
  | none=>
   simp only[af4,cond_false];cases z:v4B (l.getD i []) with
   | none=>
    simp only[af4,j0,cond_true];exact⟨λq a=>(by cases a),λ_=>⟨_,rfl⟩⟩
   | some v=>
    have A:=Bn3 z;simp only[y7,j2,cond_false,N7,v7];cases last with
    | false=>
     simp only[j0,cond_true,p6,false_and,if_false];exact⟨λq a=>(by cases a),λ_=>⟨_,rfl⟩⟩
    | true=>
     simp only[j2,cond_false,true_and];by_cases F:r=0
     ·have e:l.drop (i+1)=[]:=j1 (by omega);rw[A6,e,if_pos rfl,show(16:Int)=((16:Nat):Int) from rfl,Sf .u32 v 16 (by decide)];refine⟨λq a=>?_,λh=>(by cases h)⟩;simp only[j5] at a;subst a;have o:Eg ((v / 2 ^ 16:Nat):Int)=((v / 65536:Nat):Int):=Kk;have p:Eg (v:Int)=((v % 65536:Nat):Int):=Av3 v;rw[o,p,Lr];rfl
     ·have g:l.drop (i+1)≠[]:=by
       rw[Kc l (i+1) (by omega)];simp
      rw[A8,if_neg g];exact⟨λq a=>(by cases a),λ_=>⟨_,rfl⟩⟩
theorem Ad(c:UInt8){s:By}(a:s.length<=1000000000):(pcs c s).length<=1000000001:=by have:=Jf c s;grind
theorem A53(s:By)(last:Bool)(f:A3 s.length=true):∃r H,Bt5 LF s last (λl=>rv (.tup [.fl 0,.s (.bool true)]) [.arr true 25 1 l]) (λl=>rv (.tup [.fl 1,.s (.bool false)]) [.arr true 25 1 l,.arr true 25 1 []])=rv r H/\
  r.stab [1,0] H = .tup [.s (.sl (gvs s last).isEmpty (gvs s last).isEmpty 1 (D2 (gvs s last))),.s (.bool (P2 s last).isSome)]:=by
 have d:=M5 f;have:=C5;unfold Bt5 gvs P2;by_cases c:s=[]
 ·subst c;exact⟨_,_,rfl,rfl⟩
 ·rw[show(s==([]:By))=false from beq_eq_false_iff_ne.2 c,f,if_neg c];simp only[cond_false,cond_true,vl,aj9,F2,show((1:Nat)==1)=true from rfl];obtain⟨a,b⟩:=A52 (k0:=λl=>rv (.tup [.fl 1,.s (.bool false)]) [.arr true 25 1 l,.arr true 25 1 []]) (k1:=λl=>rv (.tup [.fl 0,.s (.bool true)]) [.arr true 25 1 l]) last (pcs 58 s) (Ad 58 d) (λx h=>am1 (Cr h).2 d) (pcs 58 s).length 0 LF [] (by omega) (by have:=Ad 58 d;omega) (by simp);rw[o5] at a b;cases g:Db last (pcs 58 s) with
  | some q=>
   refine⟨_,_,a q g,?_⟩;simp[PV.stab,Pt,Sk,PV.snap,N0,Zk]
  | none=>
   obtain⟨i,e⟩:=b g;refine⟨_,_,e,?_⟩;simp[PV.stab,Pt,Sk,PV.snap,N0,D2]
theorem KX:∀(s:By) (v:Nat) (b:UInt8),b∈s->16<=dig b->Ai v s=none
 | c::r,v,b,h,a=>by
  simp only[Ai];rcases ae9.1 h with rfl|h
  ·grind
  ·split
   ·exact KX r _ b h a
   ·rfl
theorem Bn4{s:By}{v:Nat}(h:v4B s=some v):grp s=none:=by
 unfold v4B at h;split at h
 ·rename_i a;have b:(46:UInt8)∈s:=by
   apply ae6;intro c;rw[Lf c] at a;simp at a
  unfold grp;split
  ·rfl
  ·exact KX s 0 46 b (by decide)
 ·cases h
theorem Be2{R:Type}{k0:LL->Option R}{k1:LL->Option R}(last:Bool)(l:List By)(I:l.length<=1000000001)(D:∀x∈l,x.length<=1000000000):∀(r i n:Nat) (d:List Nat),i+r=l.length->r<n->d.length<=2*i->
  (∀q,Db last (l.drop i)=some q->R3 LF n last (D5 l) (i:Int) (D2 d) k0 k1=k1 (D2 (d++q)))/\
  (Db last (l.drop i)=none->∃k,R3 LF n last (D5 l) (i:Int) (D2 d) k0 k1=k0 k):=by
 intro r
 induction r with
 | zero=>
  intro i n d C F B;obtain⟨n,rfl⟩:∃m,n=m+1:=⟨n-1,by omega⟩
  rw[R3,j1 (by omega)];rw[F2,A6];refine⟨λq a=>?_,λh=>(by cases h)⟩;simp only[Db,j5] at a;subst a;simp
 | succ r y=>
  intro i n d C F B;obtain⟨n,rfl⟩:∃m,n=m+1:=⟨n-1,by omega⟩
  rw[R3,Kc l i (by omega)];have L:=D _ (RF (show i<l.length by omega));have t:((i:Int)+1)=((i+1:Nat):Int):=by omega
  have w:A1 ((l.length:Int)-1)=((l.length-1:Nat):Int):=by rw[A7];omega
  simp (disch:=omega) only[B9,F2,K7,cond_true,b9,R1,V3,E5,vl,Lg,Lh,H7,F7,D1,cond_false];rw[t];simp only[Db];have e:∀(f:v4B (l.getD i [])=none\/(last=false\/l.drop (i+1)≠[])),
    (∀q,(match grp (l.getD i []) with|some v=>(Db last (l.drop (i+1))).map (v::·)|none=>match v4B (l.getD i []) with|some v=>if last=true/\l.drop (i+1)=[] then some [v / 65536,v % 65536] else none|none=>none)=some q->
     (cond (!(grp (l.getD i [])).isSome) (k0 (D2 d)) (R3 LF n last (D5 l) ((i+1:Nat):Int) (D2 d++[[SV.int .u16 (N7 (grp (l.getD i [])):Int)]]) k0 k1))=k1 (D2 (d++q)))/\
    ((match grp (l.getD i []) with|some v=>(Db last (l.drop (i+1))).map (v::·)|none=>match v4B (l.getD i []) with|some v=>if last=true/\l.drop (i+1)=[] then some [v / 65536,v % 65536] else none|none=>none)=none->
     ∃k,(cond (!(grp (l.getD i [])).isSome) (k0 (D2 d)) (R3 LF n last (D5 l) ((i+1:Nat):Int) (D2 d++[[SV.int .u16 (N7 (grp (l.getD i [])):Int)]]) k0 k1))=k0 k):=by
   intro f;cases J:grp (l.getD i []) with
   | some v=>
    simp only[y7,j2,cond_false,N7,v7];have c:D2 d++[[SV.int .u16 (v:Int)]]=D2 (d++[v]):=by rw[Lr];rfl
    rw[c];have:=y (i+1) n (d++[v]) (by omega) (by omega) (by simp<;>omega);refine⟨λq a=>?_,λh=>?_⟩
    ·cases b:Db last (l.drop (i+1)) with
     | none=>simp[b] at a
     | some z=>
      simp only[b,ac4,j5] at a;subst a;rw[this.1 z b];simp
    ·cases b:Db last (l.drop (i+1)) with
     | none=>exact this.2 b
     | some z=>simp[b] at h
   | none=>
    simp only[af4,j0,cond_true];refine⟨λq a=>?_,λ_=>⟨_,rfl⟩⟩;exfalso;cases g:v4B (l.getD i []) with
    | none=>rw[g] at a;cases a
    | some v=>
     rw[g] at a;rcases f with h|h|h
     ·rw[g] at h;cases h
     ·simp only[h,p6,false_and,if_false] at a;cases a
     ·simp only[if_neg (λhc:last=true/\l.drop (i+1)=[]=>h hc.2)] at a;cases a
  cases f:v4B (l.getD i []) with
  | none=>
   simp only[af4,cond_false];have:=e (.inl f);simp only[f] at this;exact this
  | some v=>
   have H:=Bn3 f;have p:=Bn4 f;simp only[y7,cond_true,N7,v7];cases last with
   | false=>
    simp only[cond_false];have:=e (.inr (.inl rfl));simp only[f,N7] at this;exact this
   | true=>
    simp only[cond_true];by_cases K:r=0
    ·have j:l.drop (i+1)=[]:=j1 (by omega);have o:((i:Int)==(l.length:Int)-1)=true:=by rw[beq_iff_eq];omega
     rw[o,p,j];simp only[cond_true,and_self,if_true,j5];refine⟨λq a=>?_,λh=>(by cases h)⟩;subst a;rw[show(16:Int)=((16:Nat):Int) from rfl,Sf .u32 v 16 (by decide)];have w:Eg ((v / 2 ^ 16:Nat):Int)=((v / 65536:Nat):Int):=Kk;have A:Eg (v:Int)=((v % 65536:Nat):Int):=Av3 v;rw[w,A];have c:D2 d++[[SV.int .u16 ((v / 65536:Nat):Int)],[SV.int .u16 ((v % 65536:Nat):Int)]]=D2 (d++[v / 65536,v % 65536]):=by rw[Lr];rfl
     rw[c];have G:0<n:=by omega
     exact(y (i+1) n (d++[v / 65536,v % 65536]) (by omega) (by omega) (by simp<;>omega)).1 [] (by rw[j];rfl) |>.trans (by simp)
    ·have u:l.drop (i+1)≠[]:=by
      rw[Kc l (i+1) (by omega)];simp
     have o:((i:Int)==(l.length:Int)-1)=false:=by rw[beq_eq_false_iff_ne];omega
     rw[o];simp only[cond_false];have:=e (.inr (.inr u));simp only[f,N7] at this;exact this
theorem Be3(s:By)(last:Bool)(f:A3 s.length=true):∃r H,An1 LF s last (λl=>rv (.tup [.fl 0,.s (.bool true)]) [.arr true 25 1 l]) (λl=>rv (.tup [.fl 1,.s (.bool false)]) [.arr true 25 1 l,.arr true 25 1 []])=rv r H/\
  r.stab [1,0] H = .tup [.s (.sl (gvs s last).isEmpty (gvs s last).isEmpty 1 (D2 (gvs s last))),.s (.bool (P2 s last).isSome)]:=by
 have d:=M5 f;have:=C5;unfold An1 gvs P2;by_cases c:s=[]
 ·subst c;exact⟨_,_,rfl,rfl⟩
 ·rw[show(s==([]:By))=false from beq_eq_false_iff_ne.2 c,f,if_neg c];simp only[cond_false,cond_true,vl,show u8n 58=58 from rfl];obtain⟨a,b⟩:=Be2 (k0:=λl=>rv (.tup [.fl 1,.s (.bool false)]) [.arr true 25 1 l,.arr true 25 1 []]) (k1:=λl=>rv (.tup [.fl 0,.s (.bool true)]) [.arr true 25 1 l]) last (pcs 58 s) (Ad 58 d) (λx h=>am1 (Cr h).2 d) (pcs 58 s).length 0 LF [] (by omega) (by have:=Ad 58 d;omega) (by simp);rw[o5] at a b;cases g:Db last (pcs 58 s) with
  | some q=>
   refine⟨_,_,a q g,?_⟩;simp[PV.stab,Pt,Sk,PV.snap,N0,Zk]
  | none=>
   obtain⟨i,e⟩:=b g;refine⟨_,_,e,?_⟩;simp[PV.stab,Pt,Sk,PV.snap,N0,D2]
theorem Dc5{j:Type}{W:List j}(h:W.length=8):∃a b c d e f g i,W=[a,b,c,d,e,f,g,i]:=by
 match W,h with
 | [a,b,c,d,e,f,g,i],_=>exact⟨a,b,c,d,e,f,g,i,rfl⟩
def r8(n:Nat):LL:=a8 n [SV.int .u16 0]
theorem Bb5(n:Nat):r8 n=D2 (a8 n 0):=by simp[r8,D2]
theorem LA{s:By}{last:Bool}{q:List Nat}(h:P2 s last=some q):gvs s last=q:=by unfold gvs;rw[h];rfl
theorem C79(s:By):(ab1 s [58,58]).1.length<=s.length/\(ab1 s [58,58]).2.1.length<=s.length:=by unfold ab1;grind
theorem By6{R:Type}{K:LL->LL->Option R}(X Y:List Nat)(h:X.length+Y.length<=8) :
  Qv (D2 X) (D2 Y) (r8 8) K=K (D2 (X++a8 (8-X.length-Y.length) 0++Y)) (D2 (X++a8 (8-X.length-Y.length) 0++Y)):=by
 unfold Qv;have n:(ad7 0 (r8 8)++(ad7 8 (D2 X)++ae4 (0+min (D2 X).length 8) (r8 8)))=D2 (X++a8 (8-X.length) 0):=by
  rw[H7,ai8 (show X.length<=8 by omega),v8 (l:=D2 X) (i:=8) (by rw[H7];omega),Lr,am2,Bb5,ae1,p7];unfold D2;rw[<-ak2,List.drop_replicate]
 have m:A1 (8-(Y.length:Int))=((8-Y.length:Nat):Int):=by rw[A7];omega
 have o:(D2 (X++a8 (8-X.length) 0)).length=8:=by simp[H7]<;>omega
 have j:(ad7 (8-Y.length) (D2 (X++a8 (8-X.length) 0))++(ad7 (8-(8-Y.length)) (D2 Y)++ae4 (8-Y.length+min Y.length (8-(8-Y.length))) (D2 (X++a8 (8-X.length) 0))))=D2 (X++a8 (8-X.length-Y.length) 0++Y):=by
  rw[j1 (by rw[o];omega),v8 (l:=D2 Y) (by rw[H7];omega),Lr (X++_) Y,x5]
  congr 1
  unfold D2;rw[<-ao9,List.take_append,v8 (by omega),List.take_replicate];grind
 have k:(X++a8 (8-X.length-Y.length) 0++Y).length=8:=by simp<;>omega
 simp only[vl];rw[n];simp only[H7,m,b9];rw[j];simp only[H7];rw[show(r8 8).length=8 from rfl,show o6 (X++a8 (8-X.length) (0:Nat))=8 by simp<;>omega,I8,decide_eq_true (show 8-Y.length+(8-(8-Y.length))<=8 by omega)];simp only[decide_true,cond_true,af5,k];generalize (X++a8 (8-X.length-Y.length) 0++Y)=W at *;obtain⟨a,b,c,d,e,f,g,i,rfl⟩:=Dc5 k;rfl
theorem C24{R:Type}{k0:Int->Int->Int->Int->Int->Int->Int->Int->Bool->LL->LL->Option R}(s:By)(r:A3 s.length=true) :
  ∃l q,v6p LF s k0=k0 (v6c 0 s) (v6c 1 s) (v6c 2 s) (v6c 3 s) (v6c 4 s) (v6c 5 s) (v6c 6 s) (v6c 7 s) (v6B s).isSome l q:=by
 have C:=M5 r;have w:=C79 s;unfold v6p v6c;rw[r];have bad:∀(h:v6B s=none),k0 0 0 0 0 0 0 0 0 false (r8 8) (r8 8)=k0 ((((v6B s).getD z8).getD 0 0:Nat):Int) ((((v6B s).getD z8).getD 1 0:Nat):Int) ((((v6B s).getD z8).getD 2 0:Nat):Int) ((((v6B s).getD z8).getD 3 0:Nat):Int) ((((v6B s).getD z8).getD 4 0:Nat):Int) ((((v6B s).getD z8).getD 5 0:Nat):Int) ((((v6B s).getD z8).getD 6 0:Nat):Int) ((((v6B s).getD z8).getD 7 0:Nat):Int) (v6B s).isSome (r8 8) (r8 8):=by
  intro h;rw[h];rfl
 simp (disch:=omega) only[cond_true,vl,E5];have j:v6B s=match P2 (ab1 s [58,58]).1 (!(ab1 s [58,58]).2.2),P2 (ab1 s [58,58]).2.1 true with
  | some x,some y=>if (ab1 s [58,58]).2.2 then (if x.length+y.length<=7 then some (x++a8 (8-x.length-y.length) 0++y) else none)
   else if x.length+y.length=8 then some (x++y) else none
  | _,_=>none:=rfl
 generalize (ab1 s [58,58]).1=A at *;generalize (ab1 s [58,58]).2.1=B at *;generalize (ab1 s [58,58]).2.2=o at *;cases k:P2 A (!o) with
 | none=>exact⟨_,_,bad (by rw[j,k])⟩
 | some X=>
  cases m:P2 B true with
  | none=>exact⟨_,_,bad (by rw[j,k,m])⟩
  | some Y=>
   have u:X.length<=2000000002:=by
    unfold P2 at k;split at k
    ·grind
    ·have:=Kw _ _ _ k;have:=Ad 58 (s:=A) (by omega);omega
   have v:Y.length<=2000000002:=by
    unfold P2 at m;split at m
    ·grind
    ·have:=Kw _ _ _ m;have:=Ad 58 (s:=B) (by omega);omega
   rw[k,m] at j;simp only[LA k,LA m,H7,y7,j2,cond_false];rw[A7];have n:∀(W:List Nat),W.length=8->v6B s=some W->∃l q,(cond ((decide (8=(D2 W).length*1))&&(okS ⟨true,true,[.int .u16,.int .u16,.int .u16,.int .u16,.int .u16,.int .u16,.int .u16,.int .u16]⟩ (ac5 (D2 W)) 0))
     (k0 (SV.gI (o7 (ac5 (D2 W)) 0 SV.nilp)) (SV.gI (o7 (ac5 (D2 W)) 1 SV.nilp)) (SV.gI (o7 (ac5 (D2 W)) 2 SV.nilp)) (SV.gI (o7 (ac5 (D2 W)) 3 SV.nilp)) (SV.gI (o7 (ac5 (D2 W)) 4 SV.nilp)) (SV.gI (o7 (ac5 (D2 W)) 5 SV.nilp)) (SV.gI (o7 (ac5 (D2 W)) 6 SV.nilp)) (SV.gI (o7 (ac5 (D2 W)) 7 SV.nilp)) true (D2 W) (D2 W)) none) =
     k0 ((((v6B s).getD z8).getD 0 0:Nat):Int) ((((v6B s).getD z8).getD 1 0:Nat):Int) ((((v6B s).getD z8).getD 2 0:Nat):Int) ((((v6B s).getD z8).getD 3 0:Nat):Int) ((((v6B s).getD z8).getD 4 0:Nat):Int) ((((v6B s).getD z8).getD 5 0:Nat):Int) ((((v6B s).getD z8).getD 6 0:Nat):Int) ((((v6B s).getD z8).getD 7 0:Nat):Int) (v6B s).isSome l q:=by
    intro W t h;rw[h];obtain⟨a,b,c,d,e,f,g,i,rfl⟩:=Dc5 t;exact⟨_,_,rfl⟩
   cases o with
   | false=>
    simp only[j0,cond_true,p6,if_false] at j ⊢;by_cases p:X.length+Y.length=8
    ·rw[if_pos p] at j;rw[show((X.length:Int)+(Y.length:Int)!=8)=false by simp;omega];simp only[cond_false];rw[show(a8 8 [SV.int aj1 0])=r8 8 from rfl,By6 X Y (by omega)];have z:8-X.length-Y.length=0:=by omega
     rw[z];simp only[List.replicate_zero,x5];exact n (X++Y) (by simp<;>omega) j
    ·rw[if_neg p] at j;rw[show((X.length:Int)+(Y.length:Int)!=8)=true by simp;omega];exact⟨_,_,bad j⟩
   | true=>
    simp only[j2,cond_false,cond_true,if_true] at j ⊢;by_cases p:X.length+Y.length<=7
    ·rw[if_pos p] at j;rw[A6];simp only[cond_false];rw[show(a8 8 [SV.int aj1 0])=r8 8 from rfl,By6 X Y (by omega)];exact n _ (by simp<;>omega) j
    ·rw[if_neg p] at j;rw[A8];exact⟨_,_,bad j⟩
theorem ZP(P T:List Nat)(t v:Nat):al7 (D2 (P++t::T)) P.length (G3 (o7 (D2 (P++t::T)) P.length []) 0 [SV.int .u16 (v:Int)])=D2 (P++v::T):=by
 have a:o7 (D2 (P++t::T)) P.length []=[SV.int .u16 (t:Int)]:=by
  simp[D2,b8]
 rw[a];simp only[G3,List.set_cons_zero];simp[D2]
theorem Cz7(X T:List Nat)(i:Nat)(h:i<X.length):X.take (i+1)++T=X.take i++X.getD i 0::T:=by rw[al8,j4 h,b8,j4 h,x3];rfl
theorem Dw3{R:Type}{k0:LL->LL->Option R}(z:Bool)(X:List Nat)(h:X.length=8)(c:LL):∀(r i n:Nat),i+r=8->r<n->Nq LF n z (D2 X) (i:Int) c (D2 (X.take i++a8 r 0)) k0=k0 c (D2 X):=by
 intro r
 induction r with
 | zero=>
  intro i n d f;obtain⟨n,rfl⟩:∃m,n=m+1:=⟨n-1,by omega⟩
  rw[Nq];rw[A6,v8 (by omega)];simp
 | succ r g=>
  intro i n d f;obtain⟨n,rfl⟩:∃m,n=m+1:=⟨n-1,by omega⟩
  rw[Nq];have a:((i:Int)+1)=((i+1:Nat):Int):=by omega
  have e:(X.take i).length=i:=by rw[p5];omega
  have b:=ZP (X.take i) (a8 r 0) 0 (X.getD i 0);rw[e] at b;simp (disch:=first|omega|(simp[H7];omega)) only[B9,H7,K7,cond_true,b9,Mz,Up,vl,D1,ak0,b];rw[decide_eq_true (show i<o6 (X.take i++(0:Nat)::a8 r (0:Nat)) by simp<;>omega),a];simp only[cond_true];have:=g (i+1) n (by omega) (by omega);rw[Cz7 X _ i (by omega)] at this;exact this
theorem Dw4{R:Type}{k0:Bool->LL->LL->LL->Option R}(z:Bool)(X:List Nat)(k:X.length<=8)(e:Bool)(d c:LL):∀(r i n:Nat),i+r=X.length->r<n->Nr LF n z (D2 X) e d (i:Int) c (D2 (X.take i++a8 (8-i) 0)) k0=k0 e d c (D2 (X++a8 (8-X.length) 0)):=by
 intro r
 induction r with
 | zero=>
  intro i n f h;obtain⟨n,rfl⟩:∃m,n=m+1:=⟨n-1,by omega⟩
  rw[Nr];rw[H7,A6,v8 (by omega),show i=X.length by omega];rfl
 | succ r j=>
  intro i n f h;obtain⟨n,rfl⟩:∃m,n=m+1:=⟨n-1,by omega⟩
  rw[Nr];have a:((i:Int)+1)=((i+1:Nat):Int):=by omega
  have g:(X.take i).length=i:=by rw[p5];omega
  have b:=ZP (X.take i) (a8 (7-i) 0) 0 (X.getD i 0);rw[g] at b;rw[show 8-i=7-i+1 by omega,ak0];simp (disch:=first|omega|(simp[H7];omega)) only[B9,H7,K7,cond_true,b9,Mz,Up,vl,D1,b];rw[decide_eq_true (show i<o6 (X.take i++(0:Nat)::a8 (7-i) (0:Nat)) by simp<;>omega),a];simp only[cond_true];have:=j (i+1) n (by omega) (by omega);rw[Cz7 X _ i (by omega),show 8-(i+1)=7-i by omega] at this;exact this
theorem Dw5{R:Type}{k0:LL->LL->Option R}(z:Bool)(Y P:List Nat)(o:P.length+Y.length=8)(e:LL):∀(r i n:Nat) (T:List Nat),i+r=Y.length->r<n->T.length=r->Ns LF n z (D2 Y) (i:Int) e (D2 (P++Y.take i++T)) k0=k0 e (D2 (P++Y)):=by
 intro r
 induction r with
 | zero=>
  intro i n T h k a;obtain⟨n,rfl⟩:∃m,n=m+1:=⟨n-1,by omega⟩
  rw[Ns];rw[H7,A6,v8 (by omega),o0.1 a];simp
 | succ r l=>
  intro i n T h k a;obtain⟨n,rfl⟩:∃m,n=m+1:=⟨n-1,by omega⟩
  obtain⟨t,T,rfl⟩:∃t b,T=t::b:=by
   match T,a with
   | t::b,_=>exact⟨t,b,rfl⟩
  rw[Ns];have c:((i:Int)+1)=((i+1:Nat):Int):=by omega
  have j:(P++Y.take i).length=P.length+i:=by simp<;>omega
  have d:=ZP (P++Y.take i) T t (Y.getD i 0);rw[j] at d;have f:A1 (8-(Y.length:Int))=(P.length:Int):=by rw[A7];omega
  have g:A1 ((P.length:Int)+(i:Int))=((P.length+i:Nat):Int):=by rw[A7];rfl
  simp (disch:=first|omega|(simp[H7];omega)) only[B9,H7,K7,cond_true,b9,Mz,Up,vl,f,g,D1,d];rw[decide_eq_true (show P.length+i<o6 (P++Y.take i++t::T) by simp<;>omega),c];simp only[cond_true];have:=l (i+1) n T (by omega) (by omega) (by simpa using a);rw[x3,Cz7 Y _ i (by omega),<-x3] at this;exact this
theorem Cb8{R:Type}{k0:Int->Int->Int->Int->Int->Int->Int->Int->Bool->LL->LL->Option R}(s:By)(B:A3 s.length=true) :
  ∃l L,Cy2 LF s k0=k0 (v6c 0 s) (v6c 1 s) (v6c 2 s) (v6c 3 s) (v6c 4 s) (v6c 5 s) (v6c 6 s) (v6c 7 s) (v6B s).isSome l L:=by
 have M:=M5 B;have F:=C5;unfold Cy2 v6c;rw[B];have bad:∀(h:v6B s=none),k0 0 0 0 0 0 0 0 0 false (r8 8) (r8 8)=k0 ((((v6B s).getD z8).getD 0 0:Nat):Int) ((((v6B s).getD z8).getD 1 0:Nat):Int) ((((v6B s).getD z8).getD 2 0:Nat):Int) ((((v6B s).getD z8).getD 3 0:Nat):Int) ((((v6B s).getD z8).getD 4 0:Nat):Int) ((((v6B s).getD z8).getD 5 0:Nat):Int) ((((v6B s).getD z8).getD 6 0:Nat):Int) ((((v6B s).getD z8).getD 7 0:Nat):Int) (v6B s).isSome (r8 8) (r8 8):=by
  intro h;rw[h];rfl
 have j:v6B s=match P2 (ab1 s [58,58]).1 (!(ab1 s [58,58]).2.2),P2 (ab1 s [58,58]).2.1 true with
  | some x,some y=>if (ab1 s [58,58]).2.2 then (if x.length+y.length<=7 then some (x++a8 (8-x.length-y.length) 0++y) else none)
   else if x.length+y.length=8 then some (x++y) else none
  | _,_=>none:=rfl
 have J:=Lib.index_room s [58,58];have I:=aq4 s [58,58];simp only[cond_true];by_cases C:KK s<0
 ·have n:ab1 s [58,58]=(s,[],false):=by
   unfold ab1;rw[if_neg (by unfold KK at C;omega)]
  rw[n] at j;simp only[j0,p6,if_false] at j;rw[B9 C];simp only[cond_true];cases m:P2 s true with
  | none=>
   rw[m] at j;exact⟨_,_,bad j⟩
  | some X=>
   have o:P2 [] true=some []:=rfl;have A:X.length<=2000000002:=by
    unfold P2 at m;split at m
    ·cases m;simp
    ·have:=Kw _ _ _ m;have:=Ad 58 (s:=s) (by omega);omega
   rw[m,o] at j;simp only[ab4,am0,x5] at j;simp only[y7,j2,cond_false,LA m,H7];by_cases p:X.length=8
   ·rw[if_pos p] at j;rw[show((X.length:Int)!=8)=false by simp;omega];simp only[cond_false];rw[show(a8 8 [SV.int aj1 0])=r8 8 from rfl];have h:=λK=>Dw3 (R:=R) (k0:=K) X.isEmpty X p (r8 8) 8 0 LF (by omega) (by omega)
    simp only[ae1,p7] at h;rw[<-Bb5] at h;rw[show((0:Nat):Int)=0 from rfl] at h;rw[h];rw[j];clear h j m bad;obtain⟨a,b,c,d,e,f,g,i,rfl⟩:=Dc5 p;exact⟨_,_,rfl⟩
   ·rw[if_neg p] at j;rw[show((X.length:Int)!=8)=true by simp;omega];exact⟨_,_,bad j⟩
 ·have r:0<=KK s:=by omega
  have q:=J r;obtain⟨k,t⟩:=j8 r;have w:k+2<=s.length:=by
   have:KK s+2<=(s.length:Int):=q;omega
  have n:ab1 s [58,58]=(s.take k,s.drop (k+2),true):=by
   unfold ab1;have:o8 s [58,58]=(k:Int):=t;rw[Q5,this];rfl
  rw[n] at j;simp only[j2,if_true] at j;have D:A1 ((k:Int)+2)=((k+2:Nat):Int):=by rw[A7];rfl
  rw[t,A6,I8];simp only[cond_false,cond_true,vl,D,L1,R6,b9];rw[E5 (by simp<;>omega),I8,E5 (by simp<;>omega)];simp only[cond_true];cases m:P2 (s.take k) false with
  | none=>
   rw[m] at j;exact⟨_,_,bad j⟩
  | some X=>
   cases o:P2 (s.drop (k+2)) true with
   | none=>
    rw[m,o] at j;exact⟨_,_,bad j⟩
   | some Y=>
    have A:X.length<=2000000002:=by
     unfold P2 at m;split at m
     ·cases m;simp
     ·have:=Kw _ _ _ m;have:=Ad 58 (s:=s.take k) (by simp<;>omega);omega
    have H:Y.length<=2000000002:=by
     unfold P2 at o;split at o
     ·cases o;simp
     ·have:=Kw _ _ _ o;have:=Ad 58 (s:=s.drop (k+2)) (by simp<;>omega);omega
    rw[m,o] at j;simp only[y7,j2,cond_false,LA m,LA o,H7];rw[A7];by_cases p:X.length+Y.length<=7
    ·simp only[if_pos p] at j;rw[A6];simp only[cond_false];rw[show(a8 8 [SV.int aj1 0])=r8 8 from rfl];have v:=λK=>Dw4 (R:=R) (k0:=K) X.isEmpty X (by omega) Y.isEmpty (D2 Y) (r8 8) X.length 0 LF (by omega) (by omega)
     simp only[ae1,p7] at v;rw[show(8-0:Nat)=8 from rfl,<-Bb5,show((0:Nat):Int)=0 from rfl] at v;rw[v];have u:X++a8 (8-X.length) 0=(X++a8 (8-X.length-Y.length) 0)++ad7 0 Y++a8 Y.length 0:=by
      simp only[ae1,x5,x3];rw[List.replicate_append_replicate]
      congr 2
      omega
     have z:=λK=>Dw5 (R:=R) (k0:=K) Y.isEmpty Y (X++a8 (8-X.length-Y.length) 0) (by simp<;>omega) (r8 8) Y.length 0 LF (a8 Y.length 0) (by omega) (by omega) (by simp)
     rw[<-u,show((0:Nat):Int)=0 from rfl] at z;rw[z];rw[j];have G:o6 (X++a8 (8-X.length-Y.length) 0++Y)=8:=by simp<;>omega
     clear v z u j m o bad;generalize (X++a8 (8-X.length-Y.length) 0++Y)=W at *;obtain⟨a,b,c,d,e,f,g,i,rfl⟩:=Dc5 G;exact⟨_,_,rfl⟩
    ·simp only[if_neg p] at j;rw[A8];exact⟨_,_,bad j⟩
theorem MV{x:Nat}{r:List Nat}:Nl (x::r)=if x=0 then Nl r+1 else 0:=by unfold Nl;by_cases h:x=0<;>simp[h]
theorem GV(l:List Nat):Nl l<=l.length:=by unfold Nl;exact(List.takeWhile_sublist _).length_le
theorem C59{R:Type}{k0:Int->Int->Int->Int->LL->Option R}(W:List Nat)(l:W.length=8)(b a:Int)(i:Nat):∀(r j n:Nat),i+j+r=8->r<n->
  It LF n b a (i:Int) (j:Int) (D2 W) k0=k0 b a (i:Int) ((j+Nl (W.drop (i+j)):Nat):Int) (D2 W):=by
 intro r
 induction r with
 | zero=>
  intro j n f g;obtain⟨n,rfl⟩:∃m,n=m+1:=⟨n-1,by omega⟩
  rw[It];rw[A7,A6,j1 (by omega)];rfl
 | succ r k=>
  intro j n f g;obtain⟨n,rfl⟩:∃m,n=m+1:=⟨n-1,by omega⟩
  rw[It];have c:A1 ((i:Int)+(j:Int))=((i+j:Nat):Int):=by rw[A7];rfl
  have d:A1 ((j:Int)+1)=((j+1:Nat):Int):=by rw[A7];rfl
  have e:W.drop (i+j)=W.getD (i+j) 0::W.drop (i+(j+1)):=by
   rw[b8,j4 (by omega),v7,<-ap0,aa2]
  simp (disch:=first|omega|(simp[H7];omega)) only[c,d,B9,K7,cond_true,b9,Mz,Up,vl];rw[e,MV];by_cases h:W.getD (i+j) 0=0
  ·rw[h,if_pos rfl,show(((0:Nat):Int)==0)=true from rfl,cond_true,k (j+1) n (by omega) (by omega)]
   congr 2
   omega
  ·rw[if_neg h,show(((W.getD (i+j) 0:Nat):Int)==0)=false by rw[beq_eq_false_iff_ne];omega];rfl
theorem Cg4{R:Type}{k0:Int->Int->LL->Option R}(W:List Nat)(f:W.length=8):∀(r i n z m:Nat),i+r=8->r<n->z<=8->m<=8->
  Fe LF n (z:Int) (m:Int) (i:Int) (D2 W) k0=k0 ((zGo (W.drop i) i z m).1:Nat) ((zGo (W.drop i) i z m).2:Nat) (D2 W):=by
 intro r
 induction r with
 | zero=>
  intro i n z m j o c l;obtain⟨n,rfl⟩:∃m,n=m+1:=⟨n-1,by omega⟩
  rw[Fe];rw[A6,j1 (by omega)];rfl
 | succ r d=>
  intro i n z m j o c l;obtain⟨n,rfl⟩:∃m,n=m+1:=⟨n-1,by omega⟩
  have e:=C5;rw[Fe];have a:=λK=>C59 (R:=R) (k0:=K) W f (z:Int) (m:Int) i r.succ 0 LF (by omega) (by omega)
  rw[show((0:Nat):Int)=0 from rfl] at a;simp only[am2,am0] at a;rw[A8,cond_true,a];have g:W.drop i=W.getD i 0::W.drop (i+1):=by
   rw[b8,j4 (by omega),v7,aa2]
  have k:=GV (W.drop i);rw[j9] at k;have b:A1 ((i:Int)+1)=((i+1:Nat):Int):=by rw[A7];rfl
  rw[b];have c:zGo (W.drop i) i z m=if m<Nl (W.drop i) then zGo (W.drop (i+1)) (i+1) i (Nl (W.drop i)) else zGo (W.drop (i+1)) (i+1) z m:=by
   rw[g];rfl
  rw[c];by_cases h:m<Nl (W.drop i)
  ·rw[if_pos h,A8,cond_true];exact d (i+1) n i (Nl (W.drop i)) (by omega) (by omega) (by omega) (by omega)
  ·rw[if_neg h,A6,cond_false];exact d (i+1) n z m (by omega) (by omega) (by omega) (by omega)
theorem Rt{a b c d e f g i:Int}(h:ok8 a b c d e f g i=true):∃j k l m n o p q:Nat,a=j/\b=k/\c=l/\d=m/\e=n/\f=o/\g=p/\i=q/\j<65536/\k<65536/\l<65536/\m<65536/\n<65536/\o<65536/\p<65536/\q<65536:=by simp only[ok8,ab9,List.all_nil,ae7,k9,E0] at h;exact⟨a.toNat,b.toNat,c.toNat,d.toNat,e.toNat,f.toNat,g.toNat,i.toNat,by omega,by omega,by omega,by omega,by omega,by omega,by omega,by omega,by omega,by omega,by omega,by omega,by omega,by omega,by omega,by omega⟩
theorem Bo9{R:Type}{j:Int->Int->LL->Option R}(a b c d e f g i:Int)(t:ok8 a b c d e f g i=true):Bz8 LF a b c d e f g i j=j ((zGo (n8 a b c d e f g i) 0 0 0).1:Nat) ((zGo (n8 a b c d e f g i) 0 0 0).2:Nat) (D2 (n8 a b c d e f g i)):=by obtain⟨k,l,m,n,o,p,q,r,rfl,rfl,rfl,rfl,rfl,rfl,rfl,rfl,h⟩:=Rt t;have:=C5;unfold Bz8;exact Cg4 [k,l,m,n,o,p,q,r] rfl 8 0 LF 0 0 rfl (by omega) (by omega) (by omega)
theorem Y8{n:Nat}(h:n<16):P4 n=[Kx n]:=by rw[P4,dif_pos h]
theorem X2{n:Nat}(h:¬n<16):P4 n=P4 (n / 16)++[Kx (n % 16)]:=by rw[P4,dif_neg h]
theorem Xh:∀n:Nat,n<65536->1<=(P4 n).length/\(P4 n).length<=4:=by
 intro n d;by_cases a:n<16
 ·rw[Y8 a];simp
 rw[X2 a];by_cases b:n / 16<16
 ·rw[Y8 b];simp
 rw[X2 b];by_cases c:n / 16 / 16<16
 ·rw[Y8 c];simp
 rw[X2 c,Y8 (show n / 16 / 16 / 16<16 by omega)];simp
theorem GC(d:Nat)(h:d<16):Kx d≠58:=by
 have:∀d:Fin 16,Kx d.val≠58:=by decide
 exact this ⟨d,h⟩
theorem B26(n:Nat):∃p d,P4 n=p++[d]/\d≠58:=by
 by_cases a:n<16
 ·exact⟨[],_,by rw[Y8 a];rfl,GC n a⟩
 ·exact⟨_,_,X2 a,GC _ (by omega)⟩
theorem Cp0(d:Nat)(h:d<16):cut ([48,49,50,51,52,53,54,55,56,57,97,98,99,100,101,102]:By) (d:Int) ((d+1:Nat):Int)=[Kx d]:=by
 have:∀d:Fin 16,(([48,49,50,51,52,53,54,55,56,57,97,98,99,100,101,102]:By).take (d.val+1)).drop d.val=[Kx d.val]:=by decide
 rw[Fp];exact this ⟨d,h⟩
theorem Be5{R:Type}{c:By->Option R}:∀(v n:Nat) (s:By),v<65536->v+1<n->s.length+v<=70000->(0<v\/s=[])->
  Ba LF n s (v:Int) c=c (P4 v++s):=by
 intro v
 induction v using ac3 with
 | _ v q=>
  intro n s w r u h;obtain⟨n,rfl⟩:∃m,n=m+1:=⟨n-1,by omega⟩
  have l:ag3 (v:Int) 16=((v % 16:Nat):Int):=Cy v 16;have k:ad0 (v:Int) 16=((v / 16:Nat):Int):=M8 v 16;have i:Eg (((v % 16:Nat):Int)+1)=((v % 16+1:Nat):Int):=by rw[Kk];rfl
  have j:Eg ((v / 16:Nat):Int)=((v / 16:Nat):Int):=Kk;have last:∀(m:Nat) (t:By),t≠[]->Ba LF (m+1) t 0 c=c t:=by
   intro m t o;rw[Ba];rw[A6,show(t==([]:By))=false from beq_eq_false_iff_ne.2 o];rfl
  have a:(vl (Eg ((ag3 (v:Int) 16)+1)) λd=>
    cond (I9 (ag3 (v:Int) 16) d 16)
    (vl (cut (([48,49,50,51,52,53,54,55,56,57,97,98,99,100,101,102]:List UInt8)) (ag3 (v:Int) 16) d) λe=>
     cond (E8 (o6 e) (o6 s))
     (vl (Eg (ad0 (v:Int) 16)) λg=>Ba LF n (e++s) g c) none) none)=c (P4 v++s):=by
   simp only[vl,l,k,i,j];rw[I8,Cp0 _ (by omega),G5 (by simp;omega)];simp only[cond_true];by_cases b:v<16
   ·rw[Y8 b,Nat.mod_eq_of_lt b,show v / 16=0 by omega];obtain⟨n,rfl⟩:∃m,n=m+1:=⟨n-1,by omega⟩
    exact last n _ (by simp)
   ·rw[q (v / 16) (by omega) n _ (by omega) (by omega) (by simp;omega) (.inl (by omega)),X2 b];simp
  rw[Ba];by_cases p:0<v
  ·rw[A8,cond_true];exact a
  ·have f:s=[]:=by rcases h with h|h;omega;exact h
   rw[A6,cond_false,show(s==([]:By))=true by simpa using f,cond_true];exact a
theorem Be6{R:Type}{b:By->Option R}(v:Int)(c:ltN v 65536=true):Bw7 LF v b=b (P4 v.toNat):=by obtain⟨a,d⟩:=E0.1 c;obtain⟨m,rfl⟩:=j8 a;have:=C5;unfold Bw7;refine j7 (Be5 m LF [] (by omega) (by omega) (by simp<;>omega) (.inr rfl)) ?_;grind
theorem ZC{R:Type}{c:Int->Option R}{d:Unit->Option R}(s:By)(x:s.length<=1000000000):∀(r i n:Nat),i+r=s.length->r<n->
  V8 LF n s (i:Int) c d=if o8 (s.drop i) [58,58]=-1 then d () else c ((i:Int)+o8 (s.drop i) [58,58]):=by
 intro r
 induction r with
 | zero=>
  intro i n q u;obtain⟨n,rfl⟩:∃m,n=m+1:=⟨n-1,by omega⟩
  rw[V8];rw[A7,A6,j1 (by omega)];rfl
 | succ r h=>
  intro i n q u;obtain⟨n,rfl⟩:∃m,n=m+1:=⟨n-1,by omega⟩
  rw[V8];have f:A1 ((i:Int)+1)=((i+1:Nat):Int):=by rw[A7];rfl
  rw[f];by_cases t:i+1<s.length
  ·have h:=h (i+1) n (by omega) (by omega);rw[D6 s i (by omega)];have e:=D6 s (i+1) t;have p:=aq4 (s.drop (i+1)) [58,58];have l:o8 (s.getD i 0::s.drop (i+1)) [58,58]=if ([58,58]:By).isPrefixOf (s.getD i 0::s.drop (i+1)) then 0 else if o8 (s.drop (i+1)) [58,58]==-1 then -1 else o8 (s.drop (i+1)) [58,58]+1:=by
    rw[o8]
   have o:([58,58]:By).isPrefixOf (s.getD i 0::s.drop (i+1))=(s.getD i 0==58&&s.getD (i+1) 0==58):=by
    rw[e];simp only[af1,ae7];rw[BEq.comm (a:=(58:UInt8)),BEq.comm (a:=(58:UInt8)) (b:=s.getD (i+1) 0)]
   have j:=R4 (s.getD i 0) 58 (by omega);have k:=R4 (s.getD (i+1) 0) 58 (by omega);rw[show((58:Nat):Int)=58 from rfl,show w9 58=(58:UInt8) from rfl] at j k;have next:V8 LF n s ((i+1:Nat):Int) c d=if (if o8 (s.drop (i+1)) [58,58]==-1 then (-1:Int) else o8 (s.drop (i+1)) [58,58]+1)=-1 then d () else c ((i:Int)+(if o8 (s.drop (i+1)) [58,58]==-1 then -1 else o8 (s.drop (i+1)) [58,58]+1)):=by
    rw[h];by_cases g:o8 (s.drop (i+1)) [58,58]=-1
    ·rw[g];rfl
    ·rw[if_neg g,show(o8 (s.drop (i+1)) [58,58]==-1)=false from beq_eq_false_iff_ne.2 g];simp only[p6,if_false];rw[G0]
     congr 1
     omega
   rw[l,o,A8,F1,F1];simp only[cond_true,D3,vl,j,k];cases v:(s.getD i 0==58) with
   | false=>
    simp only[cond_false,aj0,p6,if_false];exact next
   | true=>
    cases w:(s.getD (i+1) 0==58) with
    | false=>
     simp only[cond_true,cond_false,an9,p6,if_false];exact next
    | true=>
     simp
  ·rw[A6,D6 s i (by omega),j1 (show s.length<=i+1 by omega)];have:o8 [s.getD i 0] [58,58]=-1:=by
    rw[o8];simp[af1,o8]
   rw[this];rfl
theorem ZD{R:Type}{a:Int->Option R}(s:By)(b:A3 s.length=true):GO LF s a=a (KK s):=by have c:=M5 b;have:=C5;unfold GO KK;refine j7 (ZC s c s.length 0 LF (by omega) (by omega)) ?_;grind
theorem Nc(n:Nat):ptI (n:Int)=W4 n:=rfl
theorem Am3{R:Type}{a:Bool->Option R}(n:Int):YX LF n a=a (ptI n):=by
 unfold YX;by_cases h:n<0
 ·rw[B9 h];have:ptI n=false:=by
   cases n with
   | ofNat m=>exact absurd h (by simp)
   | negSucc m=>rfl
  grind
 ·obtain⟨m,rfl⟩:=j8 (show 0<=n by omega);rw[A6,Nc];unfold W4;by_cases b:1114111<m
  ·rw[A8];have:x8 m 1114111=false:=by rw[aa1,ne_eq,y5];omega
   grind
  ·rw[A6];have:x8 m 1114111=true:=by rw[y5];omega
   rw[this];by_cases c:m<55296
   ·rw[A8];have:Nat.blt m 55296=true:=by rw[ak5];omega
    grind
   ·rw[A6];have e:Nat.blt m 55296=false:=by rw[aa1,ne_eq,ak5];omega
    rw[e];simp only[j0,cond_true,cond_false,ag1,ad6]
    congr 1
theorem JJ{d k:Nat}(h:455<d):AR d k=AR (d / 35) (k+36):=by rw[AR,dif_pos h]
theorem Tq{d k:Nat}(h:¬ 455<d):AR d k=k+36*d / (d+38):=by rw[AR,dif_neg h]
theorem Al3{R:Type}{k0:Int->Int->Option R}:∀(d n k:Nat),d<2305843009213693952->d<n->k+d<=4611686018427387904->
  ∃a b,a<=455/\b<=k+d/\AR d k=b+36*a / (a+38)/\Gv LF n (d:Int) (k:Int) k0=k0 (a:Int) (b:Int):=by
 intro d
 induction d using ac3 with
 | _ d l=>
  intro n k p r q;obtain⟨n,rfl⟩:∃m,n=m+1:=⟨n-1,by omega⟩
  rw[Gv];by_cases h:455<d
  ·obtain⟨a,b,g,o,i,j⟩:=l (d / 35) (by omega) n (k+36) (by omega) (by omega) (by omega);refine⟨a,b,g,by omega,by rw[JJ h];exact i,?_⟩;have e:ad0 (d:Int) 35=((d / 35:Nat):Int):=M8 d 35;have c:A1 ((d / 35:Nat):Int)=((d / 35:Nat):Int):=A7;have f:A1 ((k:Int)+36)=((k+36:Nat):Int):=by rw[A7];rfl
   rw[A8];simp only[cond_true,vl,e,c,f];exact j
  ·refine⟨d,k,by omega,by omega,Tq h,?_⟩;rw[A6];rfl
theorem Al4{R:Type}{k0:Int->Option R}(d c:Int)(f:Bool)(z:ltN d 1152921504606846976=true)(A:ltN c 1000000=true)(B:ltI 0 c=true):MG LF d c f k0=k0 (Q9 d.toNat c.toNat f:Nat):=by
 obtain⟨k,F⟩:=E0.1 z;obtain⟨j,D⟩:=E0.1 A;obtain⟨d,rfl⟩:=j8 k;obtain⟨c,rfl⟩:=j8 j;have J:=Mw.1 B;have C:=C5;have key:∀x:Nat,x<1152921504606846976->Gu LF (x:Int) (c:Int) k0=k0 ((AR (x+x / c) 0:Nat):Int):=by
  intro x L;have G:x / c<=x:=af2 _ _;unfold Gu;have g:ad0 (x:Int) (c:Int)=((x / c:Nat):Int):=M8 x c;generalize x / c=q at *;have h:A1 (q:Int)=(q:Int):=A7;have o:A1 ((x:Int)+(q:Int))=((x+q:Nat):Int):=by rw[A7];rfl
  rw[show((c:Int)!=0)=true by simp;omega];simp only[cond_true,vl,g,h,o];obtain⟨a,n,H,I,w,y⟩:=Al3 (R:=R) (k0:=λb l=>vl (A1 ((36)*b)) λm=>vl (A1 (b+(38))) λe=>cond (e !=(0)) (vl (A1 (ad0 m e)) λi=>k0 (A1 (l+i))) none) (x+q) LF 0 (by omega) (by omega) (by omega);refine j7 y ?_;have K:36*a / (a+38)<=36*a:=af2 _ _;have p:A1 (36*(a:Int))=((36*a:Nat):Int):=by rw[A7];rfl
  have r:A1 ((a:Int)+38)=((a+38:Nat):Int):=by rw[A7];rfl
  have t:ad0 ((36*a:Nat):Int) ((a+38:Nat):Int)=((36*a / (a+38):Nat):Int):=M8 _ _;have u:A1 ((36*a / (a+38):Nat):Int)=((36*a / (a+38):Nat):Int):=A7;have v:A1 ((n:Int)+((36*a / (a+38):Nat):Int))=((n+36*a / (a+38):Nat):Int):=by rw[A7];rfl
  simp only[vl,p,r,t,u,v];rw[show(((a+38:Nat):Int)!=0)=true by simp;omega,w];rfl
 unfold MG Q9;rw[b9,b9];cases f with
 | true=>
  have g:ad0 (d:Int) 700=((d / 700:Nat):Int):=M8 d 700;have h:A1 ((d / 700:Nat):Int)=((d / 700:Nat):Int):=A7;simp only[cond_true,vl,g,h,if_true];exact key _ (by omega)
 | false=>
  have g:ad0 (d:Int) 2=((d / 2:Nat):Int):=M8 d 2;have h:A1 ((d / 2:Nat):Int)=((d / 2:Nat):Int):=A7;simp only[cond_false,vl,g,h,p6,if_false];exact key _ (by omega)
theorem QA{d:Nat}(h:d<36):(Az d).toNat=if d<26 then 97+d else 22+d:=by unfold Az;split<;>simp<;>omega
theorem B71{R:Type}{b:Int->Option R}(d:Int)(c:ltN d 36=true):De9 LF d b=b ((Az d.toNat).toNat:Nat):=by
 obtain⟨a,e⟩:=E0.1 c;obtain⟨d,rfl⟩:=j8 a;unfold De9;rw[b9,QA (by omega)];by_cases h:d<26
 ·rw[A8,if_pos h];simp only[cond_true,vl]
  congr 1
  rw[A7,N1];rfl
 ·rw[A6,if_neg h];simp only[cond_false,vl]
  congr 1
  rw[D1 (n:=48+(d:Int)) (by omega) (by omega),A7,N1];omega
theorem FK(b:UInt8):(97<=b.toNat/\b.toNat<=122/\Oq b=some (b.toNat-97))\/(65<=b.toNat/\b.toNat<=90/\Oq b=some (b.toNat-65))\/(48<=b.toNat/\b.toNat<=57/\Oq b=some (b.toNat-22))\/(¬(97<=b.toNat/\b.toNat<=122)/\¬(65<=b.toNat/\b.toNat<=90)/\¬(48<=b.toNat/\b.toNat<=57)/\Oq b=none):=by unfold Oq;grind
theorem B79{R:Type}{g:Int->Option R}(b:Int)(h:inR b 256=true):Cu0 LF b g=g (E3 (u8n b)):=by
 simp only[inR,k9,decide_eq_true_eq] at h;have j:b=((u8n b).toNat:Int):=by
  unfold u8n;simp;omega
 generalize u8n b=c at *;subst j;have i:=c.toNat_lt;unfold Cu0 E3;simp only[Yd,Yc,vl];rcases FK c with⟨d,f,e⟩|⟨d,f,e⟩|⟨d,f,e⟩|⟨d,f,o,e⟩
 ·have a:A1 (wu8 ((c.toNat:Int)-97))=((c.toNat-97:Nat):Int):=by
   rw[N1,A7];omega
  simp (disch:=omega) only[B9,E6,j2,j0,cond_false,cond_true,a,e]
 ·have a:A1 (wu8 ((c.toNat:Int)-65))=((c.toNat-65:Nat):Int):=by
   rw[N1,A7];omega
  simp (disch:=omega) only[B9,E6,j2,j0,cond_false,cond_true,a,e]
 ·have a:A1 (A1 (wu8 ((c.toNat:Int)-48))+26)=((c.toNat-22:Nat):Int):=by
   rw[N1,D1 (n:=(c.toNat:Int)-48) (by omega) (by omega),A7];omega
  simp (disch:=omega) only[B9,E6,j2,j0,cond_false,cond_true,a,e]
 ·rw[e];by_cases k:c.toNat<48
  ·simp (disch:=omega) only[B9,E6,j2,j0,cond_false,cond_true]
  ·by_cases l:c.toNat<65
   ·simp (disch:=omega) only[B9,E6,j2,j0,cond_false,cond_true]
   ·by_cases m:c.toNat<97
    ·simp (disch:=omega) only[B9,E6,j2,j0,cond_false,cond_true]
    ·simp (disch:=omega) only[B9,E6,j2,j0,cond_false,cond_true]
theorem Dk2{l:LL}(h:l.all Xn=true):∃W:List Nat,l=D2 W/\(∀x∈W,x<65536):=by
 induction l with
 | nil=>exact⟨[],rfl,by simp⟩
 | cons x r c=>
  simp only[ab9,k9] at h;obtain⟨W,rfl,e⟩:=c h.2;have a:=h.1;unfold Xn at a;split at a
  ·rename_i n;obtain⟨b,d⟩:=E0.1 a;obtain⟨m,rfl⟩:=j8 b;refine⟨m::W,rfl,?_⟩;grind
  ·cases a
theorem Aa7{W:List Nat}(h:∀x∈W,x<65536):(D2 W).all Xn=true:=by rw[y8];intro x a;simp only[D2,al5] at a;obtain⟨n,b,rfl⟩:=a;have:=h n b;exact Sv (v:=(n:Int)) (n:=65536) (by omega) (by omega)
theorem Wt(W:List Nat):(D2 W).map elN=W:=by
 unfold D2;rw[af8]
 conv=>rhs;rw[<-ah6 W]
 apply aa3;intro x _;simp[elN,SV.gI]
theorem Ag8(l:List By):(D5 l).map elS=l:=by
 unfold D5;rw[af8]
 conv=>rhs;rw[<-ah6 l]
 apply aa3;intro x _;simp[elS,SV.gS]
theorem Cz2(l:List By):(D5 l).all isS=true:=by rw[y8];intro x a;simp only[D5,al5] at a;obtain⟨n,b,rfl⟩:=a;rfl
theorem At1{P:List Nat->Prop}(a:P [])(b:∀l x,P l->P (l++[x]))(l:List Nat):P l:=by
 have:∀r:List Nat,P r.reverse:=by
  intro r
  induction r with
  | nil=>exact a
  | cons x r c=>rw[List.reverse_cons];exact b _ _ c
 have:=this l.reverse;grind
theorem B40(l:List By)(x p:By)(h:l≠[]):ab6 (l++[x]) p=ab6 l p++p++x:=by
 cases l with
 | nil=>exact absurd rfl h
 | cons y r=>
  rw[ae3,ao8,ao8];unfold Lib.joinTail;simp
theorem Gr:K6 []=[]:=rfl
theorem Kz(n:Nat):K6 [n]=P4 n:=by unfold K6;exact af7 _ _
theorem Ur(l:List Nat)(n:Nat)(h:l≠[]):K6 (l++[n])=K6 l++[58]++P4 n:=by unfold K6;rw[ag4,List.map_singleton,B40 _ _ _ (by simpa using h)]
theorem Bv:∀l:List Nat,(∀x∈l,x<65536)->(K6 l).length<=5*l.length:=by
 refine At1 ?_ ?_
 ·intro _;simp[Gr]
 ·intro l n c h;have d:=c (λx b=>h x (by simp[b]));have e:=Xh n (h n (by simp));by_cases a:l=[]
  ·subst a;rw[p7,Kz];simp;omega
  ·rw[Ur l n a];simp;omega
theorem A63:∀(l:List Nat) (h:l≠[]),∃q d,K6 l=q++[d]/\d≠58:=by
 refine At1 ?_ ?_
 ·grind
 ·intro l n _ _;obtain⟨q,d,c,a⟩:=B26 n;by_cases b:l=[]
  ·subst b;exact⟨q,d,by rw[p7,Kz,c],a⟩
  ·exact⟨K6 l++[58]++q,d,by rw[Ur l n b,c];simp,a⟩
theorem C22{R:Type}{c:LL->Option R}(z t:Bool)(W:List Nat)(l:∀x∈W,x<65536)(p:W.length<=8):∀(r i n:Nat) (d:List By),i+r=W.length->r<n->d.length=i->
  Vw LF n z t (D2 W) (W.length:Int) (i:Int) (D5 d) c=c (D5 (d++(W.drop i).map P4)):=by
 intro r
 induction r with
 | zero=>
  intro i n d h j f;obtain⟨n,rfl⟩:∃m,n=m+1:=⟨n-1,by omega⟩
  rw[Vw];rw[A6,j1 (by omega)];simp
 | succ r k=>
  intro i n d h j f;obtain⟨n,rfl⟩:∃m,n=m+1:=⟨n-1,by omega⟩
  rw[Vw];have b:W.drop i=W.getD i 0::W.drop (i+1):=by
   rw[b8,j4 (by omega),v7,aa2]
  have o:W.getD i 0<65536:=by
   rw[b8,j4 (by omega),v7];simp_all
  have e:A1 ((i:Int)+1)=((i+1:Nat):Int):=by rw[A7];rfl
  rw[b];generalize g:W.getD i 0=x at *;simp (disch:=omega) only[B9,K7,cond_true,H7,b9,Mz,Up,vl,e,g,Ab5,Sv,F2,F7,show((16:Int)==16)=true from rfl];have a:D5 d++[[SV.str (P4 x)]]=D5 (d++[P4 x]):=by rw[Zh];rfl
  rw[a,k (i+1) n _ (by omega) (by omega) (by simp;omega)];simp
theorem C23{R:Type}{k0:By->LL->Option R}(z t:Bool)(l:LL)(c:l.all Xn=true)(a:x8 l.length 8=true):∃g,v6j LF z t l k0=k0 (K6 (l.map elN)) g:=by
 obtain⟨W,rfl,b⟩:=Dk2 c;have f:W.length<=8:=by rw[H7] at a;exact ac2 a
 have d:=C5;refine⟨D5 (W.map P4),?_⟩;unfold v6j;rw[H7];refine j7 (C22 z t W b f W.length 0 LF [] (by omega) (by omega) rfl) ?_;have e:=Bv W b;unfold K6 at e;rw[p7,o5,Cz2,Ag8,Wt,F2,J8,E5 (by simp;omega)];rfl
theorem Ac1:∀(l:List Nat) (i z m:Nat),z+m<=i+l.length->(zGo l i z m).1+(zGo l i z m).2<=i+l.length
 | [],i,z,m,h=>by simpa[zGo] using h
 | x::r,i,z,m,h=>by
  have a:=GV (x::r);simp only[zGo];simp only[p9] at h a ⊢;split
  ·have:=Ac1 r (i+1) i (Nl (x::r)) (by omega);omega
  ·have:=Ac1 r (i+1) z m (by omega);omega
theorem C21{R:Type}{k0:By->LL->Option R}(p r t u v w y A:Int)(G:ok8 p r t u v w y A=true):∃l,v6f LF p r t u v w y A k0=k0 (Ak (n8 p r t u v w y A)) l:=by
 obtain⟨a,b,c,d,e,f,g,j,rfl,rfl,rfl,rfl,rfl,rfl,rfl,rfl,h⟩:=Rt G;have C:n8 a b c d e f g j=[a,b,c,d,e,f,g,j]:=rfl;refine⟨D2 [a,b,c,d,e,f,g,j],?_⟩;unfold v6f;rw[G,C,cond_true];have o:([[SV.int .u16 (a:Int)],[SV.int .u16 (b:Int)],[SV.int .u16 (c:Int)],[SV.int .u16 (d:Int)],[SV.int .u16 (e:Int)],[SV.int .u16 (f:Int)],[SV.int .u16 (g:Int)],[SV.int .u16 (j:Int)]]:LL)=D2 [a,b,c,d,e,f,g,j]:=rfl;rw[o];have B:∀x∈[a,b,c,d,e,f,g,j],x<65536:=by simp_all
 have n:[a,b,c,d,e,f,g,j].length=8:=rfl;have k:=Ac1 [a,b,c,d,e,f,g,j] 0 0 0 (by simp);unfold Ak;generalize [a,b,c,d,e,f,g,j]=W at *;generalize zGo W 0 0 0=q at *;obtain⟨z,m⟩:=q;rw[n] at k;simp only[vl] at k ⊢;have N:∀i,(D2 W).take i=D2 (W.take i):=λi=>by unfold D2;rw[ao9]
 have J:∀i,(D2 W).drop i=D2 (W.drop i):=λi=>by unfold D2;rw[ak2]
 by_cases I:m<2
 ·rw[if_pos I,A8,cond_true,Aa7 B,Wt];rfl
 ·have K:A1 ((z:Int)+(m:Int))=((z+m:Nat):Int):=by rw[A7];rfl
  have hA:∀x∈W.take z,x<65536:=λx D=>B x (ac6 D)
  have H:∀x∈W.drop (z+m),x<65536:=λx D=>B x (ae0 D)
  have O:=Bv _ hA;have P:=Bv _ H;have L:(W.take z).length<=8:=by rw[p5];omega
  have M:(W.drop (z+m)).length<=8:=by rw[j9];omega
  rw[if_neg I,A6,cond_false,I8,K];simp only[b9,Nat.sub_zero];rw[N,J,Aa7 hA,Wt,H7,aa7 L,G5 (by omega),I8];have F:(D2 (W.drop (z+m))).take (8-(z+m))=D2 (W.drop (z+m)):=v8 (by rw[H7,j9];omega);rw[F,Aa7 H,Wt,H7,aa7 M,G5 (by simp;omega)];simp
theorem Dj1{R:Type}{k0:Int->Int->Int->Int->LL->Option R}(W:List Nat)(l:W.length=8)(b a:Int)(i:Nat):∀(r j n:Nat),i+j+r=8->r<n->
  Np LF n b a (i:Int) (j:Int) (D2 W) k0=k0 b a (i:Int) ((j+Nl (W.drop (i+j)):Nat):Int) (D2 W):=by
 intro r
 induction r with
 | zero=>
  intro j n f g;obtain⟨n,rfl⟩:∃m,n=m+1:=⟨n-1,by omega⟩
  rw[Np];rw[A7,A6,j1 (by omega)];rfl
 | succ r k=>
  intro j n f g;obtain⟨n,rfl⟩:∃m,n=m+1:=⟨n-1,by omega⟩
  rw[Np];have c:A1 ((i:Int)+(j:Int))=((i+j:Nat):Int):=by rw[A7];rfl
  have d:A1 ((j:Int)+1)=((j+1:Nat):Int):=by rw[A7];rfl
  have e:W.drop (i+j)=W.getD (i+j) 0::W.drop (i+(j+1)):=by
   rw[b8,j4 (by omega),v7,<-ap0,aa2]
  simp (disch:=first|omega|(simp[H7];omega)) only[c,d,B9,K7,cond_true,b9,Mz,Up,vl];rw[e,MV];by_cases h:W.getD (i+j) 0=0
  ·rw[h,if_pos rfl,show(((0:Nat):Int)==0)=true from rfl,cond_true,k (j+1) n (by omega) (by omega)]
   congr 2
   omega
  ·rw[if_neg h,show(((W.getD (i+j) 0:Nat):Int)==0)=false by rw[beq_eq_false_iff_ne];omega];rfl
def RR(z m:Nat)(a b:Int):Prop:=(2<=m/\a=z/\b=m)\/(m<2/\a=-1/\b=1)
theorem Cy1{R:Type}{k0:Int->Int->LL->Option R}(W:List Nat)(o:W.length=8):∀(r i n z m:Nat) (a b:Int),i+r=8->r<n->z<=8->m<=8->RR z m a b->
  ∃g j,RR (zGo (W.drop i) i z m).1 (zGo (W.drop i) i z m).2 g j/\Jm LF n a b (i:Int) (D2 W) k0=k0 g j (D2 W):=by
 intro r
 induction r with
 | zero=>
  intro i n z m a b t w e v h;obtain⟨n,rfl⟩:∃m,n=m+1:=⟨n-1,by omega⟩
  rw[Jm];rw[A6,j1 (by omega)];exact⟨a,b,h,rfl⟩
 | succ r f=>
  intro i n z m a b t w e v h;obtain⟨n,rfl⟩:∃m,n=m+1:=⟨n-1,by omega⟩
  have l:=C5;rw[Jm];have c:=λK=>Dj1 (R:=R) (k0:=K) W o a b i r.succ 0 LF (by omega) (by omega)
  rw[show((0:Nat):Int)=0 from rfl] at c;simp only[am2,am0] at c;rw[A8,cond_true,c];have p:W.drop i=W.getD i 0::W.drop (i+1):=by
   rw[b8,j4 (by omega),v7,aa2]
  have u:=GV (W.drop i);rw[j9] at u;have d:A1 ((i:Int)+1)=((i+1:Nat):Int):=by rw[A7];rfl
  rw[d];have e:zGo (W.drop i) i z m=if m<Nl (W.drop i) then zGo (W.drop (i+1)) (i+1) i (Nl (W.drop i)) else zGo (W.drop (i+1)) (i+1) z m:=by
   rw[p];rfl
  rw[e];generalize Nl (W.drop i)=q at *;unfold RR at h;by_cases k:m<q
  ·rw[if_pos k];by_cases x:q<2
   ·rw[A6,cond_false];exact f (i+1) n i q a b (by omega) (by omega) (by omega) (by omega) (by unfold RR;omega)
   ·rw[A8,cond_true];exact f (i+1) n i q i q (by omega) (by omega) (by omega) (by omega) (by unfold RR;omega)
  ·rw[if_neg k,A6,cond_false];exact f (i+1) n z m a b (by omega) (by omega) (by omega) (by omega) h
theorem QI(q:By)(d:UInt8):(q++[d]).getD q.length 0=d:=by simp
theorem Cb7{R:Type}{k:By->LL->Option R}(W:List Nat)(u:W.length=8)(v:∀x∈W,x<65536)(a b:Int)(s c:By)(i n:Nat)(w:i<8)(o:(i:Int)≠a)(j:s.length<=1000)
  (h:(s=[]/\c=P4 (W.getD i 0))\/(∃q d,s=q++[d]/\d≠58/\c=s++[58]++P4 (W.getD i 0))\/(∃q,s=q++[58]/\c=s++P4 (W.getD i 0))) :
  U2 LF (n+1) a b s (i:Int) (D2 W) k=U2 LF n a b c ((i+1:Nat):Int) (D2 W) k:=by
 rw[U2];have t:W.getD i 0<65536:=by simp_all
 have m:A1 ((i:Int)+1)=((i+1:Nat):Int):=by rw[A7];rfl
 have y:=Xh _ t;rw[A8,show((i:Int)==a)=false from beq_eq_false_iff_ne.2 o];generalize r:W.getD i 0=x at *;have ok:=Mz (l:=W) (i:=i) (by omega);simp (disch:=omega) only[cond_true,cond_false,K7,b9,ok,Up,r,Sv,vl,m];rcases h with⟨rfl,rfl⟩|⟨q,d,rfl,p,rfl⟩|⟨q,rfl,rfl⟩
 ·have e:E8 ([]:By).length (P4 x).length=true:=G5 (by simp;omega);rw[e];rfl
 ·have f:A1 (((q++[d]).length:Int)-1)=((q.length:Nat):Int):=by rw[A7];simp
  rw[show((q++[d])==([]:By))=false by simp,f,K7 (by omega) (by simp<;>omega),D3,QI];have g:(d.toNat:Int)≠58:=by
   intro h;apply p;apply an7;grind
  rw[show((d.toNat:Int)!=58)=true from bne_iff_ne.2 g,G5 (by simp at j ⊢;omega),G5 (by simp at j ⊢;omega)];rfl
 ·have f:A1 (((q++[58]).length:Int)-1)=((q.length:Nat):Int):=by rw[A7];simp
  rw[show((q++[(58:UInt8)])==([]:By))=false by simp,f,K7 (by omega) (by simp<;>omega),D3,QI];have e:E8 (q++[(58:UInt8)]).length (P4 x).length=true:=G5 (by simp at j ⊢;omega);rw[e];rfl
theorem Cd3(W:List Nat)(i:Nat)(h:i<W.length):W.take (i+1)=W.take i++[W.getD i 0]:=by simp_all
theorem NC{R:Type}{k0:By->LL->Option R}(W:List Nat)(m:W.length=8)(f:∀x∈W,x<65536)(a b:Int)(e:Nat)(I:e<=8)(p:By)(z:p=[]\/∃q,p=q++[58])(A:p.length<=100)(o:Nat)(w:o<=8) :
  ∀(r i n:Nat),i+r=e->o<=i->(∀j:Nat,i<=j->j<e->(j:Int)≠a)->
   U2 LF (n+r) a b (p++K6 ((W.take i).drop o)) (i:Int) (D2 W) k0=U2 LF n a b (p++K6 ((W.take e).drop o)) (e:Int) (D2 W) k0:=by
 intro r
 induction r with
 | zero=>
  intro i n u w _;rw[show i=e by omega];rfl
 | succ r G=>
  intro i n u y g;rw[show n+(r+1)=(n+r)+1 by omega];have h:((W.take i).drop o).length=i-o:=by rw[j9,p5];omega
  have v:=Bv ((W.take i).drop o) (λx F=>f x (ac6 (ae0 F)));have D:(W.take (i+1)).drop o=(W.take i).drop o++[W.getD i 0]:=by
   rw[Cd3 W i (by omega),List.drop_append_of_le_length (by rw[p5];omega)]
  have C:(p++K6 ((W.take i).drop o)).length<=1000:=by rw[ad4];omega
  rw[Cb7 W m f a b (p++K6 ((W.take i).drop o)) (p++K6 ((W.take (i+1)).drop o)) i (n+r) (by omega) (g i (by omega) (by omega)) C]
  ·exact G (i+1) n (by omega) (by omega) (λj H k=>g j (by omega) k)
  ·rw[D];generalize (W.take i).drop o=l at *;by_cases c:l=[]
   ·subst c;rw[p7,Kz,Gr,x5];rcases z with rfl|⟨q,rfl⟩
    ·exact .inl ⟨rfl,rfl⟩
    ·exact .inr (.inr ⟨q,rfl,rfl⟩)
   ·obtain⟨q,d,B,t⟩:=A63 l c;refine .inr (.inl ⟨p++q,d,by rw[B,x3],t,?_⟩);rw[Ur l _ c];simp
theorem Cb6{R:Type}{k0:By->LL->Option R}(A B C D F G H I:Int)(V:ok8 A B C D F G H I=true):Di9 LF A B C D F G H I k0=k0 (Ak (n8 A B C D F G H I)) (D2 (n8 A B C D F G H I)):=by
 obtain⟨g,i,k,l,o,p,r,t,rfl,rfl,rfl,rfl,rfl,rfl,rfl,rfl,h⟩:=Rt V;have K:n8 g i k l o p r t=[g,i,k,l,o,p,r,t]:=rfl;unfold Di9;rw[K];have y:([[SV.int .u16 (g:Int)],[SV.int .u16 (i:Int)],[SV.int .u16 (k:Int)],[SV.int .u16 (l:Int)],[SV.int .u16 (o:Int)],[SV.int .u16 (p:Int)],[SV.int .u16 (r:Int)],[SV.int .u16 (t:Int)]]:LL)=D2 [g,i,k,l,o,p,r,t]:=rfl;rw[y];have J:∀x∈[g,i,k,l,o,p,r,t],x<65536:=by simp_all
 have e:[g,i,k,l,o,p,r,t].length=8:=rfl;have w:=Ac1 [g,i,k,l,o,p,r,t] 0 0 0 (by simp);have X:=C5;generalize [g,i,k,l,o,p,r,t]=W at *;obtain⟨a,b,L,Y⟩:=Cy1 (R:=R) (k0:=λv f M=>U2 LF LF v f [] 0 M (λd c=>k0 d c)) W e 8 0 LF 0 0 (-1) 1 (by omega) (by omega) (by omega) (by omega) (.inr ⟨by omega,rfl,rfl⟩);refine j7 Y ?_;rw[o5] at L;unfold Ak;generalize zGo W 0 0 0=q at *;obtain⟨z,m⟩:=q;rw[e] at w;simp only at w L ⊢;have stop:∀(n:Nat) (s:By),0<n->U2 LF n a b s ((8:Nat):Int) (D2 W) (λd c=>k0 d c)=k0 s (D2 W):=by
  intro n s O;obtain⟨n,rfl⟩:∃m,n=m+1:=⟨n-1,by omega⟩
  rw[U2];simp_all
 rcases L with⟨N,rfl,rfl⟩|⟨N,rfl,rfl⟩
 ·rw[G0];have u:=NC (R:=R) (k0:=λd c=>k0 d c) W e J (z:Int) (m:Int) z (by omega) [] (.inl rfl) (by simp) 0 (by omega) z 0 (LF-z) (by omega) (by omega) (λj _ h2=>by omega);rw[show LF-z+z=LF by omega] at u;simp only[ae1,o5,Gr,p7] at u;refine j7 u ?_;obtain⟨n,O⟩:∃n,LF-z=n+8+1:=⟨LF-z-9,by omega⟩
  rw[O,U2];have hA:∀x∈W.take z,x<65536:=λx Z=>J x (ac6 Z)
  have la:=Bv _ hA;have l1:(W.take z).length<=8:=by rw[p5];omega
  have S:A1 ((m:Int)-1)=((m-1:Nat):Int):=by rw[A7];omega
  have T:A1 ((z:Int)+((m-1:Nat):Int))=((z+(m-1):Nat):Int):=by rw[A7];omega
  have U:A1 (((z+(m-1):Nat):Int)+1)=((z+m:Nat):Int):=by rw[A7];omega
  rw[A8,G5 (by omega)];simp only[beq_self_eq_true,cond_true,vl,S,T,U];have P:=NC (R:=R) (k0:=λd c=>k0 d c) W e J (z:Int) (m:Int) 8 (by omega) (K6 (W.take z)++[58,58]) (.inr ⟨K6 (W.take z)++[58],by simp⟩) (by simp;omega) (z+m) (by omega) (8-(z+m)) (z+m) (n+(z+m)) (by omega) (by omega) (λj h1 _=>by omega);rw[show n+(z+m)+(8-(z+m))=n+8 by omega] at P;have Q:(W.take (z+m)).drop (z+m)=[]:=j1 (by rw[p5];omega);rw[Q,Gr,x5] at P;grind
 ·rw[if_pos N];have u:=NC (R:=R) (k0:=λd c=>k0 d c) W e J (-1) 1 8 (by omega) [] (.inl rfl) (by simp) 0 (by omega) 8 0 (LF-8) (by omega) (by omega) (λj _ _=>by omega);rw[show LF-8+8=LF by omega] at u;simp only[ae1,o5,Gr,p7] at u;grind
set_option maxRecDepth 100000
section
variable {Z R : Type} (L : Nat) (Q : G2) (Y : Yh Z) (s : Z) (k : Out -> St Z -> Option R)
noncomputable def WI(L:Nat):Cfg:=B7 L [247] (A2 []) [] (A2 [(1,[2]),(0,[0])]) [] (A2 []) (some [2]) [] [] []
noncomputable def Dr3{R:Type}(L:Nat)(a:Unit->Option R):Option R:=a ()
theorem Cp9(d:Nat):evC (WI L) (d+1) Z Y 247 [pI (16:Int)] [] s=Dr3 L  (λ_=>some (pB true,[],s)):=by refine(evE (fn:=Tryz.f247) (by kernel_rfl)).trans ?_;generalize evC (WI L) d=Q;unfold Dr3;kernel_rfl
noncomputable abbrev WA:Code:=C7 aq2
noncomputable def Ix(L:Nat):Cfg:=B7 L [231] (A2 [(11,[0,0,1,0,5,0,0,0,0,0,0]),(18,[0,0,1,0,5,0,0,0,3])]) [(247,TS),(248,Ds2)] (A2 [(30,[10,0]),(29,[10,0]),(28,[0,9,0,0,0,80]),(27,[0,3,5,0,0,0]),(26,[0,3,5,0,0,0]),(25,[0,3,5,0,0,0,75]),(16,[0,2,0,5,0,0,0]),(15,[0,0,1,0,5,0,0,0]),(14,[0,0,1,0,5,0,0,0,0,0,0]),(13,[0,0,1,0,5,0,0,0,0,0,0]),(12,[0,0,1,0,5,0,0,0,0,0,0]),(11,[0,0,1,0,5,0,0,0,0,0,0,29]),(10,[0,0,1,0,5,0,0,0,0,0,0]),(9,[0,0,0,0,0,5,0,0,0,0,0]),(8,[0,0,0,0,0,5,0,0,0,0]),(24,[0,2,0,5,0,0,0]),(23,[0,0,1,0,5,0,0,0]),(22,[0,0,1,0,5,0,0,0,3]),(21,[0,2,0,5,0,0,0,3,0]),(20,[0,0,1,0,5,0,0,0,3,0]),(19,[0,0,1,0,5,0,0,0,3]),(18,[0,0,1,0,5,0,0,0,3,50]),(17,[0,0,1,0,5,0,0,0,3]),(7,[0,0,0,0,0,5,0,0,0,20]),(6,[0,0,0,0,0,5,0,0,0]),(5,[0,0,0,0,0,5,0,0,0,16]),(4,[0,0,0,0,0,5,0,0,0]),(3,[0,0,0,0,0,5,0,0]),(2,[0,0,0,0,0,5,0]),(1,[0,0,0,0,0,5,0,16]),(0,[0,0,0,0,0,5,0])]) [247,248] (A2 [(0,[0,0,1,0,5,0,0,0]),(1,[0,0,1,0,5,0,0,0,0,0,0]),(2,[0,0,1,0,5,0,0,0]),(3,[0,0,1,0,5,0,0,0,3])]) (some [10,0]) [] [] []
noncomputable def Kv{R:Type}(L n:Nat)(b a:Bool)(c:LL)(g d:Int)(f:LL)(j:Bool->Bool->LL->Int->Int->LL->Option R):Option R:=match n with|0=>none|n+1=>cond (not (ltI g 16)) (vl (Az5 .u64 g (15:Int)) λe=>cond (inR e 36) (vl (bAt (([48,49,50,51,52,53,54,55,56,57,97,98,99,100,101,102,103,104,105,106,107,108,109,110,111,112,113,114,115,116]:List UInt8)++[117,118,119,120,121,122]) e) λi=>cond (inR (A1 (d-1)) 65) (cond (decide ((j6 (A1 (d-1)))<f.length)) (vl (al7 f (j6 (A1 (d-1))) (G3 (o7 f (j6 (A1 (d-1))) []) 0 [(SV.int .u8 i)])) λh=>Kv L n b a c (Qp .u64 g (4:Int)) (A1 (d-1)) h j) none) none) none) (j b a c g d f)
theorem Ah1(n b a c f d e):D0 2 ((Ix L).keep 11) (bd (Ix L) Q Y (cd [1,1,1,1,1,0,1,0,1,1,1,0,0,0] WA)) n ⟨gp [(0,.s (.sl b a 0 c)),(0,p64 f),(1,pB false),(0,pB false),(5,.fl 0),(0,pS ([]:List UInt8)),(0,.ptr 1 0 0),(0,pI d),(0,p64 (4:Int)),(0,p64 (16:Int)),(0,p64 (15:Int))] 85,[.arr true 5 1 [],.arr false 243 1 e],s⟩ k =
 Kv L n b a c f d e (λb a c f d e=>k (.exit 0) ⟨gp [(0,.s (.sl b a 0 c)),(0,p64 f),(1,pB false),(0,pB false),(5,.fl 0),(0,pS ([]:List UInt8)),(0,.ptr 1 0 0),(0,pI d)] 88,[.arr true 5 1 [],.arr false 243 1 e],s⟩):=by
 induction n generalizing b a c f d e with
 | zero=>rfl
 | succ n g=>rw[Kv];simp only[<-g];kernel_rfl
noncomputable def Ah0{R:Type}(L:Nat)(e d:Bool)(ds:LL)(v:Int)(m:By->LL->Option R):Option R:=cond ((16:Int)==16) (cond ((16:Int)==16) (Kv L L e d ds v 65 (a8 65 [(SV.int .u8 (0:Int))]) (λg f j i a c=>cond (inR i 36) (vl (bAt (([48,49,50,51,52,53,54,55,56,57,97,98,99,100,101,102,103,104,105,106,107,108,109,110,111,112,113,114,115,116]:List UInt8)++[117,118,119,120,121,122]) i) λl=>cond (inR (A1 (a-1)) 65) (cond (decide ((j6 (A1 (a-1)))<c.length)) (vl (al7 c (j6 (A1 (a-1))) (G3 (o7 c (j6 (A1 (a-1))) []) 0 [(SV.int .u8 l)])) λb=>cond (decide (b.length=65)) (cond (I9 (A1 (a-1)) (65:Int) 65) (cond (ag9 (ad7 (65-(j6 (A1 (a-1)))) (ae4 (j6 (A1 (a-1))) b)) Ou) (vl (ac1 Ml (ad7 (65-(j6 (A1 (a-1)))) (ae4 (j6 (A1 (a-1))) b))) λh=>m h b) none) none) none) none) none) none)) none) none
theorem Cn7(d:Nat)(ds_z ds_t ds v):evC (Ix L) (d+1) Z Y 231 [.s (.sl ds_z ds_t 0 ds),p64 v,pI (16:Int),pB false,pB false] [] s=Ah0 L ds_z ds_t ds v (λb a=>some (.tup [.fl 0,pS b],[.arr true 5 1 [],.arr false 243 1 a],s)):=by refine(evE (fn:=aq2) (by kernel_rfl)).trans ?_;generalize evC (Ix L) d=Q;unfold Ah0;exact(j7 (by kernel_rfl) (A0 (A0 ((Ah1 L Q Y s (E4 0 (E1 (Ix L) Q Y (cd [1,1,1,1,1,0,1,0,1,1,1,1] WA) (E1 (Ix L) Q Y (cd [1,1,1,1,1,1] WA) (F3 (Ix L) aq2)))) L ds_z ds_t ds v 65 (a8 65 [(SV.int .u8 (0:Int))])).trans (by kernel_rfl)) rfl) rfl))
noncomputable def WH(L:Nat):Cfg:=B7 L [244] (A2 []) [(231,TE)] (A2 [(9,[4]),(8,[8]),(7,[4]),(6,[5,0]),(5,[0,4,0]),(4,[0,4]),(3,[4]),(2,[0,11]),(1,[0,0,8]),(0,[0,0])]) [] (A2 []) (some [4]) [] [] []
noncomputable def Bu2{R:Type}(L:Nat)(v:Int)(a:By->Option R):Option R:=cond (ltN v 65536) (cond ((16:Int)==16) (a (P4 (j6 v))) none) none
theorem Cp3(d:Nat)(v):evC (WH L) (d+1) Z Y 244 [p64 v,pI (16:Int)] [] s=Bu2 L v (λa=>some (pS a,[],s)):=by refine(evE (fn:=Tryz.f244) (by kernel_rfl)).trans ?_;generalize evC (WH L) d=Q;unfold Bu2;kernel_rfl
noncomputable def A05(L:Nat):Cfg:=B7 L [227] (A2 []) [(244,TR)] (A2 [(1,[4]),(0,[0,0])]) [244] (A2 []) (some [4]) [] [] []
noncomputable def C96{R:Type}(L:Nat)(v:Int)(a:By->Option R):Option R:=cond (ltN v 65536) (cond ((16:Int)==16) (a (P4 (j6 v))) none) none
theorem C97(d:Nat)(v):evC (A05 L) (d+1) Z Y 227 [p64 v,pI (16:Int)] [] s=C96 L v (λa=>some (pS a,[],s)):=by refine(evE (fn:=Tryz.f227) (by kernel_rfl)).trans ?_;generalize evC (A05 L) d=Q;unfold C96;kernel_rfl
end
end
end Go.Proofs.YtfkhfkjcidamaaaGreatDoor.E
namespace Go.Proofs
open Go.Shelf
def Tryz.lays156_ren:ab0:=⟨fun|156=>202|165=>224|166=>225|169=>226|240=>242|241=>243|276=>256|277=>257|n=>n,fun|31=>56|9=>9|3=>3|4=>4|0=>0|20=>20|72=>220|76=>224|70=>218|37=>154|75=>223|127=>240|164=>246|5=>5|80=>226|n=>n,fun|n=>n⟩
theorem Tryz.lays156:as8 o9 Tryz.lays156_ren:={
 mixed:=by kernel_rfl
 f156:=Tryz.func202.trans (congrArg some (by kernel_rfl))
 f165:=Tryz.func224.trans (congrArg some (by kernel_rfl))
 f166:=Tryz.func225.trans (congrArg some (by kernel_rfl))
 f169:=Tryz.func226.trans (congrArg some (by kernel_rfl))
 f240:=Tryz.func242.trans (congrArg some (by kernel_rfl))
 f241:=Tryz.func243.trans (congrArg some (by kernel_rfl))
 f276:=Tryz.func256.trans (congrArg some (by kernel_rfl))
 f277:=Tryz.func257.trans (congrArg some (by kernel_rfl))
 t0:=aa8
 a0:=ae2
 z0:=ad5
 v0:=ab5
 t3:=w6
 a3:=ac0
 z3:=ab2
 v3:=x6
 t4:=x7
 a4:=ac7
 z4:=ab8
 v4:=x9
 t9:=aa0
 a9:=ad3
 z9:=ac9
 v9:=aa5
 t20:=am6
 a20:=as0
 z20:=ap4
 v20:=an4
 t31:=Tryz.underlying56
 a31:=Tryz.isAgg56
 z31:=Tryz.sizeOf56
 v31:=Tryz.zeroValue56
 t37:=ak6
 a37:=ap1
 z37:=ao4
 v37:=am7
 t70:=Tryz.underlying218
 a70:=Tryz.isAgg218
 z70:=Tryz.sizeOf218
 v70:=Tryz.zeroValue218
 t72:=Tryz.underlying220
 a72:=Tryz.isAgg220
 z72:=Tryz.sizeOf220
 v72:=Tryz.zeroValue220
 t75:=Tryz.underlying223
 a75:=Tryz.isAgg223
 z75:=Tryz.sizeOf223
 v75:=Tryz.zeroValue223
 t76:=Tryz.underlying224
 a76:=Tryz.isAgg224
 z76:=Tryz.sizeOf224
 v76:=Tryz.zeroValue224
 t127:=Tryz.underlying240
 a127:=Tryz.isAgg240
 z127:=Tryz.sizeOf240
 v127:=Tryz.zeroValue240
 t164:=Tryz.underlying246
 a164:=Tryz.isAgg246
 z164:=Tryz.sizeOf246
 v164:=Tryz.zeroValue246 }
theorem Tryz.Builder_Extra_156:Builder.Extra o9 Tryz.lays156_ren:={
 sizeBuilder:=by kernel_rfl
 liesBuilder:=by kernel_rfl
 t5:=y9
 a5:=ad2
 z5:=ac8
 v5:=aa4
 infoByte:=by kernel_rfl
 cellsByte:=by kernel_rfl
 sizeByte:=by kernel_rfl
 neB5:=by decide }
def Tryz.lays195_ren:ab0:=⟨fun|195=>223|n=>n,fun|9=>9|3=>3|0=>0|4=>4|n=>n,fun|n=>n⟩
theorem Tryz.lays195:as9 o9 Tryz.lays195_ren:={
 mixed:=by kernel_rfl
 f195:=ar6.trans (congrArg some (by kernel_rfl))
 t0:=aa8
 a0:=ae2
 z0:=ad5
 v0:=ab5
 t3:=w6
 a3:=ac0
 z3:=ab2
 v3:=x6
 t4:=x7
 a4:=ac7
 z4:=ab8
 v4:=x9
 t9:=aa0
 a9:=ad3
 z9:=ac9
 v9:=aa5 }
def Tryz.laysM171_ren:ab0:=⟨fun|171=>123|243=>169|246=>206|283=>228|284=>229|285=>230|286=>231|129=>151|317=>245|318=>246|319=>247|320=>248|337=>258|338=>259|n=>n,fun|3=>3|9=>9|2=>2|4=>4|171=>228|0=>0|53=>167|37=>154|5=>5|173=>230|212=>242|51=>24|20=>20|213=>243|46=>103|232=>249|233=>250|n=>n,fun|17=>3|18=>4|19=>5|n=>n⟩
theorem Tryz.laysM171:as1 o9 Tryz.laysM171_ren:={
 mixed:=by kernel_rfl
 f129:=Tryz.func151.trans (congrArg some (by kernel_rfl))
 f171:=Tryz.func123.trans (congrArg some (by kernel_rfl))
 f243:=Tryz.func169.trans (congrArg some (by kernel_rfl))
 f246:=Tryz.func206.trans (congrArg some (by kernel_rfl))
 f283:=Tryz.func228.trans (congrArg some (by kernel_rfl))
 f284:=Tryz.func229.trans (congrArg some (by kernel_rfl))
 f285:=Tryz.func230.trans (congrArg some (by kernel_rfl))
 f286:=Tryz.func231.trans (congrArg some (by kernel_rfl))
 f317:=Tryz.func245.trans (congrArg some (by kernel_rfl))
 f318:=Tryz.func246.trans (congrArg some (by kernel_rfl))
 f319:=Tryz.func247.trans (congrArg some (by kernel_rfl))
 f320:=ar7.trans (congrArg some (by kernel_rfl))
 f337:=ar8.trans (congrArg some (by kernel_rfl))
 f338:=ar9.trans (congrArg some (by kernel_rfl))
 t0:=aa8
 a0:=ae2
 z0:=ad5
 v0:=ab5
 t2:=Tryz.underlying2
 a2:=Tryz.isAgg2
 z2:=Tryz.sizeOf2
 v2:=Tryz.zeroValue2
 t3:=w6
 a3:=ac0
 z3:=ab2
 v3:=x6
 t4:=x7
 a4:=ac7
 z4:=ab8
 v4:=x9
 t5:=y9
 a5:=ad2
 z5:=ac8
 v5:=aa4
 t9:=aa0
 a9:=ad3
 z9:=ac9
 v9:=aa5
 t20:=am6
 a20:=as0
 z20:=ap4
 v20:=an4
 t37:=ak6
 a37:=ap1
 z37:=ao4
 v37:=am7
 t46:=aa9
 a46:=ad8
 z46:=ad1
 v46:=ab3
 t51:=ad9
 a51:=ag7
 z51:=ag2
 v51:=ae5
 t53:=ah0
 a53:=ak3
 z53:=aj5
 v53:=ah8
 t171:=Tryz.underlying228
 a171:=Tryz.isAgg228
 z171:=Tryz.sizeOf228
 v171:=Tryz.zeroValue228
 t173:=Tryz.underlying230
 a173:=Tryz.isAgg230
 z173:=Tryz.sizeOf230
 v173:=Tryz.zeroValue230
 t212:=Tryz.underlying242
 a212:=Tryz.isAgg242
 z212:=Tryz.sizeOf242
 v212:=Tryz.zeroValue242
 t213:=Tryz.underlying243
 a213:=Tryz.isAgg243
 z213:=Tryz.sizeOf243
 t232:=ak7
 a232:=ap2
 z232:=ao5
 v232:=am8
 t233:=ak8
 a233:=ap3
 z233:=ao6
 v233:=Tryz.zeroValue250
 g17:=by kernel_rfl
 g18:=by kernel_rfl
 g19:=by kernel_rfl
 i0:=by kernel_rfl
 i2:=by kernel_rfl
 i3:=by kernel_rfl
 i4:=by kernel_rfl
 i5:=by kernel_rfl
 i9:=by kernel_rfl
 i20:=by kernel_rfl
 i37:=by kernel_rfl
 i46:=by kernel_rfl
 i51:=by kernel_rfl
 i53:=by kernel_rfl
 i171:=by kernel_rfl
 i173:=by kernel_rfl
 i212:=by kernel_rfl
 i232:=by kernel_rfl
 i233:=by kernel_rfl
 m17:=by kernel_rfl
 m18:=by kernel_rfl
 m19:=by kernel_rfl }
def Tryz.lays143_ren:ab0:=⟨fun|143=>179|219=>152|217=>187|225=>188|224=>189|267=>190|266=>217|314=>218|n=>n,fun|9=>9|3=>3|4=>4|5=>5|46=>103|146=>216|51=>24|n=>n,fun|1=>0|n=>n⟩
theorem Tryz.lays143:as5 o9 Tryz.lays143_ren:={
 mixed:=by kernel_rfl
 f143:=ar5.trans (congrArg some (by kernel_rfl))
 f217:=ag5.trans (congrArg some (by kernel_rfl))
 f219:=am3.trans (congrArg some (by kernel_rfl))
 f224:=ai5.trans (congrArg some (by kernel_rfl))
 f225:=ai4.trans (congrArg some (by kernel_rfl))
 f266:=ag6.trans (congrArg some (by kernel_rfl))
 f267:=am4.trans (congrArg some (by kernel_rfl))
 f314:=am5.trans (congrArg some (by kernel_rfl))
 t3:=w6
 a3:=ac0
 z3:=ab2
 v3:=x6
 t4:=x7
 a4:=ac7
 z4:=ab8
 v4:=x9
 t5:=y9
 a5:=ad2
 z5:=ac8
 v5:=aa4
 t9:=aa0
 a9:=ad3
 z9:=ac9
 v9:=aa5
 t46:=aa9
 a46:=ad8
 z46:=ad1
 v46:=ab3
 t51:=ad9
 a51:=ag7
 z51:=ag2
 v51:=ae5
 t146:=ah1
 a146:=ak4
 z146:=aj6
 v146:=ah9
 g1:=by kernel_rfl }
def Tryz.lays145_ren:ab0:=⟨fun|145=>73|220=>109|219=>152|217=>187|225=>188|224=>189|267=>190|266=>217|314=>218|n=>n,fun|9=>9|4=>4|59=>117|3=>3|5=>5|46=>103|146=>216|51=>24|n=>n,fun|1=>0|n=>n⟩
theorem Tryz.lays145:as6 o9 Tryz.lays145_ren:={
 mixed:=by kernel_rfl
 f145:=Tryz.func73.trans (congrArg some (by kernel_rfl))
 f217:=ag5.trans (congrArg some (by kernel_rfl))
 f219:=am3.trans (congrArg some (by kernel_rfl))
 f220:=Tryz.func109.trans (congrArg some (by kernel_rfl))
 f224:=ai5.trans (congrArg some (by kernel_rfl))
 f225:=ai4.trans (congrArg some (by kernel_rfl))
 f266:=ag6.trans (congrArg some (by kernel_rfl))
 f267:=am4.trans (congrArg some (by kernel_rfl))
 f314:=am5.trans (congrArg some (by kernel_rfl))
 t3:=w6
 a3:=ac0
 z3:=ab2
 v3:=x6
 t4:=x7
 a4:=ac7
 z4:=ab8
 v4:=x9
 t5:=y9
 a5:=ad2
 z5:=ac8
 v5:=aa4
 t9:=aa0
 a9:=ad3
 z9:=ac9
 v9:=aa5
 t46:=aa9
 a46:=ad8
 z46:=ad1
 v46:=ab3
 t51:=ad9
 a51:=ag7
 z51:=ag2
 v51:=ae5
 t59:=Tryz.underlying117
 a59:=Tryz.isAgg117
 z59:=Tryz.sizeOf117
 v59:=Tryz.zeroValue117
 t146:=ah1
 a146:=ak4
 z146:=aj6
 v146:=ah9
 g1:=by kernel_rfl }
def Tryz.lays138_ren:ab0:=⟨fun|138=>235|195=>223|218=>249|143=>179|219=>152|217=>187|225=>188|224=>189|267=>190|266=>217|314=>218|n=>n,fun|9=>9|3=>3|4=>4|5=>5|0=>0|46=>103|146=>216|51=>24|n=>n,fun|1=>0|n=>n⟩
theorem Tryz.lays138:as4 o9 Tryz.lays138_ren:={
 mixed:=by kernel_rfl
 f138:=Tryz.func235.trans (congrArg some (by kernel_rfl))
 f143:=ar5.trans (congrArg some (by kernel_rfl))
 f195:=ar6.trans (congrArg some (by kernel_rfl))
 f217:=ag5.trans (congrArg some (by kernel_rfl))
 f218:=Tryz.func249.trans (congrArg some (by kernel_rfl))
 f219:=am3.trans (congrArg some (by kernel_rfl))
 f224:=ai5.trans (congrArg some (by kernel_rfl))
 f225:=ai4.trans (congrArg some (by kernel_rfl))
 f266:=ag6.trans (congrArg some (by kernel_rfl))
 f267:=am4.trans (congrArg some (by kernel_rfl))
 f314:=am5.trans (congrArg some (by kernel_rfl))
 t0:=aa8
 a0:=ae2
 z0:=ad5
 v0:=ab5
 t3:=w6
 a3:=ac0
 z3:=ab2
 v3:=x6
 t4:=x7
 a4:=ac7
 z4:=ab8
 v4:=x9
 t5:=y9
 a5:=ad2
 z5:=ac8
 v5:=aa4
 t9:=aa0
 a9:=ad3
 z9:=ac9
 v9:=aa5
 t46:=aa9
 a46:=ad8
 z46:=ad1
 v46:=ab3
 t51:=ad9
 a51:=ag7
 z51:=ag2
 v51:=ae5
 t146:=ah1
 a146:=ak4
 z146:=aj6
 v146:=ah9
 g1:=by kernel_rfl }
def Tryz.lays196_ren:ab0:=⟨fun|196=>222|259=>241|n=>n,fun|9=>9|4=>4|3=>3|5=>5|12=>12|119=>233|0=>0|46=>103|139=>236|138=>235|53=>167|n=>n,fun|3=>1|4=>2|n=>n⟩
theorem Tryz.lays196:at3 o9 Tryz.lays196_ren:={
 mixed:=by kernel_rfl
 f196:=Tryz.func222.trans (congrArg some (by kernel_rfl))
 f259:=Tryz.func241.trans (congrArg some (by kernel_rfl))
 t0:=aa8
 a0:=ae2
 z0:=ad5
 v0:=ab5
 t3:=w6
 a3:=ac0
 z3:=ab2
 v3:=x6
 t4:=x7
 a4:=ac7
 z4:=ab8
 v4:=x9
 t5:=y9
 a5:=ad2
 z5:=ac8
 v5:=aa4
 t9:=aa0
 a9:=ad3
 z9:=ac9
 v9:=aa5
 t12:=Tryz.underlying12
 a12:=Tryz.isAgg12
 z12:=Tryz.sizeOf12
 v12:=Tryz.zeroValue12
 t46:=aa9
 a46:=ad8
 z46:=ad1
 v46:=ab3
 t53:=ah0
 a53:=ak3
 z53:=aj5
 v53:=ah8
 t119:=Tryz.underlying233
 a119:=Tryz.isAgg233
 z119:=Tryz.sizeOf233
 t138:=Tryz.underlying235
 a138:=Tryz.isAgg235
 z138:=Tryz.sizeOf235
 v138:=Tryz.zeroValue235
 t139:=Tryz.underlying236
 a139:=Tryz.isAgg236
 z139:=Tryz.sizeOf236
 v139:=Tryz.zeroValue236
 g3:=by kernel_rfl
 g4:=by kernel_rfl }
def Tryz.lays2_21_ren:ab0:=⟨fun|21=>237|27=>251|28=>252|35=>260|39=>261|n=>n,fun|22=>169|3=>3|4=>4|0=>0|n=>n,fun|n=>n⟩
theorem Tryz.lays2_21:at4 o9 Tryz.lays2_21_ren:={
 mixed:=by kernel_rfl
 f21:=Tryz.func237.trans (congrArg some (by kernel_rfl))
 f27:=Tryz.func251.trans (congrArg some (by kernel_rfl))
 f28:=Tryz.func252.trans (congrArg some (by kernel_rfl))
 f35:=Tryz.func260.trans (congrArg some (by kernel_rfl))
 f39:=Tryz.func261.trans (congrArg some (by kernel_rfl))
 t0:=aa8
 a0:=ae2
 z0:=ad5
 v0:=ab5
 t3:=w6
 a3:=ac0
 z3:=ab2
 v3:=x6
 t4:=x7
 a4:=ac7
 z4:=ab8
 v4:=x9
 t22:=Tryz.underlying169
 a22:=Tryz.isAgg169
 z22:=Tryz.sizeOf169
 v22:=Tryz.zeroValue169
 i3:=by kernel_rfl }
def Tryz.lays7_27_ren:ab0:=⟨fun|27=>248|28=>258|29=>259|n=>n,fun|25=>103|3=>3|27=>24|22=>167|4=>4|53=>249|0=>0|5=>5|54=>250|n=>n,fun|0=>4|1=>5|n=>n⟩
theorem Tryz.lays7_27:at5 o9 Tryz.lays7_27_ren:={
 mixed:=by kernel_rfl
 f27:=ar7.trans (congrArg some (by kernel_rfl))
 f28:=ar8.trans (congrArg some (by kernel_rfl))
 f29:=ar9.trans (congrArg some (by kernel_rfl))
 t0:=aa8
 a0:=ae2
 z0:=ad5
 v0:=ab5
 i0:=by kernel_rfl
 t3:=w6
 a3:=ac0
 z3:=ab2
 v3:=x6
 i3:=by kernel_rfl
 t4:=x7
 a4:=ac7
 z4:=ab8
 v4:=x9
 i4:=by kernel_rfl
 t5:=y9
 a5:=ad2
 z5:=ac8
 v5:=aa4
 i5:=by kernel_rfl
 t22:=ah0
 a22:=ak3
 z22:=aj5
 v22:=ah8
 i22:=by kernel_rfl
 t25:=aa9
 a25:=ad8
 z25:=ad1
 v25:=ab3
 i25:=by kernel_rfl
 t27:=ad9
 a27:=ag7
 z27:=ag2
 v27:=ae5
 i27:=by kernel_rfl
 t53:=ak7
 a53:=ap2
 z53:=ao5
 v53:=am8
 i53:=by kernel_rfl
 t54:=ak8
 a54:=ap3
 z54:=ao6
 g0:=by kernel_rfl
 g1:=by kernel_rfl }
def Tryz.lays137_ren:ab0:=⟨fun|137=>157|217=>187|266=>217|n=>n,fun|9=>9|5=>5|3=>3|n=>n,fun|n=>n⟩
theorem Tryz.lays137:as3 o9 Tryz.lays137_ren:={
 mixed:=by kernel_rfl
 f137:=ar4.trans (congrArg some (by kernel_rfl))
 f217:=ag5.trans (congrArg some (by kernel_rfl))
 f266:=ag6.trans (congrArg some (by kernel_rfl))
 t3:=w6
 a3:=ac0
 z3:=ab2
 v3:=x6
 t5:=y9
 a5:=ad2
 z5:=ac8
 v5:=aa4
 t9:=aa0
 a9:=ad3
 z9:=ac9
 v9:=aa5 }
def Tryz.lays153_ren:ab0:=⟨fun|153=>119|152=>159|226=>160|227=>161|228=>162|137=>157|119=>196|224=>189|225=>188|217=>187|266=>217|n=>n,fun|9=>9|3=>3|4=>4|5=>5|21=>21|117=>177|116=>176|0=>0|46=>103|124=>200|n=>n,fun|n=>n⟩
theorem Tryz.lays153:as7 o9 Tryz.lays153_ren:={
 mixed:=by kernel_rfl
 f119:=Tryz.func196.trans (congrArg some (by kernel_rfl))
 f137:=ar4.trans (congrArg some (by kernel_rfl))
 f152:=Tryz.func159.trans (congrArg some (by kernel_rfl))
 f153:=Tryz.func119.trans (congrArg some (by kernel_rfl))
 f217:=ag5.trans (congrArg some (by kernel_rfl))
 f224:=ai5.trans (congrArg some (by kernel_rfl))
 f225:=ai4.trans (congrArg some (by kernel_rfl))
 f226:=Tryz.func160.trans (congrArg some (by kernel_rfl))
 f227:=Tryz.func161.trans (congrArg some (by kernel_rfl))
 f228:=Tryz.func162.trans (congrArg some (by kernel_rfl))
 f266:=ag6.trans (congrArg some (by kernel_rfl))
 t0:=aa8
 a0:=ae2
 z0:=ad5
 v0:=ab5
 t3:=w6
 a3:=ac0
 z3:=ab2
 v3:=x6
 t4:=x7
 a4:=ac7
 z4:=ab8
 v4:=x9
 t5:=y9
 a5:=ad2
 z5:=ac8
 v5:=aa4
 t9:=aa0
 a9:=ad3
 z9:=ac9
 v9:=aa5
 t21:=Tryz.underlying21
 a21:=Tryz.isAgg21
 z21:=Tryz.sizeOf21
 v21:=Tryz.zeroValue21
 t46:=aa9
 a46:=ad8
 z46:=ad1
 v46:=ab3
 t116:=Tryz.underlying176
 a116:=Tryz.isAgg176
 z116:=Tryz.sizeOf176
 t117:=Tryz.underlying177
 a117:=Tryz.isAgg177
 z117:=Tryz.sizeOf177
 v117:=Tryz.zeroValue177
 t124:=Tryz.underlying200
 a124:=Tryz.isAgg200
 z124:=Tryz.sizeOf200
 v124:=Tryz.zeroValue200 }
end Go.Proofs
namespace Go.Proofs.YtfkhfkjcidamaaaGreatDoor.E
set_option linter.all false
section
open Go Go.Proofs Go.Sort
set_option maxRecDepth 100000
theorem XO{C:Cfg}{St:Nat->Prop}{w:World}{g:Nat}{k:IntKind}{zs:List Int}(a:GOK C St w)(b:C.G=GX)(h:GX.tab g=some (k,zs)):∃e x,w.heap[g]? = some (.cells (zs.map λz=>Value.int k z).toArray e x):=(a.1 g k zs (by rw[b];exact h)).2
theorem Co0{C:Cfg}{St:Nat->Prop}{w:World}(a:GOK C St w)(b:C.G=GX):∃m,w.cell? ⟨0,0,none⟩=some (.int .i64 m):=(a.2 _ (by rw[b];rfl)).2
theorem GB{w:World}{g:Nat}{a:List Int}{k:IntKind}{e:TypeId}{x}(h:w.heap[g]? = some (.cells (a.map λz=>Value.int k z).toArray e x))(i:Nat)(b:i<a.length):w.cell? ⟨g,i,none⟩=some (.int k (a.getD i 0)):=by simp[World.cell?,h,b8,j4 b]
theorem C99{C:Cfg}{St:Nat->Prop}{w:World}(f:GOK C St w)(a:C.G=GX):Lib.Utf8Tabs 1 2 w:=by
 obtain⟨j,m,h⟩:=XO (g:=1) (k:=.u8) (zs:=al2) f a rfl;obtain⟨b,n,d⟩:=XO (g:=2) (k:=.u8) (zs:=Ha) f a rfl;refine⟨λc a=>?_,λi l=>⟨?_,?_⟩⟩
 ·rw[GB h c (by simp[al2];omega)];simp[al2,b8,j4,a]
 ·rw[GB d (2*i) (by simp[Ha];omega)];have:2*i<32:=by omega
  simp[Ha,b8,this]
 ·rw[GB d (2*i+1) (by simp[Ha];omega)];have:2*i+1<32:=by omega
  have e:(2*i+1) / 2=i:=by omega
  have b:¬(2*i+1) % 2=0:=by omega
  simp[Ha,b8,this,e,b]
theorem Co1{C:Cfg}{St:Nat->Prop}{w:World}(b:GOK C St w)(c:C.G=GX):Lib.TabIs o9 w "internal/strconv.uint64pow10" .u64 aq6:=by
 obtain⟨d,e,a⟩:=XO (g:=3) (k:=.u64) (zs:=aq6) b c rfl;unfold Lib.TabIs World.var?
 rw [show o9.globalNamed "internal/strconv.uint64pow10" = some 3 by kernel_rfl]
 simp only[an1,a]
theorem Bo5:B3 o9 GX 179 IX:=by
 refine B3.fix (pf:=VE) _ (J2 (fn:=Tryz.f179) (by kernel_rfl) (by kernel_rfl) (by kernel_rfl) ?_);intro args ret o h;unfold VE at h;split at h
 ·rename_i s p;obtain⟨b,h⟩:=C4 h;obtain⟨rfl,rfl⟩:=J6 h;refine⟨rfl,rfl,λC r a t w q c f d=>?_⟩;obtain⟨U,V,rfl,j,k⟩:=d.arr2;obtain⟨n,rfl,rfl⟩:=j.inv_str;obtain⟨l,rfl,rfl⟩:=k.inv_str;obtain⟨m,g⟩:=Co0 c a;have i:=M5 b;refine(Any.strings_Index Tryz.lays143 n l m w (by simp at i;omega) g).mono ?_;rintro e w' ⟨rfl,rfl⟩;exact⟨_,rfl,ag0 _ _,VP.mk_int _ _⟩
 ·cases h
theorem C47:B3 o9 GX 73 Ay2:=by
 refine B3.fix (pf:=VD) _ (J2 (fn:=Tryz.f73) (by kernel_rfl) (by kernel_rfl) (by kernel_rfl) ?_);intro args ret q h;unfold VD at h;split at h
 ·rename_i s p;obtain⟨b,h⟩:=C4 h;obtain⟨rfl,rfl⟩:=J6 h;refine⟨rfl,rfl,λC t a u w r c f d=>?_⟩;obtain⟨U,V,rfl,j,k⟩:=d.arr2;obtain⟨o,rfl,rfl⟩:=j.inv_str;obtain⟨l,rfl,rfl⟩:=k.inv_str;obtain⟨m,g⟩:=Co0 c a;have i:=M5 b;refine(Any.strings_Cut Tryz.lays145 o l m w (by simp at i;omega) g).mono ?_;rintro e w' ⟨rfl,n,rfl⟩;exact⟨_,rfl,Pm _ _,VP.mk_tup3 (VP.mk_str _) (VP.mk_str _) (VP.mk_bool _)⟩
 ·cases h
theorem C46:B3 o9 GX 235 Ay1:=by
 refine B3.fix (pf:=VC) _ (J2 (fn:=Tryz.f235) (by kernel_rfl) (by kernel_rfl) (by kernel_rfl) ?_);intro args ret o h;unfold VC at h;split at h
 ·rename_i s p;obtain⟨f,h⟩:=C4 h;obtain⟨rfl,rfl⟩:=J6 h;refine⟨rfl,rfl,λC t g u w q r j i=>?_⟩;obtain⟨U,V,rfl,l,m⟩:=i.arr2;obtain⟨n,rfl,rfl⟩:=l.inv_str;obtain⟨b,rfl,k⟩:=m.inv_str;obtain⟨c,rfl⟩:∃c,p=[c]:=by
   match p,f with
   | [c],_=>exact⟨c,rfl⟩
  have a:b=⟨#[c]⟩:=by
   cases b with
   | mk d=>congr 1;exact Array.toList_inj.1 k
  subst a;refine(Any.strings_Count_one Tryz.lays138 n c w).mono ?_;rintro e w' ⟨rfl,rfl⟩;exact⟨_,rfl,ag0 _ _,VP.mk_int _ _⟩
 ·cases h
theorem C33:B3 o9 GX 123 Aw9:=by
 refine B3.fix (pf:=TT) _ (J2 (fn:=Tryz.f123) (by kernel_rfl) (by kernel_rfl) (by kernel_rfl) ?_);intro args ret l h;unfold TT at h;split at h
 ·rename_i n;obtain⟨b,h⟩:=C4 h;obtain⟨rfl,rfl⟩:=J6 h;refine⟨rfl,rfl,λC o a p w m c i g=>?_⟩;obtain⟨U,rfl,j⟩:=g.arr1;obtain rfl:=j.inv_int;obtain⟨d,f⟩:=E0.1 b;refine(Any.strconv_Itoa Tryz.laysM171 n (by omega) (by omega) w (Co1 c a)).mono ?_;rintro e w' ⟨rfl,k,os,rfl⟩;refine⟨_,rfl,(Pm w k).trans (show ar3 w.heap.size _ _ from JQ (w.drewN k) os),?_⟩;have:Lib.itoa n=x4 n.toNat:=by unfold Lib.itoa;rw[G0]
  rw[this];exact VP.mk_str _
 ·cases h
theorem Aa2{l:LL}(h:l.all isS=true):l=D5 (l.map elS):=by
 unfold D5;rw[af8]
 symm
 rw[aa3 (g:=id)]
 ·simp
 ·intro x a;have:=y8.1 h x a;unfold isS at this;split at this
  ·rfl
  grind
theorem Bz4:B3 o9 GX 202 VH:=by
 refine B3.fix (pf:=JA) _ (J2 (fn:=Tryz.f202) (by kernel_rfl) (by kernel_rfl) (by kernel_rfl) ?_);intro args ret Hc h;unfold JA at h;split at h
 ·rename_i z t l p;obtain⟨L,h⟩:=C4 h;obtain⟨O,h⟩:=C4 h;obtain⟨P,h⟩:=C4 h;obtain⟨rfl,rfl⟩:=J6 h;refine⟨rfl,rfl,λC hP Q Γ w Vs hG H R=>?_⟩;obtain⟨U,V,rfl,Z,hv⟩:=R.arr2;obtain⟨u,rfl,rfl⟩:=hv.inv_str;have m:=M5 O;have hn:=M5 P;have Y:=Z.inv_s;have c:∀(a:Option Addr) (cap:Nat),l=[]->Calls o9 202 #[.slice a 0 cap,.string u] w λe w'=>∃V,e = .returned V/\ar3 w.heap.size w w'/\VP Γ (A5 []) w' (.s (.str (ab6 (l.map elS) u.data.toList))) V:=by
   intro a cap T;subst T;refine(Any.strings_Join_none Tryz.lays156 Tryz.Builder_Extra_156 a cap u w).mono ?_;rintro e w' ⟨rfl,rfl⟩;exact⟨_,rfl,ag0 _ _,VP.mk_str _⟩
  cases Y with
  | nil=>exact c _ _ rfl
  | emp=>exact c _ _ rfl
  | sl _ _ g off n cap sz Vc I M hm ht S W y K=>
   subst I;have N:=Aa2 L;have J:∀i (h:i<l.length),∃b:ByteArray,(l[i])=[SV.str b.data.toList]/\w.cell? ⟨g,off+i,none⟩=some (.string b):=by
    intro i B;have d:=y8.1 L (l[i]) (List.getElem_mem B);unfold isS at d;split at d
    ·rename_i x r;have k:=y i B 0 (by rw[r];simp);have o:=K i B 0 (by rw[r];simp);simp only[r,List.getElem_cons_zero] at o;obtain⟨b,f,rfl⟩:=o.inv_str;rw[f] at k;exact⟨b,r,by simpa using k⟩
    ·cases d
   obtain⟨xs,q,A⟩:∃xs:List ByteArray,xs.map (·.data.toList)=l.map elS/\∀(j:Nat) x,xs[j]? = some x->w.cell? ⟨g,off+j,none⟩=some (.string x):=by
    refine⟨(l.map elS).map λs=>⟨s.toArray⟩,by simp[ah3],?_⟩;intro j x d;simp only[al4] at d;cases D:l[j]? with
    | none=>simp[D] at d
    | some el=>
     obtain⟨F,rfl⟩:=List.getElem?_eq_some_iff.1 D;obtain⟨b,f,v⟩:=J j F;simp only[D,ac4,j5] at d;rw[f] at d;simp[elS,SV.gS] at d;rw[<-d];exact v
   have G:xs.length=l.length:=by
    have:=congrArg o6 q;simpa using this
   rw[<-q] at m ⊢;have f:g<w.heap.size:=H g S;have X:l.length<=140737488355328:=by omega
   refine(G▸Any.strings_Join Tryz.lays156 Tryz.Builder_Extra_156 g off cap xs u w A f (by omega) (by omega) (by omega)).mono ?_;rintro e w' ⟨rfl,hw⟩;exact⟨_,rfl,hw,VP.mk_str _⟩
 ·cases h
theorem NS(b:Nat)(f:b<=9223372036854775808):B3 o9 GX 95 (Lu b):=by
 induction b with
 | zero=>
  intro args ret c h;exfalso;unfold Lu Iu at h;split at h
  ·rename_i n g;obtain⟨a,h⟩:=C4 h;have:=E0.1 a;omega
  ·cases h
 | succ b d=>
  refine B3.fix (pf:=Iu (b+1)) _ (J3 [] (C₀:=AY b) (N2.ok (l:=[(95,Lu b)]) rfl ⟨d (by omega),trivial⟩) (J1 rfl (by kernel_rfl)) follows ?_);intro args ret c h;unfold Iu at h;split at h
  ·rename_i n;obtain⟨a,h⟩:=C4 h;obtain⟨rfl,rfl⟩:=J6 h;have e:=(A44 b noY () 0 n).trans (XN b (by omega) n a);exact⟨rfl,rfl,rfl,1,_,_,e,rfl⟩
  ·cases h
theorem ST:B3 o9 GX 95 Zt:=NS 4294967296 (by omega)
theorem D25(x:Nat)(h:x<65536):Az5 .u64 (x:Int) 15=((x % 16:Nat):Int):=by unfold Az5;rw[show al0 .u64=64 from rfl,show(15:Int)=((15:Nat):Int) from rfl,Dr0 64 x 15 (by omega) (by omega),show x &&& 15=x % 16 from Nat.and_two_pow_sub_one_eq_mod x 4];exact Ab5 (by omega) (by omega)
theorem D67(x:Nat):Qp .u64 (x:Int) 4=((x / 16:Nat):Int):=by unfold Qp;show Int.fdiv (x:Int) 16=_;grind
theorem Bt0(d:Nat)(h:d<16):bAt (([48,49,50,51,52,53,54,55,56,57,97,98,99,100,101,102,103,104,105,106,107,108,109,110,111,112,113,114,115,116]:List UInt8)++([117,118,119,120,121,122]:List UInt8)) (d:Int)=((Kx d).toNat:Int):=by
 have:∀d:Fin 16,bAt (([48,49,50,51,52,53,54,55,56,57,97,98,99,100,101,102,103,104,105,106,107,108,109,110,111,112,113,114,115,116]:List UInt8)++([117,118,119,120,121,122]:List UInt8)) (d.val:Int)=((Kx d.val).toNat:Int):=by decide
 exact this ⟨d,h⟩
def Uo(i:Nat)(s:By):LL:=a8 i [SV.int .u8 0]++s.map E2
theorem KJ(i:Nat)(s:By):(Uo i s).length=i+s.length:=by simp[Uo]
theorem Af8(i:Nat)(s:By)(c:UInt8):al7 (Uo (i+1) s) i (G3 (o7 (Uo (i+1) s) i []) 0 [SV.int .u8 (c.toNat:Int)])=Uo i (c::s):=by
 have a:o7 (Uo (i+1) s) i []=[SV.int .u8 0]:=by
  unfold Uo;grind
 rw[a];unfold Uo;rw[List.replicate_succ',x3,List.set_append_right _ _ (by simp),List.length_replicate,ar1];rfl
theorem A41{R:Type}(z t:Bool)(l:LL){e:Bool->Bool->LL->Int->Int->LL->Option R}:∀(v i n:Nat) (s:By),v<65536->v<n->i+s.length=65->(P4 v).length+s.length<=60->
  ∃(u a:Nat) (b:By),u<16/\Kx u::b=P4 v++s/\a+b.length=65/\Kv LF n z t l (v:Int) (i:Int) (Uo i s) e=e z t l (u:Int) (a:Int) (Uo a b):=by
 intro v
 induction v using ac3 with
 | _ v w=>
  intro i n s r y q x;obtain⟨n,rfl⟩:∃m,n=m+1:=⟨n-1,by omega⟩
  rw[Kv];by_cases h:v<16
  ·refine⟨v,i,s,h,by rw[Y8 h];rfl,q,?_⟩;rw[A8];rfl
  ·have d:=X2 h;have c:(P4 v).length=(P4 (v / 16)).length+1:=by rw[d];simp
   obtain⟨j,rfl⟩:∃j,i=j+1:=⟨i-1,by omega⟩
   have f:A1 (((j+1:Nat):Int)-1)=(j:Int):=by rw[A7];omega
   obtain⟨u,a,b,g,k,o,p⟩:=w (v / 16) (by omega) j n (Kx (v % 16)::s) (by omega) (by omega) (by rw[p9];omega) (by rw[p9];omega);refine⟨u,a,b,g,by rw[k,d];simp,o,?_⟩;rw[A6,j0,cond_true,D25 v r];simp only[vl];rw[D67,f,b9,F1,Bt0 _ (by omega),F1];simp only[cond_true];rw[Af8,KJ,show(decide (j<j+1+s.length))=true from decide_eq_true (by omega)];exact p
theorem B17{R:Type}{k0:By->LL->Option R}(z t:Bool)(l:LL)(v:Int)(f:ltN v 65536=true):∃p,Ah0 LF z t l v k0=k0 (P4 v.toNat) p:=by
 obtain⟨d,m⟩:=E0.1 f;obtain⟨v,rfl⟩:=j8 d;have k:=C5;have r:=Xh v (by omega);rw[b9];unfold Ah0;have o:(a8 65 [SV.int .u8 (0:Int)])=Uo 65 []:=by unfold Uo;rw[ar0,x5]
 rw[o];obtain⟨u,i,s,g,c,q,h⟩:=A41 (R:=R) z t l v 65 LF [] (by omega) (by omega) rfl (by rw[ab4];omega);rw[x5] at c;have n:s.length<=3:=by have:=congrArg o6 c;rw[p9] at this;omega
 obtain⟨j,rfl⟩:∃j,i=j+1:=⟨i-1,by omega⟩
 refine⟨Uo j (Kx u::s),?_⟩;rw[show((16:Int)==16)=true from rfl,cond_true,cond_true];refine j7 h ?_;have e:A1 (((j+1:Nat):Int)-1)=(j:Int):=by rw[A7];omega
 simp only[vl];rw[e,b9,F1,Bt0 u g,F1];simp only[cond_true];have a:(Kx u::s).length=s.length+1:=rfl;have b:((Uo j (Kx u::s)).drop j).take (65-j)=(Kx u::s).map E2:=by
  unfold Uo;rw[List.drop_left' (by simp),v8 (by rw[p4,a];omega)]
 rw[Af8,KJ,KJ,show(decide (j<j+1+s.length))=true from decide_eq_true (by omega),a,show(decide (j+(s.length+1)=65))=true from decide_eq_true (by omega),I8,b,Y2,Z1,c];rfl
theorem A42(z t:Bool)(l:LL)(v:Int)(c:ltN v 65536=true):∃r H,Ah0 LF z t l v (λb a=>rv (.tup [.fl 0,.s (.str b)]) [.arr true 5 1 [],.arr false 243 1 a])=rv r H/\r.stab [1,0] H = .tup [.s (.sl true true 1 []),.s (.str (P4 v.toNat))]:=by obtain⟨d,e⟩:=B17 (k0:=(λb a=>rv (.tup [.fl 0,.s (.str b)]) [.arr true 5 1 [],.arr false 243 1 a])) z t l v c;exact⟨_,_,e,rfl⟩
theorem B19{C:Cfg}{St:Nat->Prop}{w:World}(c:GOK C St w)(d:C.G=GX):TabAt 5 al1 w:=by obtain⟨e,f,b⟩:=XO (g:=5) (k:=.u8) (zs:=al1.map λn:Nat=>(n:Int)) c d rfl;intro j a;rw[GB b j (by rw[p4];exact a)];simp[b8,j4 a]
theorem D68:B3 o9 GX 248 Ds2:=by
 refine B3.fix (pf:=Cj4) _ (J2 (fn:=Tryz.f248) (by kernel_rfl) (by kernel_rfl) (by kernel_rfl) ?_);intro args ret i h;unfold Cj4 at h;split at h
 ·rename_i x;obtain⟨b,h⟩:=C4 h;obtain⟨rfl,rfl⟩:=J6 h;obtain rfl:x=16:=eq_of_beq b;refine⟨rfl,rfl,λC k a l w j c f d=>?_⟩;obtain⟨U,rfl,g⟩:=d.arr1;obtain rfl:=g.inv_int;refine(Any7.bits_TrailingZeros Tryz.lays7_27 16 (by omega) w (λ_=>B19 c a)).mono ?_;rintro e w' ⟨rfl,rfl⟩;exact⟨_,rfl,ag0 _ _,VP.mk_int _ _⟩
 ·cases h
theorem Dm8:B3 o9 GX 247 TS:=by
 refine B3.fix (pf:=HO) _ (J3 [] (C₀:=WI LF) (N2.ok (l:=[]) rfl trivial) (J1 rfl (by kernel_rfl)) follows ?_);intro args ret b h;unfold HO at h;split at h
 ·rename_i x;obtain⟨a,h⟩:=C4 h;obtain⟨rfl,rfl⟩:=J6 h;obtain rfl:x=16:=eq_of_beq a;exact⟨rfl,rfl,rfl,1,_,_,Cp9 LF noY () 0,rfl⟩
 ·cases h
theorem Dm4:B3 o9 GX 231 TE:=by
 refine B3.fix (pf:=HH) _ (J3 [1,0] (C₀:=Ix LF) (N2.ok (l:=[(247,TS),(248,Ds2)]) rfl ⟨Dm8,D68,trivial⟩) (J1 rfl (by kernel_rfl)) follows ?_);intro args ret k h;unfold HH at h;split at h
 ·rename_i c a ds v b neg app;obtain⟨d,h⟩:=C4 h;obtain⟨f,h⟩:=C4 h;obtain⟨g,h⟩:=C4 h;obtain⟨i,h⟩:=C4 h;obtain⟨rfl,rfl⟩:=J6 h;obtain rfl:b=16:=eq_of_beq f;obtain rfl:neg=false:=by simpa using g
  obtain rfl:app=false:=by simpa using i
  obtain⟨r,H,e,j⟩:=A42 c a ds v d;exact⟨rfl,rfl,rfl,1,r,H,(Cn7 LF noY () 0 c a ds v).trans e,j⟩
 ·cases h
theorem Dm7:B3 o9 GX 244 TR:=by
 refine B3.fix (pf:=HN) _ (J3 [] (C₀:=WH LF) (N2.ok (l:=[(231,TE)]) rfl ⟨Dm4,trivial⟩) (J1 rfl (by kernel_rfl)) follows ?_);intro args ret f h;unfold HN at h;split at h
 ·rename_i v b;obtain⟨a,h⟩:=C4 h;obtain⟨c,h⟩:=C4 h;obtain⟨rfl,rfl⟩:=J6 h;obtain rfl:b=16:=eq_of_beq c;have e:Bu2 LF v (λd=>rv (.s (.str d)) [])=rv (.s (.str (P4 v.toNat))) []:=by
   unfold Bu2;rw[a];rfl
  exact⟨rfl,rfl,rfl,1,_,_,(Cp3 LF noY () 0 v).trans e,rfl⟩
 ·cases h
theorem Dy9:B3 o9 GX 227 Ch0:=by
 refine B3.fix (pf:=TF) _ (J3 [] (C₀:=A05 LF) (N2.ok (l:=[(244,TR)]) rfl ⟨Dm7,trivial⟩) (J1 rfl (by kernel_rfl)) follows ?_);intro args ret f h;unfold TF at h;split at h
 ·rename_i v b;obtain⟨a,h⟩:=C4 h;obtain⟨c,h⟩:=C4 h;obtain⟨rfl,rfl⟩:=J6 h;obtain rfl:b=16:=eq_of_beq c;have e:C96 LF v (λd=>rv (.s (.str d)) [])=rv (.s (.str (P4 v.toNat))) []:=by
   unfold C96;rw[a];rfl
  exact⟨rfl,rfl,rfl,1,_,_,(C97 LF noY () 0 v).trans e,rfl⟩
 ·cases h
end
section
open Go Go.Proofs
theorem Dy0(z t:Bool)(l:LL)(c:l.all Xn=true)(d:x8 l.length 8=true):∃r H,v6j LF z t l (λb a=>rv (.s (.str b)) [.arr true 9 1 a])=rv r H/\r.stab [] H = .s (.str (K6 (l.map elN))):=by obtain⟨f,e⟩:=C23 (k0:=(λb a=>rv (.s (.str b)) [.arr true 9 1 a])) z t l c d;exact⟨_,_,e,rfl⟩
theorem Dx8(a b c d f g h i:Int)(l:ok8 a b c d f g h i=true):∃r H,v6f LF a b c d f g h i (λk j=>rv (.s (.str k)) [.arr false 26 1 j])=rv r H/\r.stab [] H = .s (.str (Ak (n8 a b c d f g h i))):=by obtain⟨m,e⟩:=C21 (k0:=(λk j=>rv (.s (.str k)) [.arr false 26 1 j])) a b c d f g h i l;exact⟨_,_,e,rfl⟩
def v6V(s:By):PV:=.tup [.agg [.s (.int .u16 (v6c 0 s)),.s (.int .u16 (v6c 1 s)),.s (.int .u16 (v6c 2 s)),.s (.int .u16 (v6c 3 s)),.s (.int .u16 (v6c 4 s)),.s (.int .u16 (v6c 5 s)),.s (.int .u16 (v6c 6 s)),.s (.int .u16 (v6c 7 s))],.s (.bool (v6B s).isSome)]
theorem Dy3(s:By)(k:A3 s.length=true):∃r H,v6p LF s (λb c d f g h i j r8 a l10=>rv (.tup [.agg [.s (.int .u16 b),.s (.int .u16 c),.s (.int .u16 d),.s (.int .u16 f),.s (.int .u16 g),.s (.int .u16 h),.s (.int .u16 i),.s (.int .u16 j)],.s (.bool r8)]) [.arr false 26 1 a,.arr false 26 1 l10])=rv r H/\r.stab [0,0] H=v6V s:=by obtain⟨l,m,e⟩:=C24 (k0:=(λb c d f g h i j r8 a l10=>rv (.tup [.agg [.s (.int .u16 b),.s (.int .u16 c),.s (.int .u16 d),.s (.int .u16 f),.s (.int .u16 g),.s (.int .u16 h),.s (.int .u16 i),.s (.int .u16 j)],.s (.bool r8)]) [.arr false 26 1 a,.arr false 26 1 l10])) s k;exact⟨_,_,e,rfl⟩
theorem Dj3(s:By)(k:A3 s.length=true):∃r H,Cy2 LF s (λb c d f g h i j r8 a l10=>rv (.tup [.agg [.s (.int .u16 b),.s (.int .u16 c),.s (.int .u16 d),.s (.int .u16 f),.s (.int .u16 g),.s (.int .u16 h),.s (.int .u16 i),.s (.int .u16 j)],.s (.bool r8)]) [.arr false 26 1 a,.arr false 26 1 l10])=rv r H/\r.stab [0,0] H=v6V s:=by obtain⟨l,m,e⟩:=Cb8 (k0:=(λb c d f g h i j r8 a l10=>rv (.tup [.agg [.s (.int .u16 b),.s (.int .u16 c),.s (.int .u16 d),.s (.int .u16 f),.s (.int .u16 g),.s (.int .u16 h),.s (.int .u16 i),.s (.int .u16 j)],.s (.bool r8)]) [.arr false 26 1 a,.arr false 26 1 l10])) s k;exact⟨_,_,e,rfl⟩
set_option maxRecDepth 100000
section
variable {Z R : Type} (L : Nat) (Q : G2) (Y : Yh Z) (s : Z) (k : Out -> St Z -> Option R)
noncomputable abbrev Ae3:Code:=C7 ap8
noncomputable def Hb(L:Nat):Cfg:=B7 L [164] (A2 [(16,[2,0,4,41,0,0])]) [(120,HM),(197,Bp2),(198,Ch3),(199,Br5),(102,Rb),(200,Ci0),(176,PD),(201,Ch7),(202,VH)] (A2 [(28,[2,0]),(25,[2,0]),(27,[2,0]),(26,[2,10,64]),(24,[2,10,59]),(23,[2,10]),(22,[2,5,41,0,0]),(21,[2,5,41,0,0]),(20,[2,0]),(19,[2,5,0,1,0,37,0,0,10]),(18,[2,5,0,1,0,37,0,0]),(17,[2,5,0,0,39,0,0]),(16,[2,5,41,0,0,0]),(15,[2,5,41,0,0]),(14,[2,5]),(13,[2,0]),(12,[2,0]),(11,[2,3,37]),(10,[2,3,0]),(9,[2,1,32]),(8,[2,1]),(7,[2,0]),(6,[2,1,27]),(5,[2,1,0]),(2,[2,0]),(4,[2,0]),(3,[0,1,16]),(1,[0,1,11]),(0,[0,1])]) [120,198,199,102,200,201,202] (A2 [(3,[2,10]),(1,[2,5]),(2,[2,5,41,0,0]),(0,[0,1])]) (some [2,0]) [] [] []
noncomputable def U6{R:Type}(L n:Nat)(a:Nat)(i c:Int)(e:LL)(g:Int->LL->Option R)(h:Nat->LL->Option R):Option R:=match n with|0=>none|n+1=>cond (ltI c i) (cond (inR c a) (cond (okE Ov e (0+(j6 c)) 0) (vl (gX e (0+(j6 c)) 0) λb=>cond (A3 b.length) (vl (↑((I5 b)).2:Int) λd=>cond (d !=0) (g d e) (cond (inR c a) (cond (decide ((0+(j6 c))<e.length)) (vl (al7 e (0+(j6 c)) (G3 (o7 e (0+(j6 c)) []) 0 [(SV.str ((I5 b)).1)])) λf=>U6 L n a i (A1 (c+1)) f g h) none) none)) none) none) none) (h a e)
theorem XP(n:Nat)(a:Nat)(d e:Int)(c:LL):D0 2 ((Hb L).keep 16) (bd (Hb L) Q Y (cd [1,1,1,1,1,1,1,0,1,0,0] Ae3)) n ⟨gp [(2,.ptr 0 0 0),(5,.vw 1 0 a),(41,.vw 1 0 a),(0,pI d),(0,pI e)] 31,[.box [pI (0:Int),pS ([]:List UInt8),p32 (0:Int),p16 (0:Int),p16 (0:Int),p16 (0:Int),p16 (0:Int),p16 (0:Int),p16 (0:Int),p16 (0:Int),p16 (0:Int)],.arr false 9 1 c],s⟩ k =
 U6 L n a d e c (λn0 b=>k .ret ⟨gp [(2,.ptr 0 0 0),(0,pI n0)] 80,[.box [pI (0:Int),pS ([]:List UInt8),p32 (0:Int),p16 (0:Int),p16 (0:Int),p16 (0:Int),p16 (0:Int),p16 (0:Int),p16 (0:Int),p16 (0:Int),p16 (0:Int)],.arr false 9 1 b],s⟩) (λa b=>k (.exit 1) ⟨gp [(2,.ptr 0 0 0),(5,.vw 1 0 a)] 75,[.box [pI (0:Int),pS ([]:List UInt8),p32 (0:Int),p16 (0:Int),p16 (0:Int),p16 (0:Int),p16 (0:Int),p16 (0:Int),p16 (0:Int),p16 (0:Int),p16 (0:Int)],.arr false 9 1 b],s⟩):=by
 induction n generalizing a d e c with
 | zero=>rfl
 | succ n f=>rw[U6];simp only[<-f];kernel_rfl
noncomputable def BY{R:Type}(L:Nat)(a:By)(t:Int->By->Int->Int->Int->Int->Int->Int->Int->Int->Int->Int->Int->By->Int->Int->Int->Int->Int->Int->Int->Int->Int->Option R)(y:Int->By->Int->Int->By->LL->Option R):Option R:=cond (ltI 1024 (a.length:Int)) (t 0 ([]:List UInt8) 0 0 0 0 0 0 0 0 0 3 0 ([]:List UInt8) 0 0 0 0 0 0 0 0 0) (cond (A3 a.length) (cond (af1 ([91]:List UInt8) a) (cond (A3 a.length) (cond (Cp7 a) (vl (↑(B4.kind ((Q4 a)).1):Int) λf=>vl (B4.name ((Q4 a)).1) λr=>vl (↑(B4.v4 ((Q4 a)).1):Int) λg=>vl (↑(o7 (B4.v6 ((Q4 a)).1) 0 0):Int) λh=>vl (↑(o7 (B4.v6 ((Q4 a)).1) 1 0):Int) λi=>vl (↑(o7 (B4.v6 ((Q4 a)).1) 2 0):Int) λj=>vl (↑(o7 (B4.v6 ((Q4 a)).1) 3 0):Int) λl=>vl (↑(o7 (B4.v6 ((Q4 a)).1) 4 0):Int) λm=>vl (↑(o7 (B4.v6 ((Q4 a)).1) 5 0):Int) λn=>vl (↑(o7 (B4.v6 ((Q4 a)).1) 6 0):Int) λo=>vl (↑(o7 (B4.v6 ((Q4 a)).1) 7 0):Int) λp=>vl (↑((Q4 a)).2:Int) λw=>t f r g h i j l m n o p w f r g h i j l m n o p) none) none) (cond (A3 a.length) (cond (not (ai1 (R2 a))) (t 0 ([]:List UInt8) 0 0 0 0 0 0 0 0 0 14 0 ([]:List UInt8) 0 0 0 0 0 0 0 0 0) (cond (A3 (o6 (Fx a))) (vl (Aa5 (Fx a) ([46]:List UInt8)) λb=>cond (A3 b.length) (cond (E9 b) (cond (A3 b.length) (vl (↑(N7 (pnB b)):Int) λq=>cond (not (ai1 (pnB b))) (t 0 ([]:List UInt8) 0 0 0 0 0 0 0 0 0 14 0 ([]:List UInt8) 0 0 0 0 0 0 0 0 0) (t 2 ([]:List UInt8) q 0 0 0 0 0 0 0 0 0 2 ([]:List UInt8) q 0 0 0 0 0 0 0 0)) none) (cond (A3 b.length) (cond (1==1) (vl (D5 (pcs (o7 ([46]:List UInt8) 0 0) b)) λu=>U6 L L (o6 (pcs (o7 ([46]:List UInt8) 0 0) b)) (↑(o6 (pcs (o7 ([46]:List UInt8) 0 0) b)):Int) 0 u (λx v=>y 0 ([]:List UInt8) x 0 ([]:List UInt8) v) (λc d=>cond (ag9 (ad7 c (ae4 0 d)) isS) (cond (A3 (o6 (ab6 (ac1 elS (ad7 c (ae4 0 d))) ([46]:List UInt8)))) (cond (A3 (o6 (ad7 c (ae4 0 d)))) (vl (ab6 (ac1 elS (ad7 c (ae4 0 d))) ([46]:List UInt8)) λe=>cond (ltI 253 (e.length:Int)) (y 0 ([]:List UInt8) 3 0 ([]:List UInt8) d) (cond (A3 e.length) (cond (E9 e) (y 0 ([]:List UInt8) 14 0 ([]:List UInt8) d) (y 1 e 0 1 e d)) none)) none) none) none)) none) none)) none) none)) none)) none)
theorem B28(d:Nat)(raw0):evC (Hb L) (d+1) Z Y 164 [pS raw0] [] s=BY L raw0 (λo p t M N O P S r8 T q r c u e f g h i j l m n=>some (.tup [.agg [pI o,pS p,p32 t,p16 M,p16 N,p16 O,p16 P,p16 S,p16 r8,p16 T,p16 q],pI r],[.box [pI c,pS u,p32 e,p16 f,p16 g,p16 h,p16 i,p16 j,p16 l,p16 m,p16 n]],s)) (λo p t K U J=>some (.tup [.agg [pI o,pS p,p32 (0:Int),p16 (0:Int),p16 (0:Int),p16 (0:Int),p16 (0:Int),p16 (0:Int),p16 (0:Int),p16 (0:Int),p16 (0:Int)],pI t],[.box [pI K,pS U,p32 (0:Int),p16 (0:Int),p16 (0:Int),p16 (0:Int),p16 (0:Int),p16 (0:Int),p16 (0:Int),p16 (0:Int),p16 (0:Int)],.arr false 9 1 J],s)):=by refine(evE (fn:=ap8) (by kernel_rfl)).trans ?_;generalize evC (Hb L) d=Q;unfold BY;exact(j7 (by kernel_rfl) (A0 rfl (A0 (A0 (A0 (A0 (A4 λv=>(A4 λI=>(A4 λw=>(A4 λx=>(A4 λy=>(A4 λz=>(A4 λA=>(A4 λB=>(A4 λC=>(A4 λD=>(A4 λF=>(A4 λG=>rfl)))))))))))) rfl) rfl) (A0 (A0 rfl (A0 (A4 λa=>(A0 (A0 (A0 (A4 λH=>(A0 rfl rfl)) rfl) (A0 (A0 (A4 λb=>((XP L Q Y s (E4 1 (E1 (Hb L) Q Y (cd [1,1,1,1,1,1,1,1] Ae3) (F3 (Hb L) ap8))) L (o6 (pcs (o7 ([46]:List UInt8) 0 0) a)) (↑(o6 (pcs (o7 ([46]:List UInt8) 0 0) a)):Int) 0 b).trans (by kernel_rfl))) rfl) rfl)) rfl)) rfl)) rfl)) rfl)))
noncomputable abbrev Bs1:Code:=C7 ap7
noncomputable def Mb(L:Nat):Cfg:=B7 L [141] (A2 [(6,[0,1,0,1,10,0,0])]) [(180,Ch9),(181,Ax4)] (A2 [(13,[2]),(12,[0,3,0,2]),(11,[0,2,1,10,0,0]),(10,[0,2,1,10,0,0]),(9,[2]),(8,[0,2,1,1,8,0,0,8]),(7,[0,2,1,1,8,0,0]),(6,[0,2,1,10,0,0,0]),(5,[0,2,1,10,0,0]),(4,[0,2,1]),(3,[2]),(2,[0,2,11]),(1,[0,2,0]),(0,[0])]) [181] (A2 [(0,[0,2,1]),(1,[0,2,1,10,0,0])]) (some [2]) [] [] []
noncomputable def Z0{R:Type}(L n:Nat)(i:By)(b:Bool)(a:LL)(c:Bool)(h e:Int)(f:Unit->Option R)(g:By->Bool->LL->Bool->Option R):Option R:=match n with|0=>none|n+1=>cond (ltI e h) (cond (inR e a.length) (cond (okE Lq a (j6 e) 0) (vl (gE a (j6 e) 0) λd=>cond (not (ltI d 65)) (cond (not (ltI 90 d)) (f ()) (cond c (Z0 L n i b a (ltI d 128) h (A1 (e+1)) f g) (Z0 L n i b a false h (A1 (e+1)) f g))) (cond c (Z0 L n i b a (ltI d 128) h (A1 (e+1)) f g) (Z0 L n i b a false h (A1 (e+1)) f g))) none) none) (g i b a c)
theorem Aj9(n d a b c n4 n5):D0 0 ((Mb L).keep 6) (bd (Mb L) Q Y (cd [1,1,1,1,0,1,0,0] Bs1)) n ⟨gp [(0,pS d),(2,.s (.sl a a 1 b)),(1,pB c),(10,.s (.sl a a 1 b)),(0,pI n4),(0,pI n5)] 31,[],s⟩ k =
 Z0 L n d a b c n4 n5 (λ_=>k .ret ⟨gp [(2,pB false)] 47,[],s⟩) (λd a b c=>k (.exit 0) ⟨gp [(0,pS d),(2,.s (.sl a a 1 b)),(1,pB c)] 44,[],s⟩):=by
 induction n generalizing d a b c n4 n5 with
 | zero=>rfl
 | succ n e=>rw[Z0];simp only[<-e];kernel_rfl
noncomputable def Bu9{R:Type}(L:Nat)(d:By)(e:Bool->Option R):Option R:=cond (A3 d.length) (cond ((↑((O4 d)).2:Int)!=0) (e false) (Z0 L L d (aq9 ((O4 d)).1) (My ((O4 d)).1) true (↑(o6 (My ((O4 d)).1)):Int) 0 (λ_=>e false) (λg c a b=>cond (ag9 a Oj) (vl ((X8 (ac1 elI a))).1 λh=>vl (↑((X8 (ac1 elI a))).2:Int) λf=>cond (not b) (cond (f==0) (e (h==g)) (e false)) (e false)) none))) none
theorem Cq5(d:Nat)(s0):evC (Mb L) (d+1) Z Y 141 [pS s0] [] s=Bu9 L s0 (λa=>some (pB a,[],s)):=by refine(evE (fn:=ap7) (by kernel_rfl)).trans ?_;generalize evC (Mb L) d=Q;unfold Bu9;exact(j7 (by kernel_rfl) (A0 (A0 rfl ((Aj9 L Q Y s (E4 0 (E1 (Mb L) Q Y (cd [1,1,1,1,1] Bs1) (F3 (Mb L) ap7))) L s0 (aq9 ((O4 s0)).1) (My ((O4 s0)).1) true (↑(o6 (My ((O4 s0)).1)):Int) 0).trans (by kernel_rfl))) rfl))
noncomputable abbrev Ck9:Code:=C7 ap5
noncomputable def Ud(L:Nat):Cfg:=B7 L [104] (A2 [(4,[0,1,26,0])]) [(118,Aw4),(141,Bp5)] (A2 [(11,[2]),(10,[5,0]),(9,[0,28,0]),(8,[2]),(7,[0,28,0,28]),(6,[0,3,24,0]),(5,[0,2,25,0]),(4,[0,28,0,0]),(3,[0,28,0]),(2,[2]),(1,[0,26]),(0,[0])]) [118,141] (A2 [(0,[0]),(1,[0,28,0])]) (some [2]) [] [] []
noncomputable def T5{R:Type}(L n:Nat)(b:By)(e a:Int)(c:Unit->Option R)(d:By->Option R):Option R:=match n with|0=>none|n+1=>cond (ltI a e) (cond (inR a b.length) (cond (not (ltI (bAt b a) (97:Int))) (cond (not (not (ltI 122 (bAt b a)))) (cond (not (ltI (bAt b a) (48:Int))) (cond (not (not (ltI 57 (bAt b a)))) (cond ((bAt b a)!=45) (cond ((bAt b a)!=95) (c ()) (T5 L n b e (A1 (a+1)) c d)) (T5 L n b e (A1 (a+1)) c d)) (T5 L n b e (A1 (a+1)) c d)) (cond ((bAt b a)!=45) (cond ((bAt b a)!=95) (c ()) (T5 L n b e (A1 (a+1)) c d)) (T5 L n b e (A1 (a+1)) c d))) (T5 L n b e (A1 (a+1)) c d)) (cond (not (ltI (bAt b a) (48:Int))) (cond (not (not (ltI 57 (bAt b a)))) (cond ((bAt b a)!=45) (cond ((bAt b a)!=95) (c ()) (T5 L n b e (A1 (a+1)) c d)) (T5 L n b e (A1 (a+1)) c d)) (T5 L n b e (A1 (a+1)) c d)) (cond ((bAt b a)!=45) (cond ((bAt b a)!=95) (c ()) (T5 L n b e (A1 (a+1)) c d)) (T5 L n b e (A1 (a+1)) c d)))) none) (d b)
theorem A81(n a n1 n2):D0 0 ((Ud L).keep 4) (bd (Ud L) Q Y (cd [1,1,0,1,0,0] Ck9)) n ⟨gp [(0,pS a),(28,pI n1),(0,pI n2)] 41,[],s⟩ k =
 T5 L n a n1 n2 (λ_=>k .ret ⟨gp [(2,pB false)] 69,[],s⟩) (λa=>k (.exit 0) ⟨gp [(0,pS a)] 71,[],s⟩):=by
 induction n generalizing a n1 n2 with
 | zero=>rfl
 | succ n b=>rw[T5];simp only[<-b];kernel_rfl
noncomputable def Dd5{R:Type}(L:Nat)(a:By)(b:Bool->Option R):Option R:=cond (ltI (a.length:Int) (1:Int)) (b false) (cond (ltI 63 (a.length:Int)) (b false) (cond (inR 0 a.length) (cond ((bAt a (0:Int))==45) (b false) (vl (A1 ((a.length:Int)-1)) λd=>cond (inR d a.length) (cond ((bAt a d)==45) (b false) (T5 L L a (a.length:Int) 0 (λ_=>b false) (λc=>cond (A3 c.length) (vl (Hl c ([120,110,45,45]:List UInt8)) λe=>cond (not (af1 ([120,110,45,45]:List UInt8) c)) (b true) (cond (A3 e.length) (b (Ek e)) none)) none))) none)) none))
theorem Dd6(d:Nat)(s0):evC (Ud L) (d+1) Z Y 104 [pS s0] [] s=Dd5 L s0 (λb=>some (pB b,[],s)):=by refine(evE (fn:=ap5) (by kernel_rfl)).trans ?_;generalize evC (Ud L) d=Q;unfold Dd5;exact(j7 (by kernel_rfl) (A0 rfl (A0 rfl (A0 (A0 rfl (A4 λa=>(A0 (A0 rfl ((A81 L Q Y s (E4 0 (E1 (Ud L) Q Y (cd [1,1,1] Ck9) (F3 (Ud L) ap5))) L s0 (s0.length:Int) 0).trans (by kernel_rfl))) rfl))) rfl))))
noncomputable abbrev Az6:Code:=C7 aq0
noncomputable def Pp(L:Nat):Cfg:=B7 L [201] (A2 [(9,[2,0,1,20])]) [(222,Ad8),(223,Ad6),(116,Ax0),(181,Ax4),(104,UA)] (A2 [(18,[2,0]),(17,[2,0]),(16,[4,41]),(15,[4]),(14,[2,0]),(13,[8,32]),(12,[8,0]),(11,[5,20]),(10,[5,1,18]),(9,[5,20,0,0]),(8,[5,20]),(7,[4,0]),(6,[4,19]),(5,[0,3]),(2,[2,0]),(4,[2,0]),(3,[0,13]),(1,[0,9]),(0,[0])]) [222,223,116,181,104] (A2 [(1,[5]),(2,[5,20]),(0,[0])]) (some [2,0]) [] [] []
noncomputable def Ft{R:Type}(L n:Nat)(c:LL)(b:By)(a:Nat)(e:LL->By->Nat->Option R):Option R:=match n with|0=>none|n+1=>cond (decide (a<b.length)) (vl ((ai0 ⟨al9 b⟩ a)).1 λd=>cond (G1 (c.length+1)) (Ft L n (c++[[(SV.int .i64 (A1 d))]]) b (a+((ai0 ⟨al9 b⟩ a)).2) e) none) (e c b a)
theorem A65(n:Nat)(a:LL)(c:By)(b:Nat):D0 2 ((Pp L).keep 9) (bd (Pp L) Q Y (cd [1,1,1,0,1,0,1,0,1,0,0] Az6)) n ⟨gp [(5,.fl 0),(20,.it 1)] 21,[.arr true 3 1 a,.iter c b],s⟩ k =
 Ft L n a c b (λa c b=>k (.exit 1) ⟨gp [(5,.fl 0)] 42,[.arr true 3 1 a,.iter c b],s⟩):=by
 induction n generalizing a c b with
 | zero=>rfl
 | succ n d=>rw[Ft];simp only[<-d];kernel_rfl
noncomputable def Aj5{R:Type}(L:Nat)(b:By)(g:By->Int->Option R)(h:By->Int->LL->By->Nat->Option R):Option R:=cond (A3 b.length) (cond (not (ai1 (Dc b))) (g ([]:List UInt8) 4) (cond (A3 b.length) (vl (↑(ag8 b):Int) λi=>cond (ltI 256 i) (g ([]:List UInt8) 3) (cond (A3 b.length) (cond (A3 b.length) (vl (↑(ag8 b):Int) λj=>cond (ltI j (b.length:Int)) (Ft L L [] (B5 b) 0 (λa e d=>cond (ag9 a Oj) (vl ((X8 (ac1 elI a))).1 λf=>vl (↑((X8 (ac1 elI a))).2:Int) λl=>cond (l !=0) (h ([]:List UInt8) 14 a e d) (cond (E8 4 f.length) (vl (([120,110,45,45]:List UInt8)++f) λc=>cond (A3 c.length) (cond (not (K5 c)) (h ([]:List UInt8) 14 a e d) (h c 0 a e d)) none) none)) none)) (cond (A3 (o6 (B5 b))) (cond (not (K5 (B5 b))) (g ([]:List UInt8) 14) (g (B5 b) 0)) none)) none) none)) none)) none
theorem Dc3(d:Nat)(s0):evC (Pp L) (d+1) Z Y 201 [pS s0] [] s=Aj5 L s0 (λa b=>some (.tup [pS a,pI b],[],s)) (λa b c h e=>some (.tup [pS a,pI b],[.arr true 3 1 c,.iter h e],s)):=by refine(evE (fn:=aq0) (by kernel_rfl)).trans ?_;generalize evC (Pp L) d=Q;unfold Aj5;exact(j7 (by kernel_rfl) (A0 (A0 rfl (A0 (A4 λf=>(A0 rfl (A0 (A0 (A4 λg=>(A0 ((A65 L Q Y s (E4 1 (E1 (Pp L) Q Y (cd [1,1,1,0,1,0,1,1] Az6) (E1 (Pp L) Q Y (cd [1,1,1,1] Az6) (F3 (Pp L) aq0)))) L [] (B5 s0) 0).trans (by kernel_rfl)) (A0 (A0 rfl rfl) rfl))) rfl) rfl))) rfl)) rfl))
noncomputable abbrev Tt:Code:=C7 an3
noncomputable def Jt(L:Nat):Cfg:=B7 L [220] (A2 []) [] (A2 [(7,[2]),(2,[2]),(4,[2]),(6,[2]),(5,[0,23]),(3,[0,12]),(1,[0,2]),(0,[0])]) [] (A2 [(0,[])]) (some [2]) [] [] []
noncomputable def Xf{R:Type}(a:Int)(h:Bool)(f:Int->Option R)(g:Int->Bool->Option R):Option R:=cond h (vl (A1 (wu8 (a-97))) λb=>vl (A1 (b+10)) λc=>f c) (cond (not (ltI a 65)) (cond (not (ltI 70 a)) (vl (A1 (wu8 (a-65))) λd=>vl (A1 (d+10)) λe=>f e) (g a (not (ltI 70 a)))) (g a false))
abbrev QO(b:Code):Prop:=∀(k:Out->St Z->Option R) a c,A9 (Jt L) Q Y b ⟨gp [(0,p8 a),(12,pB c)] 21,[],s⟩ k=Xf a c (λn0=>k .ret ⟨gp [(2,pI n0)] 32,[],s⟩) (λa c=>k .normal ⟨gp [(0,p8 a),(23,pB c)] 10,[],s⟩)
theorem A56:QO (R:=R) L Q Y s (cd [1,0,0,1,1,1] Tt):=by intro k a b;unfold Xf;kernel_rfl
noncomputable def Xg{R:Type}(b:Int)(l:Bool)(f:Int->Option R)(j:Int->Bool->Option R):Option R:=cond l (vl (A1 (wu8 (b-48))) λg=>f g) (cond (not (ltI b 97)) (Xf b (not (ltI 102 b)) (λh=>f h) (λc d=>j c d)) (Xf b false (λi=>f i) (λe a=>j e a)))
abbrev BX(b:Code):Prop:=∀(k:Out->St Z->Option R) a c,A9 (Jt L) Q Y b ⟨gp [(0,p8 a),(2,pB c)] 31,[],s⟩ k=Xg a c (λn0=>k .ret ⟨gp [(2,pI n0)] 32,[],s⟩) (λa c=>k .normal ⟨gp [(0,p8 a),(23,pB c)] 10,[],s⟩)
theorem A57(a:Code)(b:QO (R:=R) L Q Y s a):BX (R:=R) L Q Y s (cd [1,0,0,1] (G7 [1,0,0,1,1,1] a Tt)):=by intro k c d;unfold Xg;simp only[<-b k];kernel_rfl
theorem A58:BX (R:=R) L Q Y s (cd [1,0,0,1] Tt):=by intro k a b;exact j7 (by kernel_rfl) (A57 L Q Y s (cd [1,0,0,1,1,1] Tt) (A56 L Q Y s) k a b)
noncomputable def Co9{R:Type}(L:Nat)(c:Int)(d:Int->Option R):Option R:=cond (not (ltI c 48)) (Xg c (not (ltI 57 c)) (λa=>d a) (λe f=>d (-1))) (Xg c false (λb=>d b) (λg h=>d (-1)))
theorem Da7(b:Code)(a:BX (R:=PV × List Blk × Z) L Q Y s b)(c:Int):A9 (Jt L) Q Y (cd [] (G7 [1,0,0,1] b Tt)) ⟨[p8 c]++tps 34,[],s⟩ (F3 (Jt L) an3)=Co9 L c (λe=>some (pI e,[],s)):=by unfold Co9;exact let d:=(E4 0 (E1 (Jt L) Q Y (cd [1,1] Tt) (F3 (Jt L) an3)));(j7 (by kernel_rfl) (A0 ((a d c (not (ltI 57 c))).trans (by kernel_rfl)) ((a d c false).trans (by kernel_rfl))))
theorem Da8(d:Nat)(b0):evC (Jt L) (d+1) Z Y 220 [p8 b0] [] s=Co9 L b0 (λa=>some (pI a,[],s)):=
 (evE (fn:=an3) (by kernel_rfl)).trans (j7 (by kernel_rfl) (Da7 L (evC (Jt L) d) Y s (cd [1,0,0,1] Tt) (A58 L (evC (Jt L) d) Y s) b0))
noncomputable abbrev Ck6:Code:=C7 ap9
noncomputable def Ub(L:Nat):Cfg:=B7 L [198] (A2 [(3,[0,1,0,0,0])]) [(220,Ch4)] (A2 [(14,[2,0]),(4,[0,3,0]),(13,[0,3,0]),(12,[0,3,0]),(11,[2,0]),(10,[0,3,0,0,0,39]),(9,[0,3,0,0,0]),(8,[2,0]),(7,[0,3,0,25]),(6,[0,3,0]),(5,[0,3,0,14]),(3,[0,3,0,8]),(2,[0,3,0]),(1,[0,3]),(0,[0])]) [220] (A2 [(0,[4]),(1,[0,3,0])]) (some [2,0]) [] [] []
noncomputable def U0{R:Type}(L n:Nat)(b:By)(a:Int)(c:LL)(f:LL->Option R)(g:LL->Option R):Option R:=match n with|0=>none|n+1=>cond (ltI a (b.length:Int)) (cond (inR a b.length) (cond ((bAt b a)!=37) (cond (inR a b.length) (cond (G1 (c.length+1)) (U0 L n b (A1 (a+1)) (c++[[(SV.int .u8 (bAt b a))]]) f g) none) none) (cond (not (ltI (A1 (a+2)) (b.length:Int))) (f c) (cond (inR (A1 (a+1)) b.length) (vl (bAt b (A1 (a+1))) λd=>cond (inR d 256) (cond (inR (A1 (a+2)) b.length) (vl (bAt b (A1 (a+2))) λe=>cond (inR e 256) (cond (ltI (Fq (u8n d)) (0:Int)) (f c) (cond (ltI (Fq (u8n e)) (0:Int)) (f c) (vl (A1 ((16:Int)*(Fq (u8n d)))) λh=>vl (A1 (h+(Fq (u8n e)))) λi=>cond (G1 (c.length+1)) (vl (A1 ((A1 (a+2))+1)) λj=>U0 L n b j (c++[[(SV.int .u8 (wu8 i))]]) f g) none))) none) none) none) none))) none) (g c)
theorem A55(n s0 i1 l2):D0 1 ((Ub L).keep 3) (bd (Ub L) Q Y (cd [1,0,1,1,0,1,0,0] Ck6)) n ⟨gp [(0,pS s0),(3,.fl 0),(0,pI i1)] 54,[.arr false 5 1 l2],s⟩ k =
 U0 L n s0 i1 l2 (λa=>k .ret ⟨gp [(2,pS ([]:List UInt8)),(0,pB false)] 56,[.arr false 5 1 a],s⟩) (λa=>k (.exit 0) ⟨gp [(4,.fl 0)] 55,[.arr false 5 1 a],s⟩):=by
 induction n generalizing s0 i1 l2 with
 | zero=>rfl
 | succ n b=>rw[U0];simp only[<-b];kernel_rfl
noncomputable def Co8{R:Type}(L:Nat)(c:By)(d:By->Bool->LL->Option R):Option R:=cond ((decide ((0:Int)<=(c.length:Int)))&&(G1 (j6 (c.length:Int)))) (U0 L L c 0 [] (λb=>d ([]:List UInt8) false b) (λa=>cond (ag9 a Ou) (d (ac1 Ml a) true a) none)) none
theorem Da5(d:Nat)(s0):evC (Ub L) (d+1) Z Y 198 [pS s0] [] s=Co8 L s0 (λb c a=>some (.tup [pS b,pB c],[.arr false 5 1 a],s)):=by refine(evE (fn:=ap9) (by kernel_rfl)).trans ?_;generalize evC (Ub L) d=Q;unfold Co8;exact(j7 (by kernel_rfl) (A0 ((A55 L Q Y s (E4 0 (E1 (Ub L) Q Y (cd [1,0,1,1,1] Ck6) (F3 (Ub L) ap9))) L s0 0 []).trans (by kernel_rfl)) rfl))
noncomputable def WG(L:Nat):Cfg:=B7 L [197] (A2 []) [(219,Dq5)] (A2 [(6,[2,0]),(5,[2,0]),(4,[2,2,15]),(3,[2,2,0]),(2,[0,1,1,8]),(1,[0,1,1]),(0,[0,1])]) [] (A2 []) (some [2,0]) [] [] []
noncomputable def Bt6{R:Type}(L:Nat)(b:By)(l:Int->Int->Int->Int->Int->Int->Int->Int->Int->Int->Int->LL->Option R)(m:Unit->Option R):Option R:=vl (A1 ((b.length:Int)-1)) λa=>cond (inR a b.length) (cond ((bAt b a)==93) (cond (I9 1 a b.length) (cond (A3 (o6 (cut b 1 a))) (vl (↑(v6c 0 (cut b 1 a)):Int) λc=>vl (↑(v6c 1 (cut b 1 a)):Int) λd=>vl (↑(v6c 2 (cut b 1 a)):Int) λe=>vl (↑(v6c 3 (cut b 1 a)):Int) λf=>vl (↑(v6c 4 (cut b 1 a)):Int) λg=>vl (↑(v6c 5 (cut b 1 a)):Int) λh=>vl (↑(v6c 6 (cut b 1 a)):Int) λi=>vl (↑(v6c 7 (cut b 1 a)):Int) λj=>cond (ai1 (v6B (cut b 1 a))) (l 3 c d e f g h i j 0 3 [[(SV.int .u16 c)],[(SV.int .u16 d)],[(SV.int .u16 e)],[(SV.int .u16 f)],[(SV.int .u16 g)],[(SV.int .u16 h)],[(SV.int .u16 i)],[(SV.int .u16 j)]]) (l 0 0 0 0 0 0 0 0 0 14 0 [[(SV.int .u16 c)],[(SV.int .u16 d)],[(SV.int .u16 e)],[(SV.int .u16 f)],[(SV.int .u16 g)],[(SV.int .u16 h)],[(SV.int .u16 i)],[(SV.int .u16 j)]])) none) none) (m ())) none
theorem Co6(d:Nat)(s0):evC (WG L) (d+1) Z Y 197 [pS s0] [] s=Bt6 L s0 (λl c e f g h i j r8 m b a=>some (.tup [.agg [pI l,pS ([]:List UInt8),p32 (0:Int),p16 c,p16 e,p16 f,p16 g,p16 h,p16 i,p16 j,p16 r8],pI m],[.box [pI b,pS ([]:List UInt8),p32 (0:Int),p16 c,p16 e,p16 f,p16 g,p16 h,p16 i,p16 j,p16 r8],.arr false 26 1 a],s)) (λ_=>some (.tup [.agg [pI (0:Int),pS ([]:List UInt8),p32 (0:Int),p16 (0:Int),p16 (0:Int),p16 (0:Int),p16 (0:Int),p16 (0:Int),p16 (0:Int),p16 (0:Int),p16 (0:Int)],pI (14:Int)],[.box [pI (0:Int),pS ([]:List UInt8),p32 (0:Int),p16 (0:Int),p16 (0:Int),p16 (0:Int),p16 (0:Int),p16 (0:Int),p16 (0:Int),p16 (0:Int),p16 (0:Int)]],s)):=by refine(evE (fn:=Tryz.f197) (by kernel_rfl)).trans ?_;generalize evC (WG L) d=Q;unfold Bt6;kernel_rfl
noncomputable def A11(L:Nat):Cfg:=B7 L [39] (A2 []) [(65,Ch6)] (A2 [(9,[2]),(4,[2]),(6,[2]),(8,[2]),(7,[1,31]),(5,[1,1,1,16]),(3,[1,1,1,0]),(2,[1,1,1]),(1,[1,1]),(0,[1])]) [65] (A2 [(0,[])]) (some [2]) [] [] []
noncomputable def Ot{R:Type}(L:Nat)(c:Int)(b:By)(d e f g h i j l a:Int)(m:Bool->Int->By->Int->Int->Int->Int->Int->Int->Int->Int->Int->LL->Option R):Option R:=cond (c==1) (cond (A3 b.length) (cond (Av b) (cond (d==0) (m ((e==0)&&((f==0)&&((g==0)&&((h==0)&&((i==0)&&((j==0)&&((l==0)&&((a==0)&&true)))))))) c b d e f g h i j l a (a8 8 [(SV.int .u16 (0:Int))])) (m false c b d e f g h i j l a (a8 8 [(SV.int .u16 (0:Int))]))) (m false c b d e f g h i j l a (a8 8 [(SV.int .u16 (0:Int))]))) none) (cond (c==2) (cond (b==[]) (m ((e==0)&&((f==0)&&((g==0)&&((h==0)&&((i==0)&&((j==0)&&((l==0)&&((a==0)&&true)))))))) c b d e f g h i j l a (a8 8 [(SV.int .u16 (0:Int))])) (m false c b d e f g h i j l a (a8 8 [(SV.int .u16 (0:Int))]))) (cond (c==3) (cond (b==[]) (m (d==0) c b d e f g h i j l a (a8 8 [(SV.int .u16 (0:Int))])) (m false c b d e f g h i j l a (a8 8 [(SV.int .u16 (0:Int))]))) (m false c b d e f g h i j l a (a8 8 [(SV.int .u16 (0:Int))]))))
theorem Db6(d:Nat)(h0 h1 h2 h3 h4 h5 h6 h7 h8 h9 h10):evC (A11 L) (d+1) Z Y 39 [.agg [pI h0,pS h1,p32 h2,p16 h3,p16 h4,p16 h5,p16 h6,p16 h7,p16 h8,p16 h9,p16 h10]] [] s=Ot L h0 h1 h2 h3 h4 h5 h6 h7 h8 h9 h10 (λn f o g h i j l e m b c a=>some (pB n,[.box [pI f,pS o,p32 g,p16 h,p16 i,p16 j,p16 l,p16 e,p16 m,p16 b,p16 c],.arr false 26 1 a],s)):=by refine(evE (fn:=Tryz.f39) (by kernel_rfl)).trans ?_;generalize evC (A11 L) d=Q;unfold Ot;kernel_rfl
noncomputable def A08(L:Nat):Cfg:=B7 L [122] (A2 []) [(39,TP),(167,Dq1),(168,Dq3)] (A2 [(7,[2]),(2,[2]),(4,[2]),(6,[2]),(5,[1,11]),(3,[1,5]),(1,[1,1]),(0,[1])]) [39,167,168] (A2 [(0,[1])]) (some [2]) [] [] []
noncomputable def Db1{R:Type}(L:Nat)(j:Int)(l:By)(b c d e f g h i a:Int)(o:By->Int->By->Int->Int->Int->Int->Int->Int->Int->Int->Int->Option R):Option R:=cond (A3 l.length) (cond (ltN b 4294967296) (cond (ok8 c d e f g h i a) (cond (not (K8 (mkH j l b (n8 c d e f g h i a)))) (o ([]:List UInt8) j l b c d e f g h i a) (cond (j==1) (o l j l b c d e f g h i a) (cond (j==2) (cond (ltN b 4294967296) (o (V0 (j6 b)) j l b c d e f g h i a) none) (cond (ok8 c d e f g h i a) (vl (Ak (n8 c d e f g h i a)) λm=>cond (E8 1 m.length) (vl (([91]:List UInt8)++m) λn=>cond (E8 n.length 1) (vl (n++[93]) λp=>o p j l b c d e f g h i a) none) none) none)))) none) none) none
theorem Db2(d:Nat)(h0 h1 h2 h3 h4 h5 h6 h7 h8 h9 h10):evC (A08 L) (d+1) Z Y 122 [.agg [pI h0,pS h1,p32 h2,p16 h3,p16 h4,p16 h5,p16 h6,p16 h7,p16 h8,p16 h9,p16 h10]] [] s=Db1 L h0 h1 h2 h3 h4 h5 h6 h7 h8 h9 h10 (λm e n f g h i j c l a b=>some (pS m,[.box [pI e,pS n,p32 f,p16 g,p16 h,p16 i,p16 j,p16 c,p16 l,p16 a,p16 b]],s)):=by refine(evE (fn:=Tryz.f122) (by kernel_rfl)).trans ?_;generalize evC (A08 L) d=Q;unfold Db1;kernel_rfl
noncomputable def A06(L:Nat):Cfg:=B7 L [170] (A2 []) [(65,Ch6),(207,Ch5)] (A2 [(1,[4]),(0,[0,0])]) [65,207] (A2 []) (some [4]) [] [] []
noncomputable def Da3{R:Type}(L:Nat)(a b:By)(c:Bool->Option R):Option R:=cond (A3 a.length) (cond (Av a) (cond (A3 b.length) (cond (Av b) (cond (a==b) (c true) (cond (E8 1 a.length) (vl (([46]:List UInt8)++a) λd=>cond (A3 b.length) (c (List.isSuffixOf d b)) none) none)) (c false)) none) (c false)) none
theorem Da4(d:Nat)(super0 name1):evC (A06 L) (d+1) Z Y 170 [pS super0,pS name1] [] s=Da3 L super0 name1 (λa=>some (pB a,[],s)):=by refine(evE (fn:=Tryz.f170) (by kernel_rfl)).trans ?_;generalize evC (A06 L) d=Q;unfold Da3;kernel_rfl
end
section
variable {Z R : Type} (L : Nat) (Q : G2) (Y : Yh Z) (s : Z) (k : Out -> St Z -> Option R)
noncomputable def A16(L:Nat):Cfg:=B7 L [238] (A2 []) [] (A2 [(2,[2]),(1,[1,1]),(0,[1])]) [] (A2 []) (some [2]) [] [] []
noncomputable def Dv9{R:Type}(L:Nat)(b:Int)(a:Int->Option R):Option R:=a b
theorem Df8(d:Nat)(b):evC (A16 L) (d+1) Z Y 238 [pI b] [] s=Dv9 L b (λn0=>some (.fnr (Fn.func 253) [] [.ptr 1 0 0,.ptr 0 0 0],[.box [pI n0],.box [pI (0:Int)]],s)):=by refine(evE (fn:=Tryz.f238) (by kernel_rfl)).trans ?_;generalize evC (A16 L) d=Q;unfold Dv9;kernel_rfl
noncomputable def WS(L:Nat):Cfg:=B7 L [253] (A2 []) [] (A2 [(2,[2]),(1,[0,0]),(0,[0,0])]) [] (A2 []) (some [2]) [] [] []
noncomputable def Bw3{R:Type}(L:Nat)(k b:Int)(d:Int->Int->Int->Option R):Option R:=vl (A1 ((A1 (k+36))-b)) λa=>vl (if ((26:Int)<(if ((1:Int) > a) then (1:Int) else a)) then (26:Int) else (if ((1:Int) > a) then (1:Int) else a)) λc=>d c (A1 (k+36)) b
theorem Ct8(d:Nat)(k b):evC (WS L) (d+1) Z Y 253 [.ptr 0 0 0,.ptr 1 0 0] [.box [pI k],.box [pI b]] s=Bw3 L k b (λe a c=>some (pI e,[.box [pI a],.box [pI c]],s)):=by refine(evE (fn:=Tryz.f253) (by kernel_rfl)).trans ?_;generalize evC (WS L) d=Q;unfold Bw3;kernel_rfl
noncomputable abbrev Ds8:Code:=C7 aq1
noncomputable def BA(L:Nat):Cfg:=B7 L [214] (A2 [(2,[0,0,4,0])]) [(238,IB),(239,Ax3)] (A2 [(6,[0,0,5]),(5,[0,0,5,0]),(4,[6]),(3,[0,0,5,0,6]),(2,[0,0,5,0]),(1,[0,0,5]),(0,[0,0,0])]) [239] (A2 [(0,[6]),(1,[0,0,5])]) (some [6]) [(253,Rc)] [] [253]
noncomputable def Je{R:Type}(L n:Nat)(f:Int)(p:Bool)(g:LL)(a b:Int)(o:Bool->LL->Int->Int->Option R):Option R:=match n with|0=>none|n+1=>cond (ltN b 1000000000000) (cond (ltN a 1000000) (cond (ltI f (L8 b a)) (cond (ltN f 36) (vl (↑(as2 (Az (j6 f))):Int) λh=>cond (G1 (g.length+1)) (o p (g++[[(SV.int .u8 h)]]) a (af0 b (36:Int))) none) none) (vl (A1 (f-(L8 b a))) λi=>vl (A1 ((36:Int)-(L8 b a))) λc=>cond (c !=0) (vl (A1 ((L8 b a)+(ag3 i c))) λd=>cond (ltN d 36) (vl (↑(as2 (Az (j6 d))):Int) λj=>cond (G1 (g.length+1)) (vl (A1 (f-(L8 b a))) λl=>vl (A1 ((36:Int)-(L8 b a))) λe=>cond (e !=0) (vl (A1 (ad0 l e)) λm=>Je L n m p (g++[[(SV.int .u8 j)]]) a (af0 b (36:Int)) o) none) none) none) none)) none) none
theorem A91(n q0 z1 l2 a n4):D0 3 ((BA L).keep 2) (bd (BA L) Q Y (cd [1,1,0,0] Ds8)) n ⟨gp [(0,.fl 0),(0,pI q0),(5,.fnr (Fn.func 253) [] [.ptr 2 0 0,.ptr 1 0 0])] 31,[.arr z1 5 1 l2,.box [pI a],.box [pI n4]],s⟩ k =
 Je L n q0 z1 l2 a n4 (λe c d a=>k .ret ⟨gp [(6,.fl 0)] 32,[.arr e 5 1 c,.box [pI d],.box [pI a]],s⟩):=by
 induction n generalizing q0 z1 l2 a n4 with
 | zero=>rfl
 | succ n b=>rw[Je];simp only[<-b];kernel_rfl
noncomputable def Dv6{R:Type}(L:Nat)(q b:Int)(z:Bool)(l:LL)(f:Bool->LL->Int->Int->Option R):Option R:=Je L L q z l b 0 (λe a c d=>f e a c d)
theorem De6(d:Nat)(q b z l):evC (BA L) (d+1) Z Y 214 [.fl 0,pI q,pI b] [.arr z 5 1 l] s=Dv6 L q b z l (λf a c e=>some (.fl 0,[.arr f 5 1 a,.box [pI c],.box [pI e]],s)):=by refine(evE (fn:=aq1) (by kernel_rfl)).trans ?_;generalize evC (BA L) d=Q;unfold Dv6;exact(j7 (by kernel_rfl) ((A91 L Q Y s (E4 0 (F3 (BA L) aq1)) L q z l b 0).trans (by kernel_rfl)))
noncomputable abbrev Fh:Code:=C7 an2
noncomputable def R0(L:Nat):Cfg:=B7 L [181] (A2 [(29,[0,1,0,0,2,0,0,0,0,61,0,0]),(21,[0,1,0,0,2,0,0,0,0,0,38,0,0]),(17,[0,1,0,0,2,0,0,0,0]),(5,[0,1,0,0,15,0,0])]) [(213,Pa),(215,Oz)] (A2 [(40,[2,0]),(18,[0,3,2,0,0,0,0]),(39,[0,3,2,0,0,0,0]),(38,[0,3,2,0,0,0,0,61,0,0]),(32,[0,3,2,0,0,0,0,61,0,0]),(37,[0,3,2,0,0,0,0,61,0,0]),(36,[0,3,2,0,0,0,0,61,0,0]),(35,[0,3,2,0,1,0,61,0,0]),(34,[0,3,2,0,0,1,61,0,0]),(33,[0,3,2,0,0,0,0,61,0,0,9]),(31,[0,3,2,0,0,0,0,4,56,0,0,3]),(30,[0,3,2,0,0,0,0,4,56,0,0]),(29,[0,3,2,0,0,0,0,61,0,0,0]),(28,[0,3,2,0,0,0,0,61,0,0]),(27,[0,3,2,0,0,0,0]),(26,[0,3,2,1,0,0,0]),(25,[0,3,2,0,0,0,0,0,38,0,0]),(24,[0,3,2,0,0,0,0,0,38,0,0]),(23,[0,3,2,0,0,0,0,0,1,36,0,0,5]),(22,[0,3,2,0,0,0,0,0,1,36,0,0]),(21,[0,3,2,0,0,0,0,0,38,0,0,0]),(20,[0,3,2,0,0,0,0,0,38,0,0]),(19,[0,3,2,0,0,0,0,0]),(17,[0,3,2,0,0,0,0,36]),(16,[0,3,2,0,0,0,0]),(15,[0,3,2,0,0,0]),(14,[0,3,2]),(13,[0,3,2,32]),(12,[0,3,2]),(11,[0,3,15,0,0]),(10,[0,3,15,0,0]),(9,[0,3,1,13,0,0,7]),(8,[2,0]),(7,[0,3,1,13,0,0,5]),(6,[0,3,1,13,0,0]),(5,[0,3,15,0,0,0]),(4,[0,3,15,0,0]),(3,[0,3]),(2,[2,0]),(1,[0,18]),(0,[0])]) [213,215] (A2 [(2,[4]),(3,[0,3,2,0,0,0,0]),(6,[0,3,2,0,0,0,0]),(7,[0,3,2,0,0,0,0,61,0,0]),(8,[0,3,2,0,0,0,0,61,0,0]),(4,[0,3,2,0,0,0,0,0]),(5,[0,3,2,0,0,0,0,0,38,0,0]),(0,[0,3]),(1,[0,3,15,0,0])]) (some [2,0]) [(214,UD)] [] [214]
noncomputable def V7{R:Type}(L n:Nat)(c b:Bool)(a:LL)(i e:Int)(f:LL)(g:LL->Option R)(h:Bool->Bool->LL->LL->Option R):Option R:=match n with|0=>none|n+1=>cond (ltI e i) (cond (inR e a.length) (cond (okE Lq a (j6 e) 0) (vl (gE a (j6 e) 0) λd=>cond (not (ptI d)) (g f) (cond (ltI d 128) (cond (G1 (f.length+1)) (V7 L n c b a i (A1 (e+1)) (f++[[(SV.int .u8 (wu8 d))]]) g h) none) (V7 L n c b a i (A1 (e+1)) f g h))) none) none) (h c b a f)
theorem Ba2(n b a c n3 n4 l5):D0 1 ((R0 L).keep 5) (bd (R0 L) Q Y (cd [1,1,1,0,1,0,0] Fh)) n ⟨gp [(0,.s (.sl b a 1 c)),(3,.fl 0),(15,.s (.sl b a 1 c)),(0,pI n3),(0,pI n4)] 84,[.arr true 5 1 l5],s⟩ k =
 V7 L n b a c n3 n4 l5 (λe=>k .ret ⟨gp [(2,pS ([]:List UInt8)),(0,pI (2:Int))] 103,[.arr true 5 1 e],s⟩) (λb a c f=>k (.exit 0) ⟨gp [(0,.s (.sl b a 1 c)),(3,.fl 0)] 102,[.arr true 5 1 f],s⟩):=by
 induction n generalizing b a c n3 n4 l5 with
 | zero=>rfl
 | succ n d=>rw[V7];simp only[<-d];kernel_rfl
noncomputable def Jh{R:Type}(L n:Nat)(c b:Bool)(a:LL)(d o e f g m q h:Int)(i:LL)(p:Bool->Bool->LL->Int->Int->Int->Int->Int->Int->LL->Option R):Option R:=match n with|0=>none|n+1=>cond (ltI h q) (cond (inR h a.length) (cond (okE Lq a (j6 h) 0) (vl (gE a (j6 h) 0) λj=>cond (not (ltI j o)) (vl (if (j<m) then j else m) λl=>Jh L n c b a d o e f g l q (A1 (h+1)) i p) (Jh L n c b a d o e f g m q (A1 (h+1)) i p)) none) none) (p c b a d o e f g m i)
theorem Ba3(n b a c d i e f g h n9 n10 l11):D0 1 ((R0 L).keep 21) (bd (R0 L) Q Y (cd [1,1,1,1,1,1,1,0,1,0,0,1,0,0,1,0,1,0,0] Fh)) n ⟨gp [(0,.s (.sl b a 1 c)),(3,.fl 0),(2,pI d),(0,pI i),(0,pI e),(0,pI f),(0,pI g),(0,pI h),(38,.s (.sl b a 1 c)),(0,pI n9),(0,pI n10)] 53,[.arr true 5 1 l11],s⟩ k =
 Jh L n b a c d i e f g h n9 n10 l11 (λb a c d i e f g h l=>k (.exit 4) ⟨gp [(0,.s (.sl b a 1 c)),(3,.fl 0),(2,pI d),(0,pI i),(0,pI e),(0,pI f),(0,pI g),(0,pI h)] 94,[.arr true 5 1 l],s⟩):=by
 induction n generalizing b a c d i e f g h n9 n10 l11 with
 | zero=>rfl
 | succ n j=>rw[Jh];simp only[<-j];kernel_rfl
noncomputable def Cs{R:Type}(L n:Nat)(d c:Bool)(a:LL)(e m b g f i l:Int)(l10:LL)(t:Bool->Bool->LL->Int->Int->Int->Int->Int->LL->Option R):Option R:=match n with|0=>none|n+1=>cond (ltI l i) (cond (inR l a.length) (cond (okE Lq a (j6 l) 0) (vl (gE a (j6 l) 0) λj=>cond (ltI j m) (vl (A1 (b+1)) λp=>Cs L n d c a e m p g f i (A1 (l+1)) l10 t) (cond (j==m) (cond (ltN b 1152921504606846976) (cond (ltN g 1000000) (cond (x8 l10.length 100000) (vl (an6 l10 (ac1 E2 (Q0 (j6 b) 0 (j6 g)))) λo=>vl (A1 (f+1)) λh=>cond (ltN b 1152921504606846976) (cond (ltN h 1000000) (cond (ltI 0 h) (vl (↑(Q9 (j6 b) (j6 h) (f==e)):Int) λq=>vl (A1 (f+1)) λr=>Cs L n d c a e m 0 q r i (A1 (l+1)) o t) none) none) none) none) none) none) (Cs L n d c a e m b g f i (A1 (l+1)) l10 t))) none) none) (t d c a e m b g f l10)
theorem Ba4(n b a c d h e f g n8v n9 l10):D0 1 ((R0 L).keep 29) (bd (R0 L) Q Y (cd [1,1,1,1,1,1,1,0,1,0,0,1,0,0,1,1,1,1,0,1,0,0] Fh)) n ⟨gp [(0,.s (.sl b a 1 c)),(3,.fl 0),(2,pI d),(0,pI h),(0,pI e),(0,pI f),(0,pI g),(61,.s (.sl b a 1 c)),(0,pI n8v),(0,pI n9)] 31,[.arr true 5 1 l10],s⟩ k =
 Cs L n b a c d h e f g n8v n9 l10 (λb a c d h e f g j=>k (.exit 6) ⟨gp [(0,.s (.sl b a 1 c)),(3,.fl 0),(2,pI d),(0,pI h),(0,pI e),(0,pI f),(0,pI g)] 95,[.arr true 5 1 j],s⟩):=by
 induction n generalizing b a c d h e f g n8v n9 l10 with
 | zero=>rfl
 | succ n i=>rw[Cs];simp only[<-i];kernel_rfl
noncomputable def Fy{R:Type}(L n:Nat)(j i:Bool)(b:LL)(v K w y u:Int)(J:LL)(I:LL->Option R):Option R:=match n with|0=>none|n+1=>cond (ltI u (b.length:Int)) (Jh L L j i b v K w y u 1114112 (b.length:Int) 0 J (λe c a l B o q g x z=>vl (A1 (g+1)) λC=>vl (A1 ((A1 (x-B))*C)) λD=>Cs L L e c a l x (A1 (o+D)) q g (a.length:Int) 0 z (λf d h m F p r t A=>vl (A1 (p+1)) λG=>vl (A1 (F+1)) λH=>Fy L n f d h m H G r t A I))) (I J)
theorem MJ(n points_z0 points_t1 points2 basic3 n4 delta5 bias6 done7 l8):D0 1 ((R0 L).keep 17) (bd (R0 L) Q Y (cd [1,1,1,1,1,1,1,0,1,0,0] Fh)) n ⟨gp [(0,.s (.sl points_z0 points_t1 1 points2)),(3,.fl 0),(2,pI basic3),(0,pI n4),(0,pI delta5),(0,pI bias6),(0,pI done7)] 95,[.arr true 5 1 l8],s⟩ k =
 Fy L n points_z0 points_t1 points2 basic3 n4 delta5 bias6 done7 l8 (λB=>k (.exit 2) ⟨gp [(4,.fl 0)] 102,[.arr true 5 1 B],s⟩):=by
 induction n generalizing points_z0 points_t1 points2 basic3 n4 delta5 bias6 done7 l8 with
 | zero=>rfl
 | succ n A=>rw[Fy];exact(j7 (by kernel_rfl) (A0 ((Ba3 L Q Y s (E4 4 (E1 (R0 L) Q Y (cd [1,1,1,1,1,1,1,0,1,0,0,1,0,0,1,1] Fh) (E4 3 (E1 (R0 L) Q Y (cd [1,1,1,1,1,1,1,0,1,0,0,1,1] Fh) (lpK 1 ((R0 L).keep 17) (bd (R0 L) Q Y (cd [1,1,1,1,1,1,1,0,1,0,0] Fh)) n k))))) L points_z0 points_t1 points2 basic3 n4 delta5 bias6 done7 1114112 (points2.length:Int) 0 l8).trans (congr rfl (C98 λd b a g x i j m t q=>(j7 (by kernel_rfl) (A4 λy=>(A4 λu=>((Ba4 L Q Y s (E4 6 (E1 (R0 L) Q Y (cd [1,1,1,1,1,1,1,0,1,0,0,1,0,0,1,1,1,1,1] Fh) (E4 3 (E1 (R0 L) Q Y (cd [1,1,1,1,1,1,1,0,1,0,0,1,1] Fh) (lpK 1 ((R0 L).keep 17) (bd (R0 L) Q Y (cd [1,1,1,1,1,1,1,0,1,0,0] Fh)) n k))))) L d b a g t (A1 (i+u)) j m (a.length:Int) 0 q).trans (congr rfl (fx9 λe c f h z p l o r=>(j7 (by kernel_rfl) (A4 λv=>(A4 λw=>(A e c f h w v l o r))))))))))))) rfl))
noncomputable def Am1{R:Type}(L:Nat)(l j:Bool)(p:LL)(m:Unit->Option R)(h:By->Int->LL->Option R):Option R:=cond (ltI 256 (p.length:Int)) (m ()) (V7 L L l j p (p.length:Int) 0 [] (λi=>h ([]:List UInt8) 2 i) (λb a c g=>vl (g.length:Int) λf=>cond (ltI 0 f) (cond (G1 (g.length+1)) (Fy L L b a c f 128 0 72 f (g++[[(SV.int .u8 (45:Int))]]) (λd=>cond (ag9 d Ou) (h (ac1 Ml d) 0 d) none)) none) (Fy L L b a c f 128 0 72 f g (λe=>cond (ag9 e Ou) (h (ac1 Ml e) 0 e) none))))
theorem Df1(d:Nat)(p_z p_t p):evC (R0 L) (d+1) Z Y 181 [.s (.sl p_z p_t 1 p)] [] s=Am1 L p_z p_t p (λ_=>some (.tup [pS ([]:List UInt8),pI (3:Int)],[],s)) (λi j h=>some (.tup [pS i,pI j],[.arr true 5 1 h],s)):=by refine(evE (fn:=an2) (by kernel_rfl)).trans ?_;generalize evC (R0 L) d=Q;unfold Am1;exact let g:=(E4 2 (E1 (R0 L) Q Y (cd [1,1,1,1,1,1,1,1] Fh) (F3 (R0 L) an2)));(j7 (by kernel_rfl) (A0 rfl ((Ba2 L Q Y s (E4 0 (E1 (R0 L) Q Y (cd [1,1,1,1] Fh) (F3 (R0 L) an2))) L p_z p_t p (p.length:Int) 0 []).trans (congr (congr rfl (by kernel_rfl)) (fx4 λb a c f=>(j7 (by kernel_rfl) (A4 λe=>(A0 (A0 ((MJ L Q Y s g L b a c e 128 0 72 e (f++[[(SV.int .u8 (45:Int))]])).trans (by kernel_rfl)) rfl) ((MJ L Q Y s g L b a c e 128 0 72 e f).trans (by kernel_rfl))))))))))
end
theorem Zi(k b:Nat):L8 ((36*k:Nat):Int) (b:Int)=(thr k b:Int):=by unfold L8 thr;omega
theorem B77{R:Type}{a:Int->Option R}(b:Int):Dv9 LF b a=a b:=rfl
theorem Ba8{R:Type}{a:Int->Int->Int->Option R}(k b:Int)(e:ltN k 1000000000000=true)(f:ltN b 1000000=true):Bw3 LF k b a=a (L8 k b) (af0 k 36) b:=by
 obtain⟨g,h⟩:=E0.1 e;obtain⟨i,j⟩:=E0.1 f;unfold Bw3;have c:A1 (k+36)=k+36:=A7;have d:A1 (k+36-b)=k+36-b:=A7;simp only[vl,c,d];have:(if (26:Int)<(if (1:Int) > k+36-b then (1:Int) else k+36-b) then (26:Int) else (if (1:Int) > k+36-b then (1:Int) else k+36-b))=L8 k b:=by
  unfold L8;omega
 grind
theorem Rn{q k b:Nat}(h:q<thr k b):Q0 q k b=[Az q]:=by rw[Q0,dif_pos h]
theorem BM{q k b:Nat}(h:¬q<thr k b):Q0 q k b=Az (thr k b+(q-thr k b) % (36-thr k b))::Q0 ((q-thr k b) / (36-thr k b)) (k+1) b:=by rw[Q0,dif_neg h]
theorem XI{x y m:Nat}(a:10<=y)(h:x<10*m):x / y<m:=by have b:x / y<=x / 10:=Nat.div_le_div_left a (by omega);omega
theorem A38(b:Nat):∀(r q k:Nat),q<10 ^ r->(Q0 q k b).length<=r+1:=by
 intro r
 induction r with
 | zero=>
  intro q k h;have c:=X4 k b;rw[Rn (by simp at h;omega)];simp
 | succ r d=>
  intro q k h;have c:=X4 k b;by_cases a:q<thr k b
  ·rw[Rn a];simp
  ·rw[BM a,p9];have:=d ((q-thr k b) / (36-thr k b)) (k+1) (XI (by omega) (by rw[af9] at h;omega));omega
theorem B64(z:Bool)(b:Nat)(K:b<1000000):∀(r q k n:Nat) (l:LL),q<10 ^ r->q<1152921504606846976->k+r<=1000->r<n->l.length+r<=200000->
  ∃(d f:Int),∀(R:Type) (a:Bool->LL->Int->Int->Option R),Je LF n (q:Int) z l (b:Int) ((36*k:Nat):Int) a=a z (l++(Q0 q k b).map E2) d f:=by
 have c:∀(q k n:Nat) (l:LL),q<thr k b->k<=1000->l.length<=200000->∃(d f:Int),∀(R:Type) (a:Bool->LL->Int->Int->Option R),Je LF (n+1) (q:Int) z l (b:Int) ((36*k:Nat):Int) a=a z (l++(Q0 q k b).map E2) d f:=by
  intro q k n l g i j;have p:=X4 k b;refine⟨(b:Int),af0 ((36*k:Nat):Int) 36,λR a=>?_⟩;rw[Je];rw[M4,M4,Zi,A8,M4,Rn g];simp only[vl,cond_true,b9];rw[F7 (by omega)];rfl
 intro r
 induction r with
 | zero=>
  intro q k n l h _ i H j;have p:=X4 k b;obtain⟨n,rfl⟩:∃m,n=m+1:=⟨n-1,by omega⟩
  exact c q k n l (by simp at h;omega) (by omega) (by omega)
 | succ r I=>
  intro q k n l h o i H j;have p:=X4 k b;obtain⟨n,rfl⟩:∃m,n=m+1:=⟨n-1,by omega⟩
  by_cases g:q<thr k b
  ·exact c q k n l g (by omega) (by omega)
  ·have D:(q-thr k b) / (36-thr k b)<10 ^ r:=XI (by omega) (by rw[af9] at h;omega);have F:(q-thr k b) / (36-thr k b)<=q:=am1 (af2 _ _) (by omega);have G:(q-thr k b) % (36-thr k b)<36-thr k b:=ao2 _ (by omega);obtain⟨d,f,e⟩:=I ((q-thr k b) / (36-thr k b)) (k+1) n (l++[E2 (Az (thr k b+(q-thr k b) % (36-thr k b)))]) D (by omega) (by omega) (by omega) (by rw[ad4,List.length_singleton];omega);refine⟨d,f,λR a=>?_⟩;rw[Je];have t:A1 ((q:Int)-(thr k b:Int))=((q-thr k b:Nat):Int):=by rw[A7];omega
   have u:A1 ((36:Int)-(thr k b:Int))=((36-thr k b:Nat):Int):=by rw[A7];omega
   have v:ag3 ((q-thr k b:Nat):Int) ((36-thr k b:Nat):Int)=(((q-thr k b) % (36-thr k b):Nat):Int):=Cy _ _;have w:ad0 ((q-thr k b:Nat):Int) ((36-thr k b:Nat):Int)=(((q-thr k b) / (36-thr k b):Nat):Int):=M8 _ _;have C:((((36-thr k b:Nat):Int))!=0)=true:=by rw[bne_iff_ne];omega
   rw[M4,M4,Zi,A6];simp only[vl,t,u,v,w,C,cond_true,cond_false];rw[BM g];generalize hA:(q-thr k b) / (36-thr k b)=A at *;generalize J:(q-thr k b) % (36-thr k b)=B at *;have x:A1 ((thr k b:Int)+(B:Int))=((thr k b+B:Nat):Int):=by rw[A7];rfl
   have y:A1 (A:Int)=(A:Int):=A7;rw[x,y,M4,F7 (by omega),b9,show af0 ((36*k:Nat):Int) 36=((36*(k+1):Nat):Int) from(by show((36*k:Nat):Int)+36=_;omega)];refine j7 (e R a) ?_;simp[x3]
theorem B65(q b:Int)(z:Bool)(l:LL)(h:ltN q 1152921504606846976=true)(i:ltN b 1000000=true)(j:x8 l.length 100000=true) :
  ∃(c d:Int),∀(R:Type) (a:Bool->LL->Int->Int->Option R),Dv6 LF q b z l a=a z (an6 l ((Q0 q.toNat 0 b.toNat).map E2)) c d:=by
 obtain⟨f,m⟩:=E0.1 h;obtain⟨g,n⟩:=E0.1 i;obtain⟨q,rfl⟩:=j8 f;obtain⟨b,rfl⟩:=j8 g;have o:=ac2 j;have k:=C5;obtain⟨c,d,e⟩:=B64 z b (by omega) 19 q 0 LF l (by omega) (by omega) (by omega) (by omega) (by omega);exact⟨c,d,λR a=>e R _⟩
def Bi(l:List Int):LL:=l.map λx=>[SV.int .i64 x]
def B6(l:List Nat):LL:=l.map λx:Nat=>[SV.int .i64 (x:Int)]
theorem Rs(l:List Nat):Bi (l.map λn:Nat=>(n:Int))=B6 l:=by simp[Bi,B6,ah3]
theorem W0(l:List Int):(Bi l).length=l.length:=by simp[Bi]
theorem D4(l:List Nat):(B6 l).length=l.length:=by simp[B6]
theorem Lb(a b:List Nat):B6 (a++b)=B6 a++B6 b:=by simp[B6]
theorem YL{l:List Int}{i:Nat}(h:i<l.length):okE Lq (Bi l) i 0=true:=by unfold okE Bi Lq;simp[b8,h,okS,SV.has]
theorem A45(l:List Int)(i:Nat)(h:i<l.length):gE (Bi l) i 0=l.getD i 0:=by unfold gE gC Bi;simp[b8,j4 h,SV.gI]
theorem Ru{l:List Nat}{i:Nat}(h:i<l.length):okE Lq (B6 l) i 0=true:=by rw[<-Rs];exact YL (by simpa using h)
theorem BT(l:List Nat)(i:Nat)(h:i<l.length):gE (B6 l) i 0=(l.getD i 0:Int):=by rw[<-Rs,A45 _ _ (by simpa using h)];grind
theorem Bu0{l:LL}(h:l.all Oj=true):∃P:List Int,l=Bi P:=by
 induction l with
 | nil=>exact⟨[],rfl⟩
 | cons x r b=>
  simp only[ab9,k9] at h;obtain⟨P,rfl⟩:=b h.2;have a:=h.1;unfold Oj at a;split at a
  ·rename_i n;exact⟨n::P,rfl⟩
  ·cases a
theorem Ag7(P:List Int):(Bi P).map elI=P:=by
 unfold Bi;rw[af8]
 conv=>rhs;rw[<-ah6 P]
 apply aa3;intro x _;simp[elI,SV.gI]
theorem Ag5(l:List Int)(i:Nat)(h:i<l.length):l.drop i=l.getD i 0::l.drop (i+1):=by simp_all
theorem Wr(l:List Nat)(i:Nat)(h:i<l.length):l.drop i=l.getD i 0::l.drop (i+1):=by simp_all
theorem C64:∀(r d k:Nat),d<456*35 ^ r->AR d k<=k+36*r+36:=by
 intro r
 induction r with
 | zero=>
  intro d k h;rw[Tq (by simp at h;omega)];have:36*d / (d+38)<=36:=by
   apply Nat.div_le_of_le_mul;omega
  omega
 | succ r b=>
  intro d k h;by_cases a:455<d
  ·rw[JJ a];grind
  grind
theorem Pf(d c:Nat)(f:Bool)(h:d<1152921504606846976):Q9 d c f<=500:=by
 unfold Q9;have a:∀x:Nat,x<=d->AR (x+x / c) 0<=500:=by
  intro x a;have:=af2 x c;have:=C64 11 (x+x / c) 0 (by omega);omega
 grind
theorem QD{q k b:Nat}(h:q<1152921504606846976):(Q0 q k b).length<=20:=A38 b 19 q k (by omega)
theorem Bw1(z t:Bool)(c:List Nat)(a m:Nat)(Q:m<=1114112)(P:c.length<=256):∀(r i n:Nat) (s:SX),i+r=c.length->r<n->s.delta+r<=1000000000000->s.bias<=500->s.out.length+20*r<=90000->s.done+r<=1000->a<=256->
  (∀(R:Type) (d:Bool->Bool->LL->Int->Int->Int->Int->Int->LL->Option R),Cs LF n z t (B6 c) (a:Int) (m:Int) (s.delta:Int) (s.bias:Int) (s.done:Int) (c.length:Int) (i:Int) (s.out.map E2) d =
   d z t (B6 c) (a:Int) (m:Int) ((I4 m a (c.drop i) s).delta:Int) ((I4 m a (c.drop i) s).bias:Int) ((I4 m a (c.drop i) s).done:Int) ((I4 m a (c.drop i) s).out.map E2))/\
  (I4 m a (c.drop i) s).bias<=500/\(I4 m a (c.drop i) s).out.length<=s.out.length+20*(c.drop i).countP (· == m)/\(I4 m a (c.drop i) s).done=s.done+(c.drop i).countP (· == m)/\
  (I4 m a (c.drop i) s).delta<=(if 0<(c.drop i).countP (· == m) then r else s.delta+r):=by
 intro r
 induction r with
 | zero=>
  intro i n s N O K x L M y;obtain⟨n,rfl⟩:∃m,n=m+1:=⟨n-1,by omega⟩
  rw[j1 (by omega)];refine⟨λR d=>?_,x,by simp[I4],by simp[I4],by simp[I4]⟩;rw[Cs];rw[A6];rfl
 | succ r F=>
  intro i n s N O K x L M y;obtain⟨n,rfl⟩:∃m,n=m+1:=⟨n-1,by omega⟩
  rw[Wr c i (by omega)];have C:=BT c i (by omega);have ok:=Ru (l:=c) (i:=i) (by omega);generalize c.getD i 0=p at *;have A:A1 ((i:Int)+1)=((i+1:Nat):Int):=by rw[A7];rfl
  have I:A1 ((s.delta:Int)+1)=((s.delta+1:Nat):Int):=by rw[A7];rfl
  have J:A1 ((s.done:Int)+1)=((s.done+1:Nat):Int):=by rw[A7];rfl
  by_cases D:p<m
  ·have e:(p==m)=false:=by rw[beq_eq_false_iff_ne];omega
   have j:I4 m a (p::c.drop (i+1)) s=I4 m a (c.drop (i+1)) { s with delta:=s.delta+1 }:=by rw[I4,if_pos D]
   obtain⟨o,u,v,w,f⟩:=F (i+1) n { s with delta:=s.delta+1 } (by omega) (by omega) (by simp only;omega) x (by simp only;omega) (by simp only;omega) y;rw[j,ai3 (by rw[e];simp)];refine⟨λR d=>?_,u,v,w,?_⟩
   ·rw[Cs];rw[A8,D4,F1,b9,ok];simp only[cond_true,vl,C,A,I];rw[A8,cond_true];exact o R d
   ·simp only at f;split at f<;>split<;>omega
  ·by_cases H:p=m
   ·subst H;have G:=QD (q:=s.delta) (k:=0) (b:=s.bias) (by omega);have B:=Pf s.delta (s.done+1) (s.done==a) (by omega);have j:I4 p a (p::c.drop (i+1)) s=I4 p a (c.drop (i+1)) { delta:=0,bias:=Q9 s.delta (s.done+1) (s.done==a),done:=s.done+1,out:=s.out++Q0 s.delta 0 s.bias }:=by rw[I4,if_neg D,if_pos rfl]
    obtain⟨o,u,v,w,f⟩:=F (i+1) n { delta:=0,bias:=Q9 s.delta (s.done+1) (s.done==a),done:=s.done+1,out:=s.out++Q0 s.delta 0 s.bias } (by omega) (by omega) (by simp only;omega) B (by simp only[ad4];omega) (by simp only;omega) y;rw[j,List.countP_cons_of_pos (by simp)];refine⟨λR d=>?_,u,?_,?_,?_⟩
    ·rw[Cs];have g:((s.done:Int)==(a:Int))=(s.done==a):=by grind
     rw[A8,D4,F1,b9,ok];simp only[cond_true,vl,C,A,J];rw[A6,cond_false,beq_self_eq_true,cond_true,M4,M4,p4,aa7 (show s.out.length<=100000 by omega),M4,A8,g];simp only[cond_true,b9];have h:an6 (s.out.map E2) ((Q0 s.delta 0 s.bias).map E2)=(s.out++Q0 s.delta 0 s.bias).map E2:=by rw[ag4];rfl
     rw[h];exact o R d
    ·simp only[ad4] at v;omega
    ·simp only at w;omega
    ·simp only at f;rw[Q5];split at f<;>omega
   ·have e:(p==m)=false:=by rw[beq_eq_false_iff_ne];omega
    have j:I4 m a (p::c.drop (i+1)) s=I4 m a (c.drop (i+1)) s:=by rw[I4,if_neg D,if_neg H]
    obtain⟨o,u,v,w,f⟩:=F (i+1) n s (by omega) (by omega) (by omega) x (by omega) (by omega) y;rw[j,ai3 (by rw[e];simp)];refine⟨λR d=>?_,u,v,w,?_⟩
    ·rw[Cs];rw[A8,D4,F1,b9,ok];simp only[cond_true,vl,C,A];rw[A6,cond_false,show((p:Int)==(m:Int))=false by rw[beq_eq_false_iff_ne];omega,cond_false];exact o R d
    ·split at f<;>split<;>omega
theorem Ba5{R:Type}{k0:Bool->Bool->LL->Int->Int->Int->Int->Int->Int->LL->Option R}(z t:Bool)(a:List Nat)(k:a.length<=256)(n0:Nat)(b delta c done:Int)(l:LL):∀(r i n m:Nat),i+r=a.length->r<n->
  Jh LF n z t (B6 a) b (n0:Int) delta c done (m:Int) (a.length:Int) (i:Int) l k0=k0 z t (B6 a) b (n0:Int) delta c done ((I2 n0 (a.drop i) m:Nat):Int) l:=by
 intro r
 induction r with
 | zero=>
  intro i n m g j;obtain⟨n,rfl⟩:∃m,n=m+1:=⟨n-1,by omega⟩
  rw[Jh];rw[A6,j1 (by omega)];rfl
 | succ r d=>
  intro i n m g j;obtain⟨n,rfl⟩:∃m,n=m+1:=⟨n-1,by omega⟩
  have f:=BT a i (by omega);have ok:=Ru (l:=a) (i:=i) (by omega);rw[Jh,Wr a i (by omega)];generalize a.getD i 0=p at *;have e:A1 ((i:Int)+1)=((i+1:Nat):Int):=by rw[A7];rfl
  rw[A8,D4,F1,b9,ok];simp only[cond_true,vl,f,e,I2];by_cases h:n0<=p
  ·rw[if_pos h,A6,j0,cond_true];have:(if (p:Int)<(m:Int) then (p:Int) else (m:Int))=((min m p:Nat):Int):=by split<;>omega
   rw[this];exact d (i+1) n (min m p) (by omega) (by omega)
  ·rw[if_neg h,A8,j2,cond_false];exact d (i+1) n m (by omega) (by omega)
theorem Eu(n:Nat):∀(l:List Nat) (m:Nat),(I2 n l m=m\/(I2 n l m∈l/\n<=I2 n l m))/\I2 n l m<=m/\∀p∈l,n<=p->I2 n l m<=p
 | [],m=>⟨.inl rfl,af5 _,λp h=>by cases h⟩
 | q::r,m=>by
  obtain⟨a,b,c⟩:=Eu n r (if n<=q then min m q else m);simp only[I2];grind
theorem Wk{n m:Nat}(a:n<=m):∀l:List Nat,(∀p∈l,n<=p->m<=p)->l.countP (λp=>decide (p<m+1))=l.countP (λp=>decide (p<n))+l.countP (· == m)
 | [],_=>rfl
 | p::l,h=>by
  have d:=Wk a l (λq b=>h q (List.mem_cons_of_mem _ b));have c:=h p List.mem_cons_self;grind
theorem A26{n:Nat}{l:List Nat}(h:l.countP (λp=>decide (p<n))<l.length):∃p∈l,n<=p:=by
 apply ae6;intro a;have:l.countP (λp=>decide (p<n))=l.length:=by simp_all
 omega
theorem Ct5(z t:Bool)(a:List Nat)(b:Nat)(x:a.length<=256)(N:b<=256)(g:∀p∈a,p<=1114111):∀(f n d:Nat) (s:SX),s.done=a.countP (λp=>decide (p<n))->a.length<=s.done+f->f<d->s.delta<=300->s.bias<=500->s.out.length+20*(a.length-s.done)<=80000->n<=1114112->
  ∀(R:Type) (k0:LL->Option R),Fy LF d z t (B6 a) (b:Int) (n:Int) (s.delta:Int) (s.bias:Int) (s.done:Int) (s.out.map E2) k0=k0 ((S8 a b f n s).out.map E2):=by
 intro f;have M:=C5
 induction f with
 | zero=>
  intro n d s P S T I v J L R k0;obtain⟨d,rfl⟩:∃m,d=m+1:=⟨d-1,by omega⟩
  rw[Fy];rw[D4,A6];rfl
 | succ f U=>
  intro n d s P S T I v J L R k0;obtain⟨d,rfl⟩:∃m,d=m+1:=⟨d-1,by omega⟩
  rw[Fy];rw[D4];have O:a.countP (λp=>decide (p<n))<=a.length:=aa6;by_cases j:s.done<a.length
  ·obtain⟨A,k,q⟩:=A26 (n:=n) (l:=a) (by omega);obtain⟨g1,g2,u⟩:=Eu n a 1114112;have g4:=u A k q;have g5:=g A k;have e:I2 n a 1114112∈a/\n<=I2 n a 1114112:=by grind
   have Q:S8 a b (f+1) n s=S8 a b f (I2 n a 1114112+1) { I4 (I2 n a 1114112) b a { s with delta:=s.delta+(I2 n a 1114112-n)*(s.done+1) } with delta:=(I4 (I2 n a 1114112) b a { s with delta:=s.delta+(I2 n a 1114112-n)*(s.done+1) }).delta+1 }:=by
    rw[S8,if_pos j]
   rw[Q,A8,cond_true];have c:=λ(K:Bool->Bool->LL->Int->Int->Int->Int->Int->Int->LL->Option R)=>Ba5 (k0:=K) z t a x n (b:Int) (s.delta:Int) (s.bias:Int) (s.done:Int) (s.out.map E2) a.length 0 LF 1114112 (by omega) (by omega)
   rw[o5] at c;refine j7 (c _) ?_;generalize I2 n a 1114112=m at *;have y:(m-n)*(s.done+1)<=1114112*256:=ao3 (by omega) (by omega);have B:A1 ((s.done:Int)+1)=((s.done+1:Nat):Int):=by rw[A7];rfl
   have C:A1 ((m:Int)-(n:Int))=((m-n:Nat):Int):=by rw[A7];omega
   have D:A1 (((m-n:Nat):Int)*((s.done+1:Nat):Int))=(((m-n)*(s.done+1):Nat):Int):=by
    rw[<-Int.natCast_mul];exact A7
   have F:A1 ((s.delta:Int)+(((m-n)*(s.done+1):Nat):Int))=((s.delta+(m-n)*(s.done+1):Nat):Int):=by
    rw[A7];rfl
   simp only[vl,B,C,D,F];have i:=Bw1 z t a b m (by omega) x a.length 0 LF { s with delta:=s.delta+(m-n)*(s.done+1) } (by omega) (by omega) (by simp only;omega) v (by simp only;omega) (by simp only;omega) N;rw[o5] at i;obtain⟨V,W,X,Y,Z⟩:=i;rw[D4];refine j7 (V R _) ?_;have h:0<a.countP (· == m):=aj8.2 ⟨m,e.1,by simp⟩;rw[if_pos h] at Z;have r:=Wk e.2 a u;generalize I4 m b a { s with delta:=s.delta+(m-n)*(s.done+1) } = o at *;simp only at X Y;have G:A1 ((o.delta:Int)+1)=((o.delta+1:Nat):Int):=by rw[A7];rfl
   have H:A1 ((m:Int)+1)=((m+1:Nat):Int):=by rw[A7];rfl
   have w:a.countP (λp=>decide (p<m+1))<=a.length:=aa6;simp only[G,H];exact U (m+1) d { o with delta:=o.delta+1 } (by simp only;omega) (by simp only;omega) (by omega) (by simp only;omega) W (by simp only;omega) (by omega) R k0
  ·rw[A6];rw[S8,if_neg j];rfl
def X6(l:List Int):By:=(l.filter λx=>decide (x<128)).map λx=>w9 x.toNat
theorem C07(x:Int)(a:0<=x)(h:x<128):[SV.int .u8 (wu8 x)]=E2 (w9 x.toNat):=by
 unfold E2;have e:wu8 x=x:=by unfold wu8;exact Int.emod_eq_of_lt a (show x<256 by omega)
 rw[e];have:((w9 x.toNat).toNat:Int)=x:=by simp;omega
 rw[this]
theorem Uz{x:Int}(h:ptI x=true):0<=x/\x<=1114111:=by
 cases x with
 | negSucc m=>cases h
 | ofNat m=>
  have:W4 m=true:=h;unfold W4 at this;simp only[k9,y5] at this;grind
theorem Ba0(z t:Bool)(P:List Int)(A:P.length<=256):∀(r i n:Nat) (out:By),i+r=P.length->r<n->out.length+r<=1000->
  ((P.drop i).all ptI=true->∀(R:Type) (a:LL->Option R) (b:Bool->Bool->LL->LL->Option R),V7 LF n z t (Bi P) (P.length:Int) (i:Int) (out.map E2) a b=b z t (Bi P) ((out++X6 (P.drop i)).map E2))/\
  ((P.drop i).all ptI=false->∃l,∀(R:Type) (a:LL->Option R) (b:Bool->Bool->LL->LL->Option R),V7 LF n z t (Bi P) (P.length:Int) (i:Int) (out.map E2) a b=a l):=by
 intro r
 induction r with
 | zero=>
  intro i n out u v w;obtain⟨n,rfl⟩:∃m,n=m+1:=⟨n-1,by omega⟩
  rw[j1 (by omega)];refine⟨λ_ R a b=>?_,λh=>(by cases h)⟩;rw[V7];rw[A6];simp[X6]
 | succ r q=>
  intro i n out u v w;obtain⟨n,rfl⟩:∃m,n=m+1:=⟨n-1,by omega⟩
  have j:=A45 P i (by omega);have ok:=YL (l:=P) (i:=i) (by omega);rw[Ag5 P i (by omega)];generalize P.getD i 0=x at *;have p:A1 ((i:Int)+1)=((i+1:Nat):Int):=by rw[A7];rfl
  cases f:ptI x with
  | false=>
   refine⟨λh=>?_,λ_=>⟨out.map E2,λR a b=>?_⟩⟩
   ·rw[ab9,f] at h;cases h
   ·rw[V7];rw[A8,W0,F1,b9,ok];simp only[cond_true,vl,j,f,j0]
  | true=>
   obtain⟨y,B⟩:=Uz f;rw[ab9,f,ad6];by_cases c:x<128
   ·have d:X6 (x::P.drop (i+1))=w9 x.toNat::X6 (P.drop (i+1)):=by
     unfold X6;rw[List.filter_cons_of_pos (by simpa using c)];rfl
    have g:out.map E2++[[SV.int .u8 (wu8 x)]]=(out++[w9 x.toNat]).map E2:=by rw[C07 x y c];simp
    obtain⟨k,o⟩:=q (i+1) n (out++[w9 x.toNat]) (by omega) (by omega) (by simp;omega);have step:∀(R:Type) (a:LL->Option R) (b:Bool->Bool->LL->LL->Option R),V7 LF (n+1) z t (Bi P) (P.length:Int) (i:Int) (out.map E2) a b=V7 LF n z t (Bi P) (P.length:Int) ((i+1:Nat):Int) ((out++[w9 x.toNat]).map E2) a b:=by
     intro R a b;rw[V7];rw[A8,W0,F1,b9,ok];simp only[cond_true,vl,j,f,j2,cond_false,p];rw[B9 c,p4,F7 (by omega),g];rfl
    refine⟨λh R a b=>?_,λh=>?_⟩
    ·rw[step,k h,d];simp
    ·obtain⟨l,e⟩:=o h;exact⟨l,λR a b=>by rw[step];exact e R a b⟩
   ·have d:X6 (x::P.drop (i+1))=X6 (P.drop (i+1)):=by
     unfold X6;rw[List.filter_cons_of_neg (by simpa using c)]
    obtain⟨k,o⟩:=q (i+1) n out (by omega) (by omega) (by omega);have step:∀(R:Type) (a:LL->Option R) (b:Bool->Bool->LL->LL->Option R),V7 LF (n+1) z t (Bi P) (P.length:Int) (i:Int) (out.map E2) a b=V7 LF n z t (Bi P) (P.length:Int) ((i+1:Nat):Int) (out.map E2) a b:=by
     intro R a b;rw[V7];rw[A8,W0,F1,b9,ok];simp only[cond_true,vl,j,f,j2,cond_false,p];rw[A6];rfl
    refine⟨λh R a b=>?_,λh=>?_⟩
    ·rw[step,k h,d]
    ·obtain⟨l,e⟩:=o h;exact⟨l,λR a b=>by rw[step];exact e R a b⟩
theorem Bw4{P:List Int}(h:P.all ptI=true):∃a:List Nat,P=a.map (λn:Nat=>(n:Int))/\a.all W4=true/\∀p∈a,p<=1114111:=by
 induction P with
 | nil=>exact⟨[],rfl,rfl,by simp⟩
 | cons x P c=>
  rw[ab9,k9] at h;obtain⟨a,rfl,b,e⟩:=c h.2;obtain⟨d,f⟩:=Uz h.1;obtain⟨m,rfl⟩:=j8 d;refine⟨m::a,rfl,?_,?_⟩
  ·rw[ab9,b,ae7];exact h.1
  grind
theorem JP(a:List Nat):X6 (a.map λn:Nat=>(n:Int))=J0 a:=by
 unfold X6 J0
 induction a with
 | nil=>rfl
 | cons p r b=>
  grind
theorem Ua(a:List Nat):(J0 a).length=a.countP (λp=>decide (p<128)):=by unfold J0;grind
theorem Ba1(z t:Bool)(P:List Int):(X8 P=([],3)/\∀(R:Type) (b:Unit->Option R) (f:By->Int->LL->Option R),Am1 LF z t (Bi P) b f=b ())\/
  (∃l,∀(R:Type) (b:Unit->Option R) (f:By->Int->LL->Option R),Am1 LF z t (Bi P) b f=f (X8 P).1 ((X8 P).2:Nat) l):=by
 have x:=C5;by_cases j:256<P.length
 ·refine .inl ⟨by unfold X8;rw[if_pos j],λR b f=>?_⟩;unfold Am1;rw[W0,A8];rfl
 ·right
  obtain⟨v,w⟩:=Ba0 z t P (by omega) P.length 0 LF [] (by omega) (by omega) (by simp;omega);rw[o5] at v w;cases g:P.all ptI with
  | false=>
   obtain⟨l,e⟩:=w g;refine⟨l,λR b f=>?_⟩;unfold Am1;rw[W0,A6,cond_false];refine j7 (e R _ _) ?_;unfold X8;rw[if_neg j,g];rfl
  | true=>
   obtain⟨a,rfl,A,q⟩:=Bw4 g;rw[p4] at j;have m:X8 (a.map λn:Nat=>(n:Int))=Dn a:=by
    unfold X8;rw[p4,if_neg j,g];simp[ah3]
   have k:=Ua a;have y:a.countP (λp=>decide (p<128))<=a.length:=aa6;have main:∀(o:By),o.length<=300->∀(R:Type) (b:LL->Option R),Fy LF LF z t (B6 a) ((J0 a).length:Int) 128 0 72 ((J0 a).length:Int) (o.map E2) b=b ((S8 a (J0 a).length 256 128 { delta:=0,bias:=72,done:=(J0 a).length,out:=o }).out.map E2):=by
    intro o B R b;exact Ct5 z t a (J0 a).length (by omega) (by omega) q 256 128 LF { delta:=0,bias:=72,done:=(J0 a).length,out:=o } k (by simp only;omega) (by omega) (by simp) (by simp) (by simp only;omega) (by omega) R b
   have d:Dn a=((S8 a (J0 a).length 256 128 { delta:=0,bias:=72,done:=(J0 a).length,out:=if (J0 a).isEmpty then [] else J0 a++[45] }).out,0):=by
    unfold Dn;grind
   refine⟨(Dn a).1.map E2,λR b f=>?_⟩;unfold Am1;rw[W0,p4,A6,cond_false,m];have i:=v g R;rw[p4] at i;refine j7 (i _ _) ?_;rw[p7,JP,Rs];simp only[vl,p4];by_cases c:J0 a=[]
   ·rw[c,ab4,A6,cond_false];have r:=main [] (by simp) R;rw[c,ab4] at r;rw[ar0] at r;refine j7 (r _) ?_;rw[c] at d;rw[d];simp only[List.isEmpty_nil,if_true,ab4];rw[Y2,Z1];rfl
   ·have u:0<(J0 a).length:=ab7.2 c;rw[A8,cond_true,F7 (by omega),cond_true];have h:(J0 a).map E2++[[SV.int .u8 (45:Int)]]=(J0 a++[45]).map E2:=by rw[ag4];rfl
    rw[h];refine j7 (main (J0 a++[45]) (by simp;omega) R _) ?_;rw[d,if_neg (by simpa using c)];rw[Y2,Z1];rfl
theorem Df2(z t:Bool)(p:LL)(b:p.all Oj=true):∃r H,Am1 LF z t p (λ_=>rv (.tup [.s (.str []),.s (.int .i64 3)]) []) (λd e l=>rv (.tup [.s (.str d),.s (.int .i64 e)]) [.arr true 5 1 l])=rv r H/\
  r.stab [0,0] H = .tup [.s (.str (X8 (p.map elI)).1),.s (.int .i64 ((X8 (p.map elI)).2:Nat))]:=by
 obtain⟨P,rfl⟩:=Bu0 b;rw[Ag7];rcases Ba1 z t P with⟨c,a⟩|⟨l,a⟩
 ·exact⟨_,_,a _ _ _,by rw[c];rfl⟩
 ·exact⟨_,_,a _ _ _,rfl⟩
section
variable {Z R : Type} (L : Nat) (Q : G2) (Y : Yh Z) (s : Z) (k : Out -> St Z -> Option R)
noncomputable abbrev Ds7:Code:=C7 aq3
noncomputable def AX(L:Nat):Cfg:=B7 L [236] (A2 [(3,[0,1,0,0])]) [(238,IB),(250,Ax5)] (A2 [(17,[2]),(16,[0,2,0,53]),(15,[0,2,0]),(14,[2]),(13,[0,2,0,1,45]),(12,[0,2,0,0,0]),(11,[2]),(10,[0,2,0,0,41]),(9,[0,2,0,0]),(8,[0,2,0,0]),(7,[2]),(6,[0,2,0,0,18]),(5,[0,2,0,0]),(4,[2]),(3,[0,2,0,11]),(2,[0,2,0]),(1,[0,2]),(0,[0])]) [250] (A2 [(0,[2]),(1,[0,2,0])]) (some [2]) [(253,Rc)] [] [253]
noncomputable def Fr{R:Type}(L n:Nat)(p:Int)(c:By)(j o d:Int)(g l:Bool)(i:LL)(a:Int)(h:Int->By->Int->Int->Int->Bool->Bool->LL->Int->Option R):Option R:=match n with|0=>none|n+1=>cond (c==[]) (h 4 c j o d g l i a) (cond (inR 0 c.length) (cond (inR (bAt c (0:Int)) 256) (vl (E3 (u8n (bAt c (0:Int)))) λf=>cond (ltI f 0) (h 4 c j o d g l i a) (cond (I9 1 (c.length:Int) c.length) (vl (cut c 1 (c.length:Int)) λe=>vl (A1 (o+(A1 (f*p)))) λb=>cond (ltI 1099511627776 b) (h 19 e j b d g l i a) (cond (ltN a 1000000000000) (cond (ltN d 1000000) (cond (ltI f (L8 a d)) (h 0 e j b d g l i (af0 a (36:Int))) (vl (A1 ((36:Int)-(L8 a d))) λm=>cond (ltI 1099511627776 (A1 (p*m))) (h 19 e j b d g l i (af0 a (36:Int))) (Fr L n (A1 (p*m)) e j b d g l i (af0 a (36:Int)) h))) none) none)) none)) none) none)
theorem A36(n w0 g e f b c h d a):D0 4 ((AX L).keep 3) (bd (AX L) Q Y (cd [1,1,1,0,0] Ds7)) n ⟨gp [(0,.ptr 0 0 0),(2,.fnr (Fn.func 253) [] [.ptr 3 0 0,.ptr 2 0 0]),(0,pI w0)] 54,[.box [pS g,.fl 1,pI e,pI f,pI b,pB c],.arr h 3 1 d,.box [pI b],.box [pI a]],s⟩ k =
 Fr L n w0 g e f b c h d a (λn0 g e f b c h d a=>k .ret ⟨gp [(2,pI n0)] 56,[.box [pS g,.fl 1,pI e,pI f,pI b,pB c],.arr h 3 1 d,.box [pI b],.box [pI a]],s⟩):=by
 induction n generalizing w0 g e f b c h d a with
 | zero=>rfl
 | succ n i=>rw[Fr];simp only[<-i];kernel_rfl
noncomputable def Dt5{R:Type}(L:Nat)(g:By)(n i b:Int)(q z:Bool)(l:LL)(p:Int->By->Int->Int->Int->Bool->Bool->LL->Int->Option R):Option R:=Fr L L 1 g n i b q z l 0 (λj o m d e a h c f=>p j o m d e a h c f)
theorem C90(d:Nat)(rest n i b st z l):evC (AX L) (d+1) Z Y 236 [.ptr 0 0 0] [.box [pS rest,.fl 1,pI n,pI i,pI b,pB st],.arr z 3 1 l] s=Dt5 L rest n i b st z l (λj m g h c e o f a=>some (pI j,[.box [pS m,.fl 1,pI g,pI h,pI c,pB e],.arr o 3 1 f,.box [pI c],.box [pI a]],s)):=by refine(evE (fn:=aq3) (by kernel_rfl)).trans ?_;generalize evC (AX L) d=Q;unfold Dt5;exact(j7 (by kernel_rfl) ((A36 L Q Y s (E4 0 (F3 (AX L) aq3)) L 1 rest n i b st z l 0).trans (by kernel_rfl)))
noncomputable def WF(L:Nat):Cfg:=B7 L [212] (A2 []) [(215,Oz),(213,Pa)] (A2 [(16,[2]),(15,[]),(14,[0]),(13,[2]),(12,[0,67]),(11,[2]),(10,[0,4,60]),(9,[0,4]),(8,[0,4]),(7,[0,4]),(6,[0,4]),(5,[0,2,1]),(4,[2]),(3,[0,2,0,8]),(2,[0,2,0]),(1,[0,2]),(0,[0])]) [215,213] (A2 []) (some [2]) [(236,TD),(237,VG)] [] [236,237]
noncomputable def Bt1{R:Type}(L:Nat)(a:By)(n i b:Int)(m z:Bool)(l:LL)(j:Int->By->Int->Int->Int->Bool->Bool->LL->Option R):Option R:=cond (A3 a.length) (cond (ltN b 1000000) (cond (ltN i 1099511627777) (cond ((LZ b a i)!=0) (j (LZ b a i) (MB b a i) n (Uw b a i) b m z l) (vl (A1 ((l.length:Int)+1)) λc=>vl (A1 ((Uw b a i)-i)) λh=>cond (ltN h 1152921504606846976) (cond (ltN c 1000000) (cond (ltI 0 c) (vl (↑(Q9 (j6 h) (j6 c) (not m)):Int) λf=>cond (c !=0) (vl (A1 (ad0 (Uw b a i) c)) λd=>cond (c !=0) (vl (ag3 (Uw b a i) c) λe=>cond (not (ptI (A1 (n+d)))) (j 2 (MB b a i) (A1 (n+d)) e f true z l) (cond (ltI 256 c) (j 3 (MB b a i) (A1 (n+d)) e f true z l) (cond (ltN e (Nat.add l.length 1)) (cond (x8 l.length 100000) (vl (Mr l (j6 e) (A1 (n+d))) λg=>j 0 (MB b a i) (A1 (n+d)) (A1 (e+1)) f true z g) none) none))) none) none) none) none) none)) none) none) none
theorem Cn2(d:Nat)(rest n i b st z l):evC (WF L) (d+1) Z Y 212 [.ptr 0 0 0] [.box [pS rest,.fl 1,pI n,pI i,pI b,pB st],.arr z 3 1 l] s=Bt1 L rest n i b st z l (λh j e f g a m c=>some (pI h,[.box [pS j,.fl 1,pI e,pI f,pI g,pB a],.arr m 3 1 c],s)):=by refine(evE (fn:=Tryz.f212) (by kernel_rfl)).trans ?_;generalize evC (WF L) d=Q;unfold Bt1;kernel_rfl
noncomputable abbrev Tu:Code:=C7 aj7
noncomputable def An(L:Nat):Cfg:=B7 L [180] (A2 [(20,[2,0,1]),(13,[0,1,0,1,0,22,0]),(4,[0,1,0,9,0])]) [(98,FS)] (A2 [(24,[2,0]),(23,[2,0]),(22,[5,2,59]),(21,[5,2]),(20,[5,58]),(19,[2,0]),(18,[5,53]),(17,[5]),(16,[0,4,0,22,0]),(15,[0,4,0,22,0]),(14,[0,4,0,0,21,0]),(13,[0,4,0,22,0,0]),(12,[0,4,0,22,0]),(11,[0,4,0,21]),(10,[0,4,0]),(9,[0,4]),(8,[0,12,0]),(7,[2,0]),(6,[0,12,0,5]),(5,[0,3,8,0]),(4,[0,12,0,0]),(3,[0,12,0]),(2,[2,0]),(1,[0,10]),(0,[0])]) [98] (A2 [(4,[5]),(5,[5]),(2,[0,4,0]),(3,[0,4,0,22,0]),(0,[0]),(1,[0,12,0])]) (some [2,0]) [(212,FR)] [] [212] (nt:=[(211,1,3,1)])
noncomputable def Nb{R:Type}(L n:Nat)(b:By)(e a:Int)(c:Unit->Option R)(d:By->Option R):Option R:=match n with|0=>none|n+1=>cond (ltI a e) (cond (inR a b.length) (cond (not (ltI (bAt b a) (128:Int))) (c ()) (Nb L n b e (A1 (a+1)) c d)) none) (d b)
theorem A98(n a n1 n2):D0 0 ((An L).keep 4) (bd (An L) Q Y (cd [1,1,0,1,0,0] Tu)) n ⟨gp [(0,pS a),(12,pI n1),(0,pI n2)] 59,[],s⟩ k =
 Nb L n a n1 n2 (λ_=>k .ret ⟨gp [(2,.fl 0),(0,pI (4:Int))] 70,[.arr true 3 1 []],s⟩) (λa=>k (.exit 0) ⟨gp [(0,pS a)] 73,[],s⟩):=by
 induction n generalizing a n1 n2 with
 | zero=>rfl
 | succ n b=>rw[Nb];simp only[<-b];kernel_rfl
noncomputable def Jg{R:Type}(L n:Nat)(c:By)(a b:Int)(d:LL)(e:By->Int->LL->Option R):Option R:=match n with|0=>none|n+1=>cond (ltI b a) (cond (inR b c.length) (cond (G1 (d.length+1)) (Jg L n c a (A1 (b+1)) (d++[[(SV.int .i64 (A1 (bAt c b)))]]) e) none) none) (e c a d)
theorem A99(n b a n2 l3):D0 2 ((An L).keep 13) (bd (An L) Q Y (cd [1,1,1,1,0,1,1,0,0,1,0,0] Tu)) n ⟨gp [(0,pS b),(4,.ptr 1 0 0),(0,pI a),(22,pI a),(0,pI n2)] 43,[.arr true 3 1 l3,.box [pS b,.fl 0,pI (128:Int),pI (0:Int),pI (72:Int),pB false]],s⟩ k =
 Jg L n b a n2 l3 (λb a d=>k (.exit 2) ⟨gp [(0,pS b),(4,.ptr 1 0 0),(0,pI a)] 67,[.arr true 3 1 d,.box [pS b,.fl 0,pI (128:Int),pI (0:Int),pI (72:Int),pB false]],s⟩):=by
 induction n generalizing b a n2 l3 with
 | zero=>rfl
 | succ n c=>rw[Jg];simp only[<-c];kernel_rfl
noncomputable def U1{R:Type}(L n:Nat)(b:LL)(a:By)(c d e:Int)(f:Bool)(i:Int->LL->By->Int->Int->Int->Bool->Option R)(j:LL->By->Int->Int->Int->Bool->Option R):Option R:=match n with|0=>none|n+1=>cond (not (a==[])) (cond (A3 a.length) (cond (ltN e 1000000) (cond (ltN d 1099511627777) (cond (ltN c 1152921504606846976) (cond (x8 b.length 100000) (vl ((F6 (DS.mk a c d e f b))).1 λh=>vl (DS.l ((F6 (DS.mk a c d e f b))).2) λg=>cond (h !=0) (i h g (DS.rest ((F6 (DS.mk a c d e f b))).2) (DS.n ((F6 (DS.mk a c d e f b))).2) (DS.i ((F6 (DS.mk a c d e f b))).2) (DS.b ((F6 (DS.mk a c d e f b))).2) (DS.st ((F6 (DS.mk a c d e f b))).2)) (U1 L n g (DS.rest ((F6 (DS.mk a c d e f b))).2) (DS.n ((F6 (DS.mk a c d e f b))).2) (DS.i ((F6 (DS.mk a c d e f b))).2) (DS.b ((F6 (DS.mk a c d e f b))).2) (DS.st ((F6 (DS.mk a c d e f b))).2) i j)) none) none) none) none) none) (j b a c d e f)
theorem MI(n d f e a b c):D0 2 ((An L).keep 20) (bd (An L) Q Y (cd [1,1,1,1,1,1,0,0,0] Tu)) n ⟨gp [(5,.ptr 1 0 0)] 68,[.arr true 3 1 d,.box [pS f,.fl 0,pI e,pI a,pI b,pB c]],s⟩ k =
 U1 L n d f e a b c (λn0 i l a b j g=>k .ret ⟨gp [(2,.fl 2),(0,pI n0)] 70,[.arr true 3 1 i,.box [pS l,.fl 0,pI a,pI b,pI j,pB g],.arr true 3 1 []],s⟩) (λd f e a b c=>k (.exit 4) ⟨gp [(5,.ptr 1 0 0)] 68,[.arr true 3 1 d,.box [pS f,.fl 0,pI e,pI a,pI b,pB c]],s⟩):=by
 induction n generalizing d f e a b c with
 | zero=>rfl
 | succ n h=>rw[U1];simp only[<-h];kernel_rfl
noncomputable def Yb{R:Type}(L:Nat)(M:By)(N:Int->Option R)(K:Int->LL->By->Int->Int->Int->Bool->Option R)(O:LL->By->Int->Int->Int->Bool->Option R):Option R:=cond (ltI 1024 (M.length:Int)) (N 3) (Nb L L M (M.length:Int) 0 (λ_=>N 4) (λa=>cond (A3 a.length) (vl (L2 (u8n (45:Int)) a) λC=>cond (ltI 0 C) (Jg L L a C 0 [] (λb h c=>vl (A1 (h+1)) λD=>cond (I9 D (b.length:Int) b.length) (vl (cut b D (b.length:Int)) λJ=>cond (ltI 256 (c.length:Int)) (K 3 c J 128 0 72 false) (U1 L L c J 128 0 72 false (λn i F o p q d=>K n i F o p q d) (λj G r t u e=>O j G r t u e))) none)) (U1 L L [] a 128 0 72 false (λv l H w x y f=>K v l H w x y f) (λm I z A B g=>O m I z A B g))) none))
theorem De7(d:Nat)(s0):evC (An L) (d+1) Z Y 180 [pS s0] [] s=Yb L s0 (λg=>some (.tup [.fl 0,pI g],[.arr true 3 1 []],s)) (λg o v e f r m=>some (.tup [.fl 2,pI g],[.arr true 3 1 o,.box [pS v,.fl 0,pI e,pI f,pI r,pB m],.arr true 3 1 []],s)) (λn u q e f l=>some (.tup [.fl 0,pI (0:Int)],[.arr true 3 1 n,.box [pS u,.fl 0,pI q,pI e,pI f,pB l]],s)):=by refine(evE (fn:=aj7) (by kernel_rfl)).trans ?_;generalize evC (An L) d=Q;unfold Yb;exact let i:=(E4 4 (E1 (An L) Q Y (cd [1,1,1,1,1,1,1] Tu) (F3 (An L) aj7)));(j7 (by kernel_rfl) (A0 rfl ((A98 L Q Y s (E4 0 (E1 (An L) Q Y (cd [1,1,1] Tu) (F3 (An L) aj7))) L s0 (s0.length:Int) 0).trans (congr (congr rfl (by kernel_rfl)) (fx1 λa=>(j7 (by kernel_rfl) (A0 (A4 λc=>(A0 ((A99 L Q Y s (E4 2 (E1 (An L) Q Y (cd [1,1,1,1,0,1,1,0,1] Tu) (E1 (An L) Q Y (cd [1,1,1,1,1] Tu) (F3 (An L) aj7)))) L a c 0 []).trans (congr rfl (fx3 λt j b=>(j7 (by kernel_rfl) (A4 λp=>(A0 (A4 λh=>(A0 rfl ((MI L Q Y s i L b h 128 0 72 false).trans (by kernel_rfl)))) rfl)))))) ((MI L Q Y s i L [] a 128 0 72 false).trans (by kernel_rfl)))) rfl)))))))
noncomputable abbrev Ae4:Code:=C7 ap6
noncomputable def Hd(L:Nat):Cfg:=B7 L [133] (A2 [(2,[0,0,2,0])]) [] (A2 [(6,[4]),(3,[0,0,3]),(5,[4]),(4,[0,0,3,11]),(2,[0,0,3,4]),(1,[0,0,3]),(0,[0,0])]) [] (A2 [(0,[]),(1,[0,0,3])]) (some [4]) [] [] []
noncomputable def Dq{R:Type}(L n:Nat)(b:By)(c a:Int)(d:Int->Option R)(e:Unit->Option R):Option R:=match n with|0=>none|n+1=>cond (not (ltI a 0)) (cond (inR a b.length) (cond ((bAt b a)==c) (d a) (Dq L n b c (A1 (a-1)) d e)) none) (e ())
theorem XU(n s0 c1 i2):D0 0 ((Hd L).keep 2) (bd (Hd L) Q Y (cd [1,0,1,0,0] Ae4)) n ⟨gp [(0,pS s0),(0,p8 c1),(3,pI i2)] 13,[],s⟩ k =
 Dq L n s0 c1 i2 (λn0=>k .ret ⟨gp [(4,pI n0)] 14,[],s⟩) (λ_=>k (.exit 0) ⟨gp [] 19,[],s⟩):=by
 induction n generalizing s0 c1 i2 with
 | zero=>rfl
 | succ n a=>rw[Dq];simp only[<-a];kernel_rfl
noncomputable def XT{R:Type}(L:Nat)(d:By)(e:Int)(c:Int->Option R):Option R:=vl (A1 ((d.length:Int)-1)) λa=>Dq L L d e a (λb=>c b) (λ_=>c (-1))
theorem B36(d:Nat)(s0 c1):evC (Hd L) (d+1) Z Y 133 [pS s0,p8 c1] [] s=XT L s0 c1 (λb=>some (pI b,[],s)):=by refine(evE (fn:=ap6) (by kernel_rfl)).trans ?_;generalize evC (Hd L) d=Q;unfold XT;exact(j7 (by kernel_rfl) (A4 λa=>((XU L Q Y s (E4 0 (E1 (Hd L) Q Y (cd [1,1] Ae4) (F3 (Hd L) ap6))) L s0 c1 a).trans (by kernel_rfl))))
noncomputable def WJ(L:Nat):Cfg:=B7 L [98] (A2 []) [(133,Ad0)] (A2 [(1,[4]),(0,[0,0])]) [133] (A2 []) (some [4]) [] [] []
noncomputable def Bu4{R:Type}(L:Nat)(b:By)(a:Int)(c:Int->Option R):Option R:=cond (A3 b.length) (cond (inR a 256) (c (L2 (u8n a) b)) none) none
theorem Cq2(d:Nat)(s0 c1):evC (WJ L) (d+1) Z Y 98 [pS s0,p8 c1] [] s=Bu4 L s0 c1 (λa=>some (pI a,[],s)):=by refine(evE (fn:=Tryz.f98) (by kernel_rfl)).trans ?_;generalize evC (WJ L) d=Q;unfold Bu4;kernel_rfl
end
theorem Gh(c:UInt8):-1<=E3 c/\E3 c<=35:=by unfold E3 Oq;grind
theorem Nv(k b:Int):1<=L8 k b/\L8 k b<=26:=by unfold L8;omega
theorem Dx{x w:Int}(b:0<=x)(c:x<=35)(a:0<=w)(w1:w<=1099511627776):0<=x*w/\x*w<=38482906972160:=by refine⟨ao0 b a,?_⟩;have:=Int.mul_le_mul c w1 a (show(0:Int)<=35 by omega);omega
theorem Wp(b:Int):∀(s:By) (i w k:Int),0<=i->0<=w->w<=1099511627776->(U8 b s i w k).1=0->i<=(U8 b s i w k).2.2/\(U8 b s i w k).2.2<=1099511627776/\(U8 b s i w k).2.1.length<s.length
 | [],i,w,k,_,_,_,h=>by simp[U8] at h
 | c::r,i,w,k,m,d,a,h=>by
  have l:=Gh c;have o:=Nv k b;unfold U8 at h ⊢;split at h
  ·simp at h
  ·rename_i e;rw[if_neg e];have n:=Dx (by omega) l.2 d a;split at h
   ·simp at h
   ·rename_i f;rw[if_neg f];split at h
    ·grind
    ·rename_i g;rw[if_neg g];split at h
     ·omega
     ·rename_i j;rw[if_neg j];obtain⟨p,q,t⟩:=Wp b r (i+E3 c*w) (w*(36-L8 k b)) (k+36) (by omega) (ao0 d (by omega)) (by omega) h;grind
theorem B11(f:Int)(b:Int)(g z:Bool)(l:LL)(M:0<=b)(N:b<1000000):∀(s:By) (n:Nat) (i w k:Int),s.length<n->s.length<=1000000000->0<=i->i<=1099511627776->0<=w->w<=1099511627776->0<=k->k+36*s.length<=100000000000->
  ∃H,∀(R:Type) (a:Int->By->Int->Int->Int->Bool->Bool->LL->Int->Option R),Fr LF n w s f i b g z l k a=a (U8 b s i w k).1 (U8 b s i w k).2.1 f (U8 b s i w k).2.2 b g z l H:=by
 intro s
 induction s with
 | nil=>
  intro n i w k K L O B G h P o;obtain⟨n,rfl⟩:∃m,n=m+1:=⟨n-1,by omega⟩
  refine⟨k,λR a=>?_⟩;rw[Fr];rfl
 | cons c r T=>
  intro n i w k K L O B G h P o;obtain⟨n,rfl⟩:∃m,n=m+1:=⟨n-1,by omega⟩
  rw[p9] at K L o;have S:=Gh c;have V:=Nv k b;have Q:u8n (bAt (c::r) 0)=c:=by unfold u8n bAt;simp
  have C:inR (bAt (c::r) 0) 256=true:=by rw[Ax];have:=c.toNat_lt;exact K7 (by omega) (by simp;omega)
  have j:cut (c::r) 1 ((c::r).length:Int)=r:=by
   have:=Fp (c::r) 1 (c::r).length;grind
  have F:((c::r)==([]:By))=false:=rfl;have start:∀(R:Type) (a:Int->By->Int->Int->Int->Bool->Bool->LL->Int->Option R),Fr LF (n+1) w (c::r) f i b g z l k a =
    cond (ltI (E3 c) 0) (a 4 (c::r) f i b g z l k)
     (vl (A1 (i+(A1 (E3 c*w)))) λd=>cond (ltI 1099511627776 d) (a 19 r f d b g z l k)
      (cond (ltI (E3 c) (L8 k b)) (a 0 r f d b g z l (af0 k 36))
       (vl (A1 (36-(L8 k b))) λp=>cond (ltI 1099511627776 (A1 (w*p))) (a 19 r f d b g z l (af0 k 36)) (Fr LF n (A1 (w*p)) r f d b g z l (af0 k 36) a)))):=by
   intro R a;rw[Fr];rw[F,C,K7 (by omega) (by rw[p9];omega),Au (by omega) (by rw[p9];omega) (by omega),j,Q,M4,M4];rfl
  unfold U8;by_cases u:E3 c<0
  ·rw[if_pos u];refine⟨k,λR a=>?_⟩;rw[start,B9 u];rfl
  ·rw[if_neg u];have U:=Dx (by omega) S.2 G h;have q:A1 (E3 c*w)=E3 c*w:=A7;have t:A1 (i+E3 c*w)=i+E3 c*w:=A7;by_cases v:1099511627776<i+E3 c*w
   ·rw[if_pos v];refine⟨k,λR a=>?_⟩;rw[start,A6,q,t];simp only[vl,cond_false];rw[B9 v];rfl
   ·rw[if_neg v];by_cases y:E3 c<L8 k b
    ·rw[if_pos y];refine⟨af0 k 36,λR a=>?_⟩;rw[start,A6,q,t];simp only[vl,cond_false];rw[A6,B9 y];rfl
    ·rw[if_neg y];have I:A1 (36-L8 k b)=36-L8 k b:=A7;have D:=Dx (x:=36-L8 k b) (by omega) (by omega) G h;rw[Int.mul_comm] at D;have J:A1 (w*(36-L8 k b))=w*(36-L8 k b):=A7;by_cases A:1099511627776<w*(36-L8 k b)
     ·rw[if_pos A];refine⟨af0 k 36,λR a=>?_⟩;rw[start,A6,q,t];simp only[vl,cond_false];rw[A6,A6,I,J,B9 A];rfl
     ·rw[if_neg A];obtain⟨H,e⟩:=T n (i+E3 c*w) (w*(36-L8 k b)) (k+36) (by omega) (by omega) (by omega) (by omega) (by omega) (by omega) (by omega) (by omega);refine⟨H,λR a=>?_⟩;rw[start,A6,q,t];simp only[vl,cond_false];rw[A6,A6,I,J,A6];exact e R a
theorem B12(a:By)(n i b:Int)(f z:Bool)(l:LL)(h:A3 a.length=true)(j:ltN b 1000000=true)(k:ltN i 1099511627777=true) :
  ∃c,∀(R:Type) (d:Int->By->Int->Int->Int->Bool->Bool->LL->Int->Option R),Dt5 LF a n i b f z l d=d (LZ b a i) (MB b a i) n (Uw b a i) b f z l c:=by
 have q:=M5 h;obtain⟨g,p⟩:=E0.1 j;obtain⟨o,r⟩:=E0.1 k;have m:=C5;obtain⟨c,e⟩:=B11 n b f z l g (by omega) a LF i 1 0 (by omega) (by omega) o (by omega) (by omega) (by omega) (by omega) (by omega);exact⟨c,λR d=>e R _⟩
theorem A37{R:Type}{j:Int->By->Int->Int->Int->Bool->Bool->LL->Option R}(a:By)(n i b:Int)(d z:Bool)(l:LL)(y:A3 a.length=true)(C:ltN b 1000000=true)(g:ltN i 1099511627777=true)(D:ltN n 1152921504606846976=true)(h:x8 l.length 100000=true) :
  Bt1 LF a n i b d z l j=j (F6 ⟨a,n,i,b,d,l⟩).1 (F6 ⟨a,n,i,b,d,l⟩).2.rest (F6 ⟨a,n,i,b,d,l⟩).2.n (F6 ⟨a,n,i,b,d,l⟩).2.i (F6 ⟨a,n,i,b,d,l⟩).2.b (F6 ⟨a,n,i,b,d,l⟩).2.st z (F6 ⟨a,n,i,b,d,l⟩).2.l:=by
 obtain⟨F,P⟩:=E0.1 g;obtain⟨n0,Q⟩:=E0.1 D;have M:=ac2 h;unfold Bt1 F6;rw[y,C,g];simp only[cond_true];by_cases e:LZ b a i=0
 ·rw[if_pos e,e];obtain⟨G,I,S⟩:=Wp b a i 1 0 F (by omega) (by omega) e;have H:i<=Uw b a i:=G;have J:Uw b a i<=1099511627776:=I;have o:A1 ((l.length:Int)+1)=(l.length:Int)+1:=A7;simp only[vl];rw[o];generalize Uw b a i=x at *;have f:0<=x:=by omega
  obtain⟨X,rfl⟩:=j8 f;have p:A1 ((X:Int)-i)=(X:Int)-i:=A7;have u:((l.length:Int)+1)=((l.length+1:Nat):Int):=rfl;have v:ad0 (X:Int) ((l.length+1:Nat):Int)=((X / (l.length+1):Nat):Int):=M8 _ _;have w:ag3 (X:Int) ((l.length+1:Nat):Int)=((X % (l.length+1):Nat):Int):=Cy _ _;have L:=af2 X (l.length+1);have N:=ao2 X (show 0<l.length+1 by omega);rw[p,u,v,w];generalize hA:X / (l.length+1)=A at *;generalize K:X % (l.length+1)=B at *;have q:A1 (A:Int)=(A:Int):=A7;have r:A1 (n+(A:Int))=n+(A:Int):=A7;have t:A1 ((B:Int)+1)=(B:Int)+1:=A7;have k:((0:Int)!=0)=false:=rfl;have m:((((l.length+1:Nat):Int))!=0)=true:=by rw[bne_iff_ne];omega
  rw[q,r,t,k,M4,M4,A8,m];simp only[cond_true,cond_false];cases O:ptI (n+(A:Int)) with
  | false=>simp
  | true=>
   simp only[j2,cond_false,if_true];by_cases c:(256:Int)<((l.length+1:Nat):Int)
   ·rw[if_pos c,B9 c];rfl
   ·rw[if_neg c,A6,cond_false,Sv (by omega) (by show(B:Int)<((l.length+1:Nat):Int);omega),h];rfl
 ·rw[if_neg e,show(LZ b a i !=0)=true from bne_iff_ne.2 e];rfl
theorem LI(c:UInt8):∀l:By,-1<=L2 c l
 | []=>by simp[L2]
 | b::r=>by
  have:=LI c r;unfold L2;omega
theorem LJ(c b:UInt8):∀l:By,L2 c (l++[b])=if b=c then (l.length:Int) else L2 c l
 | []=>by
  by_cases h:b=c<;>simp[L2,h]
 | a::l=>by
  have d:=LJ c b l;rw[ae3,L2,d];by_cases h:b=c
  ·grind
  ·rw[if_neg h,if_neg h];rfl
theorem Ai9{R:Type}{b:Int->Option R}{d:Unit->Option R}(s:By)(c:UInt8)(l:s.length<=1000000000):∀(m n:Nat),m<=s.length->m<n->
  Dq LF n s (c.toNat:Int) ((m:Int)-1) b d=if L2 c (s.take m)<0 then d () else b (L2 c (s.take m)):=by
 intro m
 induction m with
 | zero=>
  intro n g i;obtain⟨n,rfl⟩:∃m,n=m+1:=⟨n-1,by omega⟩
  rw[Dq];rw[A8];rfl
 | succ m k=>
  intro n g i;obtain⟨n,rfl⟩:∃m,n=m+1:=⟨n-1,by omega⟩
  rw[Dq];have e0:(((m+1:Nat):Int)-1)=(m:Int):=by omega
  have e:A1 ((m:Int)-1)=(m:Int)-1:=A7;have j:s.take (m+1)=s.take m++[s.getD m 0]:=by
   rw[al8,b8,j4 (by omega)];rfl
  rw[e0,e,A6,F1,D3,j,LJ];simp only[j0,cond_true];by_cases h:s.getD m 0=c
  ·rw[if_pos h,h,beq_self_eq_true,cond_true,p5,ai8 (by omega),G0]
  ·have a:(((s.getD m 0).toNat:Int)==(c.toNat:Int))=false:=by
    rw[beq_eq_false_iff_ne];intro f;exact h (an7 (Int.ofNat.inj f))
   rw[if_neg h,a,cond_false];exact k n (by omega) (by omega)
theorem C09{c:Int}(h:inR c 256=true):c=((u8n c).toNat:Int):=by simp only[inR,k9,decide_eq_true_eq] at h;unfold u8n;simp;omega
theorem Aj0{R:Type}{a:Int->Option R}(s:By)(c:Int)(e:A3 s.length=true)(f:inR c 256=true):XT LF s c a=a (L2 (u8n c) s):=by
 have j:=M5 e;have g:=C5;have i:=C09 f;generalize u8n c=d at *;subst i;unfold XT;have b:A1 ((s.length:Int)-1)=(s.length:Int)-1:=A7;simp only[vl];rw[b];refine j7 (Ai9 s d (by omega) s.length LF (by omega) (by omega)) ?_;rw[an0];have:=LI d s;by_cases h:L2 d s<0
 ·rw[if_pos h,show L2 d s=-1 by omega]
 ·rw[if_neg h]
theorem A66{R:Type}{a:Int->Option R}(s:By)(c:Int)(b:A3 s.length=true)(d:inR c 256=true):Bu4 LF s c a=a (L2 (u8n c) s):=by unfold Bu4;grind
theorem Qa:∀s:By,(45∈s->L2 45 s=(G9 s:Int))/\(45∉s->L2 45 s=-1/\G9 s=0)
 | []=>⟨λh=>(by cases h),λ_=>⟨rfl,rfl⟩⟩
 | b::r=>by
  obtain⟨a,c⟩:=Qa r;unfold L2 G9;grind
theorem Au9{c:UInt8}(h:Oq c=none):E3 c=-1:=by unfold E3;rw[h]
theorem Av0{c:UInt8}{x:Nat}(h:Oq c=some x):E3 c=x:=by unfold E3;rw[h]
theorem Wq(b:Nat):∀(s:By) (i w k:Nat),U8 (b:Int) s (i:Int) (w:Int) ((36*k:Nat):Int)=((((D9 b s i w k).2.2:Nat):Int),(U8 (b:Int) s (i:Int) (w:Int) ((36*k:Nat):Int)).2)/\
  ((D9 b s i w k).2.2=0->(U8 (b:Int) s (i:Int) (w:Int) ((36*k:Nat):Int)).2=((D9 b s i w k).2.1,((D9 b s i w k).1:Int)))
 | [],i,w,k=>⟨rfl,λh=>by simp[D9] at h⟩
 | c::r,i,w,k=>by
  unfold U8 D9;cases d:Oq c with
  | none=>
   rw[Au9 d,Q5];grind
  | some x=>
   rw[Av0 d,G0,Zi];have e:(i:Int)+(x:Int)*(w:Int)=((i+x*w:Nat):Int):=by push_cast;rfl
   have n:=X4 k b;have f:(w:Int)*(36-(thr k b:Int))=((w*(36-thr k b):Nat):Int):=by grind
   have g:((36*k:Nat):Int)+36=((36*(k+1):Nat):Int):=by omega
   have a:W8=1099511627776:=by decide
   rw[e,f,g,a];simp only;generalize i+x*w=I;generalize w*(36-thr k b)=W;by_cases j:1099511627776<I
   ·grind
   ·rw[G0,if_neg j];by_cases l:x<thr k b
    ·grind
    ·rw[G0,if_neg l];by_cases m:1099511627776<W
     ·grind
     ·rw[G0,if_neg m];exact Wq b r I W (k+1)
theorem Cp4(l:List Nat)(i n:Nat):Mr (B6 l) i (n:Int)=B6 (W3 l i n):=by unfold Mr W3 B6;simp_all
theorem YI(b:Nat)(s:By)(i:Nat):LZ (b:Int) s (i:Int)=((D9 b s i 1 0).2.2:Int)/\((D9 b s i 1 0).2.2=0->MB (b:Int) s (i:Int)=(D9 b s i 1 0).2.1/\Uw (b:Int) s (i:Int)=((D9 b s i 1 0).1:Int)):=by obtain⟨a,c⟩:=Wq b s i 1 0;have e:U8 (b:Int) s (i:Int) 1 0=U8 (b:Int) s (i:Int) ((1:Nat):Int) ((36*0:Nat):Int):=rfl;unfold LZ MB Uw;rw[e];refine⟨by rw[a],λh=>?_⟩;have:=c h;rw[this];exact⟨rfl,rfl⟩
theorem D31(s:By)(a:List Nat)(n i b:Nat)(c:Bool)(h:(D9 b s i 1 0).2.2=0)(q:i<=(D9 b s i 1 0).1)(o:W4 (n+(D9 b s i 1 0).1 / (a.length+1))=true)(p:¬ 256<a.length+1) :
  F6 ⟨s,(n:Int),(i:Int),(b:Int),c,B6 a⟩=(0,⟨(D9 b s i 1 0).2.1,((n+(D9 b s i 1 0).1 / (a.length+1):Nat):Int),(((D9 b s i 1 0).1 % (a.length+1)+1:Nat):Int),((Q9 ((D9 b s i 1 0).1-i) (a.length+1) (!c):Nat):Int),true,B6 (W3 a ((D9 b s i 1 0).1 % (a.length+1)) (n+(D9 b s i 1 0).1 / (a.length+1)))⟩):=by
 obtain⟨j,k⟩:=YI b s i;obtain⟨l,m⟩:=k h;unfold F6;simp only;rw[j,h,if_pos (show((0:Nat):Int)=0 from rfl),l,m,D4];generalize (D9 b s i 1 0).1=X at *;have d:((a.length:Int)+1)=((a.length+1:Nat):Int):=rfl;have e:ad0 (X:Int) ((a.length+1:Nat):Int)=((X / (a.length+1):Nat):Int):=M8 _ _;have f:ag3 (X:Int) ((a.length+1:Nat):Int)=((X % (a.length+1):Nat):Int):=Cy _ _;have g:(n:Int)+((X / (a.length+1):Nat):Int)=((n+X / (a.length+1):Nat):Int):=rfl;rw[d,e,f,g,Nc,o,if_pos rfl,G0,b9,Cp4,b9,show((X:Int)-(i:Int)).toNat=X-i by omega];rfl
theorem Dt6(s:By)(a:List Nat)(n i b:Nat)(f:Bool):((D9 b s i 1 0).2.2≠0->(F6 ⟨s,(n:Int),(i:Int),(b:Int),f,B6 a⟩).1=((D9 b s i 1 0).2.2:Int))/\
  ((D9 b s i 1 0).2.2=0->W4 (n+(D9 b s i 1 0).1 / (a.length+1))=false->(F6 ⟨s,(n:Int),(i:Int),(b:Int),f,B6 a⟩).1=2)/\
  ((D9 b s i 1 0).2.2=0->W4 (n+(D9 b s i 1 0).1 / (a.length+1))=true->256<a.length+1->(F6 ⟨s,(n:Int),(i:Int),(b:Int),f,B6 a⟩).1=3):=by
 obtain⟨c,l⟩:=YI b s i;have g:(((B6 a).length:Int)+1)=((a.length+1:Nat):Int):=by rw[D4];rfl
 have j:∀X:Nat,ad0 (X:Int) ((a.length+1:Nat):Int)=((X / (a.length+1):Nat):Int):=λX=>M8 _ _
 have k:∀A:Nat,(n:Int)+(A:Int)=((n+A:Nat):Int):=λA=>rfl
 refine⟨λh=>?_,λh e=>?_,λh e o=>?_⟩
 ·unfold F6;simp only;rw[c,G0]
 ·obtain⟨m,d⟩:=l h;unfold F6;simp only;rw[c,h,if_pos (show((0:Nat):Int)=0 from rfl),d,g,j,k,Nc,e,if_neg (by simp)]
 ·obtain⟨m,d⟩:=l h;unfold F6;simp only;rw[c,h,if_pos (show((0:Nat):Int)=0 from rfl),d,g,j,k,Nc,e,if_pos rfl,Q5]
theorem Dl(a:List Nat)(n i b:Nat)(f:Bool):I1 [] a n i b f=(a,0):=by rw[I1];rfl
theorem Hm{s:By}(c:s≠[])(a:List Nat)(n i b:Nat)(f:Bool)(h:(D9 b s i 1 0).2.2≠0):I1 s a n i b f=([],(D9 b s i 1 0).2.2):=by rw[I1,dif_neg c];grind
theorem Ep{s:By}(c:s≠[])(a:List Nat)(n i b:Nat)(f:Bool)(h:(D9 b s i 1 0).2.2=0):I1 s a n i b f =
  if W4 (n+(D9 b s i 1 0).1 / (a.length+1)) then (if 256<a.length+1 then ([],3) else I1 (D9 b s i 1 0).2.1 (W3 a ((D9 b s i 1 0).1 % (a.length+1)) (n+(D9 b s i 1 0).1 / (a.length+1))) (n+(D9 b s i 1 0).1 / (a.length+1)) ((D9 b s i 1 0).1 % (a.length+1)+1) (Q9 ((D9 b s i 1 0).1-i) (a.length+1) f) false) else ([],2):=by
 rw[I1,dif_neg c];simp only;rw[dif_pos h]
theorem Bu(l:List Nat)(i n:Nat):(W3 l i n).length=l.length+1:=by unfold W3;grind
theorem B70:∀(r:Nat) (s:By) (a:List Nat) (n i b f:Nat) (c:Bool),s.length<=r->r<f->s.length<=1000000->a.length<=256->n<=1114111->i<=1000->b<=500->
  ((I1 s a n i b (!c)).2=0->∃u t q p j,∀(R:Type) (d:Int->LL->By->Int->Int->Int->Bool->Option R) (g:LL->By->Int->Int->Int->Bool->Option R),U1 LF f (B6 a) s (n:Int) (i:Int) (b:Int) c d g=g (B6 (I1 s a n i b (!c)).1) u t q p j)/\
  ((I1 s a n i b (!c)).2≠0->(I1 s a n i b (!c)).1=[]/\∃l u t q p j,∀(R:Type) (d:Int->LL->By->Int->Int->Int->Bool->Option R) (g:LL->By->Int->Int->Int->Bool->Option R),U1 LF f (B6 a) s (n:Int) (i:Int) (b:Int) c d g=d ((I1 s a n i b (!c)).2:Nat) l u t q p j):=by
 intro r
 induction r with
 | zero=>
  intro s a n i b f c h K _ _ _ _ _;obtain⟨f,rfl⟩:∃m,f=m+1:=⟨f-1,by omega⟩
  have v:s=[]:=o0.1 (by omega);subst v;rw[Dl];refine⟨λ_=>⟨[],n,i,b,c,λR d g=>?_⟩,λh=>absurd rfl h⟩;rw[U1];rfl
 | succ r L=>
  intro s a n i b f c h K X Y Z h4 h5;obtain⟨f,rfl⟩:∃m,f=m+1:=⟨f-1,by omega⟩
  by_cases v:s=[]
  ·subst v;rw[Dl];refine⟨λ_=>⟨[],n,i,b,c,λR d g=>?_⟩,λh=>absurd rfl h⟩;rw[U1];rfl
  ·have start:∀(R:Type) (d:Int->LL->By->Int->Int->Int->Bool->Option R) (g:LL->By->Int->Int->Int->Bool->Option R),U1 LF (f+1) (B6 a) s (n:Int) (i:Int) (b:Int) c d g =
     cond ((F6 ⟨s,n,i,b,c,B6 a⟩).1 !=0) (d (F6 ⟨s,n,i,b,c,B6 a⟩).1 (F6 ⟨s,n,i,b,c,B6 a⟩).2.l (F6 ⟨s,n,i,b,c,B6 a⟩).2.rest (F6 ⟨s,n,i,b,c,B6 a⟩).2.n (F6 ⟨s,n,i,b,c,B6 a⟩).2.i (F6 ⟨s,n,i,b,c,B6 a⟩).2.b (F6 ⟨s,n,i,b,c,B6 a⟩).2.st)
      (U1 LF f (F6 ⟨s,n,i,b,c,B6 a⟩).2.l (F6 ⟨s,n,i,b,c,B6 a⟩).2.rest (F6 ⟨s,n,i,b,c,B6 a⟩).2.n (F6 ⟨s,n,i,b,c,B6 a⟩).2.i (F6 ⟨s,n,i,b,c,B6 a⟩).2.b (F6 ⟨s,n,i,b,c,B6 a⟩).2.st d g):=by
    intro R d g;rw[U1];rw[show(s==([]:By))=false from beq_eq_false_iff_ne.2 v,J8,M4,M4,M4,D4,aa7 (show a.length<=100000 by omega)];rfl
   obtain⟨G,H,I⟩:=Dt6 s a n i b c;have o:=D31 s a n i b c;generalize F6 ⟨s,n,i,b,c,B6 a⟩=D at *;by_cases k:(D9 b s i 1 0).2.2=0
   ·rw[Ep v a n i b (!c) k];obtain⟨M,N⟩:=YI b s i;obtain⟨O,P⟩:=N k;have J:LZ (b:Int) s (i:Int)=0:=by rw[M,k];rfl
    obtain⟨U,V,W⟩:=Wp b s i 1 0 (by omega) (by omega) (by omega) J;have A:(i:Int)<=Uw (b:Int) s (i:Int):=U;have B:Uw (b:Int) s (i:Int)<=1099511627776:=V;have C:(MB (b:Int) s (i:Int)).length<s.length:=W;rw[P] at A B;rw[O] at C;cases x:W4 (n+(D9 b s i 1 0).1 / (a.length+1)) with
    | false=>
     rw[if_neg (by simp)];refine⟨λh=>by simp at h,λ_=>⟨rfl,D.2.l,D.2.rest,D.2.n,D.2.i,D.2.b,D.2.st,λR d g=>?_⟩⟩
     ·rw[start,H k x];rfl
    | true=>
     rw[if_pos rfl];by_cases w:256<a.length+1
     ·rw[if_pos w];refine⟨λh=>by simp at h,λ_=>⟨rfl,D.2.l,D.2.rest,D.2.n,D.2.i,D.2.b,D.2.st,λR d g=>?_⟩⟩;rw[start,I k x w];rfl
     ·rw[if_neg w];have o:=o k (by omega) x w;have z:n+(D9 b s i 1 0).1 / (a.length+1)<=1114111:=by
       unfold W4 at x;simp_all
      have F:=ao2 (D9 b s i 1 0).1 (show 0<a.length+1 by omega);have y:=Pf ((D9 b s i 1 0).1-i) (a.length+1) (!c) (by omega);have:=L (D9 b s i 1 0).2.1 (W3 a ((D9 b s i 1 0).1 % (a.length+1)) (n+(D9 b s i 1 0).1 / (a.length+1))) (n+(D9 b s i 1 0).1 / (a.length+1)) ((D9 b s i 1 0).1 % (a.length+1)+1) (Q9 ((D9 b s i 1 0).1-i) (a.length+1) (!c)) f true (by omega) (by omega) (by omega) (by rw[Bu];omega) z (by omega) y;obtain⟨Q,S⟩:=this;refine⟨λh=>?_,λh=>?_⟩
      ·obtain⟨u,t,q,p,j,e⟩:=Q h;refine⟨u,t,q,p,j,λR d g=>?_⟩;rw[start,o];exact e R d g
      ·obtain⟨T,l,u,t,q,p,j,e⟩:=S h;refine⟨T,l,u,t,q,p,j,λR d g=>?_⟩;rw[start,o];exact e R d g
   ·rw[Hm v a n i b (!c) k];refine⟨λh=>absurd h k,λ_=>⟨rfl,D.2.l,D.2.rest,D.2.n,D.2.i,D.2.b,D.2.st,λR d g=>?_⟩⟩;rw[start,G k,show(((D9 b s i 1 0).2.2:Int)!=0)=true by rw[bne_iff_ne];omega];rfl
theorem Dy(l:List Nat):My l=B6 l:=rfl
theorem A96{R:Type}{k0:Unit->Option R}{k1:By->Option R}(s:By)(f:s.length<=1000000):∀(r i n:Nat),i+r=s.length->r<n->
  Nb LF n s (s.length:Int) (i:Int) k0 k1=if (s.drop i).any (λb=>x8 128 b.toNat) then k0 () else k1 s:=by
 intro r
 induction r with
 | zero=>
  intro i n c d;obtain⟨n,rfl⟩:∃m,n=m+1:=⟨n-1,by omega⟩
  rw[Nb];rw[A6,j1 (by omega)];rfl
 | succ r e=>
  intro i n c d;obtain⟨n,rfl⟩:∃m,n=m+1:=⟨n-1,by omega⟩
  rw[Nb];have a:A1 ((i:Int)+1)=((i+1:Nat):Int):=by rw[A7];rfl
  rw[A8,F1,D3,D6 s i (by omega),a,ak1];simp only[cond_true];generalize s.getD i 0=b;by_cases h:128<=b.toNat
  ·rw[A6,aa7 h];rfl
  ·have:x8 128 b.toNat=false:=by rw[aa1,ne_eq,y5];exact h
   rw[A8,this,ag1];exact e (i+1) n (by omega) (by omega)
theorem B69{R:Type}{k0:By->Int->LL->Option R}(s:By)(q:s.length<=1000000)(k:Nat)(p:k<=s.length):∀(r i n:Nat) (l:List Nat),i+r=k->r<n->l.length=i->
  Jg LF n s (k:Int) (i:Int) (B6 l) k0=k0 s (k:Int) (B6 (l++((s.take k).drop i).map (·.toNat))):=by
 intro r
 induction r with
 | zero=>
  intro i n l f h g;obtain⟨n,rfl⟩:∃m,n=m+1:=⟨n-1,by omega⟩
  rw[Jg];rw[A6,j1 (by rw[p5];omega)];simp
 | succ r j=>
  intro i n l f h g;obtain⟨n,rfl⟩:∃m,n=m+1:=⟨n-1,by omega⟩
  rw[Jg];have c:A1 ((i:Int)+1)=((i+1:Nat):Int):=by rw[A7];rfl
  have e:(s.take k).drop i=s.getD i 0::(s.take k).drop (i+1):=by
   rw[D6 (s.take k) i (by rw[p5];omega)]
   congr 1
   rw[b8,b8,List.getElem?_take_of_lt (by omega)]
  rw[A8,F1,D3,e,D4,F7 (by omega),c];simp only[cond_true];generalize s.getD i 0=b;have o:=b.toNat_lt;have d:A1 (b.toNat:Int)=(b.toNat:Int):=A7;have a:B6 l++[[SV.int .i64 (A1 (b.toNat:Int))]]=B6 (l++[b.toNat]):=by rw[d,Lb];rfl
  rw[a,j (i+1) n _ (by omega) (by omega) (by simp;omega)];simp
theorem Qb:∀s:By,G9 s<=s.length-1
 | []=>by simp[G9]
 | b::r=>by
  have:=Qb r;unfold G9;grind
theorem A97(s:By)(M:A3 s.length=true):(∃e,O4 s=([],e)/\∀(R:Type) (k0:Int->Option R) (k1:Int->LL->By->Int->Int->Int->Bool->Option R) (a:LL->By->Int->Int->Int->Bool->Option R),Yb LF s k0 k1 a=k0 (e:Nat))\/
  (∃e l k j i f c,O4 s=([],e)/\∀(R:Type) (k0:Int->Option R) (k1:Int->LL->By->Int->Int->Int->Bool->Option R) (a:LL->By->Int->Int->Int->Bool->Option R),Yb LF s k0 k1 a=k1 (e:Nat) l k j i f c)\/
  ((O4 s).2=0/\∃k j i f c,∀(R:Type) (k0:Int->Option R) (k1:Int->LL->By->Int->Int->Int->Bool->Option R) (a:LL->By->Int->Int->Int->Bool->Option R),Yb LF s k0 k1 a=a (B6 (O4 s).1) k j i f c):=by
 have N:=C5;unfold O4;by_cases C:1024<s.length
 ·rw[if_pos C];refine .inl ⟨3,rfl,λR k0 k1 a=>?_⟩;unfold Yb;rw[A8];rfl
 ·rw[if_neg C];have r:=λ(R:Type) (G:Unit->Option R) (H:By->Option R)=>A96 (k0:=G) (k1:=H) s (by omega) s.length 0 LF (by omega) (by omega)
  rw[o5] at r;cases A:s.any (λb=>x8 128 b.toNat) with
  | true=>
   rw[if_pos rfl];refine .inl ⟨4,rfl,λR k0 k1 a=>?_⟩;unfold Yb;rw[A6,cond_false];refine j7 (r R _ _) ?_;rw[A,if_pos rfl];rfl
  | false=>
   rw[if_neg (by simp)];obtain⟨I,J⟩:=Qa s;have O:=Qb s;have key:∀(d:List Nat) (t:By),d.length<=256->t.length<=1024->(∀(R:Type) (k0:Int->Option R) (k1:Int->LL->By->Int->Int->Int->Bool->Option R) (a:LL->By->Int->Int->Int->Bool->Option R),Yb LF s k0 k1 a=U1 LF LF (B6 d) t 128 0 72 false k1 a)->
     (∃e l k j i f c,I1 t d 128 0 72 true=([],e)/\∀(R:Type) (k0:Int->Option R) (k1:Int->LL->By->Int->Int->Int->Bool->Option R) (a:LL->By->Int->Int->Int->Bool->Option R),Yb LF s k0 k1 a=k1 (e:Nat) l k j i f c)\/
     ((I1 t d 128 0 72 true).2=0/\∃k j i f c,∀(R:Type) (k0:Int->Option R) (k1:Int->LL->By->Int->Int->Int->Bool->Option R) (a:LL->By->Int->Int->Int->Bool->Option R),Yb LF s k0 k1 a=a (B6 (I1 t d 128 0 72 true).1) k j i f c):=by
    intro d t P V B;obtain⟨D,F⟩:=B70 t.length t d 128 0 72 LF false (af5 _) (by omega) (by omega) P (by omega) (by omega) (by omega);rw[j0] at D F;by_cases w:(I1 t d 128 0 72 true).2=0
    ·obtain⟨k,j,i,f,c,e⟩:=D w;exact .inr ⟨w,k,j,i,f,c,λR k0 k1 a=>by rw[B];exact e R k1 a⟩
    ·obtain⟨S,l,k,j,i,f,c,e⟩:=F w;exact .inl ⟨_,l,k,j,i,f,c,Prod.ext S rfl,λR k0 k1 a=>by rw[B];exact e R k1 a⟩
   have Q:u8n 45=45:=rfl;have top:∀(R:Type) (k0:Int->Option R) (k1:Int->LL->By->Int->Int->Int->Bool->Option R) (a:LL->By->Int->Int->Int->Bool->Option R),Yb LF s k0 k1 a =
     cond (ltI 0 (L2 45 s)) (Jg LF LF s (L2 45 s) 0 [] (λn x u=>cond (I9 (A1 (x+1)) (n.length:Int) n.length)
      (vl (cut n (A1 (x+1)) (n.length:Int)) λy=>cond (ltI 256 (u.length:Int)) (k1 3 u y 128 0 72 false) (U1 LF LF u y 128 0 72 false k1 a)) none))
      (U1 LF LF [] s 128 0 72 false k1 a):=by
    intro R k0 k1 a;unfold Yb;rw[A6,cond_false];refine j7 (r R _ _) ?_;rw[A,if_neg (by simp),M,Q];rfl
   by_cases T:0<G9 s
   ·have v:45∈s:=by
     apply ae6;intro h;have:=(J h).2;omega
    have z:=I v;generalize G9 s=m at *;have g:=λ(R:Type) (K:By->Int->LL->Option R)=>B69 (k0:=K) s (by omega) m (by omega) m 0 LF [] (by omega) (by omega) rfl
    rw[o5] at g;have L:A1 ((m:Int)+1)=((m+1:Nat):Int):=by rw[A7];rfl
    have p:((s.take m).map (·.toNat)).length=m:=by rw[p4,p5];omega
    have q:∀(R:Type) (k0:Int->Option R) (k1:Int->LL->By->Int->Int->Int->Bool->Option R) (a:LL->By->Int->Int->Int->Bool->Option R),Yb LF s k0 k1 a =
      cond (ltI 256 (m:Int)) (k1 3 (B6 ((s.take m).map (·.toNat))) (s.drop (m+1)) 128 0 72 false) (U1 LF LF (B6 ((s.take m).map (·.toNat))) (s.drop (m+1)) 128 0 72 false k1 a):=by
     intro R k0 k1 a;rw[top,z,A8,cond_true];refine j7 (g R _) ?_;rw[L,I8,Fp,an0,p7,D4,p];rfl
    by_cases o:256<m
    ·rw[if_pos o];refine .inr (.inl ⟨3,B6 ((s.take m).map (·.toNat)),s.drop (m+1),128,0,72,false,rfl,λR k0 k1 a=>?_⟩);rw[q,A8];rfl
    ·rw[if_neg o,if_neg (show ¬m=0 by omega)];exact .inr (key _ (s.drop (m+1)) (by rw[p];omega) (by rw[j9];omega) (λR k0 k1 a=>by rw[q,A6];rfl))
   ·have w:G9 s=0:=by omega
    have z:¬ 0<L2 45 s:=by
     by_cases U:45∈s;all_goals grind
    rw[w,G0,if_pos rfl];refine .inr (key [] s (by simp) (by omega) (λR k0 k1 a=>?_));rw[top,A6];rfl
theorem Xw(l:List Nat):(B6 l).isEmpty=l.isEmpty:=by cases l<;>rfl
theorem De8(s:By)(k:A3 s.length=true):∃r H,Yb LF s (λf=>rv (.tup [.fl 0,.s (.int .i64 f)]) [.arr true 3 1 []]) (λf o w c d t j=>rv (.tup [.fl 2,.s (.int .i64 f)]) [.arr true 3 1 o,.box [.s (.str w),.fl 0,.s (.int .i64 c),.s (.int .i64 d),.s (.int .i64 t),.s (.bool j)],.arr true 3 1 []]) (λn v q c d i=>rv (.tup [.fl 0,.s (.int .i64 (0:Int))]) [.arr true 3 1 n,.box [.s (.str v),.fl 0,.s (.int .i64 q),.s (.int .i64 c),.s (.int .i64 d),.s (.bool i)]])=rv r H/\
  r.stab [1,0] H = .tup [.s (.sl (O4 s).1.isEmpty (O4 s).1.isEmpty 1 (My (O4 s).1)),.s (.int .i64 ((O4 s).2:Nat))]:=by
 rcases A97 s k with⟨e,a,b⟩|⟨e,l,u,p,m,h,g,a,b⟩|⟨a,u,p,m,h,g,b⟩
 ·refine⟨_,_,b _ _ _ _,?_⟩;rw[a];rfl
 ·refine⟨_,_,b _ _ _ _,?_⟩;rw[a];rfl
 ·refine⟨_,_,b _ _ _ _,?_⟩;rw[a,Dy];simp[PV.stab,Pt,Sk,PV.snap,N0,Xw]
end
section
open Go
theorem V4(x y:By)(r:List By)(p:By):ab6 (x::y::r) p=x++(p++ab6 (y::r) p):=by simp[ab6,List.intercalate]
theorem Qi(c:UInt8):∀l:List By,l≠[]->(∀x∈l,c∉x)->pcs c (ab6 l [c])=l
 | [],h,_=>absurd rfl h
 | [x],_,h=>by rw[af7,Lf (h x (by simp))]
 | x::y::r,_,h=>by
  rw[V4,List.singleton_append,GL (h x (by simp)),Qi c (y::r) (by simp) (λz a=>h z (by simp[a]))]
theorem Aj2(c:UInt8):∀(n:Nat) (s:By),s.length<=n->ab6 (pcs c s) [c]=s
 | n,s,a=>by
  rcases Q7 c s with h|⟨p,r,rfl,h⟩
  ·rw[Lf h,af7]
  ·rw[GL h];cases n with
   | zero=>simp at a
   | succ n=>
    have d:=Aj2 c n r (by simp at a;omega);cases b:pcs c r with
    | nil=>exact absurd b (YT c r)
    | cons y q=>
     rw[V4,<-b,d];rfl
theorem CF(c:UInt8)(s:By):ab6 (pcs c s) [c]=s:=Aj2 c _ s (af5 _)
theorem Xt{c b:UInt8}:∀l:List By,b∈ab6 l [c]->b=c\/∃x∈l,b∈x
 | [],h=>by simp[aq5] at h
 | [x],h=>by rw[af7] at h;exact .inr ⟨x,by simp,h⟩
 | x::y::r,h=>by
  rw[V4] at h;simp only[ai7,af3] at h;rcases h with h|h|h
  ·grind
  ·grind
  ·rcases Xt (y::r) h with h|⟨z,a,h⟩
   all_goals grind
theorem De0{c b:UInt8}{s:By}(h:b∈s):b=c\/∃x∈pcs c s,b∈x:=by rw[<-CF c s] at h;exact Xt _ h
theorem Bu8(b:UInt8):X9 b=46↔b=46:=by
 rcases K9 b with⟨h,e⟩|⟨h,e⟩|⟨h,c,e⟩
 ·rw[e]
 ·rw[e]
 ·constructor
  ·intro a;rw[a] at e;simp at e;omega
  ·intro a;subst a;simp at h
theorem B52(a b:By):B5 (a++b)=B5 a++B5 b:=ag4
theorem Ab(s:By):(B5 s).length=s.length:=p4 _
theorem Kh:∀(s a:By),M7 46 (B5 a) (B5 s)=(M7 46 a s).map B5
 | [],a=>rfl
 | b::r,a=>by
  show(if X9 b=46 then _ else _)=_;simp only[M7];by_cases h:b=46
  ·rw[if_pos ((Bu8 b).2 h),if_pos h,ae8];have:=Kh r [];rw[<-this];rfl
  ·rw[if_neg (λe=>h ((Bu8 b).1 e)),if_neg h,<-Kh r (a++[b]),B52];rfl
theorem CP(s:By):pcs 46 (B5 s)=(pcs 46 s).map B5:=Kh s []
theorem C87(b:UInt8):dig (X9 b)=dig b:=by
 rcases K9 b with⟨h,e⟩|⟨h,e⟩|⟨h,a,e⟩
 ·rw[e]
 ·rw[e]
 ·unfold dig;grind
theorem BK(base:Nat):∀(s:By) (n:Nat),F0 base n (B5 s)=F0 base n s
 | [],n=>rfl
 | b::r,n=>by
  show(if dig (X9 b)<base then _ else _)=_;simp only[F0,C87];split
  ·exact BK base r _
  ·rfl
theorem Dc8(b:UInt8):X9 b=48↔b=48:=by
 rcases K9 b with⟨h,e⟩|⟨h,e⟩|⟨h,c,e⟩
 ·rw[e]
 ·rw[e]
 ·constructor
  ·intro a;rw[a] at e;simp at e;omega
  ·intro a;subst a;simp at h
theorem Du9(b:UInt8):(X9 b=120\/X9 b=88)↔(b=120\/b=88):=by
 rcases K9 b with⟨h,e⟩|⟨h,e⟩|⟨h,c,e⟩
 ·rw[e]
 ·rw[e]
 ·constructor
  ·rintro(a|a)
   ·rw[a] at e
    right
    apply an8.1;grind
   simp_all
  ·rintro(a|a)
   ·simp_all
   ·subst a;left;apply an8.1;rw[e];rfl
theorem Dv(s:By)(i:Nat):(B5 s).getD i 0=X9 (s.getD i 0):=by unfold B5;simp only[b8,al4];cases s[i]?<;>rfl
theorem B38(s:By):Y9 (B5 s)=Y9 s:=by rw[Bool.eq_iff_iff,Gq,Gq,Dv,Dv,Dc8,Du9]
theorem QZ{s:By}:B5 s=[]↔s=[]:=by unfold B5;simp
theorem Xa(l:List By):(l.map B5).getLastD []=B5 (l.getLastD []):=by rw[ah2,ah2,List.getLast?_map];cases l.getLast?<;>rfl
theorem A94(s:By):C8 (B5 s)=(C8 s).map B5:=by unfold C8;rw[CP,Xa];simp only[p4,QZ];grind
theorem B43(s:By):Dd (B5 s)=B5 (Dd s):=by unfold Dd;rw[A94,Xa]
theorem LT(s:By)(i:Nat):(B5 s).drop i=B5 (s.drop i):=by unfold B5;rw[ak2]
theorem OE(s:By):(B5 s).isEmpty=s.isEmpty:=by cases s<;>rfl
theorem YJ(s:By):E9 (B5 s)=E9 s:=by unfold E9;rw[B43,B38,LT,BK,BK,OE]
theorem EN:∀(n:Nat) (s:By),s.length<=n->(∀b∈s,b.toNat<128)->W5 n s=some (s.map (·.toNat))
 | 0,s,h,_=>by
  have:s=[]:=o0.1 (by omega);subst this;rfl
 | n+1,[],_,_=>by simp[W5]
 | n+1,b::r,h,hs=>by
  simp only[W5];rw[if_neg (by simp),ah4 b r (hs b (by simp))];have d:=hs b (by simp);rw[if_neg (by simp;omega)];simp only[List.drop_succ_cons,o5];rw[EN n r (by simp at h;omega) (λc a=>hs c (by simp[a]))];rfl
theorem Bb1(s:By)(h:∀b∈s,b.toNat<128):Dc s=some (s.map (·.toNat)):=EN _ s (af5 _) h
theorem Bx(b:UInt8):L5 b=true↔(97<=b.toNat/\b.toNat<=122)\/(48<=b.toNat/\b.toNat<=57)\/b=45\/b=95:=by simp[L5,or_assoc]
theorem Ut{b:UInt8}(h:L5 b=true):b.toNat<128/\(b.toNat<65\/90<b.toNat)/\b≠46/\b≠37/\b≠91:=by
 rw[Bx] at h;have key:∀c:UInt8,b=c->b.toNat=c.toNat:=λc e=>by rw[e]
 rcases h with h|h|h|h
 ·refine⟨by omega,by omega,?_,?_,?_⟩<;>intro e<;>have:=key _ e<;>simp at this<;>omega
 ·refine⟨by omega,by omega,?_,?_,?_⟩<;>intro e<;>have:=key _ e<;>simp at this<;>omega
 all_goals simp_all
structure VL (s:By):Prop where
 ne:s≠[]
 le:s.length<=63
 byt:∀b∈s,L5 b=true
theorem Cf{s:By}(h:K5 s=true):VL s:=by unfold K5 at h;simp only[k9,ak9,y8] at h;obtain⟨⟨⟨⟨⟨a,c⟩,g⟩,i⟩,d⟩,j⟩:=h;refine⟨by intro e;subst e;simp at a,ac2 c,λb f=>d b f⟩
theorem Dv0{s:By}(h:∀b∈s,b.toNat<65\/90<b.toNat):B5 s=s:=by
 unfold B5
 conv=>rhs;rw[<-ah6 s]
 apply aa3;intro b d;rcases K9 b with⟨_,e⟩|⟨_,e⟩|⟨a,c,e⟩
 all_goals grind
theorem B49{s:By}(h:∀b∈B5 s,b.toNat<128):∀b∈s,b.toNat<128:=by
 intro b a;have:=h (X9 b) (List.mem_map_of_mem a);rcases K9 b with⟨_,e⟩|⟨_,e⟩|⟨c,d,e⟩
 all_goals grind
theorem Cd5{s:By}(h:K5 (B5 s)=true):I5 s=(B5 s,0):=by have v:=Cf h;have c:=B49 (λb d=>(Ut (v.byt b d)).1);have e:=Ab s;have a:=v.le;unfold I5;rw[Bb1 s c];grind
theorem JN:∀l:List By,(l.map B5).all K5=true->F5 l=(l.map B5,0)
 | [],_=>rfl
 | x::r,h=>by
  simp only[ae8,ab9,k9] at h;unfold F5;rw[Cd5 h.1,JN r h.2];rfl
structure VN (s:By):Prop where
 le:s.length<=253
 num:E9 s=false
 all:∀x∈pcs 46 s,K5 x=true
theorem Ir{s:By}:Av s=true↔VN s:=by unfold Av;simp only[k9,ak9,y8];exact⟨λh=>⟨ac2 h.1.1,h.1.2,h.2⟩,λh=>⟨⟨aa7 h.le,h.num⟩,h.all⟩⟩
theorem VN.byt{s:By}(h:VN s):∀b∈s,b=46\/L5 b=true:=by
 intro b hb;rcases De0 (c:=46) hb with h1|⟨x,hx,h1⟩
 ·grind
 ·exact .inr ((Cf (h.all x hx)).byt b h1)
theorem VN.byt'{s:By}(h:VN s){b:UInt8}(hb:b∈s):b.toNat<128/\(b.toNat<65\/90<b.toNat)/\b≠37/\b≠91:=by
 rcases h.byt b hb with h1|h1
 ·simp_all
 ·have:=Ut h1;grind
theorem CE(c:UInt8):∀(l:List By),(∀x∈l,x≠[]/\c∉x)->(ab6 l [c]).getLast?≠some c
 | [],_=>by simp[aq5]
 | [x],h=>by
  rw[af7];intro e;have:=List.mem_of_getLast? e;grind
 | x::y::r,h=>by
  have g:=CE c (y::r) (λz b=>h z (by simp[b]));have a:ab6 (y::r) [c]≠[]:=by
   intro e;have:pcs c (ab6 (y::r) [c])=y::r:=Qi c _ (by simp) (λz b=>(h z (by simp[b])).2);rw[e] at this;have f:pcs c []=[[]]:=rfl;grind
  rw[V4,aj3,aj3];cases d:(ab6 (y::r) [c]).getLast? with
  | none=>rw[List.getLast?_eq_none_iff] at d;exact absurd d a
  | some z=>
   grind
theorem VN.last{s:By}(h:VN s):s.getLast?≠some 46:=by have:=CE 46 (pcs 46 s) (λx hx=>⟨(Cf (h.all x hx)).ne,(Cr hx).1⟩);rwa [CF] at this
theorem VN.ne{s:By}(h:VN s):s≠[]:=by intro e;subst e;exact(Cf (h.all [] (by simp[pcs,M7]))).ne rfl
theorem VN.head{s:By}(h:VN s):s.head?≠some 91:=by intro e;exact(h.byt' (al6 e)).2.2.2 rfl
theorem VN.low{s:By}(h:VN s):B5 s=s:=Dv0 λb hb=>(h.byt' hb).2.1
theorem YU:∀s:By,(∀b∈s,b≠37)->R2 s=some s
 | [],_=>by unfold R2;rfl
 | b::r,h=>by
  unfold R2;rw[if_neg (h b (by simp)),YU r (λc a=>h c (by simp[a]))];rfl
theorem OG{a e t name:By}(j:a.length<=1024)(f:a.head?≠some 91)(g:R2 a=some e)(h:G8 e=t)(i:B5 t=name)(c:VN name):C3 a=(⟨1,name,0,z8⟩,0):=by
 subst i;have b:E9 t=false:=by rw[<-YJ];exact c.num
 have d:((pcs 46 t).map B5).all K5=true:=by
  rw[<-CP,y8];exact c.all
 unfold C3;rw[G0,if_neg f,g];simp only[h,b];rw[JN _ d];simp only[p6,if_false,if_true];rw[<-CP,CF,if_neg (by have:=c.le;omega),c.num];simp
theorem A93{s:By}(h:VN s):C3 s=(⟨1,s,0,z8⟩,0):=
 OG (by have:=h.le;omega) h.head (YU s λb a=>(h.byt' a).2.2.1) (by unfold G8;rw[if_neg h.last]) h.low h
theorem Dr1{a b:By}:Mj a b=true↔VN a/\VN b/\(a=b\/∃p,b=p++46::a):=by
 unfold Mj;simp only[k9,ai6,Ir,and_assoc,beq_iff_eq,List.isSuffixOf_iff_suffix];constructor
 ·rintro⟨d,e,c|⟨p,c⟩⟩;all_goals grind
 grind
theorem Al9{s:By}(h:∀x∈pcs 46 s,x≠[]):C8 s=pcs 46 s:=by unfold C8;grind
def D34(n:Nat):UInt8:=if n<10 then w9 (48+n) else w9 (55+n)
theorem D30(n:Nat)(h:n<16):dig (D34 n)=n:=by
 unfold D34 dig;split
 ·have:(w9 (48+n)).toNat=48+n:=by simp;omega
  grind
 ·have:(w9 (55+n)).toNat=55+n:=by simp;omega
  grind
theorem Ag3(n:Nat)(h:n<16):dig (Kx n)=n:=by
 unfold Kx dig;split
 ·have:(w9 (48+n)).toNat=48+n:=by simp;omega
  grind
 ·have:(w9 (87+n)).toNat=87+n:=by simp;omega
  grind
theorem BI:∀u:Nat,∀b∈x4 u,48<=b.toNat/\b.toNat<=57:=by
 intro u
 induction u using ac3 with
 | _ u c=>
  intro b a;by_cases h:u<10
  ·rw[af6 h] at a;simp only[af3] at a;subst a;have:(w9 (48+u)).toNat=48+u:=by simp;omega
   omega
  ·rw[X1 u h] at a;rcases ai7.1 a with a|a
   ·grind
   ·simp only[af3] at a;subst a;have:(w9 (48+u % 10)).toNat=48+u % 10:=by simp;omega
    omega
theorem Cn0{u:Nat}{c:UInt8}(h:c.toNat<48\/57<c.toNat):c∉x4 u:=λa=>by
 have:=BI u c a;omega
theorem Ag0:∀u:Nat,(x4 u).getD 0 0=48->u=0:=by
 intro u
 induction u using ac3 with
 | _ u d=>
  intro a;by_cases h:u<10
  ·rw[af6 h] at a;simp only[aj9] at a;have b:(w9 (48+u)).toNat=48+u:=by simp;omega
   simp_all
  ·rw[X1 u h] at a;have c:=ab7.2 (Cn (u / 10));grind
theorem PY(u:Nat):Y9 (x4 u)=false:=by
 cases h:Y9 (x4 u) with
 | false=>rfl
 | true=>
  have b:=(Gq _).1 h;have a:=Ky h;rw[Ag0 u b.1,af6 (by omega)] at a;simp at a
theorem Xy(u:Nat)(h:u<=W8):Ac (x4 u)=some u:=by unfold Ac;rw[if_neg (Cn u),PY];simp only[p6,if_false];rw[if_neg,BJ u h];rintro⟨a,b⟩;rw[Ag0 u b,af6 (by omega)] at a;simp at a
def v4P(v:Nat):List By:=[x4 (v / 16777216),x4 (v / 65536 % 256),x4 (v / 256 % 256),x4 (v % 256)]
theorem Vu(v:Nat):V0 v=ab6 (v4P v) [46]:=by unfold v4P;rw[V4,V4,V4,af7];rfl
theorem HC{v:Nat}{x:By}(h:x∈v4P v):∃u,x=x4 u:=by simp only[v4P,ae9,List.not_mem_nil,or_false] at h;grind
theorem Ct4(v:Nat):pcs 46 (V0 v)=v4P v:=by rw[Vu];refine Qi 46 _ (by simp[v4P]) (λx a=>?_);obtain⟨u,rfl⟩:=HC a;exact Cn0 (by decide)
theorem Am0(v:Nat):C8 (V0 v)=v4P v:=by rw[Al9,Ct4];intro x a;rw[Ct4] at a;obtain⟨u,rfl⟩:=HC a;exact Cn u
theorem Ak9(v:Nat):E9 (V0 v)=true:=by
 have e:Dd (V0 v)=x4 (v % 256):=by
  unfold Dd;rw[Am0];rfl
 unfold E9;rw[e,PY,BJ _ (by unfold W8;omega)];have:=Cn (v % 256);grind
theorem Dv7(v:Nat)(h:v<4294967296):pnB (V0 v)=some v:=by unfold pnB;rw[Am0];simp only[v4P,p9,ab4,Uy];simp only[Xy _ (show v / 16777216<=W8 by unfold W8;omega),Xy _ (show v / 65536 % 256<=W8 by unfold W8;omega),Xy _ (show v / 256 % 256<=W8 by unfold W8;omega),Xy _ (show v % 256<=W8 by unfold W8;omega)];grind
theorem Au7{v:Nat}{b:UInt8}(h:b∈V0 v):b=46\/(48<=b.toNat/\b.toNat<=57):=by
 rw[Vu] at h;rcases Xt _ h with h|⟨x,a,h⟩
 ·grind
 ·obtain⟨u,rfl⟩:=HC a;exact .inr (BI u b h)
theorem C16(v:Nat)(h:v<4294967296):(V0 v).length<=43:=by unfold V0;have a:=F9 (v / 16777216) (by omega);have b:=F9 (v / 65536 % 256) (by omega);have c:=F9 (v / 256 % 256) (by omega);have d:=F9 (v % 256) (by omega);grind
theorem Al8(v:Nat)(h:v<4294967296):C3 (V0 v)=(⟨2,[],v,z8⟩,0):=by
 have a:∀b∈V0 v,b≠37/\b≠91:=by
  intro b a;rcases Au7 a with rfl|⟨c,d⟩
  ·decide
  ·constructor<;>intro e<;>subst e<;>simp at c d
 have i:=C16 v h;unfold C3;rw[G0,if_neg (λe=>(a _ (al6 e)).2 rfl),YU _ (λb h=>(a b h).1)];have f:G8 (V0 v)=V0 v:=by
  unfold G8;rw[if_neg];rw[Vu];refine CE 46 _ (λx g=>?_);obtain⟨u,rfl⟩:=HC g;exact⟨Cn u,Cn0 (by decide)⟩
 simp only[f,Ak9,Dv7 v h,if_true]
theorem Am2(free:Nat):∀(l:List By) (v x:Nat),Uy free v l=some x->x<(v+1)*256 ^ (l.length-1)*2 ^ free
 | [],v,x,h=>by simp[Uy] at h
 | [p],v,x,h=>by
  simp only[Uy] at h;split at h
  ·cases h
  ·split at h
   ·rename_i n c b;simp only[j5] at h;subst h;simp only[p9,ab4,ar1,Nat.pow_zero,Nat.mul_one,Nat.add_mul];omega
   ·cases h
 | p::q::r,v,x,h=>by
  rw[Uy] at h;split at h
  ·cases h
  ·simp only at h;split at h
   ·rename_i n c a;have d:=Am2 free (q::r) _ x h;refine Nat.lt_of_lt_of_le d (aj4 _ ?_);simp only[p9,Nat.add_sub_cancel];rw[af9,Nat.mul_comm (256 ^ r.length) 256,<-Nat.mul_assoc];exact aj4 _ (by omega)
   ·cases h
theorem Df3{s:By}{v:Nat}(h:pnB s=some v):v<4294967296:=by
 unfold pnB at h;split at h
 ·cases h
 ·rename_i b;have a:=(Bk s).1;have:=Am2 _ _ _ _ h;generalize (C8 s).length=n at *;have:n=1\/n=2\/n=3\/n=4:=by omega
  grind
theorem QK:∀(a b:By) (v:Nat),Ai v (a++b)=(Ai v a).bind λw=>Ai w b
 | [],b,v=>rfl
 | c::r,b,v=>by
  simp only[ae3,Ai];split
  ·exact QK r b _
  ·rfl
theorem B20:∀x:Nat,Ai 0 (P4 x)=some x:=by
 intro x
 induction x using ac3 with
 | _ x a=>
  by_cases h:x<16
  ·rw[Y8 h];simp only[Ai,Ag3 x h];grind
  ·rw[X2 h,QK,a (x / 16) (by omega)];simp only[an1,Ai,Ag3 (x % 16) (by omega)];grind
theorem Da0(x:Nat)(h:x<65536):grp (P4 x)=some x:=by have:=Xh x h;unfold grp;rw[if_neg,B20];grind
theorem GD:∀x:Nat,(58:UInt8)∉P4 x:=by
 intro x
 induction x using ac3 with
 | _ x a=>
  by_cases h:x<16
  ·rw[Y8 h];simpa using ar2 (GC x h)
  ·rw[X2 h];simp only[ai7,af3,not_or];exact⟨a _ (by omega),ar2 (GC _ (by omega))⟩
theorem Bt7(x:Nat):P4 x≠[]:=by
 by_cases h:x<16
 ·rw[Y8 h];simp
 ·rw[X2 h];simp
theorem Ah9(last:Bool):∀l:List Nat,(∀x∈l,x<65536)->Db last (l.map P4)=some l
 | [],_=>rfl
 | x::r,h=>by
  simp only[ae8,Db];rw[Da0 x (h x (by simp)),Ah9 last r (λy a=>h y (by simp[a]))];rfl
theorem RJ(l:List Nat)(h:l≠[]):pcs 58 (K6 l)=l.map P4:=by unfold K6;refine Qi 58 _ (by simpa using h) (λx a=>?_);obtain⟨y,_,rfl⟩:=al5.1 a;exact GD y
theorem Cq1(l:List Nat)(h:l≠[]):K6 l≠[]:=by
 intro e;have:=RJ l h;rw[e] at this;have a:pcs 58 []=[[]]:=rfl;rw[a] at this;cases l with
 | nil=>exact h rfl
 | cons x r=>
  simp only[ae8,List.cons.injEq] at this;exact Bt7 x this.1.symm
theorem Pv(l:List Nat)(last:Bool)(h:∀x∈l,x<65536):P2 (K6 l) last=some l:=by
 unfold P2;by_cases a:l=[]
 ·subst a;rfl
 ·rw[if_neg (Cq1 l a),RJ l a,Ah9 last l h]
def sh(n:Nat)(i:Int):Int:=if i=-1 then -1 else i+n
theorem LD(b:UInt8)(l:By):o8 (b::l) [58,58]=if b=58/\l.head? = some 58 then 0 else sh 1 (o8 l [58,58]):=by
 have a:([58,58]:By).isPrefixOf (b::l)=decide (b=58/\l.head? = some 58):=by
  cases l with
  | nil=>simp[af1]
  | cons c r=>
   grind
 show(if _ then _ else _)=_;rw[a];by_cases h:b=58/\l.head? = some 58
 ·grind
 ·rw[if_neg (by simpa using h),if_neg h];unfold sh;grind
theorem Cy6(n m:Nat)(i:Int)(h:-1<=i):sh n (sh m i)=sh (n+m) i:=by unfold sh;omega
theorem A60(s:By):-1<=o8 s [58,58]:=by rcases Lib.index_spec s [58,58] with h|⟨i,h,_⟩<;>omega
theorem XR:∀(p r:By),(58:UInt8)∉p->o8 (p++r) [58,58]=sh p.length (o8 r [58,58])
 | [],r,_=>by unfold sh;simp<;>(intro h;rw[h])
 | b::p,r,h=>by
  simp only[ae9,not_or] at h;rw[ae3,LD,if_neg (λe=>h.1 e.1.symm),XR p r h.2,Cy6 _ _ _ (A60 r),Nat.add_comm];rfl
theorem EF(x y:Nat)(t:List Nat):K6 (x::y::t)=P4 x++58::K6 (y::t):=by unfold K6;rw[ae8,ae8,V4];rfl
theorem A62(y:Nat)(t:List Nat)(r:By):(K6 (y::t)++r).head?≠some 58:=by
 have e:=Bt7 y;have c:=GD y;cases d:P4 y with
 | nil=>exact absurd d e
 | cons a b=>
  rw[d] at c;simp only[ae9,not_or] at c;cases t with
  | nil=>rw[Kz,d];simpa using ar2 c.1
  | cons z t=>rw[EF,d];simpa using ar2 c.1
theorem BZ:∀(l:List Nat) (r:By),l≠[]->o8 (K6 l++r) [58,58]=sh (K6 l).length (o8 r [58,58])
 | [],r,h=>absurd rfl h
 | [x],r,_=>by rw[Kz];exact XR _ _ (GD x)
 | x::y::t,r,_=>by
  rw[EF,x3,ae3,XR _ _ (GD x),LD,if_neg (λe=>A62 y t r e.2),BZ (y::t) r (by simp),Cy6 _ _ _ (A60 r),Cy6 _ _ _ (A60 r)];grind
theorem Db9:o8 [] [58,58]=-1:=rfl
theorem B05(l:List Nat):ab1 (K6 l) [58,58]=(K6 l,[],false):=by
 have h:o8 (K6 l) [58,58]=-1:=by
  by_cases a:l=[]
  ·subst a;rfl
  ·have:=BZ l [] a;rw[x5,Db9] at this;rw[this];rfl
 unfold ab1;rw[h];rfl
theorem C80(l:List Nat)(r:By):ab1 (K6 l++58::58::r) [58,58]=(K6 l,r,true):=by
 have a:o8 (58::58::r) [58,58]=0:=by rw[LD,if_pos ⟨rfl,rfl⟩]
 have h:o8 (K6 l++58::58::r) [58,58]=((K6 l).length:Int):=by
  by_cases b:l=[]
  ·subst b;rw[Gr,p7,a];rfl
  ·rw[BZ l _ b,a];unfold sh;simp
 unfold ab1;simp_all
theorem RZ:∀l:List Nat,l.take (Nl l)=a8 (Nl l) 0
 | []=>rfl
 | x::r=>by
  rw[MV];split
  ·rename_i h;subst h;rw[List.take_succ_cons,RZ r];rfl
  ·rfl
theorem Bo7(full:List Nat):∀(l:List Nat) (i z m:Nat),full.drop i=l->i<=full.length->(full.drop z).take m=a8 m 0->z+m<=full.length->
  (full.drop (zGo l i z m).1).take (zGo l i z m).2=a8 (zGo l i z m).2 0/\(zGo l i z m).1+(zGo l i z m).2<=full.length
 | [],i,z,m,_,_,b,c=>⟨b,c⟩
 | x::r,i,z,m,d,f,b,c=>by
  have e:full.length-i=r.length+1:=by
   have:=congrArg o6 d;grind
  have a:full.drop (i+1)=r:=by
   rw[<-aj2,d];rfl
  unfold zGo;split
  ·refine Bo7 full r (i+1) i _ a (by omega) ?_ ?_
   ·rw[d,RZ]
   ·have:=GV (x::r);grind
  ·exact Bo7 full r (i+1) z m a (by omega) b c
theorem Dl7(a:List Nat)(c:a.length=8)(h:∀x∈a,x<65536):v6B (Ak a)=some a:=by
 obtain⟨f,g⟩:=Bo7 a a 0 0 0 rfl (by omega) (by simp) (by omega);unfold Ak;generalize (zGo a 0 0 0).1=z at *;generalize (zGo a 0 0 0).2=m at *;by_cases d:m<2
 ·rw[if_pos d];unfold v6B;rw[B05];simp only[j0];rw[Pv a true h];show(if _ then _ else _)=_;simp[c]
 ·rw[if_neg d];unfold v6B;rw[C80];simp only[j2];rw[Pv _ false (λx b=>h x (ac6 b)),Pv _ true (λx b=>h x (ae0 b))];simp only[if_true,p5,j9,c];rw[Q5]
  congr 1
  have e:8-min z 8-(8-(z+m))=m:=by omega
  rw[e,<-f,x3]
  conv=>rhs;rw[<-ai9 z a]
  congr 1
  conv=>rhs;rw[<-ai9 m (a.drop z)]
  simp_all
theorem Bn5(a:List Nat)(e:a.length=8)(h:∀x∈a,x<65536):(Ak a).length<=90:=by
 unfold Ak;split
 ·have:=Bv a h;omega
 ·have c:=Bv (a.take (zGo a 0 0 0).1) (λx b=>h x (ac6 b));have d:=Bv (a.drop ((zGo a 0 0 0).1+(zGo a 0 0 0).2)) (λx b=>h x (ae0 b));grind
theorem Ct2(a:List Nat)(d:a.length=8)(h:∀x∈a,x<65536):C3 (91::(Ak a++[93]))=(⟨3,[],0,a⟩,0):=by
 have e:=Bn5 a d h;have b:(91::(Ak a++[93])).getLast? = some (93:UInt8):=by grind
 have c:((91::(Ak a++[93])).take ((91::(Ak a++[93])).length-1)).drop 1=Ak a:=by
  simp
 unfold C3;rw[if_neg (by simp;omega),if_pos (show(91::(Ak a++[93])).head? = some (91:UInt8) from rfl),if_pos ⟨b,by simp⟩,c,Dl7 a d h]
theorem Ah8{s:By}{last:Bool}{r:List Nat}(h:P2 s last=some r):∀x∈r,x<65536:=by
 unfold P2 at h;split at h
 ·grind
 ·exact Bt4 _ _ _ h
theorem Dx6{s:By}{a:List Nat}(h:v6B s=some a):a.length=8/\∀x∈a,x<65536:=by
 unfold v6B at h;split at h
 ·rename_i x y b c;have d:=Ah8 b;have e:=Ah8 c;grind
 ·cases h
theorem C00{s:By}(h:(I5 s).2=0):K5 (I5 s).1=true:=by unfold I5 at h ⊢;grind
theorem Ko:∀l:List By,(F5 l).2=0->(∀x∈(F5 l).1,K5 x=true)/\(F5 l).1.length=l.length
 | [],_=>⟨by simp[F5],rfl⟩
 | x::r,h=>by
  unfold F5 at h ⊢;by_cases a:(I5 x).2=0
  ·rw[if_pos a] at h ⊢;obtain⟨d,c⟩:=Ko r h;refine⟨λy b=>?_,by simp[c]⟩;rcases ae9.1 b with rfl|b
   ·exact C00 a
   grind
  grind
structure Df (h:B4):Prop where
 v4:h.v4<4294967296
 v6:h.v6.length=8/\∀x∈h.v6,x<65536
 kd:h.kind<4
theorem Bz7:z8.length=8/\∀x∈z8,x<65536:=by decide
theorem B66(s:By):Df (C3 s).1/\((C3 s).2=0->K8 (C3 s).1=true):=by
 have no:Df L7:=⟨by decide,Bz7,by decide⟩
 unfold C3;split
 ·grind
 split
 ·split
  ·cases d:v6B ((s.take (s.length-1)).drop 1) with
   | none=>exact⟨no,by simp⟩
   | some a=>exact⟨⟨show 0<4294967296 by decide,Dx6 d,show 3<4 by decide⟩,λ_=>by simp[K8]⟩
  grind
 cases l:R2 s with
 | none=>exact⟨no,by simp⟩
 | some t=>
  simp only;split
  ·cases d:pnB (G8 t) with
   | none=>exact⟨no,by simp⟩
   | some v=>exact⟨⟨Df3 d,Bz7,show 2<4 by decide⟩,λ_=>by simp[K8]⟩
  split
  ·rename_i g;split
   ·grind
   split
   ·grind
   ·rename_i k h;refine⟨⟨show 0<4294967296 by decide,Bz7,show 1<4 by decide⟩,λ_=>?_⟩;obtain⟨f,i⟩:=Ko _ g;have b:(F5 (pcs 46 (G8 t))).1≠[]:=by
     intro e;rw[e] at i;have:=YT 46 (G8 t);grind
    have c:=Qi 46 (F5 (pcs 46 (G8 t))).1 b (λx j e=>(Ut ((Cf (f x j)).byt 46 e)).2.2.1 rfl);unfold K8;simp only[if_true,beq_self_eq_true,ae7];rw[Ir];exact⟨by omega,by simpa using h,by rw[c];exact f⟩
  grind
theorem LB{h:B4}(ok:Df h)(a:K8 h=true):C3 (R9 h)=(h,0):=by
 obtain⟨b,g,v4,v6⟩:=h;unfold R9;rw[if_pos a];unfold K8 at a;simp only at a ⊢;by_cases c:b=1
 ·subst c;simp only[if_true,k9,beq_iff_eq] at a ⊢;obtain⟨⟨f,rfl⟩,rfl⟩:=a;exact A93 (Ir.1 f)
 rw[if_neg c] at a ⊢;by_cases d:b=2
 ·subst d;simp only[if_true,k9,beq_iff_eq,am9] at a ⊢;obtain⟨rfl,rfl⟩:=a;exact Al8 v4 ok.v4
 rw[if_neg d] at a ⊢;by_cases e:b=3
 ·subst e;simp only[if_true,k9,beq_iff_eq,am9] at a;obtain⟨rfl,rfl⟩:=a;exact Ct2 v6 ok.v6.1 ok.v6.2
 grind
theorem KW{h:B4}(a:K8 h=false):R9 h=[]:=by unfold R9;rw[a];rfl
theorem EO:∀(f:Nat) (l:By),aq7 f l=(W5 f l).isSome
 | 0,_=>rfl
 | f+1,l=>by
  unfold aq7 W5;split
  ·rfl
  ·split
   ·rfl
   ·rw[EO f,ah7]
theorem Bn6(l:By):Lib.validD l=(Dc l).isSome:=EO _ l
theorem MK:∀(n m:Nat) (l:By),l.length<=n->l.length<=m->W5 n l=W5 m l
 | 0,m,l,b,_=>by
  have:l=[]:=o0.1 (by omega);subst this;cases m<;>simp[W5]
 | n+1,0,l,_,hm=>by
  have:l=[]:=o0.1 (by omega);subst this;simp[W5]
 | n+1,m+1,l,b,hm=>by
  unfold W5;split
  ·rfl
  ·rename_i a;have d:=ah5 l;have c:0<l.length:=ab7.2 a;rw[MK n m (l.drop (w8 l).2) (by rw[j9];omega) (by rw[j9];omega)]
theorem B78(l:By)(a:l≠[]):Dc l=if (w8 l).1=65533/\(w8 l).2=1 then none else (Dc (l.drop (w8 l).2)).map ((w8 l).1::·):=by
 have c:0<l.length:=ab7.2 a;have d:=ah5 l;obtain⟨n,b⟩:∃n,l.length=n+1:=⟨l.length-1,by omega⟩
 unfold Dc;rw[b]
 conv=>lhs;unfold W5
 rw[if_neg a,MK n (l.drop (w8 l).2).length _ (by rw[j9];omega) (af5 _)]
theorem SC:∀(f:Nat) (s:ByteArray) (pos:Nat) (p:List Nat),pos<=s.size->W5 f (s.data.toList.drop pos)=some p->s.size-pos<=f->al3 s f pos=p.length
 | 0,s,pos,p,e,h,d=>by
  simp only[W5,j5] at h;subst h;rfl
 | f+1,s,pos,p,e,h,d=>by
  have g:s.data.toList.length=s.size:=by rw[Array.length_toList];rfl
  unfold W5 at h;rw[ai2] at h;by_cases a:pos<s.size
  ·rw[if_neg (by rw[<-o0,j9];omega)] at h;split at h
   ·cases h
   ·cases b:W5 f (ae4 (ai0 s pos).2 (ae4 pos s.data.toList)) with
    | none=>rw[b] at h;cases h
    | some q=>
     rw[b] at h;simp only[ac4,j5] at h;subst h;have i:=Lib.decode_width_pos s pos a;have c:pos+(ai0 s pos).2<=s.size:=by
      have:=ao1 (s.data.toList.drop pos) (by rw[ne_eq,<-o0,j9];omega);rw[ai2,j9] at this;omega
     rw[aj2] at b;unfold al3;rw[if_pos a,SC f s _ q c b (by omega)];grind
  ·rw[if_pos (by rw[<-o0,j9];omega)] at h;simp only[j5] at h;subst h;rw[Lib.runeCountFrom_end s _ _ a];rfl
theorem MW{l:By}{p:List Nat}(h:Dc l=some p):ag8 l=p.length:=by
 unfold ag8 Lib.runeCount;have a:(ByteArray.mk l.toArray).size=l.length:=by simp[ByteArray.size]
 refine SC _ _ 0 p (Nat.zero_le _) ?_ (by omega);rw[a,o5];simpa[Dc] using h
open Lib in theorem D61(n b a d e:Nat)(g:194<=b/\b<224)(f:a<256):decodeN n b a d e=if 2<=n/\128<=a/\a<=191 then ((b-192)*64+a-128,2) else (65533,1):=by
 unfold decodeN;rw[G0];by_cases c:2<=n/\128<=a/\a<=191
 ·rw[if_pos c,Q5,Q5];exact Prod.ext (by show b % 32*64+a % 64=(b-192)*64+a-128;omega) rfl
 ·rw[if_neg c,G0,G0,G0]
open Lib in theorem D62(n c a b f:Nat)(i:224<=c/\c<240)(g:a<256)(h:b<256):decodeN n c a b f=if 3<=n/\(128<=a/\a<=191)/\(128<=b/\b<=191) then
  (if 2048<=((c-224)*64+a-128)*64+b-128/\W4 (((c-224)*64+a-128)*64+b-128)=true then (((c-224)*64+a-128)*64+b-128,3) else (65533,1)) else (65533,1):=by
 unfold decodeN;rw[G0,G0];by_cases d:3<=n/\(128<=a/\a<=191)/\(128<=b/\b<=191)
 ·rw[if_pos d,Q5];have e:c % 16*4096+a % 64*64+b % 64=((c-224)*64+a-128)*64+b-128:=by omega
  rw[e];generalize ((c-224)*64+a-128)*64+b-128=v
  congr 1
  simp only[W4,k9,ai6,y5,ak5];apply propext;omega
 ·rw[if_neg d,G0,G0]
open Lib in theorem D63(n d a b c:Nat)(j:240<=d/\d<245)(g:a<256)(h:b<256)(i:c<256):decodeN n d a b c=if 4<=n/\(128<=a/\a<=191)/\(128<=b/\b<=191)/\(128<=c/\c<=191) then
  (if 65536<=(((d-240)*64+a-128)*64+b-128)*64+c-128/\W4 ((((d-240)*64+a-128)*64+b-128)*64+c-128)=true then ((((d-240)*64+a-128)*64+b-128)*64+c-128,4) else (65533,1)) else (65533,1):=by
 unfold decodeN;rw[G0,G0,G0];by_cases f:4<=n/\(128<=a/\a<=191)/\(128<=b/\b<=191)/\(128<=c/\c<=191)
 ·rw[if_pos f,Q5];have e:d % 8*262144+a % 64*4096+b % 64*64+c % 64=(((d-240)*64+a-128)*64+b-128)*64+c-128:=by omega
  rw[e];generalize (((d-240)*64+a-128)*64+b-128)*64+c-128=v
  congr 1
  simp only[W4,k9,ai6,y5,ak5];apply propext;omega
 ·rw[if_neg f,G0]
end
section
open Go Go.Proofs
theorem Wu(l:List Nat):X8 (l.map λn:Nat=>(n:Int))=Dn l:=by
 have b:(l.map λn:Nat=>(n:Int)).all ptI=l.all W4:=by
  rw[aq8]
  congr 1
 have c:(l.map λn:Nat=>(n:Int)).map j6=l:=by
  rw[af8];exact(aa3 λa _=>by simp).trans (ah6 l)
 unfold X8;rw[p4,b,c];by_cases h:256<l.length
 ·rw[if_pos h];unfold Dn;rw[if_pos h]
 ·rw[if_neg h];cases d:l.all W4 with
  | true=>rw[if_pos rfl]
  | false=>
   rw[if_neg (by simp)];unfold Dn;grind
theorem Ws(l:List Nat):(B6 l).map elI=l.map λn:Nat=>(n:Int):=by unfold B6;rw[af8];exact aa3 λa _=>rfl
theorem Ei(l:List Nat):(B6 l).all Oj=true:=by unfold B6;rw[aq8,y8];intro x _;rfl
theorem A76{R:Type}{a:Unit->Option R}{d:By->Bool->LL->Bool->Option R}(s:By)(z:Bool)(p:List Nat)(t:p.length<=1000000000):∀(r i n:Nat) (b:Bool),i+r=p.length->r<n->
  Z0 LF n s z (B6 p) b (p.length:Int) (i:Int) a d=if (p.drop i).any (λp=>x8 65 p&&x8 p 90) then a () else d s z (B6 p) (b&&!((p.drop i).any λp=>x8 128 p)):=by
 intro r
 induction r with
 | zero=>
  intro i n b h j;obtain⟨n,rfl⟩:∃m,n=m+1:=⟨n-1,by omega⟩
  rw[Z0];rw[A6,j1 (by omega)];simp
 | succ r k=>
  intro i n b h j;obtain⟨n,rfl⟩:∃m,n=m+1:=⟨n-1,by omega⟩
  rw[Z0];have f:A1 ((i:Int)+1)=((i+1:Nat):Int):=by rw[A7];rfl
  have g:p.drop i=p.getD i 0::p.drop (i+1):=by
   rw[b8,j4 (by omega),v7,aa2]
  rw[A8,D4,F1,b9,Ru (by omega),BT _ _ (by omega),g,ak1,ak1,f];simp only[cond_true,vl];generalize p.getD i 0=q;have go:∀c:Bool,Z0 LF n s z (B6 p) c (p.length:Int) ((i+1:Nat):Int) a d=_:=λc=>k (i+1) n c (by omega) (by omega)
  by_cases l:q<65
  ·rw[A8,show x8 65 q=false by rw[aa1,ne_eq,y5];omega];have e:x8 128 q=false:=by rw[aa1,ne_eq,y5];omega
   rw[show ltI (q:Int) (128:Int)=true from A8,e];simp only[j2,cond_false,aj0,ag1];cases b<;>simp only[cond_true,cond_false]<;>rw[go]
  ·rw[A6,show x8 65 q=true by rw[y5];omega];simp only[j0,cond_true,ad6];by_cases e:90<q
   ·rw[A8,show x8 q 90=false by rw[aa1,ne_eq,y5];omega];simp only[j2,cond_false,ag1];by_cases o:q<128
    ·rw[show ltI (q:Int) (128:Int)=true from A8,show x8 128 q=false by rw[aa1,ne_eq,y5];omega];cases b<;>simp only[cond_true,cond_false,ag1]<;>rw[go]
    ·rw[show ltI (q:Int) (128:Int)=false from A6,show x8 128 q=true by rw[y5];omega];cases b<;>simp only[cond_true,cond_false,Bool.true_or,j2,an9]<;>rw[go]<;>simp
   ·rw[A6,show x8 q 90=true by rw[y5];omega];simp
theorem A30:∀(m:Nat) (s:By) (a:List Nat) (n i b:Nat) (f:Bool),s.length<=m->a.length<=256->(I1 s a n i b f).1.length<=256:=by
 intro m
 induction m with
 | zero=>
  intro s a n i b f e d;obtain rfl:=o0.1 (Nat.le_zero.1 e);rw[Dl];exact d
 | succ m j=>
  intro s a n i b f e d;by_cases h:s=[]
  ·grind
  ·by_cases c:(D9 b s i 1 0).2.2=0
   ·rw[Ep h _ _ _ _ _ c];have g:=Rl b s i 1 0 c;split
    ·split
     ·grind
     ·rename_i k;exact j _ _ _ _ _ _ (by omega) (by rw[Bu];omega)
    grind
   ·rw[Hm h _ _ _ _ _ c];grind
theorem Af9(s:By):(O4 s).1.length<=256:=by
 unfold O4;split
 ·grind
 ·split
  ·grind
  ·split
   ·grind
   ·rename_i h;exact A30 _ _ _ _ _ _ _ (af5 _) (by rw[p4,p5];omega)
theorem A77{R:Type}{a:Bool->Option R}(s:By)(b:A3 s.length=true):Bu9 LF s a=a (Ek s):=by
 have c:=C5;unfold Bu9 Ek;rw[b,cond_true];by_cases h:(O4 s).2=0
 ·have e:(((O4 s).2:Int)!=(0:Int))=false:=by rw[h];rfl
  rw[e,cond_false,Dy,D4,h];have i:=Af9 s;refine j7 (A76 s _ (O4 s).1 (by omega) (O4 s).1.length 0 LF true (by omega) (by omega)) ?_;rw[o5];cases d:(O4 s).1.any (λp=>x8 65 p&&x8 p 90) with
  | true=>simp
  | false=>
   rw[if_neg (by simp),Ei,Ws,Wu];simp only[cond_true,vl,ad6,j0];cases f:(O4 s).1.any (λp=>x8 128 p) with
   | false=>simp
   | true=>
    simp only[j2,j0,cond_true,ae7,beq_self_eq_true,ad6];by_cases g:(Dn (O4 s).1).2=0;all_goals grind
 grind
theorem B55{R:Type}{d:Unit->Option R}{e:By->Option R}(s:By)(w:s.length<=1000000000):∀(r i n:Nat),i+r=s.length->r<n->
  T5 LF n s (s.length:Int) (i:Int) d e=if (s.drop i).all L5 then e s else d ():=by
 intro r
 induction r with
 | zero=>
  intro i n l c;obtain⟨n,rfl⟩:∃m,n=m+1:=⟨n-1,by omega⟩
  rw[T5];rw[A6,j1 (by omega)];rfl
 | succ r o=>
  intro i n l c;obtain⟨n,rfl⟩:∃m,n=m+1:=⟨n-1,by omega⟩
  rw[T5];have k:A1 ((i:Int)+1)=((i+1:Nat):Int):=by rw[A7];rfl
  rw[A8,F1,D3,D6 s i (by omega),k,ab9];simp only[cond_true];rw[o (i+1) n (by omega) (by omega)];generalize s.getD i 0=b;have j:=Bx b;have u:((b.toNat:Int)!=45) = !(b==45):=congrArg _ (R4 b 45 (by omega));have v:((b.toNat:Int)!=95) = !(b==95):=congrArg _ (R4 b 95 (by omega));rw[u,v];have t:∀{x:Bool},L5 b=x->(if (L5 b&&(s.drop (i+1)).all L5)=true then e s else d ())=if (x&&(s.drop (i+1)).all L5)=true then e s else d ():=λh=>by rw[h]
  cases a:L5 b with
  | true=>
   rw[j] at a;simp only[ad6];by_cases f:b=45
   ·subst f;simp (disch:=decide) [ltI]
   ·by_cases g:b=95
    ·subst g;simp (disch:=decide) [ltI]
    ·rcases a with a|a|a|a
     ·rw[show ltI (b.toNat:Int) 97=false from A6,show ltI (122:Int) b.toNat=false from A6];rfl
     ·rw[show ltI (b.toNat:Int) 97=true from A8,show ltI (b.toNat:Int) 48=false from A6,show ltI (57:Int) b.toNat=false from A6];rfl
     ·exact absurd a f
     ·exact absurd a g
  | false=>
   have c:¬((97<=b.toNat/\b.toNat<=122)\/(48<=b.toNat/\b.toNat<=57)\/b=45\/b=95):=λh=>by rw[j.2 h] at a;cases a
   have p:(b==45)=false:=by simpa using λh=>c (.inr (.inr (.inl h)))
   have q:(b==95)=false:=by simpa using λh=>c (.inr (.inr (.inr h)))
   rw[p,q];simp only[j0,cond_true,aj0,p6,if_false];by_cases f:b.toNat<48
   ·rw[show ltI (b.toNat:Int) 97=true from A8,show ltI (b.toNat:Int) 48=true from A8];rfl
   ·by_cases g:b.toNat<97
    ·rw[show ltI (b.toNat:Int) 97=true from A8,show ltI (b.toNat:Int) 48=false from A6,show ltI (57:Int) b.toNat=true from A8];rfl
    ·rw[show ltI (b.toNat:Int) 97=false from A6,show ltI (122:Int) b.toNat=true from A8,show ltI (b.toNat:Int) 48=false from A6,show ltI (57:Int) b.toNat=true from A8];rfl
theorem B56{R:Type}{a:Bool->Option R}(s:By)(b:A3 s.length=true):Dd5 LF s a=a (K5 s):=by
 have k:=M5 b;have h:=C5;unfold Dd5 K5;by_cases c:s=[]
 ·simp_all
 ·have o:0<s.length:=ab7.2 c;have j:s.isEmpty=false:=by simpa using c
  rw[A6,cond_false,j];by_cases m:63<s.length
  ·rw[A8,show x8 s.length 63=false by rw[aa1,ne_eq,y5];omega];rfl
  ·rw[A6,cond_false,show x8 s.length 63=true by rw[y5];omega,F1];have l:(bAt s 0==(45:Int))=(s.getD 0 0==45):=by rw[Ax];exact R4 _ 45 (by omega)
   have d:A1 ((s.length:Int)-1)=((s.length-1:Nat):Int):=by rw[A7];omega
   rw[l,d];simp only[cond_true,vl];rw[F1,D3,show((((s.getD (s.length-1) 0).toNat:Nat):Int)==45)=(s.getD (s.length-1) 0==45) from R4 _ 45 (by omega)];cases e:(s.getD 0 0==45) with
   | true=>
    grind
   | false=>
    rw[show(s.getD 0 0 !=45)=true by unfold bne;rw[e];rfl];simp only[cond_true,cond_false];cases f:(s.getD (s.length-1) 0==45) with
    | true=>
     grind
    | false=>
     rw[show(s.getD (s.length-1) 0 !=45)=true by unfold bne;rw[f];rfl];simp only[cond_false];refine j7 (B55 s k s.length 0 LF (by omega) (by omega)) ?_;rw[o5];cases n:s.all L5 with
     | false=>simp
     | true=>
      rw[if_pos rfl,b,cond_true];simp only[j0,ad6,ae7];show cond (!(xnB.isPrefixOf s)) _ _=_;cases g:xnB.isPrefixOf s with
      | false=>rfl
      | true=>
       have i:Hl s xnB=s.drop 4:=by unfold Hl;rw[g];rfl
       show cond (A3 (Hl s xnB).length) (a (Ek (Hl s xnB))) none=_;rw[i,E5 (by rw[j9];omega)];rfl
theorem A39(a:List Nat)(b:Nat)(F:a.length<=256)(A:b<=256)(d:∀p∈a,p<=1114111):∀(f n:Nat) (s:SX),s.done=a.countP (λp=>decide (p<n))->s.delta<=300->s.bias<=500->s.out.length+20*(a.length-s.done)<=80000->n<=1114112->
  (S8 a b f n s).out.length<=80000:=by
 intro f;have z:=C5
 induction f with
 | zero=>intro n s C w q x y;unfold S8;omega
 | succ f G=>
  intro n s C w q x y;have B:a.countP (λp=>decide (p<n))<=a.length:=aa6;by_cases h:s.done<a.length
  ·obtain⟨u,i,j⟩:=A26 (n:=n) (l:=a) (by omega);obtain⟨L,M,o⟩:=Eu n a 1114112;have N:=o u i j;have O:=d u i;have c:I2 n a 1114112∈a/\n<=I2 n a 1114112:=by grind
   have D:S8 a b (f+1) n s=S8 a b f (I2 n a 1114112+1) { I4 (I2 n a 1114112) b a { s with delta:=s.delta+(I2 n a 1114112-n)*(s.done+1) } with delta:=(I4 (I2 n a 1114112) b a { s with delta:=s.delta+(I2 n a 1114112-n)*(s.done+1) }).delta+1 }:=by
    rw[S8,if_pos h]
   rw[D];generalize I2 n a 1114112=m at *;have t:(m-n)*(s.done+1)<=1114112*256:=ao3 (by omega) (by omega);have g:=Bw1 false false a b m (by omega) F a.length 0 LF { s with delta:=s.delta+(m-n)*(s.done+1) } (by omega) (by omega) (by simp only;omega) q (by simp only;omega) (by simp only;omega) A;rw[o5] at g;obtain⟨_,H,I,J,K⟩:=g;have e:0<a.countP (· == m):=aj8.2 ⟨m,c.1,by simp⟩;rw[if_pos e] at K;have k:=Wk c.2 a o;generalize I4 m b a { s with delta:=s.delta+(m-n)*(s.done+1) } = v at *;simp only at I J;have r:a.countP (λp=>decide (p<m+1))<=a.length:=aa6;exact G (m+1) { v with delta:=v.delta+1 } (by simp only;omega) (by simp only;omega) H (by simp only;omega) (by omega)
  ·rw[S8,if_neg h];omega
theorem Ag9(p:List Nat):(Dn p).1.length<=80000:=by
 unfold Dn;split
 ·grind
 ·rename_i h;split
  ·grind
  ·rename_i a;have d:∀q∈p,q<=1114111:=λq e=>by
    have a:p.all W4=true:=by simpa using a
    have:=y8.1 a q e;simp only[W4,k9,y5] at this;omega
   have b:=Ua p;have c:p.countP (λq=>decide (q<128))<=p.length:=aa6;refine A39 p _ (by omega) (by omega) d 256 128 _ b (by simp) (by simp) ?_ (by omega);grind
theorem YC{b:UInt8}(h:128<=b.toNat):X9 b=b:=by
 rcases K9 b with⟨_,e⟩|⟨_,e⟩|⟨_,a,_⟩
 all_goals omega
theorem YD{b:UInt8}(h:b.toNat<128):(X9 b).toNat<128:=by
 rcases K9 b with⟨_,e⟩|⟨_,e⟩|⟨_,a,e⟩
 all_goals grind
theorem B08(n:Nat)(a c d e:UInt8)(h:128<=a.toNat):an5 n a.toNat (X9 c).toNat (X9 d).toNat (X9 e).toNat=an5 n a.toNat c.toNat d.toNat e.toNat:=by
 have i:∀b:UInt8,b.toNat / 64=2->X9 b=b:=λb f=>YC (by omega)
 have j:∀b:UInt8,¬b.toNat / 64=2->¬(X9 b).toNat / 64=2:=λb f h=>by
  by_cases g:128<=b.toNat
  ·rw[YC g] at h;exact f h
  ·have:=YD (b:=b) (by omega);omega
 unfold an5;grind
theorem C84(l:By)(c:l≠[]):(w8 (B5 l)).2=(w8 l).2/\(¬((w8 l).1=65533/\(w8 l).2=1)->¬((w8 (B5 l)).1=65533/\(w8 (B5 l)).2=1)):=by
 cases l with
 | nil=>exact absurd rfl c
 | cons b t=>
  by_cases a:b.toNat<128
  ·have d:=ah4 b t a;have f:w8 (B5 (b::t))=((X9 b).toNat,1):=ah4 (X9 b) (B5 t) (YD a);rw[d,f];refine⟨rfl,λ_ h=>?_⟩;have:=YD a;omega
  ·have e:w8 (B5 (b::t))=w8 (b::t):=by
    rw[ao7,ao7,Ab,Dv,Dv,Dv,Dv];have e0:X9 ((b::t).getD 0 0)=b:=YC (b:=b) (show 128<=b.toNat by omega);rw[e0];exact B08 (b::t).length b ((b::t).getD 1 0) ((b::t).getD 2 0) ((b::t).getD 3 0) (show 128<=b.toNat by omega)
   grind
theorem RK:∀(f:Nat) (l:By),(W5 f l).isSome=true->(W5 f (B5 l)).isSome=true
 | 0,_,_=>rfl
 | f+1,l,h=>by
  unfold W5 at h ⊢;by_cases a:l=[]
  ·subst a;rfl
  ·rw[if_neg a] at h;rw[if_neg (by rw[QZ];exact a)];obtain⟨b,c⟩:=C84 l a;split at h
   ·cases h
   ·rename_i d;rw[if_neg (c d),ah7,b,LT];rw[ah7] at h;exact RK f _ h
theorem Am4{l:By}(h:(Dc l).isSome=true):(Dc (B5 l)).isSome=true:=by unfold Dc at h ⊢;rw[Ab];exact RK _ _ h
theorem B42(t:By)(C:t.length<=1000000000):∀(f pos:Nat) (P q:List Nat) (n:Nat),pos<=t.length->t.length-pos<=f->f<n->P.length<=pos->W5 f (t.drop pos)=some q->
  ∃m,∀(R:Type) (h:LL->By->Nat->Option R),Ft LF n (B6 P) t pos h=h (B6 (P++q)) t m:=by
 intro f
 induction f with
 | zero=>
  intro pos P q n u v w x a;obtain⟨n,rfl⟩:∃m,n=m+1:=⟨n-1,by omega⟩
  simp only[W5,j5] at a;subst a;refine⟨pos,λR h=>?_⟩;rw[Ft];rw[decide_eq_false (by omega),cond_false,x5]
 | succ f z=>
  intro pos P q n u v w x a;obtain⟨n,rfl⟩:∃m,n=m+1:=⟨n-1,by omega⟩
  by_cases l:pos<t.length
  ·have b:t.drop pos≠[]:=by rw[ne_eq,<-o0,j9];omega
   have y:=ai2 ⟨t.toArray⟩ pos;have i:ai0 ⟨al9 t⟩ pos=w8 (t.drop pos):=by rw[<-y]
   unfold W5 at a;rw[if_neg b] at a;split at a
   ·cases a
   ·have D:=ah5 (t.drop pos);have j:=ao1 (t.drop pos) b;have B:=Lib.decodeL_rune (t.drop pos);rw[j9] at j;rw[aj2] at a;generalize w8 (t.drop pos)=p at *;obtain⟨c,o⟩:=p;simp only at *;cases k:W5 f (t.drop (pos+o)) with
    | none=>rw[k] at a;cases a
    | some A=>
     rw[k] at a;simp only[ac4,j5] at a;subst a;obtain⟨m,e⟩:=z (pos+o) (P++[c]) A n (by omega) (by omega) (by omega) (by simp;omega) k;refine⟨m,λR h=>?_⟩;rw[Ft];rw[decide_eq_true l,cond_true,i,D4,F7 (by omega)];simp only[vl,cond_true];have r:A1 (c:Int)=(c:Int):=A7;have g:B6 P++[[SV.int .i64 (A1 (c:Int))]]=B6 (P++[c]):=by rw[r,Lb];rfl
     rw[g,e,x3];rfl
  ·have d:t.drop pos=[]:=by rw[<-o0,j9];omega
   unfold W5 at a;rw[d,if_pos rfl] at a;simp only[j5] at a;subst a;refine⟨pos,λR h=>?_⟩;rw[Ft];rw[decide_eq_false l,cond_false,x5]
theorem A64(s:By)(i:A3 s.length=true):(∀(R:Type) (b:By->Int->Option R) (c:By->Int->LL->By->Nat->Option R),Aj5 LF s b c=b (I5 s).1 ((I5 s).2:Nat))\/
  (∃l t m,∀(R:Type) (b:By->Int->Option R) (c:By->Int->LL->By->Nat->Option R),Aj5 LF s b c=c (I5 s).1 ((I5 s).2:Nat) l t m):=by
 have x:=M5 i;have u:=C5;unfold I5;cases h:Dc s with
 | none=>
  refine .inl λR b c=>?_
  unfold Aj5;rw[i,h];rfl
 | some p=>
  have k:=MW h;have top:∀(R:Type) (b:By->Int->Option R) (c:By->Int->LL->By->Nat->Option R),Aj5 LF s b c=cond (ltI 256 (p.length:Int)) (b [] 3) (cond (ltI (p.length:Int) (s.length:Int)) (Ft LF LF [] (B5 s) 0 (λa g f=>cond (ag9 a Oj)
      (cond (((X8 (ac1 elI a)).2:Int)!=(0:Int))
       (c ([]:List UInt8) 14 a g f)
       (cond (E8 4 (o6 ((X8 (ac1 elI a))).1))
        (cond (A3 (o6 (xnB++((X8 (ac1 elI a))).1)))
         (cond (not (K5 (xnB++((X8 (ac1 elI a))).1)))
         (c ([]:List UInt8) 14 a g f)
         (c (xnB++((X8 (ac1 elI a))).1) 0 a g f))
         (none))
        (none)))
      (none)))
     (cond (A3 (o6 (B5 s)))
      (cond (not (K5 (B5 s)))
      (b ([]:List UInt8) 14)
      (b (B5 s) 0))
      (none))):=by
   intro R b c;unfold Aj5;rw[i,h,k];rfl
  simp only;by_cases n:256<p.length
  ·rw[if_pos n];refine .inl λR b c=>?_
   rw[top,A8];rfl
  ·rw[if_neg n];by_cases o:p.length<s.length
   ·rw[if_pos o];have d:=Am4 (l:=s) (by rw[h];rfl);cases r:Dc (B5 s) with
    | none=>rw[r] at d;cases d
    | some q=>
     have w:=Ab s;obtain⟨m,e⟩:=B42 (B5 s) (by omega) (B5 s).length 0 [] q LF (by omega) (by omega) (by omega) (by simp) (by rw[o5];exact r);refine .inr ⟨B6 q,B5 s,m,λR b c=>?_⟩;rw[top,A6,cond_false,A8,cond_true];refine j7 (e R _) ?_;have v:=Ag9 q;rw[p7,Ei,Ws,Wu,cond_true,G5 (by omega),cond_true,E5 (by rw[ad4];simp only[xnB,p9,ab4];omega),cond_true];simp only;by_cases j:(Dn q).2=0
     ·rw[j,if_pos rfl];cases y:K5 (xnB++(Dn q).1) with
      | true=>rfl
      | false=>rfl
     ·rw[if_neg j];have:(((Dn q).2:Int)!=(0:Int))=true:=by simpa using j
      rw[this];rfl
   ·rw[if_neg o];refine .inl λR b c=>?_
    rw[top,A6,cond_false,A6,cond_false,E5 (by rw[Ab];exact x),cond_true];cases K5 (B5 s)<;>rfl
theorem Dc4(s:By)(c:A3 s.length=true):∃r H,Aj5 LF s (λa b=>rv (.tup [.s (.str a),.s (.int .i64 b)]) []) (λa b d f e=>rv (.tup [.s (.str a),.s (.int .i64 b)]) [.arr true 3 1 d,.iter f e])=rv r H/\
  r.stab [0,0] H = .tup [.s (.str (I5 s).1),.s (.int .i64 ((I5 s).2:Nat))]:=by
 rcases A64 s c with h|⟨l,t,m,h⟩
 ·exact⟨_,_,h _ _ _,rfl⟩
 ·exact⟨_,_,h _ _ _,rfl⟩
end
end Go.Proofs.YtfkhfkjcidamaaaGreatDoor.E
