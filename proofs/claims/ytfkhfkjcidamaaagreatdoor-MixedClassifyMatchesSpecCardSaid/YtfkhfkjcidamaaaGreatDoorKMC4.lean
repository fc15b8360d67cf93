/-
  Parts of the proof, merged by a program of the prover's own; no condition.
-/
import Derived.Test.YtfkhfkjcidamaaaGreatDoorKMC3
import Derived.Lib.JoinLaws
import Derived.Lib.TrimAscii
import Derived.Lib.TrimUEq
import Derived.Lib.ValidLaws
import Derived.Shelf.LaysM
import Derived.Shelf.Small.Strs
import Derived.Shelf.Spec.SlicesInsert
import Derived.Shelf.Spec.SlicesInsertGrow
import Derived.Shelf.Spec.TrailingZeros
import Derived.Shelf.Strconv.Itoa3
import Derived.Shelf.Strings.Count
import Derived.Shelf.Strings.Cut
import Derived.Shelf.Strings.IndexAnyAll
import Derived.Shelf.Strings.OnBuilder
import Derived.Shelf.Strings.Search3
import Derived.Shelf.Unicode.ValidAny
import Derived.Shelf.Utf8.RuneCount
import Derived.Test.YtfkhfkjcidamaaaGreatDoorProg
open List renaming getD_eq_getElem?_getD->a8,replicate->b9,drop_of_length_le->j1,getElem?_eq_getElem->j4,length_drop->j6,drop_zero->j9,length_cons->k9,length->o0,length_eq_zero_iff->o5,getD->o6,length_map->o9,length_take->p4,nil_append->p5,take_of_length_le->p6,append_assoc->p9,append_nil->v7,length_append->x8,all_eq_true->y5,getElem_cons_drop->z7,length_pos_iff->aa0,length_nil->aa1,countP_le_length->aa4,map_congr_left->ab4,map->ab7,flatten->ac1,all_cons->ac5,take->ac7,drop->ad4,mem_of_mem_take->ad7,take_zero->ad8,isPrefixOf->ae3,map_map->ae6,mem_of_mem_drop->af2,map_append->af4,all->af9,countP_cons_of_neg->ah0,map_id->ah8,set->ah9,countP_pos_iff->ai5,replicate_succ->ai6,any_cons->ai7,map_drop->ai8,mem_cons->ai9,all_map->ak2,getElem?_map->ak3,take_add_one->ak4,toArray->ak5,cons_append->al4,take_length->al5,append->am0,drop_drop->am6,map_take->an3,isEmpty->ap3,map_nil->ap4,mem_map->ap5
open Bool renaming not_false->b8,not_true->j0,and_eq_true->o8,false_eq_true->w8,eq_false_iff->y9,and_true->ad2,true_and->ad3,false_or->ae9,false_and->ah6,not_eq_true'->aj6,or_eq_true->am1,and_false->am3
open Int renaming toNat_natCast->c9,toNat->j5,eq_ofNat_of_zero_le->j8,tdiv->ac6,add->ae2,tmod->af1,mul_nonneg->am4
open Option.some renaming injEq->j2
open Eq renaming trans->j7
open Go.Proofs.Tryz renaming prog->o7,underlying3->v8,zeroValue3->x4,underlying4->x5,zeroValue4->x7,underlying5->y7,underlying9->y8,zeroValue5->aa2,zeroValue9->aa3,underlying0->aa7,underlying103->aa8,sizeOf3->ab0,zeroValue103->ab2,zeroValue0->ab3,sizeOf4->ab5,isAgg3->ab6,isAgg4->ac2,sizeOf5->ac3,sizeOf9->ac4,sizeOf103->ac8,isAgg5->ac9,isAgg9->ad0,sizeOf0->ad1,isAgg103->ad5,underlying24->ad6,isAgg0->ad9,zeroValue24->ae0,sizeOf24->af0,func187->af5,func217->af6,isAgg24->af7,underlying167->ag0,underlying216->ag1,zeroValue167->ag5,zeroValue216->ag6,func188->ah2,func189->ah3,sizeOf167->ai2,sizeOf216->ai3,f180->ai4,isAgg167->aj0,isAgg216->aj1,underlying154->aj3,underlying249->aj4,underlying250->aj5,func152->ak8,func190->ak9,func218->al0,underlying20->al1,zeroValue154->al2,zeroValue249->al3,f181->al6,f220->al7,zeroValue20->al8,sizeOf154->am8,sizeOf249->am9,sizeOf250->an0,isAgg154->an5,isAgg249->an6,isAgg250->an7,sizeOf20->an8,f104->an9,f133->ao0,f141->ao1,f164->ao2,f198->ao3,f201->ao4,f214->ao5,f231->ao6,f236->ao7,func157->ap8,func179->ap9,func223->aq0,func248->aq1,func258->aq2,func259->aq3,isAgg20->aq4
open Option renaming getD_some->p7,isSome_some->w9,map_some->x3,isSome_none->ae5,isSome_map->ag4,isSome->ag8
open Go.Lib renaming decodeL->w6,index->aa6,cut->ab9,join->ac0,runeCountL->af8,decodeL_width->ag3,decodeL_drop->ag9,deBruijn64tab->aj8,decodeL_ascii->aj9,firstTab->ak0,runeCountFrom->ak1,decodeN->al9,decodeL_le->am5,decodeL_N->an1,join_cons->an2,index_ge->ao8,joinTail->ao9,join_one->ap0,pow10Tab->ap1,validGoD->ap2
open Nat renaming ble->x6,ble_eq->x9,ble_eq_true_of_le->aa5,le_of_ble_eq_true->ab8,div_le_self->ae4,pow_succ->ae7,le_refl->af3,zero_add->ah1,min_eq_left->ah4,strongRecOn->ah5,mul_le_mul->ai0,mul_le_mul_right->ai1,blt_eq->aj2,add_zero->ak6,le_trans->ak7,mod_lt->am7,add_assoc->an4,sub_self->ap6
open Go.Shelf renaming Ren->aa9
open UInt8 renaming ofNat->ab1,toNat->aq7
open Classical renaming byContradiction->ae1
open Go.RowKit.Below renaming refl->ae8
open Function renaming comp_def->ag2
open Go.Utf8 renaming decode->ag7
open Go.IntKind renaming u16->ah7,bits->aj7
open UInt8.toNat renaming inj->am2
open Go.RowKit renaming Below->ap7
open Go.Proofs.LaysM renaming n171->aq5
open Go.Proofs.Lays renaming n137->aq8,n138->aq9,n143->ar0,n145->ar1,n153->ar2,n156->ar3,n195->ar4,n196->ar5
open Go.Proofs.Lays2 renaming n21->ar6
open Go.Proofs.Lays7 renaming n27->ar7
namespace Go.Proofs.YtfkhfkjcidamaaaGreatDoor.E
set_option linter.all false
section
open Go Go.Proofs
theorem D09(a b:Nat)(c:a<65536)(d:b<65536):bOr .u16 (a:Int) (b:Int)=((a ||| b:Nat):Int):=by
 unfold bOr;rw[show aj7 .u16=16 from rfl,Ds3 16 a b (by omega) (by omega)];have:a ||| b<2 ^ 16:=Nat.or_lt_two_pow (by omega) (by omega)
 exact Kg
theorem D25(a m:Nat)(h:a*2 ^ m<65536)(b:m<=16):Sf .u16 (a:Int) (m:Int)=((a*2 ^ m:Nat):Int):=by
 unfold Sf;rw[c9,show aj7 .u16=16 from rfl,ah4 b];have:(a:Int)*2 ^ m=((a*2 ^ m:Nat):Int):=by simp
 rw[this];exact Kg
theorem Bk4(v d:Nat)(b:v<4096)(a:d<16):bOr .u16 (Sf .u16 (v:Int) 4) (d:Int)=((v*16+d:Nat):Int):=by have:=D25 v 4 (by omega) (by omega);rw[show((4:Nat):Int)=4 from rfl] at this;rw[this,D09 _ _ (by omega) (by omega),FY v d 4 (by omega)]
theorem Cm4{R:Type}{c:Unit->Option R}{f:Int->Option R}(s:By)(B:s.length<=4):∀(r i v n:Nat),i+r=s.length->r<n->v<16 ^ i->
  Fg LF n s (v:Int) (s.length:Int) (i:Int) c f=match Hf v (s.drop i) with|some w=>f (w:Int)|none=>c ():=by
 intro r
 induction r with
 | zero=>
  intro i v n l o p;obtain⟨n,rfl⟩:∃m,n=m+1:=⟨n-1,by omega⟩
  rw[Fg];rw[A6,j1 (by omega)];rfl
 | succ r q=>
  intro i v n l o p;obtain⟨n,rfl⟩:∃m,n=m+1:=⟨n-1,by omega⟩
  rw[Fg,D5 s i (by omega)];rw[D3];have k:=(s.getD i 0).toNat_lt;generalize s.getD i 0=b at *;have j:((i:Int)+1)=((i+1:Nat):Int):=by omega
  have A:16 ^ i<=4096:=by
   have:i=0\/i=1\/i=2\/i=3:=by omega
   rcases this with rfl|rfl|rfl|rfl<;>decide
  simp (disch:=omega) only[B7,K3,cond_true,vl,C8,Wz,Wy,Wx];rw[j];simp only[Hf];have go:∀d:Nat,d<16->Fg LF n s ((v*16+d:Nat):Int) (s.length:Int) ((i+1:Nat):Int) c f=match Hf (v*16+d) (s.drop (i+1)) with|some w=>f (w:Int)|none=>c ():=
   λd z=>q (i+1) _ n (by omega) (by omega) (by rw[ae7];omega)
  rcases Cz b with⟨g,h,e⟩|⟨g,h,e⟩|⟨g,h,e⟩|⟨g,h,y,e⟩
  ·have a:Dt (wu8 ((b.toNat:Int)-48))=((dig b:Nat):Int):=by rw[M4,Kg];omega
   simp (disch:=omega) only[B7,E4,j0,b8,cond_false,cond_true,a,Bk4,if_pos (show dig b<16 by omega)];exact go _ (by omega)
  ·have a:Dt (wu8 (wu8 ((b.toNat:Int)-97)+10))=((dig b:Nat):Int):=by rw[Ab0 (n:=(b.toNat:Int)-97) (by omega) (by omega),M4,Kg];omega
   simp (disch:=omega) only[B7,E4,j0,b8,cond_false,cond_true,a,Bk4,if_pos (show dig b<16 by omega)];exact go _ (by omega)
  ·have a:Dt (wu8 (wu8 ((b.toNat:Int)-65)+10))=((dig b:Nat):Int):=by rw[Ab0 (n:=(b.toNat:Int)-65) (by omega) (by omega),M4,Kg];omega
   simp (disch:=omega) only[B7,E4,j0,b8,cond_false,cond_true,a,Bk4,if_pos (show dig b<16 by omega)];exact go _ (by omega)
  ·rw[if_neg (show ¬dig b<16 by omega)];by_cases t:b.toNat<48
   ·simp (disch:=omega) only[B7,E4,j0,b8,cond_false,cond_true]
   ·by_cases u:b.toNat<65
    ·simp (disch:=omega) only[B7,E4,j0,b8,cond_false,cond_true]
    ·by_cases x:b.toNat<97
     ·simp (disch:=omega) only[B7,E4,j0,b8,cond_false,cond_true]
     ·simp (disch:=omega) only[B7,E4,j0,b8,cond_false,cond_true]
theorem B14{R:Type}{c:Int->Bool->Option R}(s:By)(d:A3 s.length=true):Cm6 LF s c=c (N1 (grp s):Int) (grp s).isSome:=by
 have:=C2;unfold Cm6 grp;by_cases a:s=[]
 ·subst a;rfl
 ·rw[show(s==([]:By))=false from beq_eq_false_iff_ne.2 a];by_cases b:4<s.length
  ·rw[A8,if_pos (.inr b)];rfl
  ·rw[A6,if_neg (by intro h;rcases h with h|h;exact a h;exact b h)];refine j7 (Cm4 s (by omega) s.length 0 0 LF (by omega) (by omega) (by decide)) ?_;rw[j9];cases Hf 0 s<;>rfl
theorem Ah0:∀(s:By) (v w m:Nat),v<16 ^ m->Hf v s=some w->w<16 ^ (m+s.length)
 | [],v,w,m,a,h=>by simp only[Hf,j2] at h;subst h;simpa using a
 | b::r,v,w,m,a,h=>by
  simp only[Hf] at h;split at h
  ·have:=Ah0 r (v*16+dig b) w (m+1) (by rw[ae7];omega) h;grind
  ·cases h
theorem Cm5{s:By}{v:Nat}(h:grp s=some v):v<65536:=by
 unfold grp at h;split at h
 ·cases h
 ·rename_i a;have:=Ah0 s 0 v 0 (by decide) h;have b:s.length<=4:=by omega
  have:16 ^ (0+s.length)<=16 ^ 4:=Nat.pow_le_pow_right (by omega) (by omega);omega
theorem B77{R:Type}{c:Unit->Option R}{f:Int->Option R}(s:By)(B:s.length<=4):∀(r i v n:Nat),i+r=s.length->r<n->v<16 ^ i->
  Fq LF n s (v:Int) (i:Int) c f=match Hf v (s.drop i) with|some w=>f (w:Int)|none=>c ():=by
 intro r
 induction r with
 | zero=>
  intro i v n l o p;obtain⟨n,rfl⟩:∃m,n=m+1:=⟨n-1,by omega⟩
  rw[Fq];rw[A6,j1 (by omega)];rfl
 | succ r q=>
  intro i v n l o p;obtain⟨n,rfl⟩:∃m,n=m+1:=⟨n-1,by omega⟩
  rw[Fq,D5 s i (by omega)];rw[D3];have k:=(s.getD i 0).toNat_lt;generalize s.getD i 0=b at *;have j:((i:Int)+1)=((i+1:Nat):Int):=by omega
  have A:16 ^ i<=4096:=by
   have:i=0\/i=1\/i=2\/i=3:=by omega
   rcases this with rfl|rfl|rfl|rfl<;>decide
  simp (disch:=omega) only[B7,K3,cond_true,vl,C8,Yd,Yc,Yb];rw[j];simp only[Hf];have go:∀d:Nat,d<16->Fq LF n s ((v*16+d:Nat):Int) ((i+1:Nat):Int) c f=match Hf (v*16+d) (s.drop (i+1)) with|some w=>f (w:Int)|none=>c ():=
   λd z=>q (i+1) _ n (by omega) (by omega) (by rw[ae7];omega)
  rcases Cz b with⟨g,h,e⟩|⟨g,h,e⟩|⟨g,h,e⟩|⟨g,h,y,e⟩
  ·have a:wu8 ((b.toNat:Int)-48)=(b.toNat:Int)-48:=M4;simp (disch:=omega) only[B7,E4,j0,b8,cond_false,cond_true,a,C8,if_pos (show dig b<16 by omega)];rw[show(v:Int)*16+((b.toNat:Int)-48)=((v*16+dig b:Nat):Int) by omega];exact go _ (by omega)
  ·have a:wu8 ((b.toNat:Int)-97)=(b.toNat:Int)-97:=M4;simp (disch:=omega) only[B7,E4,j0,b8,cond_false,cond_true,a,C8,if_pos (show dig b<16 by omega)];rw[show(v:Int)*16+((b.toNat:Int)-97)+10=((v*16+dig b:Nat):Int) by omega];exact go _ (by omega)
  ·have a:wu8 ((b.toNat:Int)-65)=(b.toNat:Int)-65:=M4;simp (disch:=omega) only[B7,E4,j0,b8,cond_false,cond_true,a,C8,if_pos (show dig b<16 by omega)];rw[show(v:Int)*16+((b.toNat:Int)-65)+10=((v*16+dig b:Nat):Int) by omega];exact go _ (by omega)
  ·rw[if_neg (show ¬dig b<16 by omega)];by_cases t:b.toNat<48
   ·simp (disch:=omega) only[B7,E4,j0,b8,cond_false,cond_true]
   ·by_cases u:b.toNat<65
    ·simp (disch:=omega) only[B7,E4,j0,b8,cond_false,cond_true]
    ·by_cases x:b.toNat<97
     ·simp (disch:=omega) only[B7,E4,j0,b8,cond_false,cond_true]
     ·simp (disch:=omega) only[B7,E4,j0,b8,cond_false,cond_true]
theorem B78{R:Type}{b:Int->Bool->Option R}(s:By)(f:A3 s.length=true):Cs8 LF s b=b (N1 (grp s):Int) (grp s).isSome:=by
 have:=C2;unfold Cs8;by_cases a:s=[]
 ·subst a;rfl
 ·have g:0<s.length:=aa0.2 a;rw[A6];by_cases c:4<s.length
  ·rw[A8];unfold grp;rw[if_pos (.inr c)];rfl
  ·rw[A6];refine j7 (B77 s (by omega) s.length 0 0 LF (by omega) (by omega) (by decide)) ?_;have e:grp s=Hf 0 s:=by
    unfold grp;grind
   rw[j9,<-e];cases d:grp s with
   | none=>rfl
   | some w=>
    have:=Cm5 d;simp only[N1,p7,w9];rw[Kg]
theorem G8(l:List Nat):(D2 l).length=l.length:=by simp[D2]
theorem Ln(a b:List Nat):D2 (a++b)=D2 a++D2 b:=by simp[D2]
theorem Zf(l:List Nat):(D2 l).isEmpty=l.isEmpty:=by cases l<;>rfl
theorem Mu{l:List Nat}{i:Nat}(h:i<l.length):okE ⟨true,false,[.int .u16]⟩ (D2 l) i 0=true:=by unfold okE D2;simp[a8,h,okS,SV.has]
theorem Ul(l:List Nat)(i:Nat):gE (D2 l) i 0=(l.getD i 0:Int):=by
 unfold gE gC D2;by_cases h:i<l.length
 ·simp[a8,j4 h,SV.gI]
 ·simp[a8,List.getElem?_eq_none (show l.length<=i by omega),SV.gI]
theorem Kr:∀(last:Bool) (l:List By) (r:List Nat),Eg last l=some r->r.length<=2*l.length
 | last,[],r,h=>by simp only[Eg,j2] at h;subst h;simp
 | last,x::l,r,h=>by
  simp only[Eg] at h;split at h
  ·cases a:Eg last l with
   | none=>simp[a] at h
   | some q=>
    simp only[a,x3,j2] at h;subst h;have:=Kr last l q a;grind
  grind
theorem Bm1{s:By}{v:Nat}(h:v4B s=some v):v<4294967296:=by
 unfold v4B at h;split at h
 ·rename_i a;have:=Bu9 (pcs 46 s) 0 v 0 (by decide) h;grind
 ·cases h
theorem Bs5:∀(last:Bool) (l:List By) (r:List Nat),Eg last l=some r->∀x∈r,x<65536
 | last,[],r,h,x,a=>by simp only[Eg,j2] at h;subst h;simp at a
 | last,y::l,r,h,x,a=>by
  simp only[Eg] at h;split at h
  ·rename_i v c;cases b:Eg last l with
   | none=>simp[b] at h
   | some q=>
    simp only[b,x3,j2] at h;subst h;rcases ai9.1 a with rfl|a
    ·exact Cm5 c
    ·exact Bs5 last l q b x a
  ·split at h
   ·rename_i v c;split at h
    ·simp only[j2] at h;subst h;have:=Bm1 c;grind
    grind
   ·cases h
theorem A40{R:Type}{k0:LL->Option R}{k1:LL->Option R}(last:Bool)(l:List By)(C:l.length<=1000000001)(w:∀x∈l,x.length<=1000000000):∀(r i n:Nat) (d:List Nat),i+r=l.length->r<n->d.length<=2*i->
  (∀q,Eg last (l.drop i)=some q->Eh LF n last (D1 l) (l.length:Int) (i:Int) (D2 d) k0 k1=k1 (D2 (d++q)))/\
  (Eg last (l.drop i)=none->∃k,Eh LF n last (D1 l) (l.length:Int) (i:Int) (D2 d) k0 k1=k0 k):=by
 intro r
 induction r with
 | zero=>
  intro i n d u y t;obtain⟨n,rfl⟩:∃m,n=m+1:=⟨n-1,by omega⟩
  rw[Eh,j1 (by omega)];rw[A6];refine⟨λq a=>?_,λh=>(by cases h)⟩;simp only[Eg,j2] at a;subst a;simp
 | succ r B=>
  intro i n d u y t;obtain⟨n,rfl⟩:∃m,n=m+1:=⟨n-1,by omega⟩
  rw[Eh,Jz l i (by omega)];have G:=w _ (QT (show i<l.length by omega));have f:((i:Int)+1)=((i+1:Nat):Int):=by omega
  simp (disch:=omega) only[B7,E1,K3,cond_true,c9,O9,S8,E6,vl,G8,F4,C8];rw[f];simp only[Eg];cases D:grp (l.getD i []) with
  | some v=>
   simp only[w9,cond_true,N1,p7];have c:D2 d++[[SV.int .u16 (v:Int)]]=D2 (d++[v]):=by rw[Ln];rfl
   rw[c];have:=B (i+1) n (d++[v]) (by omega) (by omega) (by simp<;>omega);refine⟨λq a=>?_,λh=>?_⟩
   ·cases b:Eg last (l.drop (i+1)) with
    | none=>simp[b] at a
    | some j=>
     simp only[b,x3,j2] at a;subst a;rw[this.1 j b];simp
   ·cases b:Eg last (l.drop (i+1)) with
    | none=>exact this.2 b
    | some j=>simp[b] at h
  | none=>
   simp only[ae5,cond_false];cases z:v4B (l.getD i []) with
   | none=>
    simp only[ae5,b8,cond_true];exact⟨λq a=>(by cases a),λ_=>⟨_,rfl⟩⟩
   | some v=>
    have A:=Bm1 z;simp only[w9,j0,cond_false,N1,p7];cases last with
    | false=>
     simp only[b8,cond_true,w8,false_and,if_false];exact⟨λq a=>(by cases a),λ_=>⟨_,rfl⟩⟩
    | true=>
     simp only[j0,cond_false,true_and];by_cases F:r=0
     ·have e:l.drop (i+1)=[]:=j1 (by omega);rw[A6,e,if_pos rfl,show(16:Int)=((16:Nat):Int) from rfl,Rx .u32 v 16 (by decide)];refine⟨λq a=>?_,λh=>(by cases h)⟩;simp only[j2] at a;subst a;have o:Dt ((v / 2 ^ 16:Nat):Int)=((v / 65536:Nat):Int):=Kg;have p:Dt (v:Int)=((v % 65536:Nat):Int):=Au0 v;rw[o,p,Ln];rfl
     ·have g:l.drop (i+1)≠[]:=by
       rw[Jz l (i+1) (by omega)];simp
      rw[A8,if_neg g];exact⟨λq a=>(by cases a),λ_=>⟨_,rfl⟩⟩
theorem Z1(c:UInt8){s:By}(a:s.length<=1000000000):(pcs c s).length<=1000000001:=by have:=Iz c s;grind
theorem A41(s:By)(last:Bool)(f:A3 s.length=true):∃r H,Bs6 LF s last (λl=>rv (.tup [.fl 0,.s (.bool true)]) [.arr true 25 1 l]) (λl=>rv (.tup [.fl 1,.s (.bool false)]) [.arr true 25 1 l,.arr true 25 1 []])=rv r H/\
  r.stab [1,0] H = .tup [.s (.sl (gvs s last).isEmpty (gvs s last).isEmpty 1 (D2 (gvs s last))),.s (.bool (Q1 s last).isSome)]:=by
 have d:=K7 f;have:=C2;unfold Bs6 gvs Q1;by_cases c:s=[]
 ·subst c;exact⟨_,_,rfl,rfl⟩
 ·rw[show(s==([]:By))=false from beq_eq_false_iff_ne.2 c,f,if_neg c];simp only[cond_false,cond_true,vl,List.getD_cons_zero,E1,show((1:Nat)==1)=true from rfl];obtain⟨a,b⟩:=A40 (k0:=λl=>rv (.tup [.fl 1,.s (.bool false)]) [.arr true 25 1 l,.arr true 25 1 []]) (k1:=λl=>rv (.tup [.fl 0,.s (.bool true)]) [.arr true 25 1 l]) last (pcs 58 s) (Z1 58 d) (λx h=>ak7 (Dx h).2 d) (pcs 58 s).length 0 LF [] (by omega) (by have:=Z1 58 d;omega) (by simp);rw[j9] at a b;cases g:Eg last (pcs 58 s) with
  | some q=>
   refine⟨_,_,a q g,?_⟩;simp[PV.stab,Po,Sc,PV.snap,M3,Zf]
  | none=>
   obtain⟨i,e⟩:=b g;refine⟨_,_,e,?_⟩;simp[PV.stab,Po,Sc,PV.snap,M3,D2]
theorem KQ:∀(s:By) (v:Nat) (b:UInt8),b∈s->16<=dig b->Hf v s=none
 | c::r,v,b,h,a=>by
  simp only[Hf];rcases ai9.1 h with rfl|h
  ·grind
  ·split
   ·exact KQ r _ b h a
   ·rfl
theorem Bm2{s:By}{v:Nat}(h:v4B s=some v):grp s=none:=by
 unfold v4B at h;split at h
 ·rename_i a;have b:(46:UInt8)∈s:=by
   apply ae1;intro c;rw[Qa c] at a;simp at a
  unfold grp;split
  ·rfl
  ·exact KQ s 0 46 b (by decide)
 ·cases h
theorem Bc7{R:Type}{k0:LL->Option R}{k1:LL->Option R}(last:Bool)(l:List By)(I:l.length<=1000000001)(D:∀x∈l,x.length<=1000000000):∀(r i n:Nat) (d:List Nat),i+r=l.length->r<n->d.length<=2*i->
  (∀q,Eg last (l.drop i)=some q->Q7 LF n last (D1 l) (i:Int) (D2 d) k0 k1=k1 (D2 (d++q)))/\
  (Eg last (l.drop i)=none->∃k,Q7 LF n last (D1 l) (i:Int) (D2 d) k0 k1=k0 k):=by
 intro r
 induction r with
 | zero=>
  intro i n d C F B;obtain⟨n,rfl⟩:∃m,n=m+1:=⟨n-1,by omega⟩
  rw[Q7,j1 (by omega)];rw[E1,A6];refine⟨λq a=>?_,λh=>(by cases h)⟩;simp only[Eg,j2] at a;subst a;simp
 | succ r y=>
  intro i n d C F B;obtain⟨n,rfl⟩:∃m,n=m+1:=⟨n-1,by omega⟩
  rw[Q7,Jz l i (by omega)];have L:=D _ (QT (show i<l.length by omega));have t:((i:Int)+1)=((i+1:Nat):Int):=by omega
  have w:A1 ((l.length:Int)-1)=((l.length-1:Nat):Int):=by rw[A7];omega
  simp (disch:=omega) only[B7,E1,K3,cond_true,c9,O9,S8,E6,vl,Lb,Lc,G8,F4,C8,cond_false];rw[t];simp only[Eg];have e:∀(f:v4B (l.getD i [])=none\/(last=false\/l.drop (i+1)≠[])),
    (∀q,(match grp (l.getD i []) with|some v=>(Eg last (l.drop (i+1))).map (v::·)|none=>match v4B (l.getD i []) with|some v=>if last=true/\l.drop (i+1)=[] then some [v / 65536,v % 65536] else none|none=>none)=some q->
     (cond (!(grp (l.getD i [])).isSome) (k0 (D2 d)) (Q7 LF n last (D1 l) ((i+1:Nat):Int) (D2 d++[[SV.int .u16 (N1 (grp (l.getD i [])):Int)]]) k0 k1))=k1 (D2 (d++q)))/\
    ((match grp (l.getD i []) with|some v=>(Eg last (l.drop (i+1))).map (v::·)|none=>match v4B (l.getD i []) with|some v=>if last=true/\l.drop (i+1)=[] then some [v / 65536,v % 65536] else none|none=>none)=none->
     ∃k,(cond (!(grp (l.getD i [])).isSome) (k0 (D2 d)) (Q7 LF n last (D1 l) ((i+1:Nat):Int) (D2 d++[[SV.int .u16 (N1 (grp (l.getD i [])):Int)]]) k0 k1))=k0 k):=by
   intro f;cases J:grp (l.getD i []) with
   | some v=>
    simp only[w9,j0,cond_false,N1,p7];have c:D2 d++[[SV.int .u16 (v:Int)]]=D2 (d++[v]):=by rw[Ln];rfl
    rw[c];have:=y (i+1) n (d++[v]) (by omega) (by omega) (by simp<;>omega);refine⟨λq a=>?_,λh=>?_⟩
    ·cases b:Eg last (l.drop (i+1)) with
     | none=>simp[b] at a
     | some z=>
      simp only[b,x3,j2] at a;subst a;rw[this.1 z b];simp
    ·cases b:Eg last (l.drop (i+1)) with
     | none=>exact this.2 b
     | some z=>simp[b] at h
   | none=>
    simp only[ae5,b8,cond_true];refine⟨λq a=>?_,λ_=>⟨_,rfl⟩⟩;exfalso;cases g:v4B (l.getD i []) with
    | none=>rw[g] at a;cases a
    | some v=>
     rw[g] at a;rcases f with h|h|h
     ·rw[g] at h;cases h
     ·simp only[h,w8,false_and,if_false] at a;cases a
     ·simp only[if_neg (λhc:last=true/\l.drop (i+1)=[]=>h hc.2)] at a;cases a
  cases f:v4B (l.getD i []) with
  | none=>
   simp only[ae5,cond_false];have:=e (.inl f);simp only[f] at this;exact this
  | some v=>
   have H:=Bm1 f;have p:=Bm2 f;simp only[w9,cond_true,N1,p7];cases last with
   | false=>
    simp only[cond_false];have:=e (.inr (.inl rfl));simp only[f,N1] at this;exact this
   | true=>
    simp only[cond_true];by_cases K:r=0
    ·have j:l.drop (i+1)=[]:=j1 (by omega);have o:((i:Int)==(l.length:Int)-1)=true:=by rw[beq_iff_eq];omega
     rw[o,p,j];simp only[cond_true,and_self,if_true,j2];refine⟨λq a=>?_,λh=>(by cases h)⟩;subst a;rw[show(16:Int)=((16:Nat):Int) from rfl,Rx .u32 v 16 (by decide)];have w:Dt ((v / 2 ^ 16:Nat):Int)=((v / 65536:Nat):Int):=Kg;have A:Dt (v:Int)=((v % 65536:Nat):Int):=Au0 v;rw[w,A];have c:D2 d++[[SV.int .u16 ((v / 65536:Nat):Int)],[SV.int .u16 ((v % 65536:Nat):Int)]]=D2 (d++[v / 65536,v % 65536]):=by rw[Ln];rfl
     rw[c];have G:0<n:=by omega
     exact(y (i+1) n (d++[v / 65536,v % 65536]) (by omega) (by omega) (by simp<;>omega)).1 [] (by rw[j];rfl) |>.trans (by simp)
    ·have u:l.drop (i+1)≠[]:=by
      rw[Jz l (i+1) (by omega)];simp
     have o:((i:Int)==(l.length:Int)-1)=false:=by rw[beq_eq_false_iff_ne];omega
     rw[o];simp only[cond_false];have:=e (.inr (.inr u));simp only[f,N1] at this;exact this
theorem Bc8(s:By)(last:Bool)(f:A3 s.length=true):∃r H,Al4 LF s last (λl=>rv (.tup [.fl 0,.s (.bool true)]) [.arr true 25 1 l]) (λl=>rv (.tup [.fl 1,.s (.bool false)]) [.arr true 25 1 l,.arr true 25 1 []])=rv r H/\
  r.stab [1,0] H = .tup [.s (.sl (gvs s last).isEmpty (gvs s last).isEmpty 1 (D2 (gvs s last))),.s (.bool (Q1 s last).isSome)]:=by
 have d:=K7 f;have:=C2;unfold Al4 gvs Q1;by_cases c:s=[]
 ·subst c;exact⟨_,_,rfl,rfl⟩
 ·rw[show(s==([]:By))=false from beq_eq_false_iff_ne.2 c,f,if_neg c];simp only[cond_false,cond_true,vl,show u8n 58=58 from rfl];obtain⟨a,b⟩:=Bc7 (k0:=λl=>rv (.tup [.fl 1,.s (.bool false)]) [.arr true 25 1 l,.arr true 25 1 []]) (k1:=λl=>rv (.tup [.fl 0,.s (.bool true)]) [.arr true 25 1 l]) last (pcs 58 s) (Z1 58 d) (λx h=>ak7 (Dx h).2 d) (pcs 58 s).length 0 LF [] (by omega) (by have:=Z1 58 d;omega) (by simp);rw[j9] at a b;cases g:Eg last (pcs 58 s) with
  | some q=>
   refine⟨_,_,a q g,?_⟩;simp[PV.stab,Po,Sc,PV.snap,M3,Zf]
  | none=>
   obtain⟨i,e⟩:=b g;refine⟨_,_,e,?_⟩;simp[PV.stab,Po,Sc,PV.snap,M3,D2]
theorem Db5{j:Type}{W:List j}(h:W.length=8):∃a b c d e f g i,W=[a,b,c,d,e,f,g,i]:=by
 match W,h with
 | [a,b,c,d,e,f,g,i],_=>exact⟨a,b,c,d,e,f,g,i,rfl⟩
def r8(n:Nat):LL:=b9 n [SV.int .u16 0]
theorem A98(n:Nat):r8 n=D2 (b9 n 0):=by simp[r8,D2]
theorem KV{s:By}{last:Bool}{q:List Nat}(h:Q1 s last=some q):gvs s last=q:=by unfold gvs;rw[h];rfl
theorem C73(s:By):(ab9 s [58,58]).1.length<=s.length/\(ab9 s [58,58]).2.1.length<=s.length:=by unfold ab9;grind
theorem By0{R:Type}{K:LL->LL->Option R}(X Y:List Nat)(h:X.length+Y.length<=8) :
  Qm (D2 X) (D2 Y) (r8 8) K=K (D2 (X++b9 (8-X.length-Y.length) 0++Y)) (D2 (X++b9 (8-X.length-Y.length) 0++Y)):=by
 unfold Qm;have n:(ac7 0 (r8 8)++(ac7 8 (D2 X)++ad4 (0+min (D2 X).length 8) (r8 8)))=D2 (X++b9 (8-X.length) 0):=by
  rw[G8,ah4 (show X.length<=8 by omega),p6 (l:=D2 X) (i:=8) (by rw[G8];omega),Ln,ah1,A98,ad8,p5];unfold D2;rw[<-ai8,List.drop_replicate]
 have m:A1 (8-(Y.length:Int))=((8-Y.length:Nat):Int):=by rw[A7];omega
 have o:(D2 (X++b9 (8-X.length) 0)).length=8:=by simp[G8]<;>omega
 have j:(ac7 (8-Y.length) (D2 (X++b9 (8-X.length) 0))++(ac7 (8-(8-Y.length)) (D2 Y)++ad4 (8-Y.length+min Y.length (8-(8-Y.length))) (D2 (X++b9 (8-X.length) 0))))=D2 (X++b9 (8-X.length-Y.length) 0++Y):=by
  rw[j1 (by rw[o];omega),p6 (l:=D2 Y) (by rw[G8];omega),Ln (X++_) Y,v7]
  congr 1
  unfold D2;rw[<-an3,List.take_append,p6 (by omega),List.take_replicate];grind
 have k:(X++b9 (8-X.length-Y.length) 0++Y).length=8:=by simp<;>omega
 simp only[vl];rw[n];simp only[G8,m,c9];rw[j];simp only[G8];rw[show(r8 8).length=8 from rfl,show o0 (X++b9 (8-X.length) (0:Nat))=8 by simp<;>omega,I1,decide_eq_true (show 8-Y.length+(8-(8-Y.length))<=8 by omega)];simp only[decide_true,cond_true,af3,k];generalize (X++b9 (8-X.length-Y.length) 0++Y)=W at *;obtain⟨a,b,c,d,e,f,g,i,rfl⟩:=Db5 k;rfl
theorem C14{R:Type}{k0:Int->Int->Int->Int->Int->Int->Int->Int->Bool->LL->LL->Option R}(s:By)(r:A3 s.length=true) :
  ∃l q,v6p LF s k0=k0 (v6c 0 s) (v6c 1 s) (v6c 2 s) (v6c 3 s) (v6c 4 s) (v6c 5 s) (v6c 6 s) (v6c 7 s) (v6B s).isSome l q:=by
 have C:=K7 r;have w:=C73 s;unfold v6p v6c;rw[r];have bad:∀(h:v6B s=none),k0 0 0 0 0 0 0 0 0 false (r8 8) (r8 8)=k0 ((((v6B s).getD z8).getD 0 0:Nat):Int) ((((v6B s).getD z8).getD 1 0:Nat):Int) ((((v6B s).getD z8).getD 2 0:Nat):Int) ((((v6B s).getD z8).getD 3 0:Nat):Int) ((((v6B s).getD z8).getD 4 0:Nat):Int) ((((v6B s).getD z8).getD 5 0:Nat):Int) ((((v6B s).getD z8).getD 6 0:Nat):Int) ((((v6B s).getD z8).getD 7 0:Nat):Int) (v6B s).isSome (r8 8) (r8 8):=by
  intro h;rw[h];rfl
 simp (disch:=omega) only[cond_true,vl,E6];have j:v6B s=match Q1 (ab9 s [58,58]).1 (!(ab9 s [58,58]).2.2),Q1 (ab9 s [58,58]).2.1 true with
  | some x,some y=>if (ab9 s [58,58]).2.2 then (if x.length+y.length<=7 then some (x++b9 (8-x.length-y.length) 0++y) else none)
   else if x.length+y.length=8 then some (x++y) else none
  | _,_=>none:=rfl
 generalize (ab9 s [58,58]).1=A at *;generalize (ab9 s [58,58]).2.1=B at *;generalize (ab9 s [58,58]).2.2=o at *;cases k:Q1 A (!o) with
 | none=>exact⟨_,_,bad (by rw[j,k])⟩
 | some X=>
  cases m:Q1 B true with
  | none=>exact⟨_,_,bad (by rw[j,k,m])⟩
  | some Y=>
   have u:X.length<=2000000002:=by
    unfold Q1 at k;split at k
    ·grind
    ·have:=Kr _ _ _ k;have:=Z1 58 (s:=A) (by omega);omega
   have v:Y.length<=2000000002:=by
    unfold Q1 at m;split at m
    ·grind
    ·have:=Kr _ _ _ m;have:=Z1 58 (s:=B) (by omega);omega
   rw[k,m] at j;simp only[KV k,KV m,G8,w9,j0,cond_false];rw[A7];have n:∀(W:List Nat),W.length=8->v6B s=some W->∃l q,(cond ((decide (8=(D2 W).length*1))&&(okS ⟨true,true,[.int .u16,.int .u16,.int .u16,.int .u16,.int .u16,.int .u16,.int .u16,.int .u16]⟩ (ac1 (D2 W)) 0))
     (k0 (SV.gI (o6 (ac1 (D2 W)) 0 SV.nilp)) (SV.gI (o6 (ac1 (D2 W)) 1 SV.nilp)) (SV.gI (o6 (ac1 (D2 W)) 2 SV.nilp)) (SV.gI (o6 (ac1 (D2 W)) 3 SV.nilp)) (SV.gI (o6 (ac1 (D2 W)) 4 SV.nilp)) (SV.gI (o6 (ac1 (D2 W)) 5 SV.nilp)) (SV.gI (o6 (ac1 (D2 W)) 6 SV.nilp)) (SV.gI (o6 (ac1 (D2 W)) 7 SV.nilp)) true (D2 W) (D2 W)) none) =
     k0 ((((v6B s).getD z8).getD 0 0:Nat):Int) ((((v6B s).getD z8).getD 1 0:Nat):Int) ((((v6B s).getD z8).getD 2 0:Nat):Int) ((((v6B s).getD z8).getD 3 0:Nat):Int) ((((v6B s).getD z8).getD 4 0:Nat):Int) ((((v6B s).getD z8).getD 5 0:Nat):Int) ((((v6B s).getD z8).getD 6 0:Nat):Int) ((((v6B s).getD z8).getD 7 0:Nat):Int) (v6B s).isSome l q:=by
    intro W t h;rw[h];obtain⟨a,b,c,d,e,f,g,i,rfl⟩:=Db5 t;exact⟨_,_,rfl⟩
   cases o with
   | false=>
    simp only[b8,cond_true,w8,if_false] at j ⊢;by_cases p:X.length+Y.length=8
    ·rw[if_pos p] at j;rw[show((X.length:Int)+(Y.length:Int)!=8)=false by simp;omega];simp only[cond_false];rw[show(b9 8 [SV.int ah7 0])=r8 8 from rfl,By0 X Y (by omega)];have z:8-X.length-Y.length=0:=by omega
     rw[z];simp only[List.replicate_zero,v7];exact n (X++Y) (by simp<;>omega) j
    ·rw[if_neg p] at j;rw[show((X.length:Int)+(Y.length:Int)!=8)=true by simp;omega];exact⟨_,_,bad j⟩
   | true=>
    simp only[j0,cond_false,cond_true,if_true] at j ⊢;by_cases p:X.length+Y.length<=7
    ·rw[if_pos p] at j;rw[A6];simp only[cond_false];rw[show(b9 8 [SV.int ah7 0])=r8 8 from rfl,By0 X Y (by omega)];exact n _ (by simp<;>omega) j
    ·rw[if_neg p] at j;rw[A8];exact⟨_,_,bad j⟩
theorem ZJ(P T:List Nat)(t v:Nat):ah9 (D2 (P++t::T)) P.length (G1 (o6 (D2 (P++t::T)) P.length []) 0 [SV.int .u16 (v:Int)])=D2 (P++v::T):=by
 have a:o6 (D2 (P++t::T)) P.length []=[SV.int .u16 (t:Int)]:=by
  simp[D2,a8]
 rw[a];simp only[G1,List.set_cons_zero];simp[D2]
theorem Cy5(X T:List Nat)(i:Nat)(h:i<X.length):X.take (i+1)++T=X.take i++X.getD i 0::T:=by rw[ak4,j4 h,a8,j4 h,p9];rfl
theorem Du7{R:Type}{k0:LL->LL->Option R}(z:Bool)(X:List Nat)(h:X.length=8)(c:LL):∀(r i n:Nat),i+r=8->r<n->Nl LF n z (D2 X) (i:Int) c (D2 (X.take i++b9 r 0)) k0=k0 c (D2 X):=by
 intro r
 induction r with
 | zero=>
  intro i n d f;obtain⟨n,rfl⟩:∃m,n=m+1:=⟨n-1,by omega⟩
  rw[Nl];rw[A6,p6 (by omega)];simp
 | succ r g=>
  intro i n d f;obtain⟨n,rfl⟩:∃m,n=m+1:=⟨n-1,by omega⟩
  rw[Nl];have a:((i:Int)+1)=((i+1:Nat):Int):=by omega
  have e:(X.take i).length=i:=by rw[p4];omega
  have b:=ZJ (X.take i) (b9 r 0) 0 (X.getD i 0);rw[e] at b;simp (disch:=first|omega|(simp[G8];omega)) only[B7,G8,K3,cond_true,c9,Mu,Ul,vl,C8,ai6,b];rw[decide_eq_true (show i<o0 (X.take i++(0:Nat)::b9 r (0:Nat)) by simp<;>omega),a];simp only[cond_true];have:=g (i+1) n (by omega) (by omega);rw[Cy5 X _ i (by omega)] at this;exact this
theorem Du8{R:Type}{k0:Bool->LL->LL->LL->Option R}(z:Bool)(X:List Nat)(k:X.length<=8)(e:Bool)(d c:LL):∀(r i n:Nat),i+r=X.length->r<n->Nm LF n z (D2 X) e d (i:Int) c (D2 (X.take i++b9 (8-i) 0)) k0=k0 e d c (D2 (X++b9 (8-X.length) 0)):=by
 intro r
 induction r with
 | zero=>
  intro i n f h;obtain⟨n,rfl⟩:∃m,n=m+1:=⟨n-1,by omega⟩
  rw[Nm];rw[G8,A6,p6 (by omega),show i=X.length by omega];rfl
 | succ r j=>
  intro i n f h;obtain⟨n,rfl⟩:∃m,n=m+1:=⟨n-1,by omega⟩
  rw[Nm];have a:((i:Int)+1)=((i+1:Nat):Int):=by omega
  have g:(X.take i).length=i:=by rw[p4];omega
  have b:=ZJ (X.take i) (b9 (7-i) 0) 0 (X.getD i 0);rw[g] at b;rw[show 8-i=7-i+1 by omega,ai6];simp (disch:=first|omega|(simp[G8];omega)) only[B7,G8,K3,cond_true,c9,Mu,Ul,vl,C8,b];rw[decide_eq_true (show i<o0 (X.take i++(0:Nat)::b9 (7-i) (0:Nat)) by simp<;>omega),a];simp only[cond_true];have:=j (i+1) n (by omega) (by omega);rw[Cy5 X _ i (by omega),show 8-(i+1)=7-i by omega] at this;exact this
theorem Du9{R:Type}{k0:LL->LL->Option R}(z:Bool)(Y P:List Nat)(o:P.length+Y.length=8)(e:LL):∀(r i n:Nat) (T:List Nat),i+r=Y.length->r<n->T.length=r->Nn LF n z (D2 Y) (i:Int) e (D2 (P++Y.take i++T)) k0=k0 e (D2 (P++Y)):=by
 intro r
 induction r with
 | zero=>
  intro i n T h k a;obtain⟨n,rfl⟩:∃m,n=m+1:=⟨n-1,by omega⟩
  rw[Nn];rw[G8,A6,p6 (by omega),o5.1 a];simp
 | succ r l=>
  intro i n T h k a;obtain⟨n,rfl⟩:∃m,n=m+1:=⟨n-1,by omega⟩
  obtain⟨t,T,rfl⟩:∃t b,T=t::b:=by
   match T,a with
   | t::b,_=>exact⟨t,b,rfl⟩
  rw[Nn];have c:((i:Int)+1)=((i+1:Nat):Int):=by omega
  have j:(P++Y.take i).length=P.length+i:=by simp<;>omega
  have d:=ZJ (P++Y.take i) T t (Y.getD i 0);rw[j] at d;have f:A1 (8-(Y.length:Int))=(P.length:Int):=by rw[A7];omega
  have g:A1 ((P.length:Int)+(i:Int))=((P.length+i:Nat):Int):=by rw[A7];rfl
  simp (disch:=first|omega|(simp[G8];omega)) only[B7,G8,K3,cond_true,c9,Mu,Ul,vl,f,g,C8,d];rw[decide_eq_true (show P.length+i<o0 (P++Y.take i++t::T) by simp<;>omega),c];simp only[cond_true];have:=l (i+1) n T (by omega) (by omega) (by simpa using a);rw[p9,Cy5 Y _ i (by omega),<-p9] at this;exact this
theorem Cb0{R:Type}{k0:Int->Int->Int->Int->Int->Int->Int->Int->Bool->LL->LL->Option R}(s:By)(B:A3 s.length=true) :
  ∃l L,Cw9 LF s k0=k0 (v6c 0 s) (v6c 1 s) (v6c 2 s) (v6c 3 s) (v6c 4 s) (v6c 5 s) (v6c 6 s) (v6c 7 s) (v6B s).isSome l L:=by
 have M:=K7 B;have F:=C2;unfold Cw9 v6c;rw[B];have bad:∀(h:v6B s=none),k0 0 0 0 0 0 0 0 0 false (r8 8) (r8 8)=k0 ((((v6B s).getD z8).getD 0 0:Nat):Int) ((((v6B s).getD z8).getD 1 0:Nat):Int) ((((v6B s).getD z8).getD 2 0:Nat):Int) ((((v6B s).getD z8).getD 3 0:Nat):Int) ((((v6B s).getD z8).getD 4 0:Nat):Int) ((((v6B s).getD z8).getD 5 0:Nat):Int) ((((v6B s).getD z8).getD 6 0:Nat):Int) ((((v6B s).getD z8).getD 7 0:Nat):Int) (v6B s).isSome (r8 8) (r8 8):=by
  intro h;rw[h];rfl
 have j:v6B s=match Q1 (ab9 s [58,58]).1 (!(ab9 s [58,58]).2.2),Q1 (ab9 s [58,58]).2.1 true with
  | some x,some y=>if (ab9 s [58,58]).2.2 then (if x.length+y.length<=7 then some (x++b9 (8-x.length-y.length) 0++y) else none)
   else if x.length+y.length=8 then some (x++y) else none
  | _,_=>none:=rfl
 have J:=Lib.index_room s [58,58];have I:=ao8 s [58,58];simp only[cond_true];by_cases C:KF s<0
 ·have n:ab9 s [58,58]=(s,[],false):=by
   unfold ab9;rw[if_neg (by unfold KF at C;omega)]
  rw[n] at j;simp only[b8,w8,if_false] at j;rw[B7 C];simp only[cond_true];cases m:Q1 s true with
  | none=>
   rw[m] at j;exact⟨_,_,bad j⟩
  | some X=>
   have o:Q1 [] true=some []:=rfl;have A:X.length<=2000000002:=by
    unfold Q1 at m;split at m
    ·cases m;simp
    ·have:=Kr _ _ _ m;have:=Z1 58 (s:=s) (by omega);omega
   rw[m,o] at j;simp only[aa1,ak6,v7] at j;simp only[w9,j0,cond_false,KV m,G8];by_cases p:X.length=8
   ·rw[if_pos p] at j;rw[show((X.length:Int)!=8)=false by simp;omega];simp only[cond_false];rw[show(b9 8 [SV.int ah7 0])=r8 8 from rfl];have h:=λK=>Du7 (R:=R) (k0:=K) X.isEmpty X p (r8 8) 8 0 LF (by omega) (by omega)
    simp only[ad8,p5] at h;rw[<-A98] at h;rw[show((0:Nat):Int)=0 from rfl] at h;rw[h];rw[j];clear h j m bad;obtain⟨a,b,c,d,e,f,g,i,rfl⟩:=Db5 p;exact⟨_,_,rfl⟩
   ·rw[if_neg p] at j;rw[show((X.length:Int)!=8)=true by simp;omega];exact⟨_,_,bad j⟩
 ·have r:0<=KF s:=by omega
  have q:=J r;obtain⟨k,t⟩:=j8 r;have w:k+2<=s.length:=by
   have:KF s+2<=(s.length:Int):=q;omega
  have n:ab9 s [58,58]=(s.take k,s.drop (k+2),true):=by
   unfold ab9;have:aa6 s [58,58]=(k:Int):=t;rw[T5,this];rfl
  rw[n] at j;simp only[j0,if_true] at j;have D:A1 ((k:Int)+2)=((k+2:Nat):Int):=by rw[A7];rfl
  rw[t,A6,I1];simp only[cond_false,cond_true,vl,D,K6,P4,c9];rw[E6 (by simp<;>omega),I1,E6 (by simp<;>omega)];simp only[cond_true];cases m:Q1 (s.take k) false with
  | none=>
   rw[m] at j;exact⟨_,_,bad j⟩
  | some X=>
   cases o:Q1 (s.drop (k+2)) true with
   | none=>
    rw[m,o] at j;exact⟨_,_,bad j⟩
   | some Y=>
    have A:X.length<=2000000002:=by
     unfold Q1 at m;split at m
     ·cases m;simp
     ·have:=Kr _ _ _ m;have:=Z1 58 (s:=s.take k) (by simp<;>omega);omega
    have H:Y.length<=2000000002:=by
     unfold Q1 at o;split at o
     ·cases o;simp
     ·have:=Kr _ _ _ o;have:=Z1 58 (s:=s.drop (k+2)) (by simp<;>omega);omega
    rw[m,o] at j;simp only[w9,j0,cond_false,KV m,KV o,G8];rw[A7];by_cases p:X.length+Y.length<=7
    ·simp only[if_pos p] at j;rw[A6];simp only[cond_false];rw[show(b9 8 [SV.int ah7 0])=r8 8 from rfl];have v:=λK=>Du8 (R:=R) (k0:=K) X.isEmpty X (by omega) Y.isEmpty (D2 Y) (r8 8) X.length 0 LF (by omega) (by omega)
     simp only[ad8,p5] at v;rw[show(8-0:Nat)=8 from rfl,<-A98,show((0:Nat):Int)=0 from rfl] at v;rw[v];have u:X++b9 (8-X.length) 0=(X++b9 (8-X.length-Y.length) 0)++ac7 0 Y++b9 Y.length 0:=by
      simp only[ad8,v7,p9];rw[List.replicate_append_replicate]
      congr 2
      omega
     have z:=λK=>Du9 (R:=R) (k0:=K) Y.isEmpty Y (X++b9 (8-X.length-Y.length) 0) (by simp<;>omega) (r8 8) Y.length 0 LF (b9 Y.length 0) (by omega) (by omega) (by simp)
     rw[<-u,show((0:Nat):Int)=0 from rfl] at z;rw[z];rw[j];have G:o0 (X++b9 (8-X.length-Y.length) 0++Y)=8:=by simp<;>omega
     clear v z u j m o bad;generalize (X++b9 (8-X.length-Y.length) 0++Y)=W at *;obtain⟨a,b,c,d,e,f,g,i,rfl⟩:=Db5 G;exact⟨_,_,rfl⟩
    ·simp only[if_neg p] at j;rw[A8];exact⟨_,_,bad j⟩
theorem Ao1{x:Nat}{r:List Nat}:Qe (x::r)=if x=0 then Qe r+1 else 0:=by unfold Qe;by_cases h:x=0<;>simp[h]
theorem ZF(l:List Nat):Qe l<=l.length:=by unfold Qe;exact(List.takeWhile_sublist _).length_le
theorem C51{R:Type}{k0:Int->Int->Int->Int->LL->Option R}(W:List Nat)(l:W.length=8)(b a:Int)(i:Nat):∀(r j n:Nat),i+j+r=8->r<n->
  Ik LF n b a (i:Int) (j:Int) (D2 W) k0=k0 b a (i:Int) ((j+Qe (W.drop (i+j)):Nat):Int) (D2 W):=by
 intro r
 induction r with
 | zero=>
  intro j n f g;obtain⟨n,rfl⟩:∃m,n=m+1:=⟨n-1,by omega⟩
  rw[Ik];rw[A7,A6,j1 (by omega)];rfl
 | succ r k=>
  intro j n f g;obtain⟨n,rfl⟩:∃m,n=m+1:=⟨n-1,by omega⟩
  rw[Ik];have c:A1 ((i:Int)+(j:Int))=((i+j:Nat):Int):=by rw[A7];rfl
  have d:A1 ((j:Int)+1)=((j+1:Nat):Int):=by rw[A7];rfl
  have e:W.drop (i+j)=W.getD (i+j) 0::W.drop (i+(j+1)):=by
   rw[a8,j4 (by omega),p7,<-an4,z7]
  simp (disch:=first|omega|(simp[G8];omega)) only[c,d,B7,K3,cond_true,c9,Mu,Ul,vl];rw[e,Ao1];by_cases h:W.getD (i+j) 0=0
  ·rw[h,if_pos rfl,show(((0:Nat):Int)==0)=true from rfl,cond_true,k (j+1) n (by omega) (by omega)]
   congr 2
   omega
  ·rw[if_neg h,show(((W.getD (i+j) 0:Nat):Int)==0)=false by rw[beq_eq_false_iff_ne];omega];rfl
theorem Cf4{R:Type}{k0:Int->Int->LL->Option R}(W:List Nat)(f:W.length=8):∀(r i n z m:Nat),i+r=8->r<n->z<=8->m<=8->
  Er LF n (z:Int) (m:Int) (i:Int) (D2 W) k0=k0 ((zGo (W.drop i) i z m).1:Nat) ((zGo (W.drop i) i z m).2:Nat) (D2 W):=by
 intro r
 induction r with
 | zero=>
  intro i n z m j o c l;obtain⟨n,rfl⟩:∃m,n=m+1:=⟨n-1,by omega⟩
  rw[Er];rw[A6,j1 (by omega)];rfl
 | succ r d=>
  intro i n z m j o c l;obtain⟨n,rfl⟩:∃m,n=m+1:=⟨n-1,by omega⟩
  have e:=C2;rw[Er];have a:=λK=>C51 (R:=R) (k0:=K) W f (z:Int) (m:Int) i r.succ 0 LF (by omega) (by omega)
  rw[show((0:Nat):Int)=0 from rfl] at a;simp only[ah1,ak6] at a;rw[A8,cond_true,a];have g:W.drop i=W.getD i 0::W.drop (i+1):=by
   rw[a8,j4 (by omega),p7,z7]
  have k:=ZF (W.drop i);rw[j6] at k;have b:A1 ((i:Int)+1)=((i+1:Nat):Int):=by rw[A7];rfl
  rw[b];have c:zGo (W.drop i) i z m=if m<Qe (W.drop i) then zGo (W.drop (i+1)) (i+1) i (Qe (W.drop i)) else zGo (W.drop (i+1)) (i+1) z m:=by
   rw[g];rfl
  rw[c];by_cases h:m<Qe (W.drop i)
  ·rw[if_pos h,A8,cond_true];exact d (i+1) n i (Qe (W.drop i)) (by omega) (by omega) (by omega) (by omega)
  ·rw[if_neg h,A6,cond_false];exact d (i+1) n z m (by omega) (by omega) (by omega) (by omega)
theorem Rk{a b c d e f g i:Int}(h:ok8 a b c d e f g i=true):∃j k l m n o p q:Nat,a=j/\b=k/\c=l/\d=m/\e=n/\f=o/\g=p/\i=q/\j<65536/\k<65536/\l<65536/\m<65536/\n<65536/\o<65536/\p<65536/\q<65536:=by simp only[ok8,ac5,List.all_nil,ad2,o8,E5] at h;exact⟨a.toNat,b.toNat,c.toNat,d.toNat,e.toNat,f.toNat,g.toNat,i.toNat,by omega,by omega,by omega,by omega,by omega,by omega,by omega,by omega,by omega,by omega,by omega,by omega,by omega,by omega,by omega,by omega⟩
theorem Bn4{R:Type}{j:Int->Int->LL->Option R}(a b c d e f g i:Int)(t:ok8 a b c d e f g i=true):Bz4 LF a b c d e f g i j=j ((zGo (n8 a b c d e f g i) 0 0 0).1:Nat) ((zGo (n8 a b c d e f g i) 0 0 0).2:Nat) (D2 (n8 a b c d e f g i)):=by obtain⟨k,l,m,n,o,p,q,r,rfl,rfl,rfl,rfl,rfl,rfl,rfl,rfl,h⟩:=Rk t;have:=C2;unfold Bz4;exact Cf4 [k,l,m,n,o,p,q,r] rfl 8 0 LF 0 0 rfl (by omega) (by omega) (by omega)
theorem Hg{n:Nat}(h:n<16):S7 n=[Sd n]:=by rw[S7,dif_pos h]
theorem Ge{n:Nat}(h:¬n<16):S7 n=S7 (n / 16)++[Sd (n % 16)]:=by rw[S7,dif_neg h]
theorem KW:∀n:Nat,n<65536->1<=(S7 n).length/\(S7 n).length<=4:=by
 intro n d;by_cases a:n<16
 ·rw[Hg a];simp
 rw[Ge a];by_cases b:n / 16<16
 ·rw[Hg b];simp
 rw[Ge b];by_cases c:n / 16 / 16<16
 ·rw[Hg c];simp
 rw[Ge c,Hg (show n / 16 / 16 / 16<16 by omega)];simp
theorem Bs8(d:Nat)(h:d<16):Sd d≠58:=by
 have:∀d:Fin 16,Sd d.val≠58:=by decide
 exact this ⟨d,h⟩
theorem B18(n:Nat):∃p d,S7 n=p++[d]/\d≠58:=by
 by_cases a:n<16
 ·exact⟨[],_,by rw[Hg a];rfl,Bs8 n a⟩
 ·exact⟨_,_,Ge a,Bs8 _ (by omega)⟩
theorem Cn2(d:Nat)(h:d<16):cut ([48,49,50,51,52,53,54,55,56,57,97,98,99,100,101,102]:By) (d:Int) ((d+1:Nat):Int)=[Sd d]:=by
 have:∀d:Fin 16,(([48,49,50,51,52,53,54,55,56,57,97,98,99,100,101,102]:By).take (d.val+1)).drop d.val=[Sd d.val]:=by decide
 rw[Fd];exact this ⟨d,h⟩
theorem Bd1{R:Type}{c:By->Option R}:∀(v n:Nat) (s:By),v<65536->v+1<n->s.length+v<=70000->(0<v\/s=[])->
  Ao LF n s (v:Int) c=c (S7 v++s):=by
 intro v
 induction v using ah5 with
 | _ v q=>
  intro n s w r u h;obtain⟨n,rfl⟩:∃m,n=m+1:=⟨n-1,by omega⟩
  have l:af1 (v:Int) 16=((v % 16:Nat):Int):=Cl v 16;have k:ac6 (v:Int) 16=((v / 16:Nat):Int):=L8 v 16;have i:Dt (((v % 16:Nat):Int)+1)=((v % 16+1:Nat):Int):=by rw[Kg];rfl
  have j:Dt ((v / 16:Nat):Int)=((v / 16:Nat):Int):=Kg;have last:∀(m:Nat) (t:By),t≠[]->Ao LF (m+1) t 0 c=c t:=by
   intro m t o;rw[Ao];rw[A6,show(t==([]:By))=false from beq_eq_false_iff_ne.2 o];rfl
  have a:(vl (Dt ((af1 (v:Int) 16)+1)) λd=>
    cond (I6 (af1 (v:Int) 16) d 16)
    (vl (cut (([48,49,50,51,52,53,54,55,56,57,97,98,99,100,101,102]:List UInt8)) (af1 (v:Int) 16) d) λe=>
     cond (E7 (o0 e) (o0 s))
     (vl (Dt (ac6 (v:Int) 16)) λg=>Ao LF n (e++s) g c) none) none)=c (S7 v++s):=by
   simp only[vl,l,k,i,j];rw[I1,Cn2 _ (by omega),G0 (by simp;omega)];simp only[cond_true];by_cases b:v<16
   ·rw[Hg b,Nat.mod_eq_of_lt b,show v / 16=0 by omega];obtain⟨n,rfl⟩:∃m,n=m+1:=⟨n-1,by omega⟩
    exact last n _ (by simp)
   ·rw[q (v / 16) (by omega) n _ (by omega) (by omega) (by simp;omega) (.inl (by omega)),Ge b];simp
  rw[Ao];by_cases p:0<v
  ·rw[A8,cond_true];exact a
  ·have f:s=[]:=by rcases h with h|h;omega;exact h
   rw[A6,cond_false,show(s==([]:By))=true by simpa using f,cond_true];exact a
theorem Bd2{R:Type}{b:By->Option R}(v:Int)(c:ltN v 65536=true):Bw1 LF v b=b (S7 v.toNat):=by obtain⟨a,d⟩:=E5.1 c;obtain⟨m,rfl⟩:=j8 a;have:=C2;unfold Bw1;refine j7 (Bd1 m LF [] (by omega) (by omega) (by simp<;>omega) (.inr rfl)) ?_;grind
theorem YT{R:Type}{c:Int->Option R}{d:Unit->Option R}(s:By)(x:s.length<=1000000000):∀(r i n:Nat),i+r=s.length->r<n->
  U7 LF n s (i:Int) c d=if aa6 (s.drop i) [58,58]=-1 then d () else c ((i:Int)+aa6 (s.drop i) [58,58]):=by
 intro r
 induction r with
 | zero=>
  intro i n q u;obtain⟨n,rfl⟩:∃m,n=m+1:=⟨n-1,by omega⟩
  rw[U7];rw[A7,A6,j1 (by omega)];rfl
 | succ r h=>
  intro i n q u;obtain⟨n,rfl⟩:∃m,n=m+1:=⟨n-1,by omega⟩
  rw[U7];have f:A1 ((i:Int)+1)=((i+1:Nat):Int):=by rw[A7];rfl
  rw[f];by_cases t:i+1<s.length
  ·have h:=h (i+1) n (by omega) (by omega);rw[D5 s i (by omega)];have e:=D5 s (i+1) t;have p:=ao8 (s.drop (i+1)) [58,58];have l:aa6 (s.getD i 0::s.drop (i+1)) [58,58]=if ([58,58]:By).isPrefixOf (s.getD i 0::s.drop (i+1)) then 0 else if aa6 (s.drop (i+1)) [58,58]==-1 then -1 else aa6 (s.drop (i+1)) [58,58]+1:=by
    rw[aa6]
   have o:([58,58]:By).isPrefixOf (s.getD i 0::s.drop (i+1))=(s.getD i 0==58&&s.getD (i+1) 0==58):=by
    rw[e];simp only[ae3,ad2];rw[BEq.comm (a:=(58:UInt8)),BEq.comm (a:=(58:UInt8)) (b:=s.getD (i+1) 0)]
   have j:=Q8 (s.getD i 0) 58 (by omega);have k:=Q8 (s.getD (i+1) 0) 58 (by omega);rw[show((58:Nat):Int)=58 from rfl,show ab1 58=(58:UInt8) from rfl] at j k;have next:U7 LF n s ((i+1:Nat):Int) c d=if (if aa6 (s.drop (i+1)) [58,58]==-1 then (-1:Int) else aa6 (s.drop (i+1)) [58,58]+1)=-1 then d () else c ((i:Int)+(if aa6 (s.drop (i+1)) [58,58]==-1 then -1 else aa6 (s.drop (i+1)) [58,58]+1)):=by
    rw[h];by_cases g:aa6 (s.drop (i+1)) [58,58]=-1
    ·rw[g];rfl
    ·rw[if_neg g,show(aa6 (s.drop (i+1)) [58,58]==-1)=false from beq_eq_false_iff_ne.2 g];simp only[w8,if_false];rw[G3]
     congr 1
     omega
   rw[l,o,A8,E9,E9];simp only[cond_true,D3,vl,j,k];cases v:(s.getD i 0==58) with
   | false=>
    simp only[cond_false,ah6,w8,if_false];exact next
   | true=>
    cases w:(s.getD (i+1) 0==58) with
    | false=>
     simp only[cond_true,cond_false,am3,w8,if_false];exact next
    | true=>
     simp
  ·rw[A6,D5 s i (by omega),j1 (show s.length<=i+1 by omega)];have:aa6 [s.getD i 0] [58,58]=-1:=by
    rw[aa6];simp[ae3,aa6]
   rw[this];rfl
theorem YU{R:Type}{a:Int->Option R}(s:By)(b:A3 s.length=true):GB LF s a=a (KF s):=by have c:=K7 b;have:=C2;unfold GB KF;refine j7 (YT s c s.length 0 LF (by omega) (by omega)) ?_;grind
theorem Mx(n:Nat):ptI (n:Int)=V3 n:=rfl
theorem Ak5{R:Type}{a:Bool->Option R}(n:Int):YN LF n a=a (ptI n):=by
 unfold YN;by_cases h:n<0
 ·rw[B7 h];have:ptI n=false:=by
   cases n with
   | ofNat m=>exact absurd h (by simp)
   | negSucc m=>rfl
  grind
 ·obtain⟨m,rfl⟩:=j8 (show 0<=n by omega);rw[A6,Mx];unfold V3;by_cases b:1114111<m
  ·rw[A8];have:x6 m 1114111=false:=by rw[y9,ne_eq,x9];omega
   grind
  ·rw[A6];have:x6 m 1114111=true:=by rw[x9];omega
   rw[this];by_cases c:m<55296
   ·rw[A8];have:Nat.blt m 55296=true:=by rw[aj2];omega
    grind
   ·rw[A6];have e:Nat.blt m 55296=false:=by rw[y9,ne_eq,aj2];omega
    rw[e];simp only[b8,cond_true,cond_false,ae9,ad3]
    congr 1
theorem JB{d k:Nat}(h:455<d):AQ d k=AQ (d / 35) (k+36):=by rw[AQ,dif_pos h]
theorem Tj{d k:Nat}(h:¬ 455<d):AQ d k=k+36*d / (d+38):=by rw[AQ,dif_neg h]
theorem Ak0{R:Type}{k0:Int->Int->Option R}:∀(d n k:Nat),d<2305843009213693952->d<n->k+d<=4611686018427387904->
  ∃a b,a<=455/\b<=k+d/\AQ d k=b+36*a / (a+38)/\Gj LF n (d:Int) (k:Int) k0=k0 (a:Int) (b:Int):=by
 intro d
 induction d using ah5 with
 | _ d l=>
  intro n k p r q;obtain⟨n,rfl⟩:∃m,n=m+1:=⟨n-1,by omega⟩
  rw[Gj];by_cases h:455<d
  ·obtain⟨a,b,g,o,i,j⟩:=l (d / 35) (by omega) n (k+36) (by omega) (by omega) (by omega);refine⟨a,b,g,by omega,by rw[JB h];exact i,?_⟩;have e:ac6 (d:Int) 35=((d / 35:Nat):Int):=L8 d 35;have c:A1 ((d / 35:Nat):Int)=((d / 35:Nat):Int):=A7;have f:A1 ((k:Int)+36)=((k+36:Nat):Int):=by rw[A7];rfl
   rw[A8];simp only[cond_true,vl,e,c,f];exact j
  ·refine⟨d,k,by omega,by omega,Tj h,?_⟩;rw[A6];rfl
theorem Ak1{R:Type}{k0:Int->Option R}(d c:Int)(f:Bool)(z:ltN d 1152921504606846976=true)(A:ltN c 1000000=true)(B:ltI 0 c=true):MA LF d c f k0=k0 (Q4 d.toNat c.toNat f:Nat):=by
 obtain⟨k,F⟩:=E5.1 z;obtain⟨j,D⟩:=E5.1 A;obtain⟨d,rfl⟩:=j8 k;obtain⟨c,rfl⟩:=j8 j;have J:=Mr.1 B;have C:=C2;have key:∀x:Nat,x<1152921504606846976->Gi LF (x:Int) (c:Int) k0=k0 ((AQ (x+x / c) 0:Nat):Int):=by
  intro x L;have G:x / c<=x:=ae4 _ _;unfold Gi;have g:ac6 (x:Int) (c:Int)=((x / c:Nat):Int):=L8 x c;generalize x / c=q at *;have h:A1 (q:Int)=(q:Int):=A7;have o:A1 ((x:Int)+(q:Int))=((x+q:Nat):Int):=by rw[A7];rfl
  rw[show((c:Int)!=0)=true by simp;omega];simp only[cond_true,vl,g,h,o];obtain⟨a,n,H,I,w,y⟩:=Ak0 (R:=R) (k0:=λb l=>vl (A1 ((36)*b)) λm=>vl (A1 (b+(38))) λe=>cond (e !=(0)) (vl (A1 (ac6 m e)) λi=>k0 (A1 (l+i))) none) (x+q) LF 0 (by omega) (by omega) (by omega);refine j7 y ?_;have K:36*a / (a+38)<=36*a:=ae4 _ _;have p:A1 (36*(a:Int))=((36*a:Nat):Int):=by rw[A7];rfl
  have r:A1 ((a:Int)+38)=((a+38:Nat):Int):=by rw[A7];rfl
  have t:ac6 ((36*a:Nat):Int) ((a+38:Nat):Int)=((36*a / (a+38):Nat):Int):=L8 _ _;have u:A1 ((36*a / (a+38):Nat):Int)=((36*a / (a+38):Nat):Int):=A7;have v:A1 ((n:Int)+((36*a / (a+38):Nat):Int))=((n+36*a / (a+38):Nat):Int):=by rw[A7];rfl
  simp only[vl,p,r,t,u,v];rw[show(((a+38:Nat):Int)!=0)=true by simp;omega,w];rfl
 unfold MA Q4;rw[c9,c9];cases f with
 | true=>
  have g:ac6 (d:Int) 700=((d / 700:Nat):Int):=L8 d 700;have h:A1 ((d / 700:Nat):Int)=((d / 700:Nat):Int):=A7;simp only[cond_true,vl,g,h,if_true];exact key _ (by omega)
 | false=>
  have g:ac6 (d:Int) 2=((d / 2:Nat):Int):=L8 d 2;have h:A1 ((d / 2:Nat):Int)=((d / 2:Nat):Int):=A7;simp only[cond_false,vl,g,h,w8,if_false];exact key _ (by omega)
theorem PT{d:Nat}(h:d<36):(Am d).toNat=if d<26 then 97+d else 22+d:=by unfold Am;split<;>simp<;>omega
theorem B60{R:Type}{b:Int->Option R}(d:Int)(c:ltN d 36=true):Dd7 LF d b=b ((Am d.toNat).toNat:Nat):=by
 obtain⟨a,e⟩:=E5.1 c;obtain⟨d,rfl⟩:=j8 a;unfold Dd7;rw[c9,PT (by omega)];by_cases h:d<26
 ·rw[A8,if_pos h];simp only[cond_true,vl]
  congr 1
  rw[A7,M4];rfl
 ·rw[A6,if_neg h];simp only[cond_false,vl]
  congr 1
  rw[C8 (n:=48+(d:Int)) (by omega) (by omega),A7,M4];omega
theorem FC(b:UInt8):(97<=b.toNat/\b.toNat<=122/\Oj b=some (b.toNat-97))\/(65<=b.toNat/\b.toNat<=90/\Oj b=some (b.toNat-65))\/(48<=b.toNat/\b.toNat<=57/\Oj b=some (b.toNat-22))\/(¬(97<=b.toNat/\b.toNat<=122)/\¬(65<=b.toNat/\b.toNat<=90)/\¬(48<=b.toNat/\b.toNat<=57)/\Oj b=none):=by unfold Oj;grind
theorem B68{R:Type}{g:Int->Option R}(b:Int)(h:inR b 256=true):Cr6 LF b g=g (E3 (u8n b)):=by
 simp only[inR,o8,decide_eq_true_eq] at h;have j:b=((u8n b).toNat:Int):=by
  unfold u8n;simp;omega
 generalize u8n b=c at *;subst j;have i:=c.toNat_lt;unfold Cr6 E3;simp only[Xx,Xw,vl];rcases FC c with⟨d,f,e⟩|⟨d,f,e⟩|⟨d,f,e⟩|⟨d,f,o,e⟩
 ·have a:A1 (wu8 ((c.toNat:Int)-97))=((c.toNat-97:Nat):Int):=by
   rw[M4,A7];omega
  simp (disch:=omega) only[B7,E4,j0,b8,cond_false,cond_true,a,e]
 ·have a:A1 (wu8 ((c.toNat:Int)-65))=((c.toNat-65:Nat):Int):=by
   rw[M4,A7];omega
  simp (disch:=omega) only[B7,E4,j0,b8,cond_false,cond_true,a,e]
 ·have a:A1 (A1 (wu8 ((c.toNat:Int)-48))+26)=((c.toNat-22:Nat):Int):=by
   rw[M4,C8 (n:=(c.toNat:Int)-48) (by omega) (by omega),A7];omega
  simp (disch:=omega) only[B7,E4,j0,b8,cond_false,cond_true,a,e]
 ·rw[e];by_cases k:c.toNat<48
  ·simp (disch:=omega) only[B7,E4,j0,b8,cond_false,cond_true]
  ·by_cases l:c.toNat<65
   ·simp (disch:=omega) only[B7,E4,j0,b8,cond_false,cond_true]
   ·by_cases m:c.toNat<97
    ·simp (disch:=omega) only[B7,E4,j0,b8,cond_false,cond_true]
    ·simp (disch:=omega) only[B7,E4,j0,b8,cond_false,cond_true]
theorem Dj3{l:LL}(h:l.all Xi=true):∃W:List Nat,l=D2 W/\(∀x∈W,x<65536):=by
 induction l with
 | nil=>exact⟨[],rfl,by simp⟩
 | cons x r c=>
  simp only[ac5,o8] at h;obtain⟨W,rfl,e⟩:=c h.2;have a:=h.1;unfold Xi at a;split at a
  ·rename_i n;obtain⟨b,d⟩:=E5.1 a;obtain⟨m,rfl⟩:=j8 b;refine⟨m::W,rfl,?_⟩;grind
  ·cases a
theorem Aa0{W:List Nat}(h:∀x∈W,x<65536):(D2 W).all Xi=true:=by rw[y5];intro x a;simp only[D2,ap5] at a;obtain⟨n,b,rfl⟩:=a;have:=h n b;exact Sl (v:=(n:Int)) (n:=65536) (by omega) (by omega)
theorem Wq(W:List Nat):(D2 W).map elN=W:=by
 unfold D2;rw[ae6]
 conv=>rhs;rw[<-ah8 W]
 apply ab4;intro x _;simp[elN,SV.gI]
theorem Ag1(l:List By):(D1 l).map elS=l:=by
 unfold D1;rw[ae6]
 conv=>rhs;rw[<-ah8 l]
 apply ab4;intro x _;simp[elS,SV.gS]
theorem Cy0(l:List By):(D1 l).all isS=true:=by rw[y5];intro x a;simp only[D1,ap5] at a;obtain⟨n,b,rfl⟩:=a;rfl
theorem Ar8{P:List Nat->Prop}(a:P [])(b:∀l x,P l->P (l++[x]))(l:List Nat):P l:=by
 have:∀r:List Nat,P r.reverse:=by
  intro r
  induction r with
  | nil=>exact a
  | cons x r c=>rw[List.reverse_cons];exact b _ _ c
 have:=this l.reverse;grind
theorem B31(l:List By)(x p:By)(h:l≠[]):ac0 (l++[x]) p=ac0 l p++p++x:=by
 cases l with
 | nil=>exact absurd rfl h
 | cons y r=>
  rw[al4,an2,an2];unfold ao9;simp
theorem Kt:T9 []=[]:=rfl
theorem BY(n:Nat):T9 [n]=S7 n:=by unfold T9;exact ap0 _ _
theorem Uo(l:List Nat)(n:Nat)(h:l≠[]):T9 (l++[n])=T9 l++[58]++S7 n:=by unfold T9;rw[af4,List.map_singleton,B31 _ _ _ (by simpa using h)]
theorem Bl:∀l:List Nat,(∀x∈l,x<65536)->(T9 l).length<=5*l.length:=by
 refine Ar8 ?_ ?_
 ·intro _;simp[Kt]
 ·intro l n c h;have d:=c (λx b=>h x (by simp[b]));have e:=KW n (h n (by simp));by_cases a:l=[]
  ·subst a;rw[p5,BY];simp;omega
  ·rw[Uo l n a];simp;omega
theorem A48:∀(l:List Nat) (h:l≠[]),∃q d,T9 l=q++[d]/\d≠58:=by
 refine Ar8 ?_ ?_
 ·grind
 ·intro l n _ _;obtain⟨q,d,c,a⟩:=B18 n;by_cases b:l=[]
  ·subst b;exact⟨q,d,by rw[p5,BY,c],a⟩
  ·exact⟨T9 l++[58]++q,d,by rw[Uo l n b,c];simp,a⟩
theorem C12{R:Type}{c:LL->Option R}(z t:Bool)(W:List Nat)(l:∀x∈W,x<65536)(p:W.length<=8):∀(r i n:Nat) (d:List By),i+r=W.length->r<n->d.length=i->
  Vq LF n z t (D2 W) (W.length:Int) (i:Int) (D1 d) c=c (D1 (d++(W.drop i).map S7)):=by
 intro r
 induction r with
 | zero=>
  intro i n d h j f;obtain⟨n,rfl⟩:∃m,n=m+1:=⟨n-1,by omega⟩
  rw[Vq];rw[A6,j1 (by omega)];simp
 | succ r k=>
  intro i n d h j f;obtain⟨n,rfl⟩:∃m,n=m+1:=⟨n-1,by omega⟩
  rw[Vq];have b:W.drop i=W.getD i 0::W.drop (i+1):=by
   rw[a8,j4 (by omega),p7,z7]
  have o:W.getD i 0<65536:=by
   rw[a8,j4 (by omega),p7];simp_all
  have e:A1 ((i:Int)+1)=((i+1:Nat):Int):=by rw[A7];rfl
  rw[b];generalize g:W.getD i 0=x at *;simp (disch:=omega) only[B7,K3,cond_true,G8,c9,Mu,Ul,vl,e,g,Aa9,Sl,E1,F4,show((16:Int)==16)=true from rfl];have a:D1 d++[[SV.str (S7 x)]]=D1 (d++[S7 x]):=by rw[Zc];rfl
  rw[a,k (i+1) n _ (by omega) (by omega) (by simp;omega)];simp
theorem C13{R:Type}{k0:By->LL->Option R}(z t:Bool)(l:LL)(c:l.all Xi=true)(a:x6 l.length 8=true):∃g,v6j LF z t l k0=k0 (T9 (l.map elN)) g:=by
 obtain⟨W,rfl,b⟩:=Dj3 c;have f:W.length<=8:=by rw[G8] at a;exact ab8 a
 have d:=C2;refine⟨D1 (W.map S7),?_⟩;unfold v6j;rw[G8];refine j7 (C12 z t W b f W.length 0 LF [] (by omega) (by omega) rfl) ?_;have e:=Bl W b;unfold T9 at e;rw[p5,j9,Cy0,Ag1,Wq,E1,J9,E6 (by simp;omega)];rfl
theorem Ab6:∀(l:List Nat) (i z m:Nat),z+m<=i+l.length->(zGo l i z m).1+(zGo l i z m).2<=i+l.length
 | [],i,z,m,h=>by simpa[zGo] using h
 | x::r,i,z,m,h=>by
  have a:=ZF (x::r);simp only[zGo];simp only[k9] at h a ⊢;split
  ·have:=Ab6 r (i+1) i (Qe (x::r)) (by omega);omega
  ·have:=Ab6 r (i+1) z m (by omega);omega
theorem C11{R:Type}{k0:By->LL->Option R}(p r t u v w y A:Int)(G:ok8 p r t u v w y A=true):∃l,v6f LF p r t u v w y A k0=k0 (Oi (n8 p r t u v w y A)) l:=by
 obtain⟨a,b,c,d,e,f,g,j,rfl,rfl,rfl,rfl,rfl,rfl,rfl,rfl,h⟩:=Rk G;have C:n8 a b c d e f g j=[a,b,c,d,e,f,g,j]:=rfl;refine⟨D2 [a,b,c,d,e,f,g,j],?_⟩;unfold v6f;rw[G,C,cond_true];have o:([[SV.int .u16 (a:Int)],[SV.int .u16 (b:Int)],[SV.int .u16 (c:Int)],[SV.int .u16 (d:Int)],[SV.int .u16 (e:Int)],[SV.int .u16 (f:Int)],[SV.int .u16 (g:Int)],[SV.int .u16 (j:Int)]]:LL)=D2 [a,b,c,d,e,f,g,j]:=rfl;rw[o];have B:∀x∈[a,b,c,d,e,f,g,j],x<65536:=by simp_all
 have n:[a,b,c,d,e,f,g,j].length=8:=rfl;have k:=Ab6 [a,b,c,d,e,f,g,j] 0 0 0 (by simp);unfold Oi;generalize [a,b,c,d,e,f,g,j]=W at *;generalize zGo W 0 0 0=q at *;obtain⟨z,m⟩:=q;rw[n] at k;simp only[vl] at k ⊢;have N:∀i,(D2 W).take i=D2 (W.take i):=λi=>by unfold D2;rw[an3]
 have J:∀i,(D2 W).drop i=D2 (W.drop i):=λi=>by unfold D2;rw[ai8]
 by_cases I:m<2
 ·rw[if_pos I,A8,cond_true,Aa0 B,Wq];rfl
 ·have K:A1 ((z:Int)+(m:Int))=((z+m:Nat):Int):=by rw[A7];rfl
  have hA:∀x∈W.take z,x<65536:=λx D=>B x (ad7 D)
  have H:∀x∈W.drop (z+m),x<65536:=λx D=>B x (af2 D)
  have O:=Bl _ hA;have P:=Bl _ H;have L:(W.take z).length<=8:=by rw[p4];omega
  have M:(W.drop (z+m)).length<=8:=by rw[j6];omega
  rw[if_neg I,A6,cond_false,I1,K];simp only[c9,Nat.sub_zero];rw[N,J,Aa0 hA,Wq,G8,aa5 L,G0 (by omega),I1];have F:(D2 (W.drop (z+m))).take (8-(z+m))=D2 (W.drop (z+m)):=p6 (by rw[G8,j6];omega);rw[F,Aa0 H,Wq,G8,aa5 M,G0 (by simp;omega)];simp
theorem Di0{R:Type}{k0:Int->Int->Int->Int->LL->Option R}(W:List Nat)(l:W.length=8)(b a:Int)(i:Nat):∀(r j n:Nat),i+j+r=8->r<n->
  Nk LF n b a (i:Int) (j:Int) (D2 W) k0=k0 b a (i:Int) ((j+Qe (W.drop (i+j)):Nat):Int) (D2 W):=by
 intro r
 induction r with
 | zero=>
  intro j n f g;obtain⟨n,rfl⟩:∃m,n=m+1:=⟨n-1,by omega⟩
  rw[Nk];rw[A7,A6,j1 (by omega)];rfl
 | succ r k=>
  intro j n f g;obtain⟨n,rfl⟩:∃m,n=m+1:=⟨n-1,by omega⟩
  rw[Nk];have c:A1 ((i:Int)+(j:Int))=((i+j:Nat):Int):=by rw[A7];rfl
  have d:A1 ((j:Int)+1)=((j+1:Nat):Int):=by rw[A7];rfl
  have e:W.drop (i+j)=W.getD (i+j) 0::W.drop (i+(j+1)):=by
   rw[a8,j4 (by omega),p7,<-an4,z7]
  simp (disch:=first|omega|(simp[G8];omega)) only[c,d,B7,K3,cond_true,c9,Mu,Ul,vl];rw[e,Ao1];by_cases h:W.getD (i+j) 0=0
  ·rw[h,if_pos rfl,show(((0:Nat):Int)==0)=true from rfl,cond_true,k (j+1) n (by omega) (by omega)]
   congr 2
   omega
  ·rw[if_neg h,show(((W.getD (i+j) 0:Nat):Int)==0)=false by rw[beq_eq_false_iff_ne];omega];rfl
def RR(z m:Nat)(a b:Int):Prop:=(2<=m/\a=z/\b=m)\/(m<2/\a=-1/\b=1)
theorem Cw8{R:Type}{k0:Int->Int->LL->Option R}(W:List Nat)(o:W.length=8):∀(r i n z m:Nat) (a b:Int),i+r=8->r<n->z<=8->m<=8->RR z m a b->
  ∃g j,RR (zGo (W.drop i) i z m).1 (zGo (W.drop i) i z m).2 g j/\Jg LF n a b (i:Int) (D2 W) k0=k0 g j (D2 W):=by
 intro r
 induction r with
 | zero=>
  intro i n z m a b t w e v h;obtain⟨n,rfl⟩:∃m,n=m+1:=⟨n-1,by omega⟩
  rw[Jg];rw[A6,j1 (by omega)];exact⟨a,b,h,rfl⟩
 | succ r f=>
  intro i n z m a b t w e v h;obtain⟨n,rfl⟩:∃m,n=m+1:=⟨n-1,by omega⟩
  have l:=C2;rw[Jg];have c:=λK=>Di0 (R:=R) (k0:=K) W o a b i r.succ 0 LF (by omega) (by omega)
  rw[show((0:Nat):Int)=0 from rfl] at c;simp only[ah1,ak6] at c;rw[A8,cond_true,c];have p:W.drop i=W.getD i 0::W.drop (i+1):=by
   rw[a8,j4 (by omega),p7,z7]
  have u:=ZF (W.drop i);rw[j6] at u;have d:A1 ((i:Int)+1)=((i+1:Nat):Int):=by rw[A7];rfl
  rw[d];have e:zGo (W.drop i) i z m=if m<Qe (W.drop i) then zGo (W.drop (i+1)) (i+1) i (Qe (W.drop i)) else zGo (W.drop (i+1)) (i+1) z m:=by
   rw[p];rfl
  rw[e];generalize Qe (W.drop i)=q at *;unfold RR at h;by_cases k:m<q
  ·rw[if_pos k];by_cases x:q<2
   ·rw[A6,cond_false];exact f (i+1) n i q a b (by omega) (by omega) (by omega) (by omega) (by unfold RR;omega)
   ·rw[A8,cond_true];exact f (i+1) n i q i q (by omega) (by omega) (by omega) (by omega) (by unfold RR;omega)
  ·rw[if_neg k,A6,cond_false];exact f (i+1) n z m a b (by omega) (by omega) (by omega) (by omega) h
theorem QA(q:By)(d:UInt8):(q++[d]).getD q.length 0=d:=by simp
theorem Ca9{R:Type}{k:By->LL->Option R}(W:List Nat)(u:W.length=8)(v:∀x∈W,x<65536)(a b:Int)(s c:By)(i n:Nat)(w:i<8)(o:(i:Int)≠a)(j:s.length<=1000)
  (h:(s=[]/\c=S7 (W.getD i 0))\/(∃q d,s=q++[d]/\d≠58/\c=s++[58]++S7 (W.getD i 0))\/(∃q,s=q++[58]/\c=s++S7 (W.getD i 0))) :
  T1 LF (n+1) a b s (i:Int) (D2 W) k=T1 LF n a b c ((i+1:Nat):Int) (D2 W) k:=by
 rw[T1];have t:W.getD i 0<65536:=by simp_all
 have m:A1 ((i:Int)+1)=((i+1:Nat):Int):=by rw[A7];rfl
 have y:=KW _ t;rw[A8,show((i:Int)==a)=false from beq_eq_false_iff_ne.2 o];generalize r:W.getD i 0=x at *;have ok:=Mu (l:=W) (i:=i) (by omega);simp (disch:=omega) only[cond_true,cond_false,K3,c9,ok,Ul,r,Sl,vl,m];rcases h with⟨rfl,rfl⟩|⟨q,d,rfl,p,rfl⟩|⟨q,rfl,rfl⟩
 ·have e:E7 ([]:By).length (S7 x).length=true:=G0 (by simp;omega);rw[e];rfl
 ·have f:A1 (((q++[d]).length:Int)-1)=((q.length:Nat):Int):=by rw[A7];simp
  rw[show((q++[d])==([]:By))=false by simp,f,K3 (by omega) (by simp<;>omega),D3,QA];have g:(d.toNat:Int)≠58:=by
   intro h;apply p;apply am2;grind
  rw[show((d.toNat:Int)!=58)=true from bne_iff_ne.2 g,G0 (by simp at j ⊢;omega),G0 (by simp at j ⊢;omega)];rfl
 ·have f:A1 (((q++[58]).length:Int)-1)=((q.length:Nat):Int):=by rw[A7];simp
  rw[show((q++[(58:UInt8)])==([]:By))=false by simp,f,K3 (by omega) (by simp<;>omega),D3,QA];have e:E7 (q++[(58:UInt8)]).length (S7 x).length=true:=G0 (by simp at j ⊢;omega);rw[e];rfl
theorem Cc3(W:List Nat)(i:Nat)(h:i<W.length):W.take (i+1)=W.take i++[W.getD i 0]:=by simp_all
theorem MV{R:Type}{k0:By->LL->Option R}(W:List Nat)(m:W.length=8)(f:∀x∈W,x<65536)(a b:Int)(e:Nat)(I:e<=8)(p:By)(z:p=[]\/∃q,p=q++[58])(A:p.length<=100)(o:Nat)(w:o<=8) :
  ∀(r i n:Nat),i+r=e->o<=i->(∀j:Nat,i<=j->j<e->(j:Int)≠a)->
   T1 LF (n+r) a b (p++T9 ((W.take i).drop o)) (i:Int) (D2 W) k0=T1 LF n a b (p++T9 ((W.take e).drop o)) (e:Int) (D2 W) k0:=by
 intro r
 induction r with
 | zero=>
  intro i n u w _;rw[show i=e by omega];rfl
 | succ r G=>
  intro i n u y g;rw[show n+(r+1)=(n+r)+1 by omega];have h:((W.take i).drop o).length=i-o:=by rw[j6,p4];omega
  have v:=Bl ((W.take i).drop o) (λx F=>f x (ad7 (af2 F)));have D:(W.take (i+1)).drop o=(W.take i).drop o++[W.getD i 0]:=by
   rw[Cc3 W i (by omega),List.drop_append_of_le_length (by rw[p4];omega)]
  have C:(p++T9 ((W.take i).drop o)).length<=1000:=by rw[x8];omega
  rw[Ca9 W m f a b (p++T9 ((W.take i).drop o)) (p++T9 ((W.take (i+1)).drop o)) i (n+r) (by omega) (g i (by omega) (by omega)) C]
  ·exact G (i+1) n (by omega) (by omega) (λj H k=>g j (by omega) k)
  ·rw[D];generalize (W.take i).drop o=l at *;by_cases c:l=[]
   ·subst c;rw[p5,BY,Kt,v7];rcases z with rfl|⟨q,rfl⟩
    ·exact .inl ⟨rfl,rfl⟩
    ·exact .inr (.inr ⟨q,rfl,rfl⟩)
   ·obtain⟨q,d,B,t⟩:=A48 l c;refine .inr (.inl ⟨p++q,d,by rw[B,p9],t,?_⟩);rw[Uo l _ c];simp
theorem Ca8{R:Type}{k0:By->LL->Option R}(A B C D F G H I:Int)(V:ok8 A B C D F G H I=true):Dh8 LF A B C D F G H I k0=k0 (Oi (n8 A B C D F G H I)) (D2 (n8 A B C D F G H I)):=by
 obtain⟨g,i,k,l,o,p,r,t,rfl,rfl,rfl,rfl,rfl,rfl,rfl,rfl,h⟩:=Rk V;have K:n8 g i k l o p r t=[g,i,k,l,o,p,r,t]:=rfl;unfold Dh8;rw[K];have y:([[SV.int .u16 (g:Int)],[SV.int .u16 (i:Int)],[SV.int .u16 (k:Int)],[SV.int .u16 (l:Int)],[SV.int .u16 (o:Int)],[SV.int .u16 (p:Int)],[SV.int .u16 (r:Int)],[SV.int .u16 (t:Int)]]:LL)=D2 [g,i,k,l,o,p,r,t]:=rfl;rw[y];have J:∀x∈[g,i,k,l,o,p,r,t],x<65536:=by simp_all
 have e:[g,i,k,l,o,p,r,t].length=8:=rfl;have w:=Ab6 [g,i,k,l,o,p,r,t] 0 0 0 (by simp);have X:=C2;generalize [g,i,k,l,o,p,r,t]=W at *;obtain⟨a,b,L,Y⟩:=Cw8 (R:=R) (k0:=λv f M=>T1 LF LF v f [] 0 M (λd c=>k0 d c)) W e 8 0 LF 0 0 (-1) 1 (by omega) (by omega) (by omega) (by omega) (.inr ⟨by omega,rfl,rfl⟩);refine j7 Y ?_;rw[j9] at L;unfold Oi;generalize zGo W 0 0 0=q at *;obtain⟨z,m⟩:=q;rw[e] at w;simp only at w L ⊢;have stop:∀(n:Nat) (s:By),0<n->T1 LF n a b s ((8:Nat):Int) (D2 W) (λd c=>k0 d c)=k0 s (D2 W):=by
  intro n s O;obtain⟨n,rfl⟩:∃m,n=m+1:=⟨n-1,by omega⟩
  rw[T1];simp_all
 rcases L with⟨N,rfl,rfl⟩|⟨N,rfl,rfl⟩
 ·rw[G3];have u:=MV (R:=R) (k0:=λd c=>k0 d c) W e J (z:Int) (m:Int) z (by omega) [] (.inl rfl) (by simp) 0 (by omega) z 0 (LF-z) (by omega) (by omega) (λj _ h2=>by omega);rw[show LF-z+z=LF by omega] at u;simp only[ad8,j9,Kt,p5] at u;refine j7 u ?_;obtain⟨n,O⟩:∃n,LF-z=n+8+1:=⟨LF-z-9,by omega⟩
  rw[O,T1];have hA:∀x∈W.take z,x<65536:=λx Z=>J x (ad7 Z)
  have la:=Bl _ hA;have l1:(W.take z).length<=8:=by rw[p4];omega
  have S:A1 ((m:Int)-1)=((m-1:Nat):Int):=by rw[A7];omega
  have T:A1 ((z:Int)+((m-1:Nat):Int))=((z+(m-1):Nat):Int):=by rw[A7];omega
  have U:A1 (((z+(m-1):Nat):Int)+1)=((z+m:Nat):Int):=by rw[A7];omega
  rw[A8,G0 (by omega)];simp only[beq_self_eq_true,cond_true,vl,S,T,U];have P:=MV (R:=R) (k0:=λd c=>k0 d c) W e J (z:Int) (m:Int) 8 (by omega) (T9 (W.take z)++[58,58]) (.inr ⟨T9 (W.take z)++[58],by simp⟩) (by simp;omega) (z+m) (by omega) (8-(z+m)) (z+m) (n+(z+m)) (by omega) (by omega) (λj h1 _=>by omega);rw[show n+(z+m)+(8-(z+m))=n+8 by omega] at P;have Q:(W.take (z+m)).drop (z+m)=[]:=j1 (by rw[p4];omega);rw[Q,Kt,v7] at P;grind
 ·rw[if_pos N];have u:=MV (R:=R) (k0:=λd c=>k0 d c) W e J (-1) 1 8 (by omega) [] (.inl rfl) (by simp) 0 (by omega) 8 0 (LF-8) (by omega) (by omega) (λj _ _=>by omega);rw[show LF-8+8=LF by omega] at u;simp only[ad8,j9,Kt,p5] at u;grind
set_option maxRecDepth 100000
section
variable {Z R : Type} (L : Nat) (Y : F8) (Q : Yh Z) (s : Z) (k : Out -> St Z -> Option R)
noncomputable def VW(L:Nat):Cfg:=B5 L [247] (A2 []) [] (A2 [(1,[2]),(0,[0])]) [] (A2 []) (some [2]) [] [] []
noncomputable def Dq6{R:Type}(L:Nat)(a:Unit->Option R):Option R:=a ()
theorem Co0(d:Nat):evC (VW L) (d+1) Z Q 247 [pI (16:Int)] [] s=Dq6 L  (λ_=>some (pB true,[],s)):=by refine(evE (fn:=Tryz.f247) (by kernel_rfl)).trans ?_;generalize evC (VW L) d=Y;unfold Dq6;kernel_rfl
noncomputable abbrev VK:Code:=C3 ao6
noncomputable def Ir(L:Nat):Cfg:=B5 L [231] (A2 [(11,[0,0,1,0,5,0,0,0,0,0,0]),(18,[0,0,1,0,5,0,0,0,3])]) [(247,TD),(248,Dr5)] (A2 [(30,[10,0]),(29,[10,0]),(28,[0,9,0,0,0,80]),(27,[0,3,5,0,0,0]),(26,[0,3,5,0,0,0]),(25,[0,3,5,0,0,0,75]),(16,[0,2,0,5,0,0,0]),(15,[0,0,1,0,5,0,0,0]),(14,[0,0,1,0,5,0,0,0,0,0,0]),(13,[0,0,1,0,5,0,0,0,0,0,0]),(12,[0,0,1,0,5,0,0,0,0,0,0]),(11,[0,0,1,0,5,0,0,0,0,0,0,29]),(10,[0,0,1,0,5,0,0,0,0,0,0]),(9,[0,0,0,0,0,5,0,0,0,0,0]),(8,[0,0,0,0,0,5,0,0,0,0]),(24,[0,2,0,5,0,0,0]),(23,[0,0,1,0,5,0,0,0]),(22,[0,0,1,0,5,0,0,0,3]),(21,[0,2,0,5,0,0,0,3,0]),(20,[0,0,1,0,5,0,0,0,3,0]),(19,[0,0,1,0,5,0,0,0,3]),(18,[0,0,1,0,5,0,0,0,3,50]),(17,[0,0,1,0,5,0,0,0,3]),(7,[0,0,0,0,0,5,0,0,0,20]),(6,[0,0,0,0,0,5,0,0,0]),(5,[0,0,0,0,0,5,0,0,0,16]),(4,[0,0,0,0,0,5,0,0,0]),(3,[0,0,0,0,0,5,0,0]),(2,[0,0,0,0,0,5,0]),(1,[0,0,0,0,0,5,0,16]),(0,[0,0,0,0,0,5,0])]) [247,248] (A2 [(0,[0,0,1,0,5,0,0,0]),(1,[0,0,1,0,5,0,0,0,0,0,0]),(2,[0,0,1,0,5,0,0,0]),(3,[0,0,1,0,5,0,0,0,3])]) (some [10,0]) [] [] []
noncomputable def Kq{R:Type}(L n:Nat)(b a:Bool)(c:LL)(g d:Int)(f:LL)(j:Bool->Bool->LL->Int->Int->LL->Option R):Option R:=match n with|0=>none|n+1=>cond (not (ltI g 16)) (vl (Ay4 .u64 g (15:Int)) λe=>cond (inR e 36) (vl (bAt (([48,49,50,51,52,53,54,55,56,57,97,98,99,100,101,102,103,104,105,106,107,108,109,110,111,112,113,114,115,116]:List UInt8)++[117,118,119,120,121,122]) e) λi=>cond (inR (A1 (d-1)) 65) (cond (decide ((j5 (A1 (d-1)))<f.length)) (vl (ah9 f (j5 (A1 (d-1))) (G1 (o6 f (j5 (A1 (d-1))) []) 0 [(SV.int .u8 i)])) λh=>Kq L n b a c (Om .u64 g (4:Int)) (A1 (d-1)) h j) none) none) none) (j b a c g d f)
theorem Ag4(n b a c f d e):C7 2 ((Ir L).keep 11) (bd (Ir L) Y Q (cd [1,1,1,1,1,0,1,0,1,1,1,0,0,0] VK)) n ⟨gp [(0,.s (.sl b a 0 c)),(0,p64 f),(1,pB false),(0,pB false),(5,.fl 0),(0,pS ([]:List UInt8)),(0,.ptr 1 0 0),(0,pI d),(0,p64 (4:Int)),(0,p64 (16:Int)),(0,p64 (15:Int))] 85,[.arr true 5 1 [],.arr false 243 1 e],s⟩ k =
 Kq L n b a c f d e (λb a c f d e=>k (.exit 0) ⟨gp [(0,.s (.sl b a 0 c)),(0,p64 f),(1,pB false),(0,pB false),(5,.fl 0),(0,pS ([]:List UInt8)),(0,.ptr 1 0 0),(0,pI d)] 88,[.arr true 5 1 [],.arr false 243 1 e],s⟩):=by
 induction n generalizing b a c f d e with
 | zero=>rfl
 | succ n g=>rw[Kq];simp only[<-g];kernel_rfl
noncomputable def Ag3{R:Type}(L:Nat)(e d:Bool)(ds:LL)(v:Int)(m:By->LL->Option R):Option R:=cond ((16:Int)==16) (cond ((16:Int)==16) (Kq L L e d ds v 65 (b9 65 [(SV.int .u8 (0:Int))]) (λg f j i a c=>cond (inR i 36) (vl (bAt (([48,49,50,51,52,53,54,55,56,57,97,98,99,100,101,102,103,104,105,106,107,108,109,110,111,112,113,114,115,116]:List UInt8)++[117,118,119,120,121,122]) i) λl=>cond (inR (A1 (a-1)) 65) (cond (decide ((j5 (A1 (a-1)))<c.length)) (vl (ah9 c (j5 (A1 (a-1))) (G1 (o6 c (j5 (A1 (a-1))) []) 0 [(SV.int .u8 l)])) λb=>cond (decide (b.length=65)) (cond (I6 (A1 (a-1)) (65:Int) 65) (cond (af9 (ac7 (65-(j5 (A1 (a-1)))) (ad4 (j5 (A1 (a-1))) b)) Ol) (vl (ab7 Mg (ac7 (65-(j5 (A1 (a-1)))) (ad4 (j5 (A1 (a-1))) b))) λh=>m h b) none) none) none) none) none) none)) none) none
theorem Cl9(d:Nat)(ds_z ds_t ds v):evC (Ir L) (d+1) Z Q 231 [.s (.sl ds_z ds_t 0 ds),p64 v,pI (16:Int),pB false,pB false] [] s=Ag3 L ds_z ds_t ds v (λb a=>some (.tup [.fl 0,pS b],[.arr true 5 1 [],.arr false 243 1 a],s)):=by refine(evE (fn:=ao6) (by kernel_rfl)).trans ?_;generalize evC (Ir L) d=Y;unfold Ag3;exact(j7 (by kernel_rfl) (A0 (A0 ((Ag4 L Y Q s (E0 0 (D9 (Ir L) Y Q (cd [1,1,1,1,1,0,1,0,1,1,1,1] VK) (D9 (Ir L) Y Q (cd [1,1,1,1,1,1] VK) (F0 (Ir L) ao6)))) L ds_z ds_t ds v 65 (b9 65 [(SV.int .u8 (0:Int))])).trans (by kernel_rfl)) rfl) rfl))
noncomputable def VV(L:Nat):Cfg:=B5 L [244] (A2 []) [(231,SN)] (A2 [(9,[4]),(8,[8]),(7,[4]),(6,[5,0]),(5,[0,4,0]),(4,[0,4]),(3,[4]),(2,[0,11]),(1,[0,0,8]),(0,[0,0])]) [] (A2 []) (some [4]) [] [] []
noncomputable def Bt3{R:Type}(L:Nat)(v:Int)(a:By->Option R):Option R:=cond (ltN v 65536) (cond ((16:Int)==16) (a (S7 (j5 v))) none) none
theorem Cn3(d:Nat)(v):evC (VV L) (d+1) Z Q 244 [p64 v,pI (16:Int)] [] s=Bt3 L v (λa=>some (pS a,[],s)):=by refine(evE (fn:=Tryz.f244) (by kernel_rfl)).trans ?_;generalize evC (VV L) d=Y;unfold Bt3;kernel_rfl
noncomputable def Az4(L:Nat):Cfg:=B5 L [227] (A2 []) [(244,TC)] (A2 [(1,[4]),(0,[0,0])]) [244] (A2 []) (some [4]) [] [] []
noncomputable def C88{R:Type}(L:Nat)(v:Int)(a:By->Option R):Option R:=cond (ltN v 65536) (cond ((16:Int)==16) (a (S7 (j5 v))) none) none
theorem C89(d:Nat)(v):evC (Az4 L) (d+1) Z Q 227 [p64 v,pI (16:Int)] [] s=C88 L v (λa=>some (pS a,[],s)):=by refine(evE (fn:=Tryz.f227) (by kernel_rfl)).trans ?_;generalize evC (Az4 L) d=Y;unfold C88;kernel_rfl
end
end
end Go.Proofs.YtfkhfkjcidamaaaGreatDoor.E
namespace Go.Proofs
open Go.Shelf
def Tryz.lays156_ren:aa9:=⟨fun|156=>202|165=>224|166=>225|169=>226|240=>242|241=>243|276=>256|277=>257|n=>n,fun|31=>56|9=>9|3=>3|4=>4|0=>0|20=>20|72=>220|76=>224|70=>218|37=>154|75=>223|127=>240|164=>246|5=>5|80=>226|n=>n,fun|n=>n⟩
theorem Tryz.lays156:ar3 o7 Tryz.lays156_ren:={
 mixed:=by kernel_rfl
 f156:=Tryz.func202.trans (congrArg some (by kernel_rfl))
 f165:=Tryz.func224.trans (congrArg some (by kernel_rfl))
 f166:=Tryz.func225.trans (congrArg some (by kernel_rfl))
 f169:=Tryz.func226.trans (congrArg some (by kernel_rfl))
 f240:=Tryz.func242.trans (congrArg some (by kernel_rfl))
 f241:=Tryz.func243.trans (congrArg some (by kernel_rfl))
 f276:=Tryz.func256.trans (congrArg some (by kernel_rfl))
 f277:=Tryz.func257.trans (congrArg some (by kernel_rfl))
 t0:=aa7
 a0:=ad9
 z0:=ad1
 v0:=ab3
 t3:=v8
 a3:=ab6
 z3:=ab0
 v3:=x4
 t4:=x5
 a4:=ac2
 z4:=ab5
 v4:=x7
 t9:=y8
 a9:=ad0
 z9:=ac4
 v9:=aa3
 t20:=al1
 a20:=aq4
 z20:=an8
 v20:=al8
 t31:=Tryz.underlying56
 a31:=Tryz.isAgg56
 z31:=Tryz.sizeOf56
 v31:=Tryz.zeroValue56
 t37:=aj3
 a37:=an5
 z37:=am8
 v37:=al2
 t70:=Tryz.underlying218
 a70:=Tryz.isAgg218
 z70:=Tryz.sizeOf218
 v70:=Tryz.zeroValue218
 t72:=Tryz.underlying220
 a72:=Tryz.isAgg220
 z72:=Tryz.sizeOf220
 v72:=Tryz.zeroValue220
 t75:=Tryz.underlying223
 a75:=Tryz.isAgg223
 z75:=Tryz.sizeOf223
 v75:=Tryz.zeroValue223
 t76:=Tryz.underlying224
 a76:=Tryz.isAgg224
 z76:=Tryz.sizeOf224
 v76:=Tryz.zeroValue224
 t127:=Tryz.underlying240
 a127:=Tryz.isAgg240
 z127:=Tryz.sizeOf240
 v127:=Tryz.zeroValue240
 t164:=Tryz.underlying246
 a164:=Tryz.isAgg246
 z164:=Tryz.sizeOf246
 v164:=Tryz.zeroValue246 }
theorem Tryz.Builder_Extra_156:Builder.Extra o7 Tryz.lays156_ren:={
 sizeBuilder:=by kernel_rfl
 liesBuilder:=by kernel_rfl
 t5:=y7
 a5:=ac9
 z5:=ac3
 v5:=aa2
 infoByte:=by kernel_rfl
 cellsByte:=by kernel_rfl
 sizeByte:=by kernel_rfl
 neB5:=by decide }
def Tryz.lays195_ren:aa9:=⟨fun|195=>223|n=>n,fun|9=>9|3=>3|0=>0|4=>4|n=>n,fun|n=>n⟩
theorem Tryz.lays195:ar4 o7 Tryz.lays195_ren:={
 mixed:=by kernel_rfl
 f195:=aq0.trans (congrArg some (by kernel_rfl))
 t0:=aa7
 a0:=ad9
 z0:=ad1
 v0:=ab3
 t3:=v8
 a3:=ab6
 z3:=ab0
 v3:=x4
 t4:=x5
 a4:=ac2
 z4:=ab5
 v4:=x7
 t9:=y8
 a9:=ad0
 z9:=ac4
 v9:=aa3 }
def Tryz.laysM171_ren:aa9:=⟨fun|171=>123|243=>169|246=>206|283=>228|284=>229|285=>230|286=>231|129=>151|317=>245|318=>246|319=>247|320=>248|337=>258|338=>259|n=>n,fun|3=>3|9=>9|2=>2|4=>4|171=>228|0=>0|53=>167|37=>154|5=>5|173=>230|212=>242|51=>24|20=>20|213=>243|46=>103|232=>249|233=>250|n=>n,fun|17=>3|18=>4|19=>5|n=>n⟩
theorem Tryz.laysM171:aq5 o7 Tryz.laysM171_ren:={
 mixed:=by kernel_rfl
 f129:=Tryz.func151.trans (congrArg some (by kernel_rfl))
 f171:=Tryz.func123.trans (congrArg some (by kernel_rfl))
 f243:=Tryz.func169.trans (congrArg some (by kernel_rfl))
 f246:=Tryz.func206.trans (congrArg some (by kernel_rfl))
 f283:=Tryz.func228.trans (congrArg some (by kernel_rfl))
 f284:=Tryz.func229.trans (congrArg some (by kernel_rfl))
 f285:=Tryz.func230.trans (congrArg some (by kernel_rfl))
 f286:=Tryz.func231.trans (congrArg some (by kernel_rfl))
 f317:=Tryz.func245.trans (congrArg some (by kernel_rfl))
 f318:=Tryz.func246.trans (congrArg some (by kernel_rfl))
 f319:=Tryz.func247.trans (congrArg some (by kernel_rfl))
 f320:=aq1.trans (congrArg some (by kernel_rfl))
 f337:=aq2.trans (congrArg some (by kernel_rfl))
 f338:=aq3.trans (congrArg some (by kernel_rfl))
 t0:=aa7
 a0:=ad9
 z0:=ad1
 v0:=ab3
 t2:=Tryz.underlying2
 a2:=Tryz.isAgg2
 z2:=Tryz.sizeOf2
 v2:=Tryz.zeroValue2
 t3:=v8
 a3:=ab6
 z3:=ab0
 v3:=x4
 t4:=x5
 a4:=ac2
 z4:=ab5
 v4:=x7
 t5:=y7
 a5:=ac9
 z5:=ac3
 v5:=aa2
 t9:=y8
 a9:=ad0
 z9:=ac4
 v9:=aa3
 t20:=al1
 a20:=aq4
 z20:=an8
 v20:=al8
 t37:=aj3
 a37:=an5
 z37:=am8
 v37:=al2
 t46:=aa8
 a46:=ad5
 z46:=ac8
 v46:=ab2
 t51:=ad6
 a51:=af7
 z51:=af0
 v51:=ae0
 t53:=ag0
 a53:=aj0
 z53:=ai2
 v53:=ag5
 t171:=Tryz.underlying228
 a171:=Tryz.isAgg228
 z171:=Tryz.sizeOf228
 v171:=Tryz.zeroValue228
 t173:=Tryz.underlying230
 a173:=Tryz.isAgg230
 z173:=Tryz.sizeOf230
 v173:=Tryz.zeroValue230
 t212:=Tryz.underlying242
 a212:=Tryz.isAgg242
 z212:=Tryz.sizeOf242
 v212:=Tryz.zeroValue242
 t213:=Tryz.underlying243
 a213:=Tryz.isAgg243
 z213:=Tryz.sizeOf243
 t232:=aj4
 a232:=an6
 z232:=am9
 v232:=al3
 t233:=aj5
 a233:=an7
 z233:=an0
 v233:=Tryz.zeroValue250
 g17:=by kernel_rfl
 g18:=by kernel_rfl
 g19:=by kernel_rfl
 i0:=by kernel_rfl
 i2:=by kernel_rfl
 i3:=by kernel_rfl
 i4:=by kernel_rfl
 i5:=by kernel_rfl
 i9:=by kernel_rfl
 i20:=by kernel_rfl
 i37:=by kernel_rfl
 i46:=by kernel_rfl
 i51:=by kernel_rfl
 i53:=by kernel_rfl
 i171:=by kernel_rfl
 i173:=by kernel_rfl
 i212:=by kernel_rfl
 i232:=by kernel_rfl
 i233:=by kernel_rfl
 m17:=by kernel_rfl
 m18:=by kernel_rfl
 m19:=by kernel_rfl }
def Tryz.lays143_ren:aa9:=⟨fun|143=>179|219=>152|217=>187|225=>188|224=>189|267=>190|266=>217|314=>218|n=>n,fun|9=>9|3=>3|4=>4|5=>5|46=>103|146=>216|51=>24|n=>n,fun|1=>0|n=>n⟩
theorem Tryz.lays143:ar0 o7 Tryz.lays143_ren:={
 mixed:=by kernel_rfl
 f143:=ap9.trans (congrArg some (by kernel_rfl))
 f217:=af5.trans (congrArg some (by kernel_rfl))
 f219:=ak8.trans (congrArg some (by kernel_rfl))
 f224:=ah3.trans (congrArg some (by kernel_rfl))
 f225:=ah2.trans (congrArg some (by kernel_rfl))
 f266:=af6.trans (congrArg some (by kernel_rfl))
 f267:=ak9.trans (congrArg some (by kernel_rfl))
 f314:=al0.trans (congrArg some (by kernel_rfl))
 t3:=v8
 a3:=ab6
 z3:=ab0
 v3:=x4
 t4:=x5
 a4:=ac2
 z4:=ab5
 v4:=x7
 t5:=y7
 a5:=ac9
 z5:=ac3
 v5:=aa2
 t9:=y8
 a9:=ad0
 z9:=ac4
 v9:=aa3
 t46:=aa8
 a46:=ad5
 z46:=ac8
 v46:=ab2
 t51:=ad6
 a51:=af7
 z51:=af0
 v51:=ae0
 t146:=ag1
 a146:=aj1
 z146:=ai3
 v146:=ag6
 g1:=by kernel_rfl }
def Tryz.lays145_ren:aa9:=⟨fun|145=>73|220=>109|219=>152|217=>187|225=>188|224=>189|267=>190|266=>217|314=>218|n=>n,fun|9=>9|4=>4|59=>117|3=>3|5=>5|46=>103|146=>216|51=>24|n=>n,fun|1=>0|n=>n⟩
theorem Tryz.lays145:ar1 o7 Tryz.lays145_ren:={
 mixed:=by kernel_rfl
 f145:=Tryz.func73.trans (congrArg some (by kernel_rfl))
 f217:=af5.trans (congrArg some (by kernel_rfl))
 f219:=ak8.trans (congrArg some (by kernel_rfl))
 f220:=Tryz.func109.trans (congrArg some (by kernel_rfl))
 f224:=ah3.trans (congrArg some (by kernel_rfl))
 f225:=ah2.trans (congrArg some (by kernel_rfl))
 f266:=af6.trans (congrArg some (by kernel_rfl))
 f267:=ak9.trans (congrArg some (by kernel_rfl))
 f314:=al0.trans (congrArg some (by kernel_rfl))
 t3:=v8
 a3:=ab6
 z3:=ab0
 v3:=x4
 t4:=x5
 a4:=ac2
 z4:=ab5
 v4:=x7
 t5:=y7
 a5:=ac9
 z5:=ac3
 v5:=aa2
 t9:=y8
 a9:=ad0
 z9:=ac4
 v9:=aa3
 t46:=aa8
 a46:=ad5
 z46:=ac8
 v46:=ab2
 t51:=ad6
 a51:=af7
 z51:=af0
 v51:=ae0
 t59:=Tryz.underlying117
 a59:=Tryz.isAgg117
 z59:=Tryz.sizeOf117
 v59:=Tryz.zeroValue117
 t146:=ag1
 a146:=aj1
 z146:=ai3
 v146:=ag6
 g1:=by kernel_rfl }
def Tryz.lays138_ren:aa9:=⟨fun|138=>235|195=>223|218=>249|143=>179|219=>152|217=>187|225=>188|224=>189|267=>190|266=>217|314=>218|n=>n,fun|9=>9|3=>3|4=>4|5=>5|0=>0|46=>103|146=>216|51=>24|n=>n,fun|1=>0|n=>n⟩
theorem Tryz.lays138:aq9 o7 Tryz.lays138_ren:={
 mixed:=by kernel_rfl
 f138:=Tryz.func235.trans (congrArg some (by kernel_rfl))
 f143:=ap9.trans (congrArg some (by kernel_rfl))
 f195:=aq0.trans (congrArg some (by kernel_rfl))
 f217:=af5.trans (congrArg some (by kernel_rfl))
 f218:=Tryz.func249.trans (congrArg some (by kernel_rfl))
 f219:=ak8.trans (congrArg some (by kernel_rfl))
 f224:=ah3.trans (congrArg some (by kernel_rfl))
 f225:=ah2.trans (congrArg some (by kernel_rfl))
 f266:=af6.trans (congrArg some (by kernel_rfl))
 f267:=ak9.trans (congrArg some (by kernel_rfl))
 f314:=al0.trans (congrArg some (by kernel_rfl))
 t0:=aa7
 a0:=ad9
 z0:=ad1
 v0:=ab3
 t3:=v8
 a3:=ab6
 z3:=ab0
 v3:=x4
 t4:=x5
 a4:=ac2
 z4:=ab5
 v4:=x7
 t5:=y7
 a5:=ac9
 z5:=ac3
 v5:=aa2
 t9:=y8
 a9:=ad0
 z9:=ac4
 v9:=aa3
 t46:=aa8
 a46:=ad5
 z46:=ac8
 v46:=ab2
 t51:=ad6
 a51:=af7
 z51:=af0
 v51:=ae0
 t146:=ag1
 a146:=aj1
 z146:=ai3
 v146:=ag6
 g1:=by kernel_rfl }
def Tryz.lays196_ren:aa9:=⟨fun|196=>222|259=>241|n=>n,fun|9=>9|4=>4|3=>3|5=>5|12=>12|119=>233|0=>0|46=>103|139=>236|138=>235|53=>167|n=>n,fun|3=>1|4=>2|n=>n⟩
theorem Tryz.lays196:ar5 o7 Tryz.lays196_ren:={
 mixed:=by kernel_rfl
 f196:=Tryz.func222.trans (congrArg some (by kernel_rfl))
 f259:=Tryz.func241.trans (congrArg some (by kernel_rfl))
 t0:=aa7
 a0:=ad9
 z0:=ad1
 v0:=ab3
 t3:=v8
 a3:=ab6
 z3:=ab0
 v3:=x4
 t4:=x5
 a4:=ac2
 z4:=ab5
 v4:=x7
 t5:=y7
 a5:=ac9
 z5:=ac3
 v5:=aa2
 t9:=y8
 a9:=ad0
 z9:=ac4
 v9:=aa3
 t12:=Tryz.underlying12
 a12:=Tryz.isAgg12
 z12:=Tryz.sizeOf12
 v12:=Tryz.zeroValue12
 t46:=aa8
 a46:=ad5
 z46:=ac8
 v46:=ab2
 t53:=ag0
 a53:=aj0
 z53:=ai2
 v53:=ag5
 t119:=Tryz.underlying233
 a119:=Tryz.isAgg233
 z119:=Tryz.sizeOf233
 t138:=Tryz.underlying235
 a138:=Tryz.isAgg235
 z138:=Tryz.sizeOf235
 v138:=Tryz.zeroValue235
 t139:=Tryz.underlying236
 a139:=Tryz.isAgg236
 z139:=Tryz.sizeOf236
 v139:=Tryz.zeroValue236
 g3:=by kernel_rfl
 g4:=by kernel_rfl }
def Tryz.lays2_21_ren:aa9:=⟨fun|21=>237|27=>251|28=>252|35=>260|39=>261|n=>n,fun|22=>169|3=>3|4=>4|0=>0|n=>n,fun|n=>n⟩
theorem Tryz.lays2_21:ar6 o7 Tryz.lays2_21_ren:={
 mixed:=by kernel_rfl
 f21:=Tryz.func237.trans (congrArg some (by kernel_rfl))
 f27:=Tryz.func251.trans (congrArg some (by kernel_rfl))
 f28:=Tryz.func252.trans (congrArg some (by kernel_rfl))
 f35:=Tryz.func260.trans (congrArg some (by kernel_rfl))
 f39:=Tryz.func261.trans (congrArg some (by kernel_rfl))
 t0:=aa7
 a0:=ad9
 z0:=ad1
 v0:=ab3
 t3:=v8
 a3:=ab6
 z3:=ab0
 v3:=x4
 t4:=x5
 a4:=ac2
 z4:=ab5
 v4:=x7
 t22:=Tryz.underlying169
 a22:=Tryz.isAgg169
 z22:=Tryz.sizeOf169
 v22:=Tryz.zeroValue169
 i3:=by kernel_rfl }
def Tryz.lays7_27_ren:aa9:=⟨fun|27=>248|28=>258|29=>259|n=>n,fun|25=>103|3=>3|27=>24|22=>167|4=>4|53=>249|0=>0|5=>5|54=>250|n=>n,fun|0=>4|1=>5|n=>n⟩
theorem Tryz.lays7_27:ar7 o7 Tryz.lays7_27_ren:={
 mixed:=by kernel_rfl
 f27:=aq1.trans (congrArg some (by kernel_rfl))
 f28:=aq2.trans (congrArg some (by kernel_rfl))
 f29:=aq3.trans (congrArg some (by kernel_rfl))
 t0:=aa7
 a0:=ad9
 z0:=ad1
 v0:=ab3
 i0:=by kernel_rfl
 t3:=v8
 a3:=ab6
 z3:=ab0
 v3:=x4
 i3:=by kernel_rfl
 t4:=x5
 a4:=ac2
 z4:=ab5
 v4:=x7
 i4:=by kernel_rfl
 t5:=y7
 a5:=ac9
 z5:=ac3
 v5:=aa2
 i5:=by kernel_rfl
 t22:=ag0
 a22:=aj0
 z22:=ai2
 v22:=ag5
 i22:=by kernel_rfl
 t25:=aa8
 a25:=ad5
 z25:=ac8
 v25:=ab2
 i25:=by kernel_rfl
 t27:=ad6
 a27:=af7
 z27:=af0
 v27:=ae0
 i27:=by kernel_rfl
 t53:=aj4
 a53:=an6
 z53:=am9
 v53:=al3
 i53:=by kernel_rfl
 t54:=aj5
 a54:=an7
 z54:=an0
 g0:=by kernel_rfl
 g1:=by kernel_rfl }
def Tryz.lays137_ren:aa9:=⟨fun|137=>157|217=>187|266=>217|n=>n,fun|9=>9|5=>5|3=>3|n=>n,fun|n=>n⟩
theorem Tryz.lays137:aq8 o7 Tryz.lays137_ren:={
 mixed:=by kernel_rfl
 f137:=ap8.trans (congrArg some (by kernel_rfl))
 f217:=af5.trans (congrArg some (by kernel_rfl))
 f266:=af6.trans (congrArg some (by kernel_rfl))
 t3:=v8
 a3:=ab6
 z3:=ab0
 v3:=x4
 t5:=y7
 a5:=ac9
 z5:=ac3
 v5:=aa2
 t9:=y8
 a9:=ad0
 z9:=ac4
 v9:=aa3 }
def Tryz.lays153_ren:aa9:=⟨fun|153=>119|152=>159|226=>160|227=>161|228=>162|137=>157|119=>196|224=>189|225=>188|217=>187|266=>217|n=>n,fun|9=>9|3=>3|4=>4|5=>5|21=>21|117=>177|116=>176|0=>0|46=>103|124=>200|n=>n,fun|n=>n⟩
theorem Tryz.lays153:ar2 o7 Tryz.lays153_ren:={
 mixed:=by kernel_rfl
 f119:=Tryz.func196.trans (congrArg some (by kernel_rfl))
 f137:=ap8.trans (congrArg some (by kernel_rfl))
 f152:=Tryz.func159.trans (congrArg some (by kernel_rfl))
 f153:=Tryz.func119.trans (congrArg some (by kernel_rfl))
 f217:=af5.trans (congrArg some (by kernel_rfl))
 f224:=ah3.trans (congrArg some (by kernel_rfl))
 f225:=ah2.trans (congrArg some (by kernel_rfl))
 f226:=Tryz.func160.trans (congrArg some (by kernel_rfl))
 f227:=Tryz.func161.trans (congrArg some (by kernel_rfl))
 f228:=Tryz.func162.trans (congrArg some (by kernel_rfl))
 f266:=af6.trans (congrArg some (by kernel_rfl))
 t0:=aa7
 a0:=ad9
 z0:=ad1
 v0:=ab3
 t3:=v8
 a3:=ab6
 z3:=ab0
 v3:=x4
 t4:=x5
 a4:=ac2
 z4:=ab5
 v4:=x7
 t5:=y7
 a5:=ac9
 z5:=ac3
 v5:=aa2
 t9:=y8
 a9:=ad0
 z9:=ac4
 v9:=aa3
 t21:=Tryz.underlying21
 a21:=Tryz.isAgg21
 z21:=Tryz.sizeOf21
 v21:=Tryz.zeroValue21
 t46:=aa8
 a46:=ad5
 z46:=ac8
 v46:=ab2
 t116:=Tryz.underlying176
 a116:=Tryz.isAgg176
 z116:=Tryz.sizeOf176
 t117:=Tryz.underlying177
 a117:=Tryz.isAgg177
 z117:=Tryz.sizeOf177
 v117:=Tryz.zeroValue177
 t124:=Tryz.underlying200
 a124:=Tryz.isAgg200
 z124:=Tryz.sizeOf200
 v124:=Tryz.zeroValue200 }
end Go.Proofs
namespace Go.Proofs.YtfkhfkjcidamaaaGreatDoor.E
set_option linter.all false
section
open Go Go.Proofs Go.Sort
set_option maxRecDepth 100000
theorem XG{C:Cfg}{St:Nat->Prop}{w:World}{g:Nat}{k:IntKind}{zs:List Int}(a:GOK C St w)(b:C.G=GX)(h:GX.tab g=some (k,zs)):∃e x,w.heap[g]? = some (.cells (zs.map λz=>Value.int k z).toArray e x):=(a.1 g k zs (by rw[b];exact h)).2
theorem Cm2{C:Cfg}{St:Nat->Prop}{w:World}(a:GOK C St w)(b:C.G=GX):∃m,w.cell? ⟨0,0,none⟩=some (.int .i64 m):=(a.2 _ (by rw[b];rfl)).2
theorem FR{w:World}{g:Nat}{a:List Int}{k:IntKind}{e:TypeId}{x}(h:w.heap[g]? = some (.cells (a.map λz=>Value.int k z).toArray e x))(i:Nat)(b:i<a.length):w.cell? ⟨g,i,none⟩=some (.int k (a.getD i 0)):=by simp[World.cell?,h,a8,j4 b]
theorem C91{C:Cfg}{St:Nat->Prop}{w:World}(f:GOK C St w)(a:C.G=GX):Lib.Utf8Tabs 1 2 w:=by
 obtain⟨j,m,h⟩:=XG (g:=1) (k:=.u8) (zs:=ak0) f a rfl;obtain⟨b,n,d⟩:=XG (g:=2) (k:=.u8) (zs:=Gp) f a rfl;refine⟨λc a=>?_,λi l=>⟨?_,?_⟩⟩
 ·rw[FR h c (by simp[ak0];omega)];simp[ak0,a8,j4,a]
 ·rw[FR d (2*i) (by simp[Gp];omega)];have:2*i<32:=by omega
  simp[Gp,a8,this]
 ·rw[FR d (2*i+1) (by simp[Gp];omega)];have:2*i+1<32:=by omega
  have e:(2*i+1) / 2=i:=by omega
  have b:¬(2*i+1) % 2=0:=by omega
  simp[Gp,a8,this,e,b]
theorem Cm3{C:Cfg}{St:Nat->Prop}{w:World}(b:GOK C St w)(c:C.G=GX):Lib.TabIs o7 w "internal/strconv.uint64pow10" .u64 ap1:=by
 obtain⟨d,e,a⟩:=XG (g:=3) (k:=.u64) (zs:=ap1) b c rfl;unfold Lib.TabIs World.var?
 rw [show o7.globalNamed "internal/strconv.uint64pow10" = some 3 by kernel_rfl]
 simp only[Option.bind_some,a]
theorem Bn1:B3 o7 GX 179 IP:=by
 refine B3.fix (pf:=UT) _ (G9 (fn:=Tryz.f179) (by kernel_rfl) (by kernel_rfl) (by kernel_rfl) ?_);intro args ret o h;unfold UT at h;split at h
 ·rename_i s p;obtain⟨b,h⟩:=C1 h;obtain⟨rfl,rfl⟩:=J3 h;refine⟨rfl,rfl,λC r a t w q c f d=>?_⟩;obtain⟨U,V,rfl,j,k⟩:=d.arr2;obtain⟨n,rfl,rfl⟩:=j.inv_str;obtain⟨l,rfl,rfl⟩:=k.inv_str;obtain⟨m,g⟩:=Cm2 c a;have i:=K7 b;refine(Any.strings_Index Tryz.lays143 n l m w (by simp at i;omega) g).mono ?_;rintro e w' ⟨rfl,rfl⟩;exact⟨_,rfl,ae8 _ _,VP.mk_int _ _⟩
 ·cases h
theorem C39:B3 o7 GX 73 Ax2:=by
 refine B3.fix (pf:=US) _ (G9 (fn:=Tryz.f73) (by kernel_rfl) (by kernel_rfl) (by kernel_rfl) ?_);intro args ret q h;unfold US at h;split at h
 ·rename_i s p;obtain⟨b,h⟩:=C1 h;obtain⟨rfl,rfl⟩:=J3 h;refine⟨rfl,rfl,λC t a u w r c f d=>?_⟩;obtain⟨U,V,rfl,j,k⟩:=d.arr2;obtain⟨o,rfl,rfl⟩:=j.inv_str;obtain⟨l,rfl,rfl⟩:=k.inv_str;obtain⟨m,g⟩:=Cm2 c a;have i:=K7 b;refine(Any.strings_Cut Tryz.lays145 o l m w (by simp at i;omega) g).mono ?_;rintro e w' ⟨rfl,n,rfl⟩;exact⟨_,rfl,Ph _ _,VP.mk_tup3 (VP.mk_str _) (VP.mk_str _) (VP.mk_bool _)⟩
 ·cases h
theorem C38:B3 o7 GX 235 Ax1:=by
 refine B3.fix (pf:=UR) _ (G9 (fn:=Tryz.f235) (by kernel_rfl) (by kernel_rfl) (by kernel_rfl) ?_);intro args ret o h;unfold UR at h;split at h
 ·rename_i s p;obtain⟨f,h⟩:=C1 h;obtain⟨rfl,rfl⟩:=J3 h;refine⟨rfl,rfl,λC t g u w q r j i=>?_⟩;obtain⟨U,V,rfl,l,m⟩:=i.arr2;obtain⟨n,rfl,rfl⟩:=l.inv_str;obtain⟨b,rfl,k⟩:=m.inv_str;obtain⟨c,rfl⟩:∃c,p=[c]:=by
   match p,f with
   | [c],_=>exact⟨c,rfl⟩
  have a:b=⟨#[c]⟩:=by
   cases b with
   | mk d=>congr 1;exact Array.toList_inj.1 k
  subst a;refine(Any.strings_Count_one Tryz.lays138 n c w).mono ?_;rintro e w' ⟨rfl,rfl⟩;exact⟨_,rfl,ae8 _ _,VP.mk_int _ _⟩
 ·cases h
theorem C23:B3 o7 GX 123 Av7:=by
 refine B3.fix (pf:=TE) _ (G9 (fn:=Tryz.f123) (by kernel_rfl) (by kernel_rfl) (by kernel_rfl) ?_);intro args ret l h;unfold TE at h;split at h
 ·rename_i n;obtain⟨b,h⟩:=C1 h;obtain⟨rfl,rfl⟩:=J3 h;refine⟨rfl,rfl,λC o a p w m c i g=>?_⟩;obtain⟨U,rfl,j⟩:=g.arr1;obtain rfl:=j.inv_int;obtain⟨d,f⟩:=E5.1 b;refine(Any.strconv_Itoa Tryz.laysM171 n (by omega) (by omega) w (Cm3 c a)).mono ?_;rintro e w' ⟨rfl,k,os,rfl⟩;refine⟨_,rfl,(Ph w k).trans (show ap7 w.heap.size _ _ from JI (w.drewN k) os),?_⟩;have:Lib.itoa n=Lib.decDigits n.toNat:=by unfold Lib.itoa;rw[G3]
  rw[this];exact VP.mk_str _
 ·cases h
theorem GJ{l:LL}(h:l.all isS=true):l=D1 (l.map elS):=by
 unfold D1;rw[ae6]
 symm
 rw[ab4 (g:=id)]
 ·simp
 ·intro x a;have:=y5.1 h x a;unfold isS at this;split at this
  ·rfl
  grind
theorem Bz0:B3 o7 GX 202 UW:=by
 refine B3.fix (pf:=IS) _ (G9 (fn:=Tryz.f202) (by kernel_rfl) (by kernel_rfl) (by kernel_rfl) ?_);intro args ret Hc h;unfold IS at h;split at h
 ·rename_i z t l p;obtain⟨L,h⟩:=C1 h;obtain⟨O,h⟩:=C1 h;obtain⟨P,h⟩:=C1 h;obtain⟨rfl,rfl⟩:=J3 h;refine⟨rfl,rfl,λC hP Q Γ w Vs hG H R=>?_⟩;obtain⟨U,V,rfl,Z,hv⟩:=R.arr2;obtain⟨u,rfl,rfl⟩:=hv.inv_str;have m:=K7 O;have hn:=K7 P;have Y:=Z.inv_s;have c:∀(a:Option Addr) (cap:Nat),l=[]->Calls o7 202 #[.slice a 0 cap,.string u] w λe w'=>∃V,e = .returned V/\ap7 w.heap.size w w'/\VP Γ (A5 []) w' (.s (.str (ac0 (l.map elS) u.data.toList))) V:=by
   intro a cap T;subst T;refine(Any.strings_Join_none Tryz.lays156 Tryz.Builder_Extra_156 a cap u w).mono ?_;rintro e w' ⟨rfl,rfl⟩;exact⟨_,rfl,ae8 _ _,VP.mk_str _⟩
  cases Y with
  | nil=>exact c _ _ rfl
  | emp=>exact c _ _ rfl
  | sl _ _ g off n cap sz Vc I M hm ht S W y K=>
   subst I;have N:=GJ L;have J:∀i (h:i<l.length),∃b:ByteArray,(l[i])=[SV.str b.data.toList]/\w.cell? ⟨g,off+i,none⟩=some (.string b):=by
    intro i B;have d:=y5.1 L (l[i]) (List.getElem_mem B);unfold isS at d;split at d
    ·rename_i x r;have k:=y i B 0 (by rw[r];simp);have o:=K i B 0 (by rw[r];simp);simp only[r,List.getElem_cons_zero] at o;obtain⟨b,f,rfl⟩:=o.inv_str;rw[f] at k;exact⟨b,r,by simpa using k⟩
    ·cases d
   obtain⟨xs,q,A⟩:∃xs:List ByteArray,xs.map (·.data.toList)=l.map elS/\∀(j:Nat) x,xs[j]? = some x->w.cell? ⟨g,off+j,none⟩=some (.string x):=by
    refine⟨(l.map elS).map λs=>⟨s.toArray⟩,by simp[ag2],?_⟩;intro j x d;simp only[ak3] at d;cases D:l[j]? with
    | none=>simp[D] at d
    | some el=>
     obtain⟨F,rfl⟩:=List.getElem?_eq_some_iff.1 D;obtain⟨b,f,v⟩:=J j F;simp only[D,x3,j2] at d;rw[f] at d;simp[elS,SV.gS] at d;rw[<-d];exact v
   have G:xs.length=l.length:=by
    have:=congrArg o0 q;simpa using this
   rw[<-q] at m ⊢;have f:g<w.heap.size:=H g S;have X:l.length<=140737488355328:=by omega
   refine(G▸Any.strings_Join Tryz.lays156 Tryz.Builder_Extra_156 g off cap xs u w A f (by omega) (by omega) (by omega)).mono ?_;rintro e w' ⟨rfl,hw⟩;exact⟨_,rfl,hw,VP.mk_str _⟩
 ·cases h
theorem NM(b:Nat)(f:b<=9223372036854775808):B3 o7 GX 95 (Lq b):=by
 induction b with
 | zero=>
  intro args ret c h;exfalso;unfold Lq Io at h;split at h
  ·rename_i n g;obtain⟨a,h⟩:=C1 h;have:=E5.1 a;omega
  ·cases h
 | succ b d=>
  refine B3.fix (pf:=Io (b+1)) _ (J2 [] (C₀:=AX b) (M5.ok (l:=[(95,Lq b)]) rfl ⟨d (by omega),trivial⟩) (I9 rfl (by kernel_rfl)) follows ?_);intro args ret c h;unfold Io at h;split at h
  ·rename_i n;obtain⟨a,h⟩:=C1 h;obtain⟨rfl,rfl⟩:=J3 h;have e:=(A32 b noY () 0 n).trans (XF b (by omega) n a);exact⟨rfl,rfl,rfl,1,_,_,e,rfl⟩
  ·cases h
theorem RZ:B3 o7 GX 95 Zp:=NM 4294967296 (by omega)
theorem D07(x:Nat)(h:x<65536):Ay4 .u64 (x:Int) 15=((x % 16:Nat):Int):=by unfold Ay4;rw[show aj7 .u64=64 from rfl,show(15:Int)=((15:Nat):Int) from rfl,Dq4 64 x 15 (by omega) (by omega),show x &&& 15=x % 16 from Nat.and_two_pow_sub_one_eq_mod x 4];exact Aa9 (by omega) (by omega)
theorem D45(x:Nat):Om .u64 (x:Int) 4=((x / 16:Nat):Int):=by unfold Om;show Int.fdiv (x:Int) 16=_;grind
theorem Bs1(d:Nat)(h:d<16):bAt (([48,49,50,51,52,53,54,55,56,57,97,98,99,100,101,102,103,104,105,106,107,108,109,110,111,112,113,114,115,116]:List UInt8)++([117,118,119,120,121,122]:List UInt8)) (d:Int)=((Sd d).toNat:Int):=by
 have:∀d:Fin 16,bAt (([48,49,50,51,52,53,54,55,56,57,97,98,99,100,101,102,103,104,105,106,107,108,109,110,111,112,113,114,115,116]:List UInt8)++([117,118,119,120,121,122]:List UInt8)) (d.val:Int)=((Sd d.val).toNat:Int):=by decide
 exact this ⟨d,h⟩
def Uj(i:Nat)(s:By):LL:=b9 i [SV.int .u8 0]++s.map E2
theorem KD(i:Nat)(s:By):(Uj i s).length=i+s.length:=by simp[Uj]
theorem Af3(i:Nat)(s:By)(c:UInt8):ah9 (Uj (i+1) s) i (G1 (o6 (Uj (i+1) s) i []) 0 [SV.int .u8 (c.toNat:Int)])=Uj i (c::s):=by
 have a:o6 (Uj (i+1) s) i []=[SV.int .u8 0]:=by
  unfold Uj;grind
 rw[a];unfold Uj;rw[List.replicate_succ',p9,List.set_append_right _ _ (by simp),List.length_replicate,ap6];rfl
theorem A29{R:Type}(z t:Bool)(l:LL){e:Bool->Bool->LL->Int->Int->LL->Option R}:∀(v i n:Nat) (s:By),v<65536->v<n->i+s.length=65->(S7 v).length+s.length<=60->
  ∃(u a:Nat) (b:By),u<16/\Sd u::b=S7 v++s/\a+b.length=65/\Kq LF n z t l (v:Int) (i:Int) (Uj i s) e=e z t l (u:Int) (a:Int) (Uj a b):=by
 intro v
 induction v using ah5 with
 | _ v w=>
  intro i n s r y q x;obtain⟨n,rfl⟩:∃m,n=m+1:=⟨n-1,by omega⟩
  rw[Kq];by_cases h:v<16
  ·refine⟨v,i,s,h,by rw[Hg h];rfl,q,?_⟩;rw[A8];rfl
  ·have d:=Ge h;have c:(S7 v).length=(S7 (v / 16)).length+1:=by rw[d];simp
   obtain⟨j,rfl⟩:∃j,i=j+1:=⟨i-1,by omega⟩
   have f:A1 (((j+1:Nat):Int)-1)=(j:Int):=by rw[A7];omega
   obtain⟨u,a,b,g,k,o,p⟩:=w (v / 16) (by omega) j n (Sd (v % 16)::s) (by omega) (by omega) (by rw[k9];omega) (by rw[k9];omega);refine⟨u,a,b,g,by rw[k,d];simp,o,?_⟩;rw[A6,b8,cond_true,D07 v r];simp only[vl];rw[D45,f,c9,E9,Bs1 _ (by omega),E9];simp only[cond_true];rw[Af3,KD,show(decide (j<j+1+s.length))=true from decide_eq_true (by omega)];exact p
theorem B12{R:Type}{k0:By->LL->Option R}(z t:Bool)(l:LL)(v:Int)(f:ltN v 65536=true):∃p,Ag3 LF z t l v k0=k0 (S7 v.toNat) p:=by
 obtain⟨d,m⟩:=E5.1 f;obtain⟨v,rfl⟩:=j8 d;have k:=C2;have r:=KW v (by omega);rw[c9];unfold Ag3;have o:(b9 65 [SV.int .u8 (0:Int)])=Uj 65 []:=by unfold Uj;rw[ap4,v7]
 rw[o];obtain⟨u,i,s,g,c,q,h⟩:=A29 (R:=R) z t l v 65 LF [] (by omega) (by omega) rfl (by rw[aa1];omega);rw[v7] at c;have n:s.length<=3:=by have:=congrArg o0 c;rw[k9] at this;omega
 obtain⟨j,rfl⟩:∃j,i=j+1:=⟨i-1,by omega⟩
 refine⟨Uj j (Sd u::s),?_⟩;rw[show((16:Int)==16)=true from rfl,cond_true,cond_true];refine j7 h ?_;have e:A1 (((j+1:Nat):Int)-1)=(j:Int):=by rw[A7];omega
 simp only[vl];rw[e,c9,E9,Bs1 u g,E9];simp only[cond_true];have a:(Sd u::s).length=s.length+1:=rfl;have b:((Uj j (Sd u::s)).drop j).take (65-j)=(Sd u::s).map E2:=by
  unfold Uj;rw[List.drop_left' (by simp),p6 (by rw[o9,a];omega)]
 rw[Af3,KD,KD,show(decide (j<j+1+s.length))=true from decide_eq_true (by omega),a,show(decide (j+(s.length+1)=65))=true from decide_eq_true (by omega),I1,b,X3,Y0,c];rfl
theorem A30(z t:Bool)(l:LL)(v:Int)(c:ltN v 65536=true):∃r H,Ag3 LF z t l v (λb a=>rv (.tup [.fl 0,.s (.str b)]) [.arr true 5 1 [],.arr false 243 1 a])=rv r H/\r.stab [1,0] H = .tup [.s (.sl true true 1 []),.s (.str (S7 v.toNat))]:=by obtain⟨d,e⟩:=B12 (k0:=(λb a=>rv (.tup [.fl 0,.s (.str b)]) [.arr true 5 1 [],.arr false 243 1 a])) z t l v c;exact⟨_,_,e,rfl⟩
theorem B13{C:Cfg}{St:Nat->Prop}{w:World}(c:GOK C St w)(d:C.G=GX):TabAt 5 aj8 w:=by obtain⟨e,f,b⟩:=XG (g:=5) (k:=.u8) (zs:=aj8.map λn:Nat=>(n:Int)) c d rfl;intro j a;rw[FR b j (by rw[o9];exact a)];simp[a8,j4 a]
theorem D46:B3 o7 GX 248 Dr5:=by
 refine B3.fix (pf:=Ci1) _ (G9 (fn:=Tryz.f248) (by kernel_rfl) (by kernel_rfl) (by kernel_rfl) ?_);intro args ret i h;unfold Ci1 at h;split at h
 ·rename_i x;obtain⟨b,h⟩:=C1 h;obtain⟨rfl,rfl⟩:=J3 h;obtain rfl:x=16:=eq_of_beq b;refine⟨rfl,rfl,λC k a l w j c f d=>?_⟩;obtain⟨U,rfl,g⟩:=d.arr1;obtain rfl:=g.inv_int;refine(Any7.bits_TrailingZeros Tryz.lays7_27 16 (by omega) w (λ_=>B13 c a)).mono ?_;rintro e w' ⟨rfl,rfl⟩;exact⟨_,rfl,ae8 _ _,VP.mk_int _ _⟩
 ·cases h
theorem Dl8:B3 o7 GX 247 TD:=by
 refine B3.fix (pf:=GY) _ (J2 [] (C₀:=VW LF) (M5.ok (l:=[]) rfl trivial) (I9 rfl (by kernel_rfl)) follows ?_);intro args ret b h;unfold GY at h;split at h
 ·rename_i x;obtain⟨a,h⟩:=C1 h;obtain⟨rfl,rfl⟩:=J3 h;obtain rfl:x=16:=eq_of_beq a;exact⟨rfl,rfl,rfl,1,_,_,Co0 LF noY () 0,rfl⟩
 ·cases h
theorem Dl4:B3 o7 GX 231 SN:=by
 refine B3.fix (pf:=GQ) _ (J2 [1,0] (C₀:=Ir LF) (M5.ok (l:=[(247,TD),(248,Dr5)]) rfl ⟨Dl8,D46,trivial⟩) (I9 rfl (by kernel_rfl)) follows ?_);intro args ret k h;unfold GQ at h;split at h
 ·rename_i c a ds v b neg app;obtain⟨d,h⟩:=C1 h;obtain⟨f,h⟩:=C1 h;obtain⟨g,h⟩:=C1 h;obtain⟨i,h⟩:=C1 h;obtain⟨rfl,rfl⟩:=J3 h;obtain rfl:b=16:=eq_of_beq f;obtain rfl:neg=false:=by simpa using g
  obtain rfl:app=false:=by simpa using i
  obtain⟨r,H,e,j⟩:=A30 c a ds v d;exact⟨rfl,rfl,rfl,1,r,H,(Cl9 LF noY () 0 c a ds v).trans e,j⟩
 ·cases h
theorem Dl7:B3 o7 GX 244 TC:=by
 refine B3.fix (pf:=GW) _ (J2 [] (C₀:=VV LF) (M5.ok (l:=[(231,SN)]) rfl ⟨Dl4,trivial⟩) (I9 rfl (by kernel_rfl)) follows ?_);intro args ret f h;unfold GW at h;split at h
 ·rename_i v b;obtain⟨a,h⟩:=C1 h;obtain⟨c,h⟩:=C1 h;obtain⟨rfl,rfl⟩:=J3 h;obtain rfl:b=16:=eq_of_beq c;have e:Bt3 LF v (λd=>rv (.s (.str d)) [])=rv (.s (.str (S7 v.toNat))) []:=by
   unfold Bt3;rw[a];rfl
  exact⟨rfl,rfl,rfl,1,_,_,(Cn3 LF noY () 0 v).trans e,rfl⟩
 ·cases h
theorem Dx1:B3 o7 GX 227 Cg0:=by
 refine B3.fix (pf:=SO) _ (J2 [] (C₀:=Az4 LF) (M5.ok (l:=[(244,TC)]) rfl ⟨Dl7,trivial⟩) (I9 rfl (by kernel_rfl)) follows ?_);intro args ret f h;unfold SO at h;split at h
 ·rename_i v b;obtain⟨a,h⟩:=C1 h;obtain⟨c,h⟩:=C1 h;obtain⟨rfl,rfl⟩:=J3 h;obtain rfl:b=16:=eq_of_beq c;have e:C88 LF v (λd=>rv (.s (.str d)) [])=rv (.s (.str (S7 v.toNat))) []:=by
   unfold C88;rw[a];rfl
  exact⟨rfl,rfl,rfl,1,_,_,(C89 LF noY () 0 v).trans e,rfl⟩
 ·cases h
end
section
open Go Go.Proofs
theorem Dw2(z t:Bool)(l:LL)(c:l.all Xi=true)(d:x6 l.length 8=true):∃r H,v6j LF z t l (λb a=>rv (.s (.str b)) [.arr true 9 1 a])=rv r H/\r.stab [] H = .s (.str (T9 (l.map elN))):=by obtain⟨f,e⟩:=C13 (k0:=(λb a=>rv (.s (.str b)) [.arr true 9 1 a])) z t l c d;exact⟨_,_,e,rfl⟩
theorem Dw0(a b c d f g h i:Int)(l:ok8 a b c d f g h i=true):∃r H,v6f LF a b c d f g h i (λk j=>rv (.s (.str k)) [.arr false 26 1 j])=rv r H/\r.stab [] H = .s (.str (Oi (n8 a b c d f g h i))):=by obtain⟨m,e⟩:=C11 (k0:=(λk j=>rv (.s (.str k)) [.arr false 26 1 j])) a b c d f g h i l;exact⟨_,_,e,rfl⟩
def v6V(s:By):PV:=.tup [.agg [.s (.int .u16 (v6c 0 s)),.s (.int .u16 (v6c 1 s)),.s (.int .u16 (v6c 2 s)),.s (.int .u16 (v6c 3 s)),.s (.int .u16 (v6c 4 s)),.s (.int .u16 (v6c 5 s)),.s (.int .u16 (v6c 6 s)),.s (.int .u16 (v6c 7 s))],.s (.bool (v6B s).isSome)]
theorem Dw5(s:By)(k:A3 s.length=true):∃r H,v6p LF s (λb c d f g h i j r8 a l10=>rv (.tup [.agg [.s (.int .u16 b),.s (.int .u16 c),.s (.int .u16 d),.s (.int .u16 f),.s (.int .u16 g),.s (.int .u16 h),.s (.int .u16 i),.s (.int .u16 j)],.s (.bool r8)]) [.arr false 26 1 a,.arr false 26 1 l10])=rv r H/\r.stab [0,0] H=v6V s:=by obtain⟨l,m,e⟩:=C14 (k0:=(λb c d f g h i j r8 a l10=>rv (.tup [.agg [.s (.int .u16 b),.s (.int .u16 c),.s (.int .u16 d),.s (.int .u16 f),.s (.int .u16 g),.s (.int .u16 h),.s (.int .u16 i),.s (.int .u16 j)],.s (.bool r8)]) [.arr false 26 1 a,.arr false 26 1 l10])) s k;exact⟨_,_,e,rfl⟩
theorem Di2(s:By)(k:A3 s.length=true):∃r H,Cw9 LF s (λb c d f g h i j r8 a l10=>rv (.tup [.agg [.s (.int .u16 b),.s (.int .u16 c),.s (.int .u16 d),.s (.int .u16 f),.s (.int .u16 g),.s (.int .u16 h),.s (.int .u16 i),.s (.int .u16 j)],.s (.bool r8)]) [.arr false 26 1 a,.arr false 26 1 l10])=rv r H/\r.stab [0,0] H=v6V s:=by obtain⟨l,m,e⟩:=Cb0 (k0:=(λb c d f g h i j r8 a l10=>rv (.tup [.agg [.s (.int .u16 b),.s (.int .u16 c),.s (.int .u16 d),.s (.int .u16 f),.s (.int .u16 g),.s (.int .u16 h),.s (.int .u16 i),.s (.int .u16 j)],.s (.bool r8)]) [.arr false 26 1 a,.arr false 26 1 l10])) s k;exact⟨_,_,e,rfl⟩
set_option maxRecDepth 100000
section
variable {Z R : Type} (L : Nat) (Q : F8) (Y : Yh Z) (s : Z) (k : Out -> St Z -> Option R)
noncomputable abbrev Ad9:Code:=C3 ao2
noncomputable def Gq(L:Nat):Cfg:=B5 L [164] (A2 [(16,[2,0,4,41,0,0])]) [(120,GV),(197,Bn7),(198,Cg3),(199,Bq5),(102,Qs),(200,Ch0),(176,OZ),(201,Cg7),(202,UW)] (A2 [(28,[2,0]),(25,[2,0]),(27,[2,0]),(26,[2,10,64]),(24,[2,10,59]),(23,[2,10]),(22,[2,5,41,0,0]),(21,[2,5,41,0,0]),(20,[2,0]),(19,[2,5,0,1,0,37,0,0,10]),(18,[2,5,0,1,0,37,0,0]),(17,[2,5,0,0,39,0,0]),(16,[2,5,41,0,0,0]),(15,[2,5,41,0,0]),(14,[2,5]),(13,[2,0]),(12,[2,0]),(11,[2,3,37]),(10,[2,3,0]),(9,[2,1,32]),(8,[2,1]),(7,[2,0]),(6,[2,1,27]),(5,[2,1,0]),(2,[2,0]),(4,[2,0]),(3,[0,1,16]),(1,[0,1,11]),(0,[0,1])]) [120,198,199,102,200,201,202] (A2 [(3,[2,10]),(1,[2,5]),(2,[2,5,41,0,0]),(0,[0,1])]) (some [2,0]) [] [] []
noncomputable def T4{R:Type}(L n:Nat)(a:Nat)(i c:Int)(e:LL)(g:Int->LL->Option R)(h:Nat->LL->Option R):Option R:=match n with|0=>none|n+1=>cond (ltI c i) (cond (inR c a) (cond (okE Nq e (0+(j5 c)) 0) (vl (gX e (0+(j5 c)) 0) λb=>cond (A3 b.length) (vl (↑((J0 b)).2:Int) λd=>cond (d !=0) (g d e) (cond (inR c a) (cond (decide ((0+(j5 c))<e.length)) (vl (ah9 e (0+(j5 c)) (G1 (o6 e (0+(j5 c)) []) 0 [(SV.str ((J0 b)).1)])) λf=>T4 L n a i (A1 (c+1)) f g h) none) none)) none) none) none) (h a e)
theorem XH(n:Nat)(a:Nat)(d e:Int)(c:LL):C7 2 ((Gq L).keep 16) (bd (Gq L) Q Y (cd [1,1,1,1,1,1,1,0,1,0,0] Ad9)) n ⟨gp [(2,.ptr 0 0 0),(5,.vw 1 0 a),(41,.vw 1 0 a),(0,pI d),(0,pI e)] 31,[.box [pI (0:Int),pS ([]:List UInt8),p32 (0:Int),p16 (0:Int),p16 (0:Int),p16 (0:Int),p16 (0:Int),p16 (0:Int),p16 (0:Int),p16 (0:Int),p16 (0:Int)],.arr false 9 1 c],s⟩ k =
 T4 L n a d e c (λn0 b=>k .ret ⟨gp [(2,.ptr 0 0 0),(0,pI n0)] 80,[.box [pI (0:Int),pS ([]:List UInt8),p32 (0:Int),p16 (0:Int),p16 (0:Int),p16 (0:Int),p16 (0:Int),p16 (0:Int),p16 (0:Int),p16 (0:Int),p16 (0:Int)],.arr false 9 1 b],s⟩) (λa b=>k (.exit 1) ⟨gp [(2,.ptr 0 0 0),(5,.vw 1 0 a)] 75,[.box [pI (0:Int),pS ([]:List UInt8),p32 (0:Int),p16 (0:Int),p16 (0:Int),p16 (0:Int),p16 (0:Int),p16 (0:Int),p16 (0:Int),p16 (0:Int),p16 (0:Int)],.arr false 9 1 b],s⟩):=by
 induction n generalizing a d e c with
 | zero=>rfl
 | succ n f=>rw[T4];simp only[<-f];kernel_rfl
noncomputable def BQ{R:Type}(L:Nat)(a:By)(t:Int->By->Int->Int->Int->Int->Int->Int->Int->Int->Int->Int->Int->By->Int->Int->Int->Int->Int->Int->Int->Int->Int->Option R)(y:Int->By->Int->Int->By->LL->Option R):Option R:=cond (ltI 1024 (a.length:Int)) (t 0 ([]:List UInt8) 0 0 0 0 0 0 0 0 0 3 0 ([]:List UInt8) 0 0 0 0 0 0 0 0 0) (cond (A3 a.length) (cond (ae3 ([91]:List UInt8) a) (cond (A3 a.length) (cond (Cn8 a) (vl (↑(B4.kind ((Q0 a)).1):Int) λf=>vl (B4.name ((Q0 a)).1) λr=>vl (↑(B4.v4 ((Q0 a)).1):Int) λg=>vl (↑(o6 (B4.v6 ((Q0 a)).1) 0 0):Int) λh=>vl (↑(o6 (B4.v6 ((Q0 a)).1) 1 0):Int) λi=>vl (↑(o6 (B4.v6 ((Q0 a)).1) 2 0):Int) λj=>vl (↑(o6 (B4.v6 ((Q0 a)).1) 3 0):Int) λl=>vl (↑(o6 (B4.v6 ((Q0 a)).1) 4 0):Int) λm=>vl (↑(o6 (B4.v6 ((Q0 a)).1) 5 0):Int) λn=>vl (↑(o6 (B4.v6 ((Q0 a)).1) 6 0):Int) λo=>vl (↑(o6 (B4.v6 ((Q0 a)).1) 7 0):Int) λp=>vl (↑((Q0 a)).2:Int) λw=>t f r g h i j l m n o p w f r g h i j l m n o p) none) none) (cond (A3 a.length) (cond (not (ag8 (S6 a))) (t 0 ([]:List UInt8) 0 0 0 0 0 0 0 0 0 14 0 ([]:List UInt8) 0 0 0 0 0 0 0 0 0) (cond (A3 (o0 (Fl a))) (vl (ZY (Fl a) ([46]:List UInt8)) λb=>cond (A3 b.length) (cond (G4 b) (cond (A3 b.length) (vl (↑(N1 (pnB b)):Int) λq=>cond (not (ag8 (pnB b))) (t 0 ([]:List UInt8) 0 0 0 0 0 0 0 0 0 14 0 ([]:List UInt8) 0 0 0 0 0 0 0 0 0) (t 2 ([]:List UInt8) q 0 0 0 0 0 0 0 0 0 2 ([]:List UInt8) q 0 0 0 0 0 0 0 0)) none) (cond (A3 b.length) (cond (1==1) (vl (D1 (pcs (o6 ([46]:List UInt8) 0 0) b)) λu=>T4 L L (o0 (pcs (o6 ([46]:List UInt8) 0 0) b)) (↑(o0 (pcs (o6 ([46]:List UInt8) 0 0) b)):Int) 0 u (λx v=>y 0 ([]:List UInt8) x 0 ([]:List UInt8) v) (λc d=>cond (af9 (ac7 c (ad4 0 d)) isS) (cond (A3 (o0 (ac0 (ab7 elS (ac7 c (ad4 0 d))) ([46]:List UInt8)))) (cond (A3 (o0 (ac7 c (ad4 0 d)))) (vl (ac0 (ab7 elS (ac7 c (ad4 0 d))) ([46]:List UInt8)) λe=>cond (ltI 253 (e.length:Int)) (y 0 ([]:List UInt8) 3 0 ([]:List UInt8) d) (cond (A3 e.length) (cond (G4 e) (y 0 ([]:List UInt8) 14 0 ([]:List UInt8) d) (y 1 e 0 1 e d)) none)) none) none) none)) none) none)) none) none)) none)) none)
theorem B20(d:Nat)(raw0):evC (Gq L) (d+1) Z Y 164 [pS raw0] [] s=BQ L raw0 (λo p t M N O P S r8 T q r c u e f g h i j l m n=>some (.tup [.agg [pI o,pS p,p32 t,p16 M,p16 N,p16 O,p16 P,p16 S,p16 r8,p16 T,p16 q],pI r],[.box [pI c,pS u,p32 e,p16 f,p16 g,p16 h,p16 i,p16 j,p16 l,p16 m,p16 n]],s)) (λo p t K U J=>some (.tup [.agg [pI o,pS p,p32 (0:Int),p16 (0:Int),p16 (0:Int),p16 (0:Int),p16 (0:Int),p16 (0:Int),p16 (0:Int),p16 (0:Int),p16 (0:Int)],pI t],[.box [pI K,pS U,p32 (0:Int),p16 (0:Int),p16 (0:Int),p16 (0:Int),p16 (0:Int),p16 (0:Int),p16 (0:Int),p16 (0:Int),p16 (0:Int)],.arr false 9 1 J],s)):=by refine(evE (fn:=ao2) (by kernel_rfl)).trans ?_;generalize evC (Gq L) d=Q;unfold BQ;exact(j7 (by kernel_rfl) (A0 rfl (A0 (A0 (A0 (A0 (A4 λv=>(A4 λI=>(A4 λw=>(A4 λx=>(A4 λy=>(A4 λz=>(A4 λA=>(A4 λB=>(A4 λC=>(A4 λD=>(A4 λF=>(A4 λG=>rfl)))))))))))) rfl) rfl) (A0 (A0 rfl (A0 (A4 λa=>(A0 (A0 (A0 (A4 λH=>(A0 rfl rfl)) rfl) (A0 (A0 (A4 λb=>((XH L Q Y s (E0 1 (D9 (Gq L) Q Y (cd [1,1,1,1,1,1,1,1] Ad9) (F0 (Gq L) ao2))) L (o0 (pcs (o6 ([46]:List UInt8) 0 0) a)) (↑(o0 (pcs (o6 ([46]:List UInt8) 0 0) a)):Int) 0 b).trans (by kernel_rfl))) rfl) rfl)) rfl)) rfl)) rfl)) rfl)))
noncomputable abbrev Br0:Code:=C3 ao1
noncomputable def Lx(L:Nat):Cfg:=B5 L [141] (A2 [(6,[0,1,0,1,10,0,0])]) [(180,Cg9),(181,Aw2)] (A2 [(13,[2]),(12,[0,3,0,2]),(11,[0,2,1,10,0,0]),(10,[0,2,1,10,0,0]),(9,[2]),(8,[0,2,1,1,8,0,0,8]),(7,[0,2,1,1,8,0,0]),(6,[0,2,1,10,0,0,0]),(5,[0,2,1,10,0,0]),(4,[0,2,1]),(3,[2]),(2,[0,2,11]),(1,[0,2,0]),(0,[0])]) [181] (A2 [(0,[0,2,1]),(1,[0,2,1,10,0,0])]) (some [2]) [] [] []
noncomputable def X9{R:Type}(L n:Nat)(i:By)(b:Bool)(a:LL)(c:Bool)(h e:Int)(f:Unit->Option R)(g:By->Bool->LL->Bool->Option R):Option R:=match n with|0=>none|n+1=>cond (ltI e h) (cond (inR e a.length) (cond (okE Lm a (j5 e) 0) (vl (gE a (j5 e) 0) λd=>cond (not (ltI d 65)) (cond (not (ltI 90 d)) (f ()) (cond c (X9 L n i b a (ltI d 128) h (A1 (e+1)) f g) (X9 L n i b a false h (A1 (e+1)) f g))) (cond c (X9 L n i b a (ltI d 128) h (A1 (e+1)) f g) (X9 L n i b a false h (A1 (e+1)) f g))) none) none) (g i b a c)
theorem Ai8(n d a b c n4 n5):C7 0 ((Lx L).keep 6) (bd (Lx L) Q Y (cd [1,1,1,1,0,1,0,0] Br0)) n ⟨gp [(0,pS d),(2,.s (.sl a a 1 b)),(1,pB c),(10,.s (.sl a a 1 b)),(0,pI n4),(0,pI n5)] 31,[],s⟩ k =
 X9 L n d a b c n4 n5 (λ_=>k .ret ⟨gp [(2,pB false)] 47,[],s⟩) (λd a b c=>k (.exit 0) ⟨gp [(0,pS d),(2,.s (.sl a a 1 b)),(1,pB c)] 44,[],s⟩):=by
 induction n generalizing d a b c n4 n5 with
 | zero=>rfl
 | succ n e=>rw[X9];simp only[<-e];kernel_rfl
noncomputable def Bt9{R:Type}(L:Nat)(d:By)(e:Bool->Option R):Option R:=cond (A3 d.length) (cond ((↑((N6 d)).2:Int)!=0) (e false) (X9 L L d (ap3 ((N6 d)).1) (Mt ((N6 d)).1) true (↑(o0 (Mt ((N6 d)).1)):Int) 0 (λ_=>e false) (λg c a b=>cond (af9 a Od) (vl ((W4 (ab7 elI a))).1 λh=>vl (↑((W4 (ab7 elI a))).2:Int) λf=>cond (not b) (cond (f==0) (e (h==g)) (e false)) (e false)) none))) none
theorem Co4(d:Nat)(s0):evC (Lx L) (d+1) Z Y 141 [pS s0] [] s=Bt9 L s0 (λa=>some (pB a,[],s)):=by refine(evE (fn:=ao1) (by kernel_rfl)).trans ?_;generalize evC (Lx L) d=Q;unfold Bt9;exact(j7 (by kernel_rfl) (A0 (A0 rfl ((Ai8 L Q Y s (E0 0 (D9 (Lx L) Q Y (cd [1,1,1,1,1] Br0) (F0 (Lx L) ao1))) L s0 (ap3 ((N6 s0)).1) (Mt ((N6 s0)).1) true (↑(o0 (Mt ((N6 s0)).1)):Int) 0).trans (by kernel_rfl))) rfl))
noncomputable abbrev Cj5:Code:=C3 an9
noncomputable def Tx(L:Nat):Cfg:=B5 L [104] (A2 [(4,[0,1,26,0])]) [(118,Av2),(141,Bo0)] (A2 [(11,[2]),(10,[5,0]),(9,[0,28,0]),(8,[2]),(7,[0,28,0,28]),(6,[0,3,24,0]),(5,[0,2,25,0]),(4,[0,28,0,0]),(3,[0,28,0]),(2,[2]),(1,[0,26]),(0,[0])]) [118,141] (A2 [(0,[0]),(1,[0,28,0])]) (some [2]) [] [] []
noncomputable def R6{R:Type}(L n:Nat)(b:By)(e a:Int)(c:Unit->Option R)(d:By->Option R):Option R:=match n with|0=>none|n+1=>cond (ltI a e) (cond (inR a b.length) (cond (not (ltI (bAt b a) (97:Int))) (cond (not (not (ltI 122 (bAt b a)))) (cond (not (ltI (bAt b a) (48:Int))) (cond (not (not (ltI 57 (bAt b a)))) (cond ((bAt b a)!=45) (cond ((bAt b a)!=95) (c ()) (R6 L n b e (A1 (a+1)) c d)) (R6 L n b e (A1 (a+1)) c d)) (R6 L n b e (A1 (a+1)) c d)) (cond ((bAt b a)!=45) (cond ((bAt b a)!=95) (c ()) (R6 L n b e (A1 (a+1)) c d)) (R6 L n b e (A1 (a+1)) c d))) (R6 L n b e (A1 (a+1)) c d)) (cond (not (ltI (bAt b a) (48:Int))) (cond (not (not (ltI 57 (bAt b a)))) (cond ((bAt b a)!=45) (cond ((bAt b a)!=95) (c ()) (R6 L n b e (A1 (a+1)) c d)) (R6 L n b e (A1 (a+1)) c d)) (R6 L n b e (A1 (a+1)) c d)) (cond ((bAt b a)!=45) (cond ((bAt b a)!=95) (c ()) (R6 L n b e (A1 (a+1)) c d)) (R6 L n b e (A1 (a+1)) c d)))) none) (d b)
theorem A68(n a n1 n2):C7 0 ((Tx L).keep 4) (bd (Tx L) Q Y (cd [1,1,0,1,0,0] Cj5)) n ⟨gp [(0,pS a),(28,pI n1),(0,pI n2)] 41,[],s⟩ k =
 R6 L n a n1 n2 (λ_=>k .ret ⟨gp [(2,pB false)] 69,[],s⟩) (λa=>k (.exit 0) ⟨gp [(0,pS a)] 71,[],s⟩):=by
 induction n generalizing a n1 n2 with
 | zero=>rfl
 | succ n b=>rw[R6];simp only[<-b];kernel_rfl
noncomputable def Dc4{R:Type}(L:Nat)(a:By)(b:Bool->Option R):Option R:=cond (ltI (a.length:Int) (1:Int)) (b false) (cond (ltI 63 (a.length:Int)) (b false) (cond (inR 0 a.length) (cond ((bAt a (0:Int))==45) (b false) (vl (A1 ((a.length:Int)-1)) λd=>cond (inR d a.length) (cond ((bAt a d)==45) (b false) (R6 L L a (a.length:Int) 0 (λ_=>b false) (λc=>cond (A3 c.length) (vl (Gz c ([120,110,45,45]:List UInt8)) λe=>cond (not (ae3 ([120,110,45,45]:List UInt8) c)) (b true) (cond (A3 e.length) (b (Dy e)) none)) none))) none)) none))
theorem Dc5(d:Nat)(s0):evC (Tx L) (d+1) Z Y 104 [pS s0] [] s=Dc4 L s0 (λb=>some (pB b,[],s)):=by refine(evE (fn:=an9) (by kernel_rfl)).trans ?_;generalize evC (Tx L) d=Q;unfold Dc4;exact(j7 (by kernel_rfl) (A0 rfl (A0 rfl (A0 (A0 rfl (A4 λa=>(A0 (A0 rfl ((A68 L Q Y s (E0 0 (D9 (Tx L) Q Y (cd [1,1,1] Cj5) (F0 (Tx L) an9))) L s0 (s0.length:Int) 0).trans (by kernel_rfl))) rfl))) rfl))))
noncomputable abbrev Ay5:Code:=C3 ao4
noncomputable def Pk(L:Nat):Cfg:=B5 L [201] (A2 [(9,[2,0,1,20])]) [(222,Ad2),(223,Ad0),(116,Av8),(181,Aw2),(104,TN)] (A2 [(18,[2,0]),(17,[2,0]),(16,[4,41]),(15,[4]),(14,[2,0]),(13,[8,32]),(12,[8,0]),(11,[5,20]),(10,[5,1,18]),(9,[5,20,0,0]),(8,[5,20]),(7,[4,0]),(6,[4,19]),(5,[0,3]),(2,[2,0]),(4,[2,0]),(3,[0,13]),(1,[0,9]),(0,[0])]) [222,223,116,181,104] (A2 [(1,[5]),(2,[5,20]),(0,[0])]) (some [2,0]) [] [] []
noncomputable def Fh{R:Type}(L n:Nat)(c:LL)(b:By)(a:Nat)(e:LL->By->Nat->Option R):Option R:=match n with|0=>none|n+1=>cond (decide (a<b.length)) (vl ((ag7 ⟨ak5 b⟩ a)).1 λd=>cond (F9 (c.length+1)) (Fh L n (c++[[(SV.int .i64 (A1 d))]]) b (a+((ag7 ⟨ak5 b⟩ a)).2) e) none) (e c b a)
theorem A51(n:Nat)(a:LL)(c:By)(b:Nat):C7 2 ((Pk L).keep 9) (bd (Pk L) Q Y (cd [1,1,1,0,1,0,1,0,1,0,0] Ay5)) n ⟨gp [(5,.fl 0),(20,.it 1)] 21,[.arr true 3 1 a,.iter c b],s⟩ k =
 Fh L n a c b (λa c b=>k (.exit 1) ⟨gp [(5,.fl 0)] 42,[.arr true 3 1 a,.iter c b],s⟩):=by
 induction n generalizing a c b with
 | zero=>rfl
 | succ n d=>rw[Fh];simp only[<-d];kernel_rfl
noncomputable def Ai5{R:Type}(L:Nat)(b:By)(g:By->Int->Option R)(h:By->Int->LL->By->Nat->Option R):Option R:=cond (A3 b.length) (cond (not (ag8 (Dk b))) (g ([]:List UInt8) 4) (cond (A3 b.length) (vl (↑(af8 b):Int) λi=>cond (ltI 256 i) (g ([]:List UInt8) 3) (cond (A3 b.length) (cond (A3 b.length) (vl (↑(af8 b):Int) λj=>cond (ltI j (b.length:Int)) (Fh L L [] (B9 b) 0 (λa e d=>cond (af9 a Od) (vl ((W4 (ab7 elI a))).1 λf=>vl (↑((W4 (ab7 elI a))).2:Int) λl=>cond (l !=0) (h ([]:List UInt8) 14 a e d) (cond (E7 4 f.length) (vl (([120,110,45,45]:List UInt8)++f) λc=>cond (A3 c.length) (cond (not (L2 c)) (h ([]:List UInt8) 14 a e d) (h c 0 a e d)) none) none)) none)) (cond (A3 (o0 (B9 b))) (cond (not (L2 (B9 b))) (g ([]:List UInt8) 14) (g (B9 b) 0)) none)) none) none)) none)) none
theorem Db3(d:Nat)(s0):evC (Pk L) (d+1) Z Y 201 [pS s0] [] s=Ai5 L s0 (λa b=>some (.tup [pS a,pI b],[],s)) (λa b c h e=>some (.tup [pS a,pI b],[.arr true 3 1 c,.iter h e],s)):=by refine(evE (fn:=ao4) (by kernel_rfl)).trans ?_;generalize evC (Pk L) d=Q;unfold Ai5;exact(j7 (by kernel_rfl) (A0 (A0 rfl (A0 (A4 λf=>(A0 rfl (A0 (A0 (A4 λg=>(A0 ((A51 L Q Y s (E0 1 (D9 (Pk L) Q Y (cd [1,1,1,0,1,0,1,1] Ay5) (D9 (Pk L) Q Y (cd [1,1,1,1] Ay5) (F0 (Pk L) ao4)))) L [] (B9 s0) 0).trans (by kernel_rfl)) (A0 (A0 rfl rfl) rfl))) rfl) rfl))) rfl)) rfl))
noncomputable abbrev Tn:Code:=C3 al7
noncomputable def Jo(L:Nat):Cfg:=B5 L [220] (A2 []) [] (A2 [(7,[2]),(2,[2]),(4,[2]),(6,[2]),(5,[0,23]),(3,[0,12]),(1,[0,2]),(0,[0])]) [] (A2 [(0,[])]) (some [2]) [] [] []
noncomputable def Xb{R:Type}(a:Int)(h:Bool)(f:Int->Option R)(g:Int->Bool->Option R):Option R:=cond h (vl (A1 (wu8 (a-97))) λb=>vl (A1 (b+10)) λc=>f c) (cond (not (ltI a 65)) (cond (not (ltI 70 a)) (vl (A1 (wu8 (a-65))) λd=>vl (A1 (d+10)) λe=>f e) (g a (not (ltI 70 a)))) (g a false))
abbrev QG(b:Code):Prop:=∀(k:Out->St Z->Option R) a c,A9 (Jo L) Q Y b ⟨gp [(0,p8 a),(12,pB c)] 21,[],s⟩ k=Xb a c (λn0=>k .ret ⟨gp [(2,pI n0)] 32,[],s⟩) (λa c=>k .normal ⟨gp [(0,p8 a),(23,pB c)] 10,[],s⟩)
theorem A44:QG (R:=R) L Q Y s (cd [1,0,0,1,1,1] Tn):=by intro k a b;unfold Xb;kernel_rfl
noncomputable def Xc{R:Type}(b:Int)(l:Bool)(f:Int->Option R)(j:Int->Bool->Option R):Option R:=cond l (vl (A1 (wu8 (b-48))) λg=>f g) (cond (not (ltI b 97)) (Xb b (not (ltI 102 b)) (λh=>f h) (λc d=>j c d)) (Xb b false (λi=>f i) (λe a=>j e a)))
abbrev BP(b:Code):Prop:=∀(k:Out->St Z->Option R) a c,A9 (Jo L) Q Y b ⟨gp [(0,p8 a),(2,pB c)] 31,[],s⟩ k=Xc a c (λn0=>k .ret ⟨gp [(2,pI n0)] 32,[],s⟩) (λa c=>k .normal ⟨gp [(0,p8 a),(23,pB c)] 10,[],s⟩)
theorem A45(a:Code)(b:QG (R:=R) L Q Y s a):BP (R:=R) L Q Y s (cd [1,0,0,1] (G2 [1,0,0,1,1,1] a Tn)):=by intro k c d;unfold Xc;simp only[<-b k];kernel_rfl
theorem A46:BP (R:=R) L Q Y s (cd [1,0,0,1] Tn):=by intro k a b;exact j7 (by kernel_rfl) (A45 L Q Y s (cd [1,0,0,1,1,1] Tn) (A44 L Q Y s) k a b)
noncomputable def Cn1{R:Type}(L:Nat)(c:Int)(d:Int->Option R):Option R:=cond (not (ltI c 48)) (Xc c (not (ltI 57 c)) (λa=>d a) (λe f=>d (-1))) (Xc c false (λb=>d b) (λg h=>d (-1)))
theorem C98(b:Code)(a:BP (R:=PV × List Blk × Z) L Q Y s b)(c:Int):A9 (Jo L) Q Y (cd [] (G2 [1,0,0,1] b Tn)) ⟨[p8 c]++tps 34,[],s⟩ (F0 (Jo L) al7)=Cn1 L c (λe=>some (pI e,[],s)):=by unfold Cn1;exact let d:=(E0 0 (D9 (Jo L) Q Y (cd [1,1] Tn) (F0 (Jo L) al7)));(j7 (by kernel_rfl) (A0 ((a d c (not (ltI 57 c))).trans (by kernel_rfl)) ((a d c false).trans (by kernel_rfl))))
theorem C99(d:Nat)(b0):evC (Jo L) (d+1) Z Y 220 [p8 b0] [] s=Cn1 L b0 (λa=>some (pI a,[],s)):=
 (evE (fn:=al7) (by kernel_rfl)).trans (j7 (by kernel_rfl) (C98 L (evC (Jo L) d) Y s (cd [1,0,0,1] Tn) (A46 L (evC (Jo L) d) Y s) b0))
noncomputable abbrev Cj3:Code:=C3 ao3
noncomputable def Tv(L:Nat):Cfg:=B5 L [198] (A2 [(3,[0,1,0,0,0])]) [(220,Cg4)] (A2 [(14,[2,0]),(4,[0,3,0]),(13,[0,3,0]),(12,[0,3,0]),(11,[2,0]),(10,[0,3,0,0,0,39]),(9,[0,3,0,0,0]),(8,[2,0]),(7,[0,3,0,25]),(6,[0,3,0]),(5,[0,3,0,14]),(3,[0,3,0,8]),(2,[0,3,0]),(1,[0,3]),(0,[0])]) [220] (A2 [(0,[4]),(1,[0,3,0])]) (some [2,0]) [] [] []
noncomputable def S9{R:Type}(L n:Nat)(b:By)(a:Int)(c:LL)(f:LL->Option R)(g:LL->Option R):Option R:=match n with|0=>none|n+1=>cond (ltI a (b.length:Int)) (cond (inR a b.length) (cond ((bAt b a)!=37) (cond (inR a b.length) (cond (F9 (c.length+1)) (S9 L n b (A1 (a+1)) (c++[[(SV.int .u8 (bAt b a))]]) f g) none) none) (cond (not (ltI (A1 (a+2)) (b.length:Int))) (f c) (cond (inR (A1 (a+1)) b.length) (vl (bAt b (A1 (a+1))) λd=>cond (inR d 256) (cond (inR (A1 (a+2)) b.length) (vl (bAt b (A1 (a+2))) λe=>cond (inR e 256) (cond (ltI (Fe (u8n d)) (0:Int)) (f c) (cond (ltI (Fe (u8n e)) (0:Int)) (f c) (vl (A1 ((16:Int)*(Fe (u8n d)))) λh=>vl (A1 (h+(Fe (u8n e)))) λi=>cond (F9 (c.length+1)) (vl (A1 ((A1 (a+2))+1)) λj=>S9 L n b j (c++[[(SV.int .u8 (wu8 i))]]) f g) none))) none) none) none) none))) none) (g c)
theorem A43(n s0 i1 l2):C7 1 ((Tv L).keep 3) (bd (Tv L) Q Y (cd [1,0,1,1,0,1,0,0] Cj3)) n ⟨gp [(0,pS s0),(3,.fl 0),(0,pI i1)] 54,[.arr false 5 1 l2],s⟩ k =
 S9 L n s0 i1 l2 (λa=>k .ret ⟨gp [(2,pS ([]:List UInt8)),(0,pB false)] 56,[.arr false 5 1 a],s⟩) (λa=>k (.exit 0) ⟨gp [(4,.fl 0)] 55,[.arr false 5 1 a],s⟩):=by
 induction n generalizing s0 i1 l2 with
 | zero=>rfl
 | succ n b=>rw[S9];simp only[<-b];kernel_rfl
noncomputable def Cn0{R:Type}(L:Nat)(c:By)(d:By->Bool->LL->Option R):Option R:=cond ((decide ((0:Int)<=(c.length:Int)))&&(F9 (j5 (c.length:Int)))) (S9 L L c 0 [] (λb=>d ([]:List UInt8) false b) (λa=>cond (af9 a Ol) (d (ab7 Mg a) true a) none)) none
theorem C96(d:Nat)(s0):evC (Tv L) (d+1) Z Y 198 [pS s0] [] s=Cn0 L s0 (λb c a=>some (.tup [pS b,pB c],[.arr false 5 1 a],s)):=by refine(evE (fn:=ao3) (by kernel_rfl)).trans ?_;generalize evC (Tv L) d=Q;unfold Cn0;exact(j7 (by kernel_rfl) (A0 ((A43 L Q Y s (E0 0 (D9 (Tv L) Q Y (cd [1,0,1,1,1] Cj3) (F0 (Tv L) ao3))) L s0 0 []).trans (by kernel_rfl)) rfl))
noncomputable def VU(L:Nat):Cfg:=B5 L [197] (A2 []) [(219,Dp9)] (A2 [(6,[2,0]),(5,[2,0]),(4,[2,2,15]),(3,[2,2,0]),(2,[0,1,1,8]),(1,[0,1,1]),(0,[0,1])]) [] (A2 []) (some [2,0]) [] [] []
noncomputable def Bs7{R:Type}(L:Nat)(b:By)(l:Int->Int->Int->Int->Int->Int->Int->Int->Int->Int->Int->LL->Option R)(m:Unit->Option R):Option R:=vl (A1 ((b.length:Int)-1)) λa=>cond (inR a b.length) (cond ((bAt b a)==93) (cond (I6 1 a b.length) (cond (A3 (o0 (cut b 1 a))) (vl (↑(v6c 0 (cut b 1 a)):Int) λc=>vl (↑(v6c 1 (cut b 1 a)):Int) λd=>vl (↑(v6c 2 (cut b 1 a)):Int) λe=>vl (↑(v6c 3 (cut b 1 a)):Int) λf=>vl (↑(v6c 4 (cut b 1 a)):Int) λg=>vl (↑(v6c 5 (cut b 1 a)):Int) λh=>vl (↑(v6c 6 (cut b 1 a)):Int) λi=>vl (↑(v6c 7 (cut b 1 a)):Int) λj=>cond (ag8 (v6B (cut b 1 a))) (l 3 c d e f g h i j 0 3 [[(SV.int .u16 c)],[(SV.int .u16 d)],[(SV.int .u16 e)],[(SV.int .u16 f)],[(SV.int .u16 g)],[(SV.int .u16 h)],[(SV.int .u16 i)],[(SV.int .u16 j)]]) (l 0 0 0 0 0 0 0 0 0 14 0 [[(SV.int .u16 c)],[(SV.int .u16 d)],[(SV.int .u16 e)],[(SV.int .u16 f)],[(SV.int .u16 g)],[(SV.int .u16 h)],[(SV.int .u16 i)],[(SV.int .u16 j)]])) none) none) (m ())) none
theorem Cm8(d:Nat)(s0):evC (VU L) (d+1) Z Y 197 [pS s0] [] s=Bs7 L s0 (λl c e f g h i j r8 m b a=>some (.tup [.agg [pI l,pS ([]:List UInt8),p32 (0:Int),p16 c,p16 e,p16 f,p16 g,p16 h,p16 i,p16 j,p16 r8],pI m],[.box [pI b,pS ([]:List UInt8),p32 (0:Int),p16 c,p16 e,p16 f,p16 g,p16 h,p16 i,p16 j,p16 r8],.arr false 26 1 a],s)) (λ_=>some (.tup [.agg [pI (0:Int),pS ([]:List UInt8),p32 (0:Int),p16 (0:Int),p16 (0:Int),p16 (0:Int),p16 (0:Int),p16 (0:Int),p16 (0:Int),p16 (0:Int),p16 (0:Int)],pI (14:Int)],[.box [pI (0:Int),pS ([]:List UInt8),p32 (0:Int),p16 (0:Int),p16 (0:Int),p16 (0:Int),p16 (0:Int),p16 (0:Int),p16 (0:Int),p16 (0:Int),p16 (0:Int)]],s)):=by refine(evE (fn:=Tryz.f197) (by kernel_rfl)).trans ?_;generalize evC (VU L) d=Q;unfold Bs7;kernel_rfl
noncomputable def A00(L:Nat):Cfg:=B5 L [39] (A2 []) [(65,Cg6)] (A2 [(9,[2]),(4,[2]),(6,[2]),(8,[2]),(7,[1,31]),(5,[1,1,1,16]),(3,[1,1,1,0]),(2,[1,1,1]),(1,[1,1]),(0,[1])]) [65] (A2 [(0,[])]) (some [2]) [] [] []
noncomputable def Ok{R:Type}(L:Nat)(c:Int)(b:By)(d e f g h i j l a:Int)(m:Bool->Int->By->Int->Int->Int->Int->Int->Int->Int->Int->Int->LL->Option R):Option R:=cond (c==1) (cond (A3 b.length) (cond (T7 b) (cond (d==0) (m ((e==0)&&((f==0)&&((g==0)&&((h==0)&&((i==0)&&((j==0)&&((l==0)&&((a==0)&&true)))))))) c b d e f g h i j l a (b9 8 [(SV.int .u16 (0:Int))])) (m false c b d e f g h i j l a (b9 8 [(SV.int .u16 (0:Int))]))) (m false c b d e f g h i j l a (b9 8 [(SV.int .u16 (0:Int))]))) none) (cond (c==2) (cond (b==[]) (m ((e==0)&&((f==0)&&((g==0)&&((h==0)&&((i==0)&&((j==0)&&((l==0)&&((a==0)&&true)))))))) c b d e f g h i j l a (b9 8 [(SV.int .u16 (0:Int))])) (m false c b d e f g h i j l a (b9 8 [(SV.int .u16 (0:Int))]))) (cond (c==3) (cond (b==[]) (m (d==0) c b d e f g h i j l a (b9 8 [(SV.int .u16 (0:Int))])) (m false c b d e f g h i j l a (b9 8 [(SV.int .u16 (0:Int))]))) (m false c b d e f g h i j l a (b9 8 [(SV.int .u16 (0:Int))]))))
theorem Da7(d:Nat)(h0 h1 h2 h3 h4 h5 h6 h7 h8 h9 h10):evC (A00 L) (d+1) Z Y 39 [.agg [pI h0,pS h1,p32 h2,p16 h3,p16 h4,p16 h5,p16 h6,p16 h7,p16 h8,p16 h9,p16 h10]] [] s=Ok L h0 h1 h2 h3 h4 h5 h6 h7 h8 h9 h10 (λn f o g h i j l e m b c a=>some (pB n,[.box [pI f,pS o,p32 g,p16 h,p16 i,p16 j,p16 l,p16 e,p16 m,p16 b,p16 c],.arr false 26 1 a],s)):=by refine(evE (fn:=Tryz.f39) (by kernel_rfl)).trans ?_;generalize evC (A00 L) d=Q;unfold Ok;kernel_rfl
noncomputable def Az7(L:Nat):Cfg:=B5 L [122] (A2 []) [(39,TA),(167,Dp5),(168,Dp7)] (A2 [(7,[2]),(2,[2]),(4,[2]),(6,[2]),(5,[1,11]),(3,[1,5]),(1,[1,1]),(0,[1])]) [39,167,168] (A2 [(0,[1])]) (some [2]) [] [] []
noncomputable def Da2{R:Type}(L:Nat)(j:Int)(l:By)(b c d e f g h i a:Int)(o:By->Int->By->Int->Int->Int->Int->Int->Int->Int->Int->Int->Option R):Option R:=cond (A3 l.length) (cond (ltN b 4294967296) (cond (ok8 c d e f g h i a) (cond (not (M0 (mkH j l b (n8 c d e f g h i a)))) (o ([]:List UInt8) j l b c d e f g h i a) (cond (j==1) (o l j l b c d e f g h i a) (cond (j==2) (cond (ltN b 4294967296) (o (Ii (j5 b)) j l b c d e f g h i a) none) (cond (ok8 c d e f g h i a) (vl (Oi (n8 c d e f g h i a)) λm=>cond (E7 1 m.length) (vl (([91]:List UInt8)++m) λn=>cond (E7 n.length 1) (vl (n++[93]) λp=>o p j l b c d e f g h i a) none) none) none)))) none) none) none
theorem Da3(d:Nat)(h0 h1 h2 h3 h4 h5 h6 h7 h8 h9 h10):evC (Az7 L) (d+1) Z Y 122 [.agg [pI h0,pS h1,p32 h2,p16 h3,p16 h4,p16 h5,p16 h6,p16 h7,p16 h8,p16 h9,p16 h10]] [] s=Da2 L h0 h1 h2 h3 h4 h5 h6 h7 h8 h9 h10 (λm e n f g h i j c l a b=>some (pS m,[.box [pI e,pS n,p32 f,p16 g,p16 h,p16 i,p16 j,p16 c,p16 l,p16 a,p16 b]],s)):=by refine(evE (fn:=Tryz.f122) (by kernel_rfl)).trans ?_;generalize evC (Az7 L) d=Q;unfold Da2;kernel_rfl
noncomputable def Az5(L:Nat):Cfg:=B5 L [170] (A2 []) [(65,Cg6),(207,Cg5)] (A2 [(1,[4]),(0,[0,0])]) [65,207] (A2 []) (some [4]) [] [] []
noncomputable def C94{R:Type}(L:Nat)(a b:By)(c:Bool->Option R):Option R:=cond (A3 a.length) (cond (T7 a) (cond (A3 b.length) (cond (T7 b) (cond (a==b) (c true) (cond (E7 1 a.length) (vl (([46]:List UInt8)++a) λd=>cond (A3 b.length) (c (List.isSuffixOf d b)) none) none)) (c false)) none) (c false)) none
theorem C95(d:Nat)(super0 name1):evC (Az5 L) (d+1) Z Y 170 [pS super0,pS name1] [] s=C94 L super0 name1 (λa=>some (pB a,[],s)):=by refine(evE (fn:=Tryz.f170) (by kernel_rfl)).trans ?_;generalize evC (Az5 L) d=Q;unfold C94;kernel_rfl
end
section
variable {Z R : Type} (L : Nat) (Y : F8) (Q : Yh Z) (s : Z) (k : Out -> St Z -> Option R)
noncomputable def A05(L:Nat):Cfg:=B5 L [238] (A2 []) [] (A2 [(2,[2]),(1,[1,1]),(0,[1])]) [] (A2 []) (some [2]) [] [] []
noncomputable def Du3{R:Type}(L:Nat)(b:Int)(a:Int->Option R):Option R:=a b
theorem De6(d:Nat)(b):evC (A05 L) (d+1) Z Q 238 [pI b] [] s=Du3 L b (λn0=>some (.fnr (Fn.func 253) [] [.ptr 1 0 0,.ptr 0 0 0],[.box [pI n0],.box [pI (0:Int)]],s)):=by refine(evE (fn:=Tryz.f238) (by kernel_rfl)).trans ?_;generalize evC (A05 L) d=Y;unfold Du3;kernel_rfl
noncomputable def WF(L:Nat):Cfg:=B5 L [253] (A2 []) [] (A2 [(2,[2]),(1,[0,0]),(0,[0,0])]) [] (A2 []) (some [2]) [] [] []
noncomputable def Bv4{R:Type}(L:Nat)(k b:Int)(d:Int->Int->Int->Option R):Option R:=vl (A1 ((A1 (k+36))-b)) λa=>vl (if ((26:Int)<(if ((1:Int) > a) then (1:Int) else a)) then (26:Int) else (if ((1:Int) > a) then (1:Int) else a)) λc=>d c (A1 (k+36)) b
theorem Cr4(d:Nat)(k b):evC (WF L) (d+1) Z Q 253 [.ptr 0 0 0,.ptr 1 0 0] [.box [pI k],.box [pI b]] s=Bv4 L k b (λe a c=>some (pI e,[.box [pI a],.box [pI c]],s)):=by refine(evE (fn:=Tryz.f253) (by kernel_rfl)).trans ?_;generalize evC (WF L) d=Y;unfold Bv4;kernel_rfl
noncomputable abbrev Ds1:Code:=C3 ao5
noncomputable def AZ(L:Nat):Cfg:=B5 L [214] (A2 [(2,[0,0,4,0])]) [(238,HO),(239,Aw1)] (A2 [(6,[0,0,5]),(5,[0,0,5,0]),(4,[6]),(3,[0,0,5,0,6]),(2,[0,0,5,0]),(1,[0,0,5]),(0,[0,0,0])]) [239] (A2 [(0,[6]),(1,[0,0,5])]) (some [6]) [(253,Qt)] [] [253]
noncomputable def Iy{R:Type}(L n:Nat)(f:Int)(p:Bool)(g:LL)(a b:Int)(o:Bool->LL->Int->Int->Option R):Option R:=match n with|0=>none|n+1=>cond (ltN b 1000000000000) (cond (ltN a 1000000) (cond (ltI f (L1 b a)) (cond (ltN f 36) (vl (↑(aq7 (Am (j5 f))):Int) λh=>cond (F9 (g.length+1)) (o p (g++[[(SV.int .u8 h)]]) a (ae2 b (36:Int))) none) none) (vl (A1 (f-(L1 b a))) λi=>vl (A1 ((36:Int)-(L1 b a))) λc=>cond (c !=0) (vl (A1 ((L1 b a)+(af1 i c))) λd=>cond (ltN d 36) (vl (↑(aq7 (Am (j5 d))):Int) λj=>cond (F9 (g.length+1)) (vl (A1 (f-(L1 b a))) λl=>vl (A1 ((36:Int)-(L1 b a))) λe=>cond (e !=0) (vl (A1 (ac6 l e)) λm=>Iy L n m p (g++[[(SV.int .u8 j)]]) a (ae2 b (36:Int)) o) none) none) none) none)) none) none
theorem A78(n q0 z1 l2 a n4):C7 3 ((AZ L).keep 2) (bd (AZ L) Y Q (cd [1,1,0,0] Ds1)) n ⟨gp [(0,.fl 0),(0,pI q0),(5,.fnr (Fn.func 253) [] [.ptr 2 0 0,.ptr 1 0 0])] 31,[.arr z1 5 1 l2,.box [pI a],.box [pI n4]],s⟩ k =
 Iy L n q0 z1 l2 a n4 (λe c d a=>k .ret ⟨gp [(6,.fl 0)] 32,[.arr e 5 1 c,.box [pI d],.box [pI a]],s⟩):=by
 induction n generalizing q0 z1 l2 a n4 with
 | zero=>rfl
 | succ n b=>rw[Iy];simp only[<-b];kernel_rfl
noncomputable def Du1{R:Type}(L:Nat)(q b:Int)(z:Bool)(l:LL)(f:Bool->LL->Int->Int->Option R):Option R:=Iy L L q z l b 0 (λe a c d=>f e a c d)
theorem Dd4(d:Nat)(q b z l):evC (AZ L) (d+1) Z Q 214 [.fl 0,pI q,pI b] [.arr z 5 1 l] s=Du1 L q b z l (λf a c e=>some (.fl 0,[.arr f 5 1 a,.box [pI c],.box [pI e]],s)):=by refine(evE (fn:=ao5) (by kernel_rfl)).trans ?_;generalize evC (AZ L) d=Y;unfold Du1;exact(j7 (by kernel_rfl) ((A78 L Y Q s (E0 0 (F0 (AZ L) ao5)) L q z l b 0).trans (by kernel_rfl)))
noncomputable abbrev Eu:Code:=C3 al6
noncomputable def Q5(L:Nat):Cfg:=B5 L [181] (A2 [(29,[0,1,0,0,2,0,0,0,0,61,0,0]),(21,[0,1,0,0,2,0,0,0,0,0,38,0,0]),(17,[0,1,0,0,2,0,0,0,0]),(5,[0,1,0,0,15,0,0])]) [(213,Ov),(215,Ou)] (A2 [(40,[2,0]),(18,[0,3,2,0,0,0,0]),(39,[0,3,2,0,0,0,0]),(38,[0,3,2,0,0,0,0,61,0,0]),(32,[0,3,2,0,0,0,0,61,0,0]),(37,[0,3,2,0,0,0,0,61,0,0]),(36,[0,3,2,0,0,0,0,61,0,0]),(35,[0,3,2,0,1,0,61,0,0]),(34,[0,3,2,0,0,1,61,0,0]),(33,[0,3,2,0,0,0,0,61,0,0,9]),(31,[0,3,2,0,0,0,0,4,56,0,0,3]),(30,[0,3,2,0,0,0,0,4,56,0,0]),(29,[0,3,2,0,0,0,0,61,0,0,0]),(28,[0,3,2,0,0,0,0,61,0,0]),(27,[0,3,2,0,0,0,0]),(26,[0,3,2,1,0,0,0]),(25,[0,3,2,0,0,0,0,0,38,0,0]),(24,[0,3,2,0,0,0,0,0,38,0,0]),(23,[0,3,2,0,0,0,0,0,1,36,0,0,5]),(22,[0,3,2,0,0,0,0,0,1,36,0,0]),(21,[0,3,2,0,0,0,0,0,38,0,0,0]),(20,[0,3,2,0,0,0,0,0,38,0,0]),(19,[0,3,2,0,0,0,0,0]),(17,[0,3,2,0,0,0,0,36]),(16,[0,3,2,0,0,0,0]),(15,[0,3,2,0,0,0]),(14,[0,3,2]),(13,[0,3,2,32]),(12,[0,3,2]),(11,[0,3,15,0,0]),(10,[0,3,15,0,0]),(9,[0,3,1,13,0,0,7]),(8,[2,0]),(7,[0,3,1,13,0,0,5]),(6,[0,3,1,13,0,0]),(5,[0,3,15,0,0,0]),(4,[0,3,15,0,0]),(3,[0,3]),(2,[2,0]),(1,[0,18]),(0,[0])]) [213,215] (A2 [(2,[4]),(3,[0,3,2,0,0,0,0]),(6,[0,3,2,0,0,0,0]),(7,[0,3,2,0,0,0,0,61,0,0]),(8,[0,3,2,0,0,0,0,61,0,0]),(4,[0,3,2,0,0,0,0,0]),(5,[0,3,2,0,0,0,0,0,38,0,0]),(0,[0,3]),(1,[0,3,15,0,0])]) (some [2,0]) [(214,TQ)] [] [214]
noncomputable def U6{R:Type}(L n:Nat)(c b:Bool)(a:LL)(i e:Int)(f:LL)(g:LL->Option R)(h:Bool->Bool->LL->LL->Option R):Option R:=match n with|0=>none|n+1=>cond (ltI e i) (cond (inR e a.length) (cond (okE Lm a (j5 e) 0) (vl (gE a (j5 e) 0) λd=>cond (not (ptI d)) (g f) (cond (ltI d 128) (cond (F9 (f.length+1)) (U6 L n c b a i (A1 (e+1)) (f++[[(SV.int .u8 (wu8 d))]]) g h) none) (U6 L n c b a i (A1 (e+1)) f g h))) none) none) (h c b a f)
theorem A87(n b a c n3 n4 l5):C7 1 ((Q5 L).keep 5) (bd (Q5 L) Y Q (cd [1,1,1,0,1,0,0] Eu)) n ⟨gp [(0,.s (.sl b a 1 c)),(3,.fl 0),(15,.s (.sl b a 1 c)),(0,pI n3),(0,pI n4)] 84,[.arr true 5 1 l5],s⟩ k =
 U6 L n b a c n3 n4 l5 (λe=>k .ret ⟨gp [(2,pS ([]:List UInt8)),(0,pI (2:Int))] 103,[.arr true 5 1 e],s⟩) (λb a c f=>k (.exit 0) ⟨gp [(0,.s (.sl b a 1 c)),(3,.fl 0)] 102,[.arr true 5 1 f],s⟩):=by
 induction n generalizing b a c n3 n4 l5 with
 | zero=>rfl
 | succ n d=>rw[U6];simp only[<-d];kernel_rfl
noncomputable def Jb{R:Type}(L n:Nat)(c b:Bool)(a:LL)(d o e f g m q h:Int)(i:LL)(p:Bool->Bool->LL->Int->Int->Int->Int->Int->Int->LL->Option R):Option R:=match n with|0=>none|n+1=>cond (ltI h q) (cond (inR h a.length) (cond (okE Lm a (j5 h) 0) (vl (gE a (j5 h) 0) λj=>cond (not (ltI j o)) (vl (if (j<m) then j else m) λl=>Jb L n c b a d o e f g l q (A1 (h+1)) i p) (Jb L n c b a d o e f g m q (A1 (h+1)) i p)) none) none) (p c b a d o e f g m i)
theorem A88(n b a c d i e f g h n9 n10 l11):C7 1 ((Q5 L).keep 21) (bd (Q5 L) Y Q (cd [1,1,1,1,1,1,1,0,1,0,0,1,0,0,1,0,1,0,0] Eu)) n ⟨gp [(0,.s (.sl b a 1 c)),(3,.fl 0),(2,pI d),(0,pI i),(0,pI e),(0,pI f),(0,pI g),(0,pI h),(38,.s (.sl b a 1 c)),(0,pI n9),(0,pI n10)] 53,[.arr true 5 1 l11],s⟩ k =
 Jb L n b a c d i e f g h n9 n10 l11 (λb a c d i e f g h l=>k (.exit 4) ⟨gp [(0,.s (.sl b a 1 c)),(3,.fl 0),(2,pI d),(0,pI i),(0,pI e),(0,pI f),(0,pI g),(0,pI h)] 94,[.arr true 5 1 l],s⟩):=by
 induction n generalizing b a c d i e f g h n9 n10 l11 with
 | zero=>rfl
 | succ n j=>rw[Jb];simp only[<-j];kernel_rfl
noncomputable def Cg{R:Type}(L n:Nat)(d c:Bool)(a:LL)(e m b g f i l:Int)(l10:LL)(t:Bool->Bool->LL->Int->Int->Int->Int->Int->LL->Option R):Option R:=match n with|0=>none|n+1=>cond (ltI l i) (cond (inR l a.length) (cond (okE Lm a (j5 l) 0) (vl (gE a (j5 l) 0) λj=>cond (ltI j m) (vl (A1 (b+1)) λp=>Cg L n d c a e m p g f i (A1 (l+1)) l10 t) (cond (j==m) (cond (ltN b 1152921504606846976) (cond (ltN g 1000000) (cond (x6 l10.length 100000) (vl (am0 l10 (ab7 E2 (P5 (j5 b) 0 (j5 g)))) λo=>vl (A1 (f+1)) λh=>cond (ltN b 1152921504606846976) (cond (ltN h 1000000) (cond (ltI 0 h) (vl (↑(Q4 (j5 b) (j5 h) (f==e)):Int) λq=>vl (A1 (f+1)) λr=>Cg L n d c a e m 0 q r i (A1 (l+1)) o t) none) none) none) none) none) none) (Cg L n d c a e m b g f i (A1 (l+1)) l10 t))) none) none) (t d c a e m b g f l10)
theorem A89(n b a c d h e f g n8v n9 l10):C7 1 ((Q5 L).keep 29) (bd (Q5 L) Y Q (cd [1,1,1,1,1,1,1,0,1,0,0,1,0,0,1,1,1,1,0,1,0,0] Eu)) n ⟨gp [(0,.s (.sl b a 1 c)),(3,.fl 0),(2,pI d),(0,pI h),(0,pI e),(0,pI f),(0,pI g),(61,.s (.sl b a 1 c)),(0,pI n8v),(0,pI n9)] 31,[.arr true 5 1 l10],s⟩ k =
 Cg L n b a c d h e f g n8v n9 l10 (λb a c d h e f g j=>k (.exit 6) ⟨gp [(0,.s (.sl b a 1 c)),(3,.fl 0),(2,pI d),(0,pI h),(0,pI e),(0,pI f),(0,pI g)] 95,[.arr true 5 1 j],s⟩):=by
 induction n generalizing b a c d h e f g n8v n9 l10 with
 | zero=>rfl
 | succ n i=>rw[Cg];simp only[<-i];kernel_rfl
noncomputable def Fm{R:Type}(L n:Nat)(j i:Bool)(b:LL)(v K w y u:Int)(J:LL)(I:LL->Option R):Option R:=match n with|0=>none|n+1=>cond (ltI u (b.length:Int)) (Jb L L j i b v K w y u 1114112 (b.length:Int) 0 J (λe c a l B o q g x z=>vl (A1 (g+1)) λC=>vl (A1 ((A1 (x-B))*C)) λD=>Cg L L e c a l x (A1 (o+D)) q g (a.length:Int) 0 z (λf d h m F p r t A=>vl (A1 (p+1)) λG=>vl (A1 (F+1)) λH=>Fm L n f d h m H G r t A I))) (I J)
theorem MD(n points_z0 points_t1 points2 basic3 n4 delta5 bias6 done7 l8):C7 1 ((Q5 L).keep 17) (bd (Q5 L) Y Q (cd [1,1,1,1,1,1,1,0,1,0,0] Eu)) n ⟨gp [(0,.s (.sl points_z0 points_t1 1 points2)),(3,.fl 0),(2,pI basic3),(0,pI n4),(0,pI delta5),(0,pI bias6),(0,pI done7)] 95,[.arr true 5 1 l8],s⟩ k =
 Fm L n points_z0 points_t1 points2 basic3 n4 delta5 bias6 done7 l8 (λB=>k (.exit 2) ⟨gp [(4,.fl 0)] 102,[.arr true 5 1 B],s⟩):=by
 induction n generalizing points_z0 points_t1 points2 basic3 n4 delta5 bias6 done7 l8 with
 | zero=>rfl
 | succ n A=>rw[Fm];exact(j7 (by kernel_rfl) (A0 ((A88 L Y Q s (E0 4 (D9 (Q5 L) Y Q (cd [1,1,1,1,1,1,1,0,1,0,0,1,0,0,1,1] Eu) (E0 3 (D9 (Q5 L) Y Q (cd [1,1,1,1,1,1,1,0,1,0,0,1,1] Eu) (lpK 1 ((Q5 L).keep 17) (bd (Q5 L) Y Q (cd [1,1,1,1,1,1,1,0,1,0,0] Eu)) n k))))) L points_z0 points_t1 points2 basic3 n4 delta5 bias6 done7 1114112 (points2.length:Int) 0 l8).trans (congr rfl (C90 λd b a g x i j m t q=>(j7 (by kernel_rfl) (A4 λy=>(A4 λu=>((A89 L Y Q s (E0 6 (D9 (Q5 L) Y Q (cd [1,1,1,1,1,1,1,0,1,0,0,1,0,0,1,1,1,1,1] Eu) (E0 3 (D9 (Q5 L) Y Q (cd [1,1,1,1,1,1,1,0,1,0,0,1,1] Eu) (lpK 1 ((Q5 L).keep 17) (bd (Q5 L) Y Q (cd [1,1,1,1,1,1,1,0,1,0,0] Eu)) n k))))) L d b a g t (A1 (i+u)) j m (a.length:Int) 0 q).trans (congr rfl (fx9 λe c f h z p l o r=>(j7 (by kernel_rfl) (A4 λv=>(A4 λw=>(A e c f h w v l o r))))))))))))) rfl))
noncomputable def Ak3{R:Type}(L:Nat)(l j:Bool)(p:LL)(m:Unit->Option R)(h:By->Int->LL->Option R):Option R:=cond (ltI 256 (p.length:Int)) (m ()) (U6 L L l j p (p.length:Int) 0 [] (λi=>h ([]:List UInt8) 2 i) (λb a c g=>vl (g.length:Int) λf=>cond (ltI 0 f) (cond (F9 (g.length+1)) (Fm L L b a c f 128 0 72 f (g++[[(SV.int .u8 (45:Int))]]) (λd=>cond (af9 d Ol) (h (ab7 Mg d) 0 d) none)) none) (Fm L L b a c f 128 0 72 f g (λe=>cond (af9 e Ol) (h (ab7 Mg e) 0 e) none))))
theorem Dd9(d:Nat)(p_z p_t p):evC (Q5 L) (d+1) Z Q 181 [.s (.sl p_z p_t 1 p)] [] s=Ak3 L p_z p_t p (λ_=>some (.tup [pS ([]:List UInt8),pI (3:Int)],[],s)) (λi j h=>some (.tup [pS i,pI j],[.arr true 5 1 h],s)):=by refine(evE (fn:=al6) (by kernel_rfl)).trans ?_;generalize evC (Q5 L) d=Y;unfold Ak3;exact let g:=(E0 2 (D9 (Q5 L) Y Q (cd [1,1,1,1,1,1,1,1] Eu) (F0 (Q5 L) al6)));(j7 (by kernel_rfl) (A0 rfl ((A87 L Y Q s (E0 0 (D9 (Q5 L) Y Q (cd [1,1,1,1] Eu) (F0 (Q5 L) al6))) L p_z p_t p (p.length:Int) 0 []).trans (congr (congr rfl (by kernel_rfl)) (fx4 λb a c f=>(j7 (by kernel_rfl) (A4 λe=>(A0 (A0 ((MD L Y Q s g L b a c e 128 0 72 e (f++[[(SV.int .u8 (45:Int))]])).trans (by kernel_rfl)) rfl) ((MD L Y Q s g L b a c e 128 0 72 e f).trans (by kernel_rfl))))))))))
end
theorem Zd(k b:Nat):L1 ((36*k:Nat):Int) (b:Int)=(thr k b:Int):=by unfold L1 thr;omega
theorem B66{R:Type}{a:Int->Option R}(b:Int):Du3 LF b a=a b:=rfl
theorem A92{R:Type}{a:Int->Int->Int->Option R}(k b:Int)(e:ltN k 1000000000000=true)(f:ltN b 1000000=true):Bv4 LF k b a=a (L1 k b) (ae2 k 36) b:=by
 obtain⟨g,h⟩:=E5.1 e;obtain⟨i,j⟩:=E5.1 f;unfold Bv4;have c:A1 (k+36)=k+36:=A7;have d:A1 (k+36-b)=k+36-b:=A7;simp only[vl,c,d];have:(if (26:Int)<(if (1:Int) > k+36-b then (1:Int) else k+36-b) then (26:Int) else (if (1:Int) > k+36-b then (1:Int) else k+36-b))=L1 k b:=by
  unfold L1;omega
 grind
theorem Rf{q k b:Nat}(h:q<thr k b):P5 q k b=[Am q]:=by rw[P5,dif_pos h]
theorem BH{q k b:Nat}(h:¬q<thr k b):P5 q k b=Am (thr k b+(q-thr k b) % (36-thr k b))::P5 ((q-thr k b) / (36-thr k b)) (k+1) b:=by rw[P5,dif_neg h]
theorem XA{x y m:Nat}(a:10<=y)(h:x<10*m):x / y<m:=by have b:x / y<=x / 10:=Nat.div_le_div_left a (by omega);omega
theorem A26(b:Nat):∀(r q k:Nat),q<10 ^ r->(P5 q k b).length<=r+1:=by
 intro r
 induction r with
 | zero=>
  intro q k h;have c:=V8 k b;rw[Rf (by simp at h;omega)];simp
 | succ r d=>
  intro q k h;have c:=V8 k b;by_cases a:q<thr k b
  ·rw[Rf a];simp
  ·rw[BH a,k9];have:=d ((q-thr k b) / (36-thr k b)) (k+1) (XA (by omega) (by rw[ae7] at h;omega));omega
theorem B53(z:Bool)(b:Nat)(K:b<1000000):∀(r q k n:Nat) (l:LL),q<10 ^ r->q<1152921504606846976->k+r<=1000->r<n->l.length+r<=200000->
  ∃(d f:Int),∀(R:Type) (a:Bool->LL->Int->Int->Option R),Iy LF n (q:Int) z l (b:Int) ((36*k:Nat):Int) a=a z (l++(P5 q k b).map E2) d f:=by
 have c:∀(q k n:Nat) (l:LL),q<thr k b->k<=1000->l.length<=200000->∃(d f:Int),∀(R:Type) (a:Bool->LL->Int->Int->Option R),Iy LF (n+1) (q:Int) z l (b:Int) ((36*k:Nat):Int) a=a z (l++(P5 q k b).map E2) d f:=by
  intro q k n l g i j;have p:=V8 k b;refine⟨(b:Int),ae2 ((36*k:Nat):Int) 36,λR a=>?_⟩;rw[Iy];rw[L7,L7,Zd,A8,L7,Rf g];simp only[vl,cond_true,c9];rw[F4 (by omega)];rfl
 intro r
 induction r with
 | zero=>
  intro q k n l h _ i H j;have p:=V8 k b;obtain⟨n,rfl⟩:∃m,n=m+1:=⟨n-1,by omega⟩
  exact c q k n l (by simp at h;omega) (by omega) (by omega)
 | succ r I=>
  intro q k n l h o i H j;have p:=V8 k b;obtain⟨n,rfl⟩:∃m,n=m+1:=⟨n-1,by omega⟩
  by_cases g:q<thr k b
  ·exact c q k n l g (by omega) (by omega)
  ·have D:(q-thr k b) / (36-thr k b)<10 ^ r:=XA (by omega) (by rw[ae7] at h;omega);have F:(q-thr k b) / (36-thr k b)<=q:=ak7 (ae4 _ _) (by omega);have G:(q-thr k b) % (36-thr k b)<36-thr k b:=am7 _ (by omega);obtain⟨d,f,e⟩:=I ((q-thr k b) / (36-thr k b)) (k+1) n (l++[E2 (Am (thr k b+(q-thr k b) % (36-thr k b)))]) D (by omega) (by omega) (by omega) (by rw[x8,List.length_singleton];omega);refine⟨d,f,λR a=>?_⟩;rw[Iy];have t:A1 ((q:Int)-(thr k b:Int))=((q-thr k b:Nat):Int):=by rw[A7];omega
   have u:A1 ((36:Int)-(thr k b:Int))=((36-thr k b:Nat):Int):=by rw[A7];omega
   have v:af1 ((q-thr k b:Nat):Int) ((36-thr k b:Nat):Int)=(((q-thr k b) % (36-thr k b):Nat):Int):=Cl _ _;have w:ac6 ((q-thr k b:Nat):Int) ((36-thr k b:Nat):Int)=(((q-thr k b) / (36-thr k b):Nat):Int):=L8 _ _;have C:((((36-thr k b:Nat):Int))!=0)=true:=by rw[bne_iff_ne];omega
   rw[L7,L7,Zd,A6];simp only[vl,t,u,v,w,C,cond_true,cond_false];rw[BH g];generalize hA:(q-thr k b) / (36-thr k b)=A at *;generalize J:(q-thr k b) % (36-thr k b)=B at *;have x:A1 ((thr k b:Int)+(B:Int))=((thr k b+B:Nat):Int):=by rw[A7];rfl
   have y:A1 (A:Int)=(A:Int):=A7;rw[x,y,L7,F4 (by omega),c9,show ae2 ((36*k:Nat):Int) 36=((36*(k+1):Nat):Int) from(by show((36*k:Nat):Int)+36=_;omega)];refine j7 (e R a) ?_;simp[p9]
theorem B54(q b:Int)(z:Bool)(l:LL)(h:ltN q 1152921504606846976=true)(i:ltN b 1000000=true)(j:x6 l.length 100000=true) :
  ∃(c d:Int),∀(R:Type) (a:Bool->LL->Int->Int->Option R),Du1 LF q b z l a=a z (am0 l ((P5 q.toNat 0 b.toNat).map E2)) c d:=by
 obtain⟨f,m⟩:=E5.1 h;obtain⟨g,n⟩:=E5.1 i;obtain⟨q,rfl⟩:=j8 f;obtain⟨b,rfl⟩:=j8 g;have o:=ab8 j;have k:=C2;obtain⟨c,d,e⟩:=B53 z b (by omega) 19 q 0 LF l (by omega) (by omega) (by omega) (by omega) (by omega);exact⟨c,d,λR a=>e R _⟩
def Az(l:List Int):LL:=l.map λx=>[SV.int .i64 x]
def B6(l:List Nat):LL:=l.map λx:Nat=>[SV.int .i64 (x:Int)]
theorem Rj(l:List Nat):Az (l.map λn:Nat=>(n:Int))=B6 l:=by simp[Az,B6,ag2]
theorem V0(l:List Int):(Az l).length=l.length:=by simp[Az]
theorem D4(l:List Nat):(B6 l).length=l.length:=by simp[B6]
theorem Ky(a b:List Nat):B6 (a++b)=B6 a++B6 b:=by simp[B6]
theorem YD{l:List Int}{i:Nat}(h:i<l.length):okE Lm (Az l) i 0=true:=by unfold okE Az Lm;simp[a8,h,okS,SV.has]
theorem A33(l:List Int)(i:Nat)(h:i<l.length):gE (Az l) i 0=l.getD i 0:=by unfold gE gC Az;simp[a8,j4 h,SV.gI]
theorem Rl{l:List Nat}{i:Nat}(h:i<l.length):okE Lm (B6 l) i 0=true:=by rw[<-Rj];exact YD (by simpa using h)
theorem BM(l:List Nat)(i:Nat)(h:i<l.length):gE (B6 l) i 0=(l.getD i 0:Int):=by rw[<-Rj,A33 _ _ (by simpa using h)];grind
theorem Bt1{l:LL}(h:l.all Od=true):∃P:List Int,l=Az P:=by
 induction l with
 | nil=>exact⟨[],rfl⟩
 | cons x r b=>
  simp only[ac5,o8] at h;obtain⟨P,rfl⟩:=b h.2;have a:=h.1;unfold Od at a;split at a
  ·rename_i n;exact⟨n::P,rfl⟩
  ·cases a
theorem Ag0(P:List Int):(Az P).map elI=P:=by
 unfold Az;rw[ae6]
 conv=>rhs;rw[<-ah8 P]
 apply ab4;intro x _;simp[elI,SV.gI]
theorem Af8(l:List Int)(i:Nat)(h:i<l.length):l.drop i=l.getD i 0::l.drop (i+1):=by simp_all
theorem Wo(l:List Nat)(i:Nat)(h:i<l.length):l.drop i=l.getD i 0::l.drop (i+1):=by simp_all
theorem C56:∀(r d k:Nat),d<456*35 ^ r->AQ d k<=k+36*r+36:=by
 intro r
 induction r with
 | zero=>
  intro d k h;rw[Tj (by simp at h;omega)];have:36*d / (d+38)<=36:=by
   apply Nat.div_le_of_le_mul;omega
  omega
 | succ r b=>
  intro d k h;by_cases a:455<d
  ·rw[JB a];grind
  grind
theorem Pa(d c:Nat)(f:Bool)(h:d<1152921504606846976):Q4 d c f<=500:=by
 unfold Q4;have a:∀x:Nat,x<=d->AQ (x+x / c) 0<=500:=by
  intro x a;have:=ae4 x c;have:=C56 11 (x+x / c) 0 (by omega);omega
 grind
theorem PX{q k b:Nat}(h:q<1152921504606846976):(P5 q k b).length<=20:=A26 b 19 q k (by omega)
theorem Bv2(z t:Bool)(c:List Nat)(a m:Nat)(Q:m<=1114112)(P:c.length<=256):∀(r i n:Nat) (s:SE),i+r=c.length->r<n->s.delta+r<=1000000000000->s.bias<=500->s.out.length+20*r<=90000->s.done+r<=1000->a<=256->
  (∀(R:Type) (d:Bool->Bool->LL->Int->Int->Int->Int->Int->LL->Option R),Cg LF n z t (B6 c) (a:Int) (m:Int) (s.delta:Int) (s.bias:Int) (s.done:Int) (c.length:Int) (i:Int) (s.out.map E2) d =
   d z t (B6 c) (a:Int) (m:Int) ((I3 m a (c.drop i) s).delta:Int) ((I3 m a (c.drop i) s).bias:Int) ((I3 m a (c.drop i) s).done:Int) ((I3 m a (c.drop i) s).out.map E2))/\
  (I3 m a (c.drop i) s).bias<=500/\(I3 m a (c.drop i) s).out.length<=s.out.length+20*(c.drop i).countP (· == m)/\(I3 m a (c.drop i) s).done=s.done+(c.drop i).countP (· == m)/\
  (I3 m a (c.drop i) s).delta<=(if 0<(c.drop i).countP (· == m) then r else s.delta+r):=by
 intro r
 induction r with
 | zero=>
  intro i n s N O K x L M y;obtain⟨n,rfl⟩:∃m,n=m+1:=⟨n-1,by omega⟩
  rw[j1 (by omega)];refine⟨λR d=>?_,x,by simp[I3],by simp[I3],by simp[I3]⟩;rw[Cg];rw[A6];rfl
 | succ r F=>
  intro i n s N O K x L M y;obtain⟨n,rfl⟩:∃m,n=m+1:=⟨n-1,by omega⟩
  rw[Wo c i (by omega)];have C:=BM c i (by omega);have ok:=Rl (l:=c) (i:=i) (by omega);generalize c.getD i 0=p at *;have A:A1 ((i:Int)+1)=((i+1:Nat):Int):=by rw[A7];rfl
  have I:A1 ((s.delta:Int)+1)=((s.delta+1:Nat):Int):=by rw[A7];rfl
  have J:A1 ((s.done:Int)+1)=((s.done+1:Nat):Int):=by rw[A7];rfl
  by_cases D:p<m
  ·have e:(p==m)=false:=by rw[beq_eq_false_iff_ne];omega
   have j:I3 m a (p::c.drop (i+1)) s=I3 m a (c.drop (i+1)) { s with delta:=s.delta+1 }:=by rw[I3,if_pos D]
   obtain⟨o,u,v,w,f⟩:=F (i+1) n { s with delta:=s.delta+1 } (by omega) (by omega) (by simp only;omega) x (by simp only;omega) (by simp only;omega) y;rw[j,ah0 (by rw[e];simp)];refine⟨λR d=>?_,u,v,w,?_⟩
   ·rw[Cg];rw[A8,D4,E9,c9,ok];simp only[cond_true,vl,C,A,I];rw[A8,cond_true];exact o R d
   ·simp only at f;split at f<;>split<;>omega
  ·by_cases H:p=m
   ·subst H;have G:=PX (q:=s.delta) (k:=0) (b:=s.bias) (by omega);have B:=Pa s.delta (s.done+1) (s.done==a) (by omega);have j:I3 p a (p::c.drop (i+1)) s=I3 p a (c.drop (i+1)) { delta:=0,bias:=Q4 s.delta (s.done+1) (s.done==a),done:=s.done+1,out:=s.out++P5 s.delta 0 s.bias }:=by rw[I3,if_neg D,if_pos rfl]
    obtain⟨o,u,v,w,f⟩:=F (i+1) n { delta:=0,bias:=Q4 s.delta (s.done+1) (s.done==a),done:=s.done+1,out:=s.out++P5 s.delta 0 s.bias } (by omega) (by omega) (by simp only;omega) B (by simp only[x8];omega) (by simp only;omega) y;rw[j,List.countP_cons_of_pos (by simp)];refine⟨λR d=>?_,u,?_,?_,?_⟩
    ·rw[Cg];have g:((s.done:Int)==(a:Int))=(s.done==a):=by grind
     rw[A8,D4,E9,c9,ok];simp only[cond_true,vl,C,A,J];rw[A6,cond_false,beq_self_eq_true,cond_true,L7,L7,o9,aa5 (show s.out.length<=100000 by omega),L7,A8,g];simp only[cond_true,c9];have h:am0 (s.out.map E2) ((P5 s.delta 0 s.bias).map E2)=(s.out++P5 s.delta 0 s.bias).map E2:=by rw[af4];rfl
     rw[h];exact o R d
    ·simp only[x8] at v;omega
    ·simp only at w;omega
    ·simp only at f;rw[T5];split at f<;>omega
   ·have e:(p==m)=false:=by rw[beq_eq_false_iff_ne];omega
    have j:I3 m a (p::c.drop (i+1)) s=I3 m a (c.drop (i+1)) s:=by rw[I3,if_neg D,if_neg H]
    obtain⟨o,u,v,w,f⟩:=F (i+1) n s (by omega) (by omega) (by omega) x (by omega) (by omega) y;rw[j,ah0 (by rw[e];simp)];refine⟨λR d=>?_,u,v,w,?_⟩
    ·rw[Cg];rw[A8,D4,E9,c9,ok];simp only[cond_true,vl,C,A];rw[A6,cond_false,show((p:Int)==(m:Int))=false by rw[beq_eq_false_iff_ne];omega,cond_false];exact o R d
    ·split at f<;>split<;>omega
theorem A90{R:Type}{k0:Bool->Bool->LL->Int->Int->Int->Int->Int->Int->LL->Option R}(z t:Bool)(a:List Nat)(k:a.length<=256)(n0:Nat)(b delta c done:Int)(l:LL):∀(r i n m:Nat),i+r=a.length->r<n->
  Jb LF n z t (B6 a) b (n0:Int) delta c done (m:Int) (a.length:Int) (i:Int) l k0=k0 z t (B6 a) b (n0:Int) delta c done ((H8 n0 (a.drop i) m:Nat):Int) l:=by
 intro r
 induction r with
 | zero=>
  intro i n m g j;obtain⟨n,rfl⟩:∃m,n=m+1:=⟨n-1,by omega⟩
  rw[Jb];rw[A6,j1 (by omega)];rfl
 | succ r d=>
  intro i n m g j;obtain⟨n,rfl⟩:∃m,n=m+1:=⟨n-1,by omega⟩
  have f:=BM a i (by omega);have ok:=Rl (l:=a) (i:=i) (by omega);rw[Jb,Wo a i (by omega)];generalize a.getD i 0=p at *;have e:A1 ((i:Int)+1)=((i+1:Nat):Int):=by rw[A7];rfl
  rw[A8,D4,E9,c9,ok];simp only[cond_true,vl,f,e,H8];by_cases h:n0<=p
  ·rw[if_pos h,A6,b8,cond_true];have:(if (p:Int)<(m:Int) then (p:Int) else (m:Int))=((min m p:Nat):Int):=by split<;>omega
   rw[this];exact d (i+1) n (min m p) (by omega) (by omega)
  ·rw[if_neg h,A8,j0,cond_false];exact d (i+1) n m (by omega) (by omega)
theorem Ei(n:Nat):∀(l:List Nat) (m:Nat),(H8 n l m=m\/(H8 n l m∈l/\n<=H8 n l m))/\H8 n l m<=m/\∀p∈l,n<=p->H8 n l m<=p
 | [],m=>⟨.inl rfl,af3 _,λp h=>by cases h⟩
 | q::r,m=>by
  obtain⟨a,b,c⟩:=Ei n r (if n<=q then min m q else m);simp only[H8];grind
theorem Wi{n m:Nat}(a:n<=m):∀l:List Nat,(∀p∈l,n<=p->m<=p)->l.countP (λp=>decide (p<m+1))=l.countP (λp=>decide (p<n))+l.countP (· == m)
 | [],_=>rfl
 | p::l,h=>by
  have d:=Wi a l (λq b=>h q (List.mem_cons_of_mem _ b));have c:=h p List.mem_cons_self;grind
theorem A14{n:Nat}{l:List Nat}(h:l.countP (λp=>decide (p<n))<l.length):∃p∈l,n<=p:=by
 apply ae1;intro a;have:l.countP (λp=>decide (p<n))=l.length:=by simp_all
 omega
theorem Cr1(z t:Bool)(a:List Nat)(b:Nat)(x:a.length<=256)(N:b<=256)(g:∀p∈a,p<=1114111):∀(f n d:Nat) (s:SE),s.done=a.countP (λp=>decide (p<n))->a.length<=s.done+f->f<d->s.delta<=300->s.bias<=500->s.out.length+20*(a.length-s.done)<=80000->n<=1114112->
  ∀(R:Type) (k0:LL->Option R),Fm LF d z t (B6 a) (b:Int) (n:Int) (s.delta:Int) (s.bias:Int) (s.done:Int) (s.out.map E2) k0=k0 ((R1 a b f n s).out.map E2):=by
 intro f;have M:=C2
 induction f with
 | zero=>
  intro n d s P S T I v J L R k0;obtain⟨d,rfl⟩:∃m,d=m+1:=⟨d-1,by omega⟩
  rw[Fm];rw[D4,A6];rfl
 | succ f U=>
  intro n d s P S T I v J L R k0;obtain⟨d,rfl⟩:∃m,d=m+1:=⟨d-1,by omega⟩
  rw[Fm];rw[D4];have O:a.countP (λp=>decide (p<n))<=a.length:=aa4;by_cases j:s.done<a.length
  ·obtain⟨A,k,q⟩:=A14 (n:=n) (l:=a) (by omega);obtain⟨g1,g2,u⟩:=Ei n a 1114112;have g4:=u A k q;have g5:=g A k;have e:H8 n a 1114112∈a/\n<=H8 n a 1114112:=by grind
   have Q:R1 a b (f+1) n s=R1 a b f (H8 n a 1114112+1) { I3 (H8 n a 1114112) b a { s with delta:=s.delta+(H8 n a 1114112-n)*(s.done+1) } with delta:=(I3 (H8 n a 1114112) b a { s with delta:=s.delta+(H8 n a 1114112-n)*(s.done+1) }).delta+1 }:=by
    rw[R1,if_pos j]
   rw[Q,A8,cond_true];have c:=λ(K:Bool->Bool->LL->Int->Int->Int->Int->Int->Int->LL->Option R)=>A90 (k0:=K) z t a x n (b:Int) (s.delta:Int) (s.bias:Int) (s.done:Int) (s.out.map E2) a.length 0 LF 1114112 (by omega) (by omega)
   rw[j9] at c;refine j7 (c _) ?_;generalize H8 n a 1114112=m at *;have y:(m-n)*(s.done+1)<=1114112*256:=ai0 (by omega) (by omega);have B:A1 ((s.done:Int)+1)=((s.done+1:Nat):Int):=by rw[A7];rfl
   have C:A1 ((m:Int)-(n:Int))=((m-n:Nat):Int):=by rw[A7];omega
   have D:A1 (((m-n:Nat):Int)*((s.done+1:Nat):Int))=(((m-n)*(s.done+1):Nat):Int):=by
    rw[<-Int.natCast_mul];exact A7
   have F:A1 ((s.delta:Int)+(((m-n)*(s.done+1):Nat):Int))=((s.delta+(m-n)*(s.done+1):Nat):Int):=by
    rw[A7];rfl
   simp only[vl,B,C,D,F];have i:=Bv2 z t a b m (by omega) x a.length 0 LF { s with delta:=s.delta+(m-n)*(s.done+1) } (by omega) (by omega) (by simp only;omega) v (by simp only;omega) (by simp only;omega) N;rw[j9] at i;obtain⟨V,W,X,Y,Z⟩:=i;rw[D4];refine j7 (V R _) ?_;have h:0<a.countP (· == m):=ai5.2 ⟨m,e.1,by simp⟩;rw[if_pos h] at Z;have r:=Wi e.2 a u;generalize I3 m b a { s with delta:=s.delta+(m-n)*(s.done+1) } = o at *;simp only at X Y;have G:A1 ((o.delta:Int)+1)=((o.delta+1:Nat):Int):=by rw[A7];rfl
   have H:A1 ((m:Int)+1)=((m+1:Nat):Int):=by rw[A7];rfl
   have w:a.countP (λp=>decide (p<m+1))<=a.length:=aa4;simp only[G,H];exact U (m+1) d { o with delta:=o.delta+1 } (by simp only;omega) (by simp only;omega) (by omega) (by simp only;omega) W (by simp only;omega) (by omega) R k0
  ·rw[A6];rw[R1,if_neg j];rfl
def W0(l:List Int):By:=(l.filter λx=>decide (x<128)).map λx=>ab1 x.toNat
theorem Cz5(x:Int)(a:0<=x)(h:x<128):[SV.int .u8 (wu8 x)]=E2 (ab1 x.toNat):=by
 unfold E2;have e:wu8 x=x:=by unfold wu8;exact Int.emod_eq_of_lt a (show x<256 by omega)
 rw[e];have:((ab1 x.toNat).toNat:Int)=x:=by simp;omega
 rw[this]
theorem Uu{x:Int}(h:ptI x=true):0<=x/\x<=1114111:=by
 cases x with
 | negSucc m=>cases h
 | ofNat m=>
  have:V3 m=true:=h;unfold V3 at this;simp only[o8,x9] at this;grind
theorem A85(z t:Bool)(P:List Int)(A:P.length<=256):∀(r i n:Nat) (out:By),i+r=P.length->r<n->out.length+r<=1000->
  ((P.drop i).all ptI=true->∀(R:Type) (a:LL->Option R) (b:Bool->Bool->LL->LL->Option R),U6 LF n z t (Az P) (P.length:Int) (i:Int) (out.map E2) a b=b z t (Az P) ((out++W0 (P.drop i)).map E2))/\
  ((P.drop i).all ptI=false->∃l,∀(R:Type) (a:LL->Option R) (b:Bool->Bool->LL->LL->Option R),U6 LF n z t (Az P) (P.length:Int) (i:Int) (out.map E2) a b=a l):=by
 intro r
 induction r with
 | zero=>
  intro i n out u v w;obtain⟨n,rfl⟩:∃m,n=m+1:=⟨n-1,by omega⟩
  rw[j1 (by omega)];refine⟨λ_ R a b=>?_,λh=>(by cases h)⟩;rw[U6];rw[A6];simp[W0]
 | succ r q=>
  intro i n out u v w;obtain⟨n,rfl⟩:∃m,n=m+1:=⟨n-1,by omega⟩
  have j:=A33 P i (by omega);have ok:=YD (l:=P) (i:=i) (by omega);rw[Af8 P i (by omega)];generalize P.getD i 0=x at *;have p:A1 ((i:Int)+1)=((i+1:Nat):Int):=by rw[A7];rfl
  cases f:ptI x with
  | false=>
   refine⟨λh=>?_,λ_=>⟨out.map E2,λR a b=>?_⟩⟩
   ·rw[ac5,f] at h;cases h
   ·rw[U6];rw[A8,V0,E9,c9,ok];simp only[cond_true,vl,j,f,b8]
  | true=>
   obtain⟨y,B⟩:=Uu f;rw[ac5,f,ad3];by_cases c:x<128
   ·have d:W0 (x::P.drop (i+1))=ab1 x.toNat::W0 (P.drop (i+1)):=by
     unfold W0;rw[List.filter_cons_of_pos (by simpa using c)];rfl
    have g:out.map E2++[[SV.int .u8 (wu8 x)]]=(out++[ab1 x.toNat]).map E2:=by rw[Cz5 x y c];simp
    obtain⟨k,o⟩:=q (i+1) n (out++[ab1 x.toNat]) (by omega) (by omega) (by simp;omega);have step:∀(R:Type) (a:LL->Option R) (b:Bool->Bool->LL->LL->Option R),U6 LF (n+1) z t (Az P) (P.length:Int) (i:Int) (out.map E2) a b=U6 LF n z t (Az P) (P.length:Int) ((i+1:Nat):Int) ((out++[ab1 x.toNat]).map E2) a b:=by
     intro R a b;rw[U6];rw[A8,V0,E9,c9,ok];simp only[cond_true,vl,j,f,j0,cond_false,p];rw[B7 c,o9,F4 (by omega),g];rfl
    refine⟨λh R a b=>?_,λh=>?_⟩
    ·rw[step,k h,d];simp
    ·obtain⟨l,e⟩:=o h;exact⟨l,λR a b=>by rw[step];exact e R a b⟩
   ·have d:W0 (x::P.drop (i+1))=W0 (P.drop (i+1)):=by
     unfold W0;rw[List.filter_cons_of_neg (by simpa using c)]
    obtain⟨k,o⟩:=q (i+1) n out (by omega) (by omega) (by omega);have step:∀(R:Type) (a:LL->Option R) (b:Bool->Bool->LL->LL->Option R),U6 LF (n+1) z t (Az P) (P.length:Int) (i:Int) (out.map E2) a b=U6 LF n z t (Az P) (P.length:Int) ((i+1:Nat):Int) (out.map E2) a b:=by
     intro R a b;rw[U6];rw[A8,V0,E9,c9,ok];simp only[cond_true,vl,j,f,j0,cond_false,p];rw[A6];rfl
    refine⟨λh R a b=>?_,λh=>?_⟩
    ·rw[step,k h,d]
    ·obtain⟨l,e⟩:=o h;exact⟨l,λR a b=>by rw[step];exact e R a b⟩
theorem Bv5{P:List Int}(h:P.all ptI=true):∃a:List Nat,P=a.map (λn:Nat=>(n:Int))/\a.all V3=true/\∀p∈a,p<=1114111:=by
 induction P with
 | nil=>exact⟨[],rfl,rfl,by simp⟩
 | cons x P c=>
  rw[ac5,o8] at h;obtain⟨a,rfl,b,e⟩:=c h.2;obtain⟨d,f⟩:=Uu h.1;obtain⟨m,rfl⟩:=j8 d;refine⟨m::a,rfl,?_,?_⟩
  ·rw[ac5,b,ad2];exact h.1
  grind
theorem JH(a:List Nat):W0 (a.map λn:Nat=>(n:Int))=I8 a:=by
 unfold W0 I8
 induction a with
 | nil=>rfl
 | cons p r b=>
  grind
theorem Tu(a:List Nat):(I8 a).length=a.countP (λp=>decide (p<128)):=by unfold I8;grind
theorem A86(z t:Bool)(P:List Int):(W4 P=([],3)/\∀(R:Type) (b:Unit->Option R) (f:By->Int->LL->Option R),Ak3 LF z t (Az P) b f=b ())\/
  (∃l,∀(R:Type) (b:Unit->Option R) (f:By->Int->LL->Option R),Ak3 LF z t (Az P) b f=f (W4 P).1 ((W4 P).2:Nat) l):=by
 have x:=C2;by_cases j:256<P.length
 ·refine .inl ⟨by unfold W4;rw[if_pos j],λR b f=>?_⟩;unfold Ak3;rw[V0,A8];rfl
 ·right
  obtain⟨v,w⟩:=A85 z t P (by omega) P.length 0 LF [] (by omega) (by omega) (by simp;omega);rw[j9] at v w;cases g:P.all ptI with
  | false=>
   obtain⟨l,e⟩:=w g;refine⟨l,λR b f=>?_⟩;unfold Ak3;rw[V0,A6,cond_false];refine j7 (e R _ _) ?_;unfold W4;rw[if_neg j,g];rfl
  | true=>
   obtain⟨a,rfl,A,q⟩:=Bv5 g;rw[o9] at j;have m:W4 (a.map λn:Nat=>(n:Int))=Da a:=by
    unfold W4;rw[o9,if_neg j,g];simp[ag2]
   have k:=Tu a;have y:a.countP (λp=>decide (p<128))<=a.length:=aa4;have main:∀(o:By),o.length<=300->∀(R:Type) (b:LL->Option R),Fm LF LF z t (B6 a) ((I8 a).length:Int) 128 0 72 ((I8 a).length:Int) (o.map E2) b=b ((R1 a (I8 a).length 256 128 { delta:=0,bias:=72,done:=(I8 a).length,out:=o }).out.map E2):=by
    intro o B R b;exact Cr1 z t a (I8 a).length (by omega) (by omega) q 256 128 LF { delta:=0,bias:=72,done:=(I8 a).length,out:=o } k (by simp only;omega) (by omega) (by simp) (by simp) (by simp only;omega) (by omega) R b
   have d:Da a=((R1 a (I8 a).length 256 128 { delta:=0,bias:=72,done:=(I8 a).length,out:=if (I8 a).isEmpty then [] else I8 a++[45] }).out,0):=by
    unfold Da;grind
   refine⟨(Da a).1.map E2,λR b f=>?_⟩;unfold Ak3;rw[V0,o9,A6,cond_false,m];have i:=v g R;rw[o9] at i;refine j7 (i _ _) ?_;rw[p5,JH,Rj];simp only[vl,o9];by_cases c:I8 a=[]
   ·rw[c,aa1,A6,cond_false];have r:=main [] (by simp) R;rw[c,aa1] at r;rw[ap4] at r;refine j7 (r _) ?_;rw[c] at d;rw[d];simp only[List.isEmpty_nil,if_true,aa1];rw[X3,Y0];rfl
   ·have u:0<(I8 a).length:=aa0.2 c;rw[A8,cond_true,F4 (by omega),cond_true];have h:(I8 a).map E2++[[SV.int .u8 (45:Int)]]=(I8 a++[45]).map E2:=by rw[af4];rfl
    rw[h];refine j7 (main (I8 a++[45]) (by simp;omega) R _) ?_;rw[d,if_neg (by simpa using c)];rw[X3,Y0];rfl
theorem De0(z t:Bool)(p:LL)(b:p.all Od=true):∃r H,Ak3 LF z t p (λ_=>rv (.tup [.s (.str []),.s (.int .i64 3)]) []) (λd e l=>rv (.tup [.s (.str d),.s (.int .i64 e)]) [.arr true 5 1 l])=rv r H/\
  r.stab [0,0] H = .tup [.s (.str (W4 (p.map elI)).1),.s (.int .i64 ((W4 (p.map elI)).2:Nat))]:=by
 obtain⟨P,rfl⟩:=Bt1 b;rw[Ag0];rcases A86 z t P with⟨c,a⟩|⟨l,a⟩
 ·exact⟨_,_,a _ _ _,by rw[c];rfl⟩
 ·exact⟨_,_,a _ _ _,rfl⟩
section
variable {Z R : Type} (L : Nat) (Y : F8) (Q : Yh Z) (s : Z) (k : Out -> St Z -> Option R)
noncomputable abbrev Ds0:Code:=C3 ao7
noncomputable def AW(L:Nat):Cfg:=B5 L [236] (A2 [(3,[0,1,0,0])]) [(238,HO),(250,Aw3)] (A2 [(17,[2]),(16,[0,2,0,53]),(15,[0,2,0]),(14,[2]),(13,[0,2,0,1,45]),(12,[0,2,0,0,0]),(11,[2]),(10,[0,2,0,0,41]),(9,[0,2,0,0]),(8,[0,2,0,0]),(7,[2]),(6,[0,2,0,0,18]),(5,[0,2,0,0]),(4,[2]),(3,[0,2,0,11]),(2,[0,2,0]),(1,[0,2]),(0,[0])]) [250] (A2 [(0,[2]),(1,[0,2,0])]) (some [2]) [(253,Qt)] [] [253]
noncomputable def Ff{R:Type}(L n:Nat)(p:Int)(c:By)(j o d:Int)(g l:Bool)(i:LL)(a:Int)(h:Int->By->Int->Int->Int->Bool->Bool->LL->Int->Option R):Option R:=match n with|0=>none|n+1=>cond (c==[]) (h 4 c j o d g l i a) (cond (inR 0 c.length) (cond (inR (bAt c (0:Int)) 256) (vl (E3 (u8n (bAt c (0:Int)))) λf=>cond (ltI f 0) (h 4 c j o d g l i a) (cond (I6 1 (c.length:Int) c.length) (vl (cut c 1 (c.length:Int)) λe=>vl (A1 (o+(A1 (f*p)))) λb=>cond (ltI 1099511627776 b) (h 19 e j b d g l i a) (cond (ltN a 1000000000000) (cond (ltN d 1000000) (cond (ltI f (L1 a d)) (h 0 e j b d g l i (ae2 a (36:Int))) (vl (A1 ((36:Int)-(L1 a d))) λm=>cond (ltI 1099511627776 (A1 (p*m))) (h 19 e j b d g l i (ae2 a (36:Int))) (Ff L n (A1 (p*m)) e j b d g l i (ae2 a (36:Int)) h))) none) none)) none)) none) none)
theorem A24(n w0 g e f b c h d a):C7 4 ((AW L).keep 3) (bd (AW L) Y Q (cd [1,1,1,0,0] Ds0)) n ⟨gp [(0,.ptr 0 0 0),(2,.fnr (Fn.func 253) [] [.ptr 3 0 0,.ptr 2 0 0]),(0,pI w0)] 54,[.box [pS g,.fl 1,pI e,pI f,pI b,pB c],.arr h 3 1 d,.box [pI b],.box [pI a]],s⟩ k =
 Ff L n w0 g e f b c h d a (λn0 g e f b c h d a=>k .ret ⟨gp [(2,pI n0)] 56,[.box [pS g,.fl 1,pI e,pI f,pI b,pB c],.arr h 3 1 d,.box [pI b],.box [pI a]],s⟩):=by
 induction n generalizing w0 g e f b c h d a with
 | zero=>rfl
 | succ n i=>rw[Ff];simp only[<-i];kernel_rfl
noncomputable def Ds7{R:Type}(L:Nat)(g:By)(n i b:Int)(q z:Bool)(l:LL)(p:Int->By->Int->Int->Int->Bool->Bool->LL->Int->Option R):Option R:=Ff L L 1 g n i b q z l 0 (λj o m d e a h c f=>p j o m d e a h c f)
theorem C82(d:Nat)(rest n i b st z l):evC (AW L) (d+1) Z Q 236 [.ptr 0 0 0] [.box [pS rest,.fl 1,pI n,pI i,pI b,pB st],.arr z 3 1 l] s=Ds7 L rest n i b st z l (λj m g h c e o f a=>some (pI j,[.box [pS m,.fl 1,pI g,pI h,pI c,pB e],.arr o 3 1 f,.box [pI c],.box [pI a]],s)):=by refine(evE (fn:=ao7) (by kernel_rfl)).trans ?_;generalize evC (AW L) d=Y;unfold Ds7;exact(j7 (by kernel_rfl) ((A24 L Y Q s (E0 0 (F0 (AW L) ao7)) L 1 rest n i b st z l 0).trans (by kernel_rfl)))
noncomputable def VT(L:Nat):Cfg:=B5 L [212] (A2 []) [(215,Ou),(213,Ov)] (A2 [(16,[2]),(15,[]),(14,[0]),(13,[2]),(12,[0,67]),(11,[2]),(10,[0,4,60]),(9,[0,4]),(8,[0,4]),(7,[0,4]),(6,[0,4]),(5,[0,2,1]),(4,[2]),(3,[0,2,0,8]),(2,[0,2,0]),(1,[0,2]),(0,[0])]) [215,213] (A2 []) (some [2]) [(236,SM),(237,UV)] [] [236,237]
noncomputable def Bs2{R:Type}(L:Nat)(a:By)(n i b:Int)(m z:Bool)(l:LL)(j:Int->By->Int->Int->Int->Bool->Bool->LL->Option R):Option R:=cond (A3 a.length) (cond (ltN b 1000000) (cond (ltN i 1099511627777) (cond ((LT b a i)!=0) (j (LT b a i) (LV b a i) n (Ut b a i) b m z l) (vl (A1 ((l.length:Int)+1)) λc=>vl (A1 ((Ut b a i)-i)) λh=>cond (ltN h 1152921504606846976) (cond (ltN c 1000000) (cond (ltI 0 c) (vl (↑(Q4 (j5 h) (j5 c) (not m)):Int) λf=>cond (c !=0) (vl (A1 (ac6 (Ut b a i) c)) λd=>cond (c !=0) (vl (af1 (Ut b a i) c) λe=>cond (not (ptI (A1 (n+d)))) (j 2 (LV b a i) (A1 (n+d)) e f true z l) (cond (ltI 256 c) (j 3 (LV b a i) (A1 (n+d)) e f true z l) (cond (ltN e (Nat.add l.length 1)) (cond (x6 l.length 100000) (vl (Mm l (j5 e) (A1 (n+d))) λg=>j 0 (LV b a i) (A1 (n+d)) (A1 (e+1)) f true z g) none) none))) none) none) none) none) none)) none) none) none
theorem Cl6(d:Nat)(rest n i b st z l):evC (VT L) (d+1) Z Q 212 [.ptr 0 0 0] [.box [pS rest,.fl 1,pI n,pI i,pI b,pB st],.arr z 3 1 l] s=Bs2 L rest n i b st z l (λh j e f g a m c=>some (pI h,[.box [pS j,.fl 1,pI e,pI f,pI g,pB a],.arr m 3 1 c],s)):=by refine(evE (fn:=Tryz.f212) (by kernel_rfl)).trans ?_;generalize evC (VT L) d=Y;unfold Bs2;kernel_rfl
noncomputable abbrev To:Code:=C3 ai4
noncomputable def Aa(L:Nat):Cfg:=B5 L [180] (A2 [(20,[2,0,1]),(13,[0,1,0,1,0,22,0]),(4,[0,1,0,9,0])]) [(98,FJ)] (A2 [(24,[2,0]),(23,[2,0]),(22,[5,2,59]),(21,[5,2]),(20,[5,58]),(19,[2,0]),(18,[5,53]),(17,[5]),(16,[0,4,0,22,0]),(15,[0,4,0,22,0]),(14,[0,4,0,0,21,0]),(13,[0,4,0,22,0,0]),(12,[0,4,0,22,0]),(11,[0,4,0,21]),(10,[0,4,0]),(9,[0,4]),(8,[0,12,0]),(7,[2,0]),(6,[0,12,0,5]),(5,[0,3,8,0]),(4,[0,12,0,0]),(3,[0,12,0]),(2,[2,0]),(1,[0,10]),(0,[0])]) [98] (A2 [(4,[5]),(5,[5]),(2,[0,4,0]),(3,[0,4,0,22,0]),(0,[0]),(1,[0,12,0])]) (some [2,0]) [(212,FI)] [] [212] (nt:=[(211,1,3,1)])
noncomputable def Mw{R:Type}(L n:Nat)(b:By)(e a:Int)(c:Unit->Option R)(d:By->Option R):Option R:=match n with|0=>none|n+1=>cond (ltI a e) (cond (inR a b.length) (cond (not (ltI (bAt b a) (128:Int))) (c ()) (Mw L n b e (A1 (a+1)) c d)) none) (d b)
theorem A83(n a n1 n2):C7 0 ((Aa L).keep 4) (bd (Aa L) Y Q (cd [1,1,0,1,0,0] To)) n ⟨gp [(0,pS a),(12,pI n1),(0,pI n2)] 59,[],s⟩ k =
 Mw L n a n1 n2 (λ_=>k .ret ⟨gp [(2,.fl 0),(0,pI (4:Int))] 70,[.arr true 3 1 []],s⟩) (λa=>k (.exit 0) ⟨gp [(0,pS a)] 73,[],s⟩):=by
 induction n generalizing a n1 n2 with
 | zero=>rfl
 | succ n b=>rw[Mw];simp only[<-b];kernel_rfl
noncomputable def Ja{R:Type}(L n:Nat)(c:By)(a b:Int)(d:LL)(e:By->Int->LL->Option R):Option R:=match n with|0=>none|n+1=>cond (ltI b a) (cond (inR b c.length) (cond (F9 (d.length+1)) (Ja L n c a (A1 (b+1)) (d++[[(SV.int .i64 (A1 (bAt c b)))]]) e) none) none) (e c a d)
theorem A84(n b a n2 l3):C7 2 ((Aa L).keep 13) (bd (Aa L) Y Q (cd [1,1,1,1,0,1,1,0,0,1,0,0] To)) n ⟨gp [(0,pS b),(4,.ptr 1 0 0),(0,pI a),(22,pI a),(0,pI n2)] 43,[.arr true 3 1 l3,.box [pS b,.fl 0,pI (128:Int),pI (0:Int),pI (72:Int),pB false]],s⟩ k =
 Ja L n b a n2 l3 (λb a d=>k (.exit 2) ⟨gp [(0,pS b),(4,.ptr 1 0 0),(0,pI a)] 67,[.arr true 3 1 d,.box [pS b,.fl 0,pI (128:Int),pI (0:Int),pI (72:Int),pB false]],s⟩):=by
 induction n generalizing b a n2 l3 with
 | zero=>rfl
 | succ n c=>rw[Ja];simp only[<-c];kernel_rfl
noncomputable def T0{R:Type}(L n:Nat)(b:LL)(a:By)(c d e:Int)(f:Bool)(i:Int->LL->By->Int->Int->Int->Bool->Option R)(j:LL->By->Int->Int->Int->Bool->Option R):Option R:=match n with|0=>none|n+1=>cond (not (a==[])) (cond (A3 a.length) (cond (ltN e 1000000) (cond (ltN d 1099511627777) (cond (ltN c 1152921504606846976) (cond (x6 b.length 100000) (vl ((F3 (DS.mk a c d e f b))).1 λh=>vl (DS.l ((F3 (DS.mk a c d e f b))).2) λg=>cond (h !=0) (i h g (DS.rest ((F3 (DS.mk a c d e f b))).2) (DS.n ((F3 (DS.mk a c d e f b))).2) (DS.i ((F3 (DS.mk a c d e f b))).2) (DS.b ((F3 (DS.mk a c d e f b))).2) (DS.st ((F3 (DS.mk a c d e f b))).2)) (T0 L n g (DS.rest ((F3 (DS.mk a c d e f b))).2) (DS.n ((F3 (DS.mk a c d e f b))).2) (DS.i ((F3 (DS.mk a c d e f b))).2) (DS.b ((F3 (DS.mk a c d e f b))).2) (DS.st ((F3 (DS.mk a c d e f b))).2) i j)) none) none) none) none) none) (j b a c d e f)
theorem MC(n d f e a b c):C7 2 ((Aa L).keep 20) (bd (Aa L) Y Q (cd [1,1,1,1,1,1,0,0,0] To)) n ⟨gp [(5,.ptr 1 0 0)] 68,[.arr true 3 1 d,.box [pS f,.fl 0,pI e,pI a,pI b,pB c]],s⟩ k =
 T0 L n d f e a b c (λn0 i l a b j g=>k .ret ⟨gp [(2,.fl 2),(0,pI n0)] 70,[.arr true 3 1 i,.box [pS l,.fl 0,pI a,pI b,pI j,pB g],.arr true 3 1 []],s⟩) (λd f e a b c=>k (.exit 4) ⟨gp [(5,.ptr 1 0 0)] 68,[.arr true 3 1 d,.box [pS f,.fl 0,pI e,pI a,pI b,pB c]],s⟩):=by
 induction n generalizing d f e a b c with
 | zero=>rfl
 | succ n h=>rw[T0];simp only[<-h];kernel_rfl
noncomputable def Xu{R:Type}(L:Nat)(M:By)(N:Int->Option R)(K:Int->LL->By->Int->Int->Int->Bool->Option R)(O:LL->By->Int->Int->Int->Bool->Option R):Option R:=cond (ltI 1024 (M.length:Int)) (N 3) (Mw L L M (M.length:Int) 0 (λ_=>N 4) (λa=>cond (A3 a.length) (vl (L6 (u8n (45:Int)) a) λC=>cond (ltI 0 C) (Ja L L a C 0 [] (λb h c=>vl (A1 (h+1)) λD=>cond (I6 D (b.length:Int) b.length) (vl (cut b D (b.length:Int)) λJ=>cond (ltI 256 (c.length:Int)) (K 3 c J 128 0 72 false) (T0 L L c J 128 0 72 false (λn i F o p q d=>K n i F o p q d) (λj G r t u e=>O j G r t u e))) none)) (T0 L L [] a 128 0 72 false (λv l H w x y f=>K v l H w x y f) (λm I z A B g=>O m I z A B g))) none))
theorem Dd5(d:Nat)(s0):evC (Aa L) (d+1) Z Q 180 [pS s0] [] s=Xu L s0 (λg=>some (.tup [.fl 0,pI g],[.arr true 3 1 []],s)) (λg o v e f r m=>some (.tup [.fl 2,pI g],[.arr true 3 1 o,.box [pS v,.fl 0,pI e,pI f,pI r,pB m],.arr true 3 1 []],s)) (λn u q e f l=>some (.tup [.fl 0,pI (0:Int)],[.arr true 3 1 n,.box [pS u,.fl 0,pI q,pI e,pI f,pB l]],s)):=by refine(evE (fn:=ai4) (by kernel_rfl)).trans ?_;generalize evC (Aa L) d=Y;unfold Xu;exact let i:=(E0 4 (D9 (Aa L) Y Q (cd [1,1,1,1,1,1,1] To) (F0 (Aa L) ai4)));(j7 (by kernel_rfl) (A0 rfl ((A83 L Y Q s (E0 0 (D9 (Aa L) Y Q (cd [1,1,1] To) (F0 (Aa L) ai4))) L s0 (s0.length:Int) 0).trans (congr (congr rfl (by kernel_rfl)) (fx1 λa=>(j7 (by kernel_rfl) (A0 (A4 λc=>(A0 ((A84 L Y Q s (E0 2 (D9 (Aa L) Y Q (cd [1,1,1,1,0,1,1,0,1] To) (D9 (Aa L) Y Q (cd [1,1,1,1,1] To) (F0 (Aa L) ai4)))) L a c 0 []).trans (congr rfl (fx3 λt j b=>(j7 (by kernel_rfl) (A4 λp=>(A0 (A4 λh=>(A0 rfl ((MC L Y Q s i L b h 128 0 72 false).trans (by kernel_rfl)))) rfl)))))) ((MC L Y Q s i L [] a 128 0 72 false).trans (by kernel_rfl)))) rfl)))))))
noncomputable abbrev Ae0:Code:=C3 ao0
noncomputable def Gr(L:Nat):Cfg:=B5 L [133] (A2 [(2,[0,0,2,0])]) [] (A2 [(6,[4]),(3,[0,0,3]),(5,[4]),(4,[0,0,3,11]),(2,[0,0,3,4]),(1,[0,0,3]),(0,[0,0])]) [] (A2 [(0,[]),(1,[0,0,3])]) (some [4]) [] [] []
noncomputable def Dc{R:Type}(L n:Nat)(b:By)(c a:Int)(d:Int->Option R)(e:Unit->Option R):Option R:=match n with|0=>none|n+1=>cond (not (ltI a 0)) (cond (inR a b.length) (cond ((bAt b a)==c) (d a) (Dc L n b c (A1 (a-1)) d e)) none) (e ())
theorem XL(n s0 c1 i2):C7 0 ((Gr L).keep 2) (bd (Gr L) Y Q (cd [1,0,1,0,0] Ae0)) n ⟨gp [(0,pS s0),(0,p8 c1),(3,pI i2)] 13,[],s⟩ k =
 Dc L n s0 c1 i2 (λn0=>k .ret ⟨gp [(4,pI n0)] 14,[],s⟩) (λ_=>k (.exit 0) ⟨gp [] 19,[],s⟩):=by
 induction n generalizing s0 c1 i2 with
 | zero=>rfl
 | succ n a=>rw[Dc];simp only[<-a];kernel_rfl
noncomputable def XK{R:Type}(L:Nat)(d:By)(e:Int)(c:Int->Option R):Option R:=vl (A1 ((d.length:Int)-1)) λa=>Dc L L d e a (λb=>c b) (λ_=>c (-1))
theorem B29(d:Nat)(s0 c1):evC (Gr L) (d+1) Z Q 133 [pS s0,p8 c1] [] s=XK L s0 c1 (λb=>some (pI b,[],s)):=by refine(evE (fn:=ao0) (by kernel_rfl)).trans ?_;generalize evC (Gr L) d=Y;unfold XK;exact(j7 (by kernel_rfl) (A4 λa=>((XL L Y Q s (E0 0 (D9 (Gr L) Y Q (cd [1,1] Ae0) (F0 (Gr L) ao0))) L s0 c1 a).trans (by kernel_rfl))))
noncomputable def VX(L:Nat):Cfg:=B5 L [98] (A2 []) [(133,Ac4)] (A2 [(1,[4]),(0,[0,0])]) [133] (A2 []) (some [4]) [] [] []
noncomputable def Bt5{R:Type}(L:Nat)(b:By)(a:Int)(c:Int->Option R):Option R:=cond (A3 b.length) (cond (inR a 256) (c (L6 (u8n a) b)) none) none
theorem Co2(d:Nat)(s0 c1):evC (VX L) (d+1) Z Q 98 [pS s0,p8 c1] [] s=Bt5 L s0 c1 (λa=>some (pI a,[],s)):=by refine(evE (fn:=Tryz.f98) (by kernel_rfl)).trans ?_;generalize evC (VX L) d=Y;unfold Bt5;kernel_rfl
end
theorem Fx(c:UInt8):-1<=E3 c/\E3 c<=35:=by unfold E3 Oj;grind
theorem Nr(k b:Int):1<=L1 k b/\L1 k b<=26:=by unfold L1;omega
theorem Dh{x w:Int}(b:0<=x)(c:x<=35)(a:0<=w)(w1:w<=1099511627776):0<=x*w/\x*w<=38482906972160:=by refine⟨am4 b a,?_⟩;have:=Int.mul_le_mul c w1 a (show(0:Int)<=35 by omega);omega
theorem Wm(b:Int):∀(s:By) (i w k:Int),0<=i->0<=w->w<=1099511627776->(T8 b s i w k).1=0->i<=(T8 b s i w k).2.2/\(T8 b s i w k).2.2<=1099511627776/\(T8 b s i w k).2.1.length<s.length
 | [],i,w,k,_,_,_,h=>by simp[T8] at h
 | c::r,i,w,k,m,d,a,h=>by
  have l:=Fx c;have o:=Nr k b;unfold T8 at h ⊢;split at h
  ·simp at h
  ·rename_i e;rw[if_neg e];have n:=Dh (by omega) l.2 d a;split at h
   ·simp at h
   ·rename_i f;rw[if_neg f];split at h
    ·grind
    ·rename_i g;rw[if_neg g];split at h
     ·omega
     ·rename_i j;rw[if_neg j];obtain⟨p,q,t⟩:=Wm b r (i+E3 c*w) (w*(36-L1 k b)) (k+36) (by omega) (am4 d (by omega)) (by omega) h;grind
theorem B06(f:Int)(b:Int)(g z:Bool)(l:LL)(M:0<=b)(N:b<1000000):∀(s:By) (n:Nat) (i w k:Int),s.length<n->s.length<=1000000000->0<=i->i<=1099511627776->0<=w->w<=1099511627776->0<=k->k+36*s.length<=100000000000->
  ∃H,∀(R:Type) (a:Int->By->Int->Int->Int->Bool->Bool->LL->Int->Option R),Ff LF n w s f i b g z l k a=a (T8 b s i w k).1 (T8 b s i w k).2.1 f (T8 b s i w k).2.2 b g z l H:=by
 intro s
 induction s with
 | nil=>
  intro n i w k K L O B G h P o;obtain⟨n,rfl⟩:∃m,n=m+1:=⟨n-1,by omega⟩
  refine⟨k,λR a=>?_⟩;rw[Ff];rfl
 | cons c r T=>
  intro n i w k K L O B G h P o;obtain⟨n,rfl⟩:∃m,n=m+1:=⟨n-1,by omega⟩
  rw[k9] at K L o;have S:=Fx c;have V:=Nr k b;have Q:u8n (bAt (c::r) 0)=c:=by unfold u8n bAt;simp
  have C:inR (bAt (c::r) 0) 256=true:=by rw[Ai];have:=c.toNat_lt;exact K3 (by omega) (by simp;omega)
  have j:cut (c::r) 1 ((c::r).length:Int)=r:=by
   have:=Fd (c::r) 1 (c::r).length;grind
  have F:((c::r)==([]:By))=false:=rfl;have start:∀(R:Type) (a:Int->By->Int->Int->Int->Bool->Bool->LL->Int->Option R),Ff LF (n+1) w (c::r) f i b g z l k a =
    cond (ltI (E3 c) 0) (a 4 (c::r) f i b g z l k)
     (vl (A1 (i+(A1 (E3 c*w)))) λd=>cond (ltI 1099511627776 d) (a 19 r f d b g z l k)
      (cond (ltI (E3 c) (L1 k b)) (a 0 r f d b g z l (ae2 k 36))
       (vl (A1 (36-(L1 k b))) λp=>cond (ltI 1099511627776 (A1 (w*p))) (a 19 r f d b g z l (ae2 k 36)) (Ff LF n (A1 (w*p)) r f d b g z l (ae2 k 36) a)))):=by
   intro R a;rw[Ff];rw[F,C,K3 (by omega) (by rw[k9];omega),Af (by omega) (by rw[k9];omega) (by omega),j,Q,L7,L7];rfl
  unfold T8;by_cases u:E3 c<0
  ·rw[if_pos u];refine⟨k,λR a=>?_⟩;rw[start,B7 u];rfl
  ·rw[if_neg u];have U:=Dh (by omega) S.2 G h;have q:A1 (E3 c*w)=E3 c*w:=A7;have t:A1 (i+E3 c*w)=i+E3 c*w:=A7;by_cases v:1099511627776<i+E3 c*w
   ·rw[if_pos v];refine⟨k,λR a=>?_⟩;rw[start,A6,q,t];simp only[vl,cond_false];rw[B7 v];rfl
   ·rw[if_neg v];by_cases y:E3 c<L1 k b
    ·rw[if_pos y];refine⟨ae2 k 36,λR a=>?_⟩;rw[start,A6,q,t];simp only[vl,cond_false];rw[A6,B7 y];rfl
    ·rw[if_neg y];have I:A1 (36-L1 k b)=36-L1 k b:=A7;have D:=Dh (x:=36-L1 k b) (by omega) (by omega) G h;rw[Int.mul_comm] at D;have J:A1 (w*(36-L1 k b))=w*(36-L1 k b):=A7;by_cases A:1099511627776<w*(36-L1 k b)
     ·rw[if_pos A];refine⟨ae2 k 36,λR a=>?_⟩;rw[start,A6,q,t];simp only[vl,cond_false];rw[A6,A6,I,J,B7 A];rfl
     ·rw[if_neg A];obtain⟨H,e⟩:=T n (i+E3 c*w) (w*(36-L1 k b)) (k+36) (by omega) (by omega) (by omega) (by omega) (by omega) (by omega) (by omega) (by omega);refine⟨H,λR a=>?_⟩;rw[start,A6,q,t];simp only[vl,cond_false];rw[A6,A6,I,J,A6];exact e R a
theorem B07(a:By)(n i b:Int)(f z:Bool)(l:LL)(h:A3 a.length=true)(j:ltN b 1000000=true)(k:ltN i 1099511627777=true) :
  ∃c,∀(R:Type) (d:Int->By->Int->Int->Int->Bool->Bool->LL->Int->Option R),Ds7 LF a n i b f z l d=d (LT b a i) (LV b a i) n (Ut b a i) b f z l c:=by
 have q:=K7 h;obtain⟨g,p⟩:=E5.1 j;obtain⟨o,r⟩:=E5.1 k;have m:=C2;obtain⟨c,e⟩:=B06 n b f z l g (by omega) a LF i 1 0 (by omega) (by omega) o (by omega) (by omega) (by omega) (by omega) (by omega);exact⟨c,λR d=>e R _⟩
theorem A25{R:Type}{j:Int->By->Int->Int->Int->Bool->Bool->LL->Option R}(a:By)(n i b:Int)(d z:Bool)(l:LL)(y:A3 a.length=true)(C:ltN b 1000000=true)(g:ltN i 1099511627777=true)(D:ltN n 1152921504606846976=true)(h:x6 l.length 100000=true) :
  Bs2 LF a n i b d z l j=j (F3 ⟨a,n,i,b,d,l⟩).1 (F3 ⟨a,n,i,b,d,l⟩).2.rest (F3 ⟨a,n,i,b,d,l⟩).2.n (F3 ⟨a,n,i,b,d,l⟩).2.i (F3 ⟨a,n,i,b,d,l⟩).2.b (F3 ⟨a,n,i,b,d,l⟩).2.st z (F3 ⟨a,n,i,b,d,l⟩).2.l:=by
 obtain⟨F,P⟩:=E5.1 g;obtain⟨n0,Q⟩:=E5.1 D;have M:=ab8 h;unfold Bs2 F3;rw[y,C,g];simp only[cond_true];by_cases e:LT b a i=0
 ·rw[if_pos e,e];obtain⟨G,I,S⟩:=Wm b a i 1 0 F (by omega) (by omega) e;have H:i<=Ut b a i:=G;have J:Ut b a i<=1099511627776:=I;have o:A1 ((l.length:Int)+1)=(l.length:Int)+1:=A7;simp only[vl];rw[o];generalize Ut b a i=x at *;have f:0<=x:=by omega
  obtain⟨X,rfl⟩:=j8 f;have p:A1 ((X:Int)-i)=(X:Int)-i:=A7;have u:((l.length:Int)+1)=((l.length+1:Nat):Int):=rfl;have v:ac6 (X:Int) ((l.length+1:Nat):Int)=((X / (l.length+1):Nat):Int):=L8 _ _;have w:af1 (X:Int) ((l.length+1:Nat):Int)=((X % (l.length+1):Nat):Int):=Cl _ _;have L:=ae4 X (l.length+1);have N:=am7 X (show 0<l.length+1 by omega);rw[p,u,v,w];generalize hA:X / (l.length+1)=A at *;generalize K:X % (l.length+1)=B at *;have q:A1 (A:Int)=(A:Int):=A7;have r:A1 (n+(A:Int))=n+(A:Int):=A7;have t:A1 ((B:Int)+1)=(B:Int)+1:=A7;have k:((0:Int)!=0)=false:=rfl;have m:((((l.length+1:Nat):Int))!=0)=true:=by rw[bne_iff_ne];omega
  rw[q,r,t,k,L7,L7,A8,m];simp only[cond_true,cond_false];cases O:ptI (n+(A:Int)) with
  | false=>simp
  | true=>
   simp only[j0,cond_false,if_true];by_cases c:(256:Int)<((l.length+1:Nat):Int)
   ·rw[if_pos c,B7 c];rfl
   ·rw[if_neg c,A6,cond_false,Sl (by omega) (by show(B:Int)<((l.length+1:Nat):Int);omega),h];rfl
 ·rw[if_neg e,show(LT b a i !=0)=true from bne_iff_ne.2 e];rfl
theorem LC(c:UInt8):∀l:By,-1<=L6 c l
 | []=>by simp[L6]
 | b::r=>by
  have:=LC c r;unfold L6;omega
theorem LD(c b:UInt8):∀l:By,L6 c (l++[b])=if b=c then (l.length:Int) else L6 c l
 | []=>by
  by_cases h:b=c<;>simp[L6,h]
 | a::l=>by
  have d:=LD c b l;rw[al4,L6,d];by_cases h:b=c
  ·grind
  ·rw[if_neg h,if_neg h];rfl
theorem Ai0{R:Type}{b:Int->Option R}{d:Unit->Option R}(s:By)(c:UInt8)(l:s.length<=1000000000):∀(m n:Nat),m<=s.length->m<n->
  Dc LF n s (c.toNat:Int) ((m:Int)-1) b d=if L6 c (s.take m)<0 then d () else b (L6 c (s.take m)):=by
 intro m
 induction m with
 | zero=>
  intro n g i;obtain⟨n,rfl⟩:∃m,n=m+1:=⟨n-1,by omega⟩
  rw[Dc];rw[A8];rfl
 | succ m k=>
  intro n g i;obtain⟨n,rfl⟩:∃m,n=m+1:=⟨n-1,by omega⟩
  rw[Dc];have e0:(((m+1:Nat):Int)-1)=(m:Int):=by omega
  have e:A1 ((m:Int)-1)=(m:Int)-1:=A7;have j:s.take (m+1)=s.take m++[s.getD m 0]:=by
   rw[ak4,a8,j4 (by omega)];rfl
  rw[e0,e,A6,E9,D3,j,LD];simp only[b8,cond_true];by_cases h:s.getD m 0=c
  ·rw[if_pos h,h,beq_self_eq_true,cond_true,p4,ah4 (by omega),G3]
  ·have a:(((s.getD m 0).toNat:Int)==(c.toNat:Int))=false:=by
    rw[beq_eq_false_iff_ne];intro f;exact h (am2 (Int.ofNat.inj f))
   rw[if_neg h,a,cond_false];exact k n (by omega) (by omega)
theorem Cz7{c:Int}(h:inR c 256=true):c=((u8n c).toNat:Int):=by simp only[inR,o8,decide_eq_true_eq] at h;unfold u8n;simp;omega
theorem Ai1{R:Type}{a:Int->Option R}(s:By)(c:Int)(e:A3 s.length=true)(f:inR c 256=true):XK LF s c a=a (L6 (u8n c) s):=by
 have j:=K7 e;have g:=C2;have i:=Cz7 f;generalize u8n c=d at *;subst i;unfold XK;have b:A1 ((s.length:Int)-1)=(s.length:Int)-1:=A7;simp only[vl];rw[b];refine j7 (Ai0 s d (by omega) s.length LF (by omega) (by omega)) ?_;rw[al5];have:=LC d s;by_cases h:L6 d s<0
 ·rw[if_pos h,show L6 d s=-1 by omega]
 ·rw[if_neg h]
theorem A52{R:Type}{a:Int->Option R}(s:By)(c:Int)(b:A3 s.length=true)(d:inR c 256=true):Bt5 LF s c a=a (L6 (u8n c) s):=by unfold Bt5;grind
theorem Ps:∀s:By,(45∈s->L6 45 s=(G6 s:Int))/\(45∉s->L6 45 s=-1/\G6 s=0)
 | []=>⟨λh=>(by cases h),λ_=>⟨rfl,rfl⟩⟩
 | b::r=>by
  obtain⟨a,c⟩:=Ps r;unfold L6 G6;grind
theorem At5{c:UInt8}(h:Oj c=none):E3 c=-1:=by unfold E3;rw[h]
theorem At6{c:UInt8}{x:Nat}(h:Oj c=some x):E3 c=x:=by unfold E3;rw[h]
theorem Wn(b:Nat):∀(s:By) (i w k:Nat),T8 (b:Int) s (i:Int) (w:Int) ((36*k:Nat):Int)=((((D8 b s i w k).2.2:Nat):Int),(T8 (b:Int) s (i:Int) (w:Int) ((36*k:Nat):Int)).2)/\
  ((D8 b s i w k).2.2=0->(T8 (b:Int) s (i:Int) (w:Int) ((36*k:Nat):Int)).2=((D8 b s i w k).2.1,((D8 b s i w k).1:Int)))
 | [],i,w,k=>⟨rfl,λh=>by simp[D8] at h⟩
 | c::r,i,w,k=>by
  unfold T8 D8;cases d:Oj c with
  | none=>
   rw[At5 d,T5];grind
  | some x=>
   rw[At6 d,G3,Zd];have e:(i:Int)+(x:Int)*(w:Int)=((i+x*w:Nat):Int):=by push_cast;rfl
   have n:=V8 k b;have f:(w:Int)*(36-(thr k b:Int))=((w*(36-thr k b):Nat):Int):=by grind
   have g:((36*k:Nat):Int)+36=((36*(k+1):Nat):Int):=by omega
   have a:Co=1099511627776:=by decide
   rw[e,f,g,a];simp only;generalize i+x*w=I;generalize w*(36-thr k b)=W;by_cases j:1099511627776<I
   ·grind
   ·rw[G3,if_neg j];by_cases l:x<thr k b
    ·grind
    ·rw[G3,if_neg l];by_cases m:1099511627776<W
     ·grind
     ·rw[G3,if_neg m];exact Wn b r I W (k+1)
theorem Cn4(l:List Nat)(i n:Nat):Mm (B6 l) i (n:Int)=B6 (V2 l i n):=by unfold Mm V2 B6;simp_all
theorem YB(b:Nat)(s:By)(i:Nat):LT (b:Int) s (i:Int)=((D8 b s i 1 0).2.2:Int)/\((D8 b s i 1 0).2.2=0->LV (b:Int) s (i:Int)=(D8 b s i 1 0).2.1/\Ut (b:Int) s (i:Int)=((D8 b s i 1 0).1:Int)):=by obtain⟨a,c⟩:=Wn b s i 1 0;have e:T8 (b:Int) s (i:Int) 1 0=T8 (b:Int) s (i:Int) ((1:Nat):Int) ((36*0:Nat):Int):=rfl;unfold LT LV Ut;rw[e];refine⟨by rw[a],λh=>?_⟩;have:=c h;rw[this];exact⟨rfl,rfl⟩
theorem D12(s:By)(a:List Nat)(n i b:Nat)(c:Bool)(h:(D8 b s i 1 0).2.2=0)(q:i<=(D8 b s i 1 0).1)(o:V3 (n+(D8 b s i 1 0).1 / (a.length+1))=true)(p:¬ 256<a.length+1) :
  F3 ⟨s,(n:Int),(i:Int),(b:Int),c,B6 a⟩=(0,⟨(D8 b s i 1 0).2.1,((n+(D8 b s i 1 0).1 / (a.length+1):Nat):Int),(((D8 b s i 1 0).1 % (a.length+1)+1:Nat):Int),((Q4 ((D8 b s i 1 0).1-i) (a.length+1) (!c):Nat):Int),true,B6 (V2 a ((D8 b s i 1 0).1 % (a.length+1)) (n+(D8 b s i 1 0).1 / (a.length+1)))⟩):=by
 obtain⟨j,k⟩:=YB b s i;obtain⟨l,m⟩:=k h;unfold F3;simp only;rw[j,h,if_pos (show((0:Nat):Int)=0 from rfl),l,m,D4];generalize (D8 b s i 1 0).1=X at *;have d:((a.length:Int)+1)=((a.length+1:Nat):Int):=rfl;have e:ac6 (X:Int) ((a.length+1:Nat):Int)=((X / (a.length+1):Nat):Int):=L8 _ _;have f:af1 (X:Int) ((a.length+1:Nat):Int)=((X % (a.length+1):Nat):Int):=Cl _ _;have g:(n:Int)+((X / (a.length+1):Nat):Int)=((n+X / (a.length+1):Nat):Int):=rfl;rw[d,e,f,g,Mx,o,if_pos rfl,G3,c9,Cn4,c9,show((X:Int)-(i:Int)).toNat=X-i by omega];rfl
theorem Ds8(s:By)(a:List Nat)(n i b:Nat)(f:Bool):((D8 b s i 1 0).2.2≠0->(F3 ⟨s,(n:Int),(i:Int),(b:Int),f,B6 a⟩).1=((D8 b s i 1 0).2.2:Int))/\
  ((D8 b s i 1 0).2.2=0->V3 (n+(D8 b s i 1 0).1 / (a.length+1))=false->(F3 ⟨s,(n:Int),(i:Int),(b:Int),f,B6 a⟩).1=2)/\
  ((D8 b s i 1 0).2.2=0->V3 (n+(D8 b s i 1 0).1 / (a.length+1))=true->256<a.length+1->(F3 ⟨s,(n:Int),(i:Int),(b:Int),f,B6 a⟩).1=3):=by
 obtain⟨c,l⟩:=YB b s i;have g:(((B6 a).length:Int)+1)=((a.length+1:Nat):Int):=by rw[D4];rfl
 have j:∀X:Nat,ac6 (X:Int) ((a.length+1:Nat):Int)=((X / (a.length+1):Nat):Int):=λX=>L8 _ _
 have k:∀A:Nat,(n:Int)+(A:Int)=((n+A:Nat):Int):=λA=>rfl
 refine⟨λh=>?_,λh e=>?_,λh e o=>?_⟩
 ·unfold F3;simp only;rw[c,G3]
 ·obtain⟨m,d⟩:=l h;unfold F3;simp only;rw[c,h,if_pos (show((0:Nat):Int)=0 from rfl),d,g,j,k,Mx,e,if_neg (by simp)]
 ·obtain⟨m,d⟩:=l h;unfold F3;simp only;rw[c,h,if_pos (show((0:Nat):Int)=0 from rfl),d,g,j,k,Mx,e,if_pos rfl,T5]
theorem Cy(a:List Nat)(n i b:Nat)(f:Bool):H7 [] a n i b f=(a,0):=by rw[H7];rfl
theorem Ha{s:By}(c:s≠[])(a:List Nat)(n i b:Nat)(f:Bool)(h:(D8 b s i 1 0).2.2≠0):H7 s a n i b f=([],(D8 b s i 1 0).2.2):=by rw[H7,dif_neg c];grind
theorem Ed{s:By}(c:s≠[])(a:List Nat)(n i b:Nat)(f:Bool)(h:(D8 b s i 1 0).2.2=0):H7 s a n i b f =
  if V3 (n+(D8 b s i 1 0).1 / (a.length+1)) then (if 256<a.length+1 then ([],3) else H7 (D8 b s i 1 0).2.1 (V2 a ((D8 b s i 1 0).1 % (a.length+1)) (n+(D8 b s i 1 0).1 / (a.length+1))) (n+(D8 b s i 1 0).1 / (a.length+1)) ((D8 b s i 1 0).1 % (a.length+1)+1) (Q4 ((D8 b s i 1 0).1-i) (a.length+1) f) false) else ([],2):=by
 rw[H7,dif_neg c];simp only;rw[dif_pos h]
theorem Bk(l:List Nat)(i n:Nat):(V2 l i n).length=l.length+1:=by unfold V2;grind
theorem B59:∀(r:Nat) (s:By) (a:List Nat) (n i b f:Nat) (c:Bool),s.length<=r->r<f->s.length<=1000000->a.length<=256->n<=1114111->i<=1000->b<=500->
  ((H7 s a n i b (!c)).2=0->∃u t q p j,∀(R:Type) (d:Int->LL->By->Int->Int->Int->Bool->Option R) (g:LL->By->Int->Int->Int->Bool->Option R),T0 LF f (B6 a) s (n:Int) (i:Int) (b:Int) c d g=g (B6 (H7 s a n i b (!c)).1) u t q p j)/\
  ((H7 s a n i b (!c)).2≠0->(H7 s a n i b (!c)).1=[]/\∃l u t q p j,∀(R:Type) (d:Int->LL->By->Int->Int->Int->Bool->Option R) (g:LL->By->Int->Int->Int->Bool->Option R),T0 LF f (B6 a) s (n:Int) (i:Int) (b:Int) c d g=d ((H7 s a n i b (!c)).2:Nat) l u t q p j):=by
 intro r
 induction r with
 | zero=>
  intro s a n i b f c h K _ _ _ _ _;obtain⟨f,rfl⟩:∃m,f=m+1:=⟨f-1,by omega⟩
  have v:s=[]:=o5.1 (by omega);subst v;rw[Cy];refine⟨λ_=>⟨[],n,i,b,c,λR d g=>?_⟩,λh=>absurd rfl h⟩;rw[T0];rfl
 | succ r L=>
  intro s a n i b f c h K X Y Z h4 h5;obtain⟨f,rfl⟩:∃m,f=m+1:=⟨f-1,by omega⟩
  by_cases v:s=[]
  ·subst v;rw[Cy];refine⟨λ_=>⟨[],n,i,b,c,λR d g=>?_⟩,λh=>absurd rfl h⟩;rw[T0];rfl
  ·have start:∀(R:Type) (d:Int->LL->By->Int->Int->Int->Bool->Option R) (g:LL->By->Int->Int->Int->Bool->Option R),T0 LF (f+1) (B6 a) s (n:Int) (i:Int) (b:Int) c d g =
     cond ((F3 ⟨s,n,i,b,c,B6 a⟩).1 !=0) (d (F3 ⟨s,n,i,b,c,B6 a⟩).1 (F3 ⟨s,n,i,b,c,B6 a⟩).2.l (F3 ⟨s,n,i,b,c,B6 a⟩).2.rest (F3 ⟨s,n,i,b,c,B6 a⟩).2.n (F3 ⟨s,n,i,b,c,B6 a⟩).2.i (F3 ⟨s,n,i,b,c,B6 a⟩).2.b (F3 ⟨s,n,i,b,c,B6 a⟩).2.st)
      (T0 LF f (F3 ⟨s,n,i,b,c,B6 a⟩).2.l (F3 ⟨s,n,i,b,c,B6 a⟩).2.rest (F3 ⟨s,n,i,b,c,B6 a⟩).2.n (F3 ⟨s,n,i,b,c,B6 a⟩).2.i (F3 ⟨s,n,i,b,c,B6 a⟩).2.b (F3 ⟨s,n,i,b,c,B6 a⟩).2.st d g):=by
    intro R d g;rw[T0];rw[show(s==([]:By))=false from beq_eq_false_iff_ne.2 v,J9,L7,L7,L7,D4,aa5 (show a.length<=100000 by omega)];rfl
   obtain⟨G,H,I⟩:=Ds8 s a n i b c;have o:=D12 s a n i b c;generalize F3 ⟨s,n,i,b,c,B6 a⟩=D at *;by_cases k:(D8 b s i 1 0).2.2=0
   ·rw[Ed v a n i b (!c) k];obtain⟨M,N⟩:=YB b s i;obtain⟨O,P⟩:=N k;have J:LT (b:Int) s (i:Int)=0:=by rw[M,k];rfl
    obtain⟨U,V,W⟩:=Wm b s i 1 0 (by omega) (by omega) (by omega) J;have A:(i:Int)<=Ut (b:Int) s (i:Int):=U;have B:Ut (b:Int) s (i:Int)<=1099511627776:=V;have C:(LV (b:Int) s (i:Int)).length<s.length:=W;rw[P] at A B;rw[O] at C;cases x:V3 (n+(D8 b s i 1 0).1 / (a.length+1)) with
    | false=>
     rw[if_neg (by simp)];refine⟨λh=>by simp at h,λ_=>⟨rfl,D.2.l,D.2.rest,D.2.n,D.2.i,D.2.b,D.2.st,λR d g=>?_⟩⟩
     ·rw[start,H k x];rfl
    | true=>
     rw[if_pos rfl];by_cases w:256<a.length+1
     ·rw[if_pos w];refine⟨λh=>by simp at h,λ_=>⟨rfl,D.2.l,D.2.rest,D.2.n,D.2.i,D.2.b,D.2.st,λR d g=>?_⟩⟩;rw[start,I k x w];rfl
     ·rw[if_neg w];have o:=o k (by omega) x w;have z:n+(D8 b s i 1 0).1 / (a.length+1)<=1114111:=by
       unfold V3 at x;simp_all
      have F:=am7 (D8 b s i 1 0).1 (show 0<a.length+1 by omega);have y:=Pa ((D8 b s i 1 0).1-i) (a.length+1) (!c) (by omega);have:=L (D8 b s i 1 0).2.1 (V2 a ((D8 b s i 1 0).1 % (a.length+1)) (n+(D8 b s i 1 0).1 / (a.length+1))) (n+(D8 b s i 1 0).1 / (a.length+1)) ((D8 b s i 1 0).1 % (a.length+1)+1) (Q4 ((D8 b s i 1 0).1-i) (a.length+1) (!c)) f true (by omega) (by omega) (by omega) (by rw[Bk];omega) z (by omega) y;obtain⟨Q,S⟩:=this;refine⟨λh=>?_,λh=>?_⟩
      ·obtain⟨u,t,q,p,j,e⟩:=Q h;refine⟨u,t,q,p,j,λR d g=>?_⟩;rw[start,o];exact e R d g
      ·obtain⟨T,l,u,t,q,p,j,e⟩:=S h;refine⟨T,l,u,t,q,p,j,λR d g=>?_⟩;rw[start,o];exact e R d g
   ·rw[Ha v a n i b (!c) k];refine⟨λh=>absurd h k,λ_=>⟨rfl,D.2.l,D.2.rest,D.2.n,D.2.i,D.2.b,D.2.st,λR d g=>?_⟩⟩;rw[start,G k,show(((D8 b s i 1 0).2.2:Int)!=0)=true by rw[bne_iff_ne];omega];rfl
theorem Di(l:List Nat):Mt l=B6 l:=rfl
theorem A81{R:Type}{k0:Unit->Option R}{k1:By->Option R}(s:By)(f:s.length<=1000000):∀(r i n:Nat),i+r=s.length->r<n->
  Mw LF n s (s.length:Int) (i:Int) k0 k1=if (s.drop i).any (λb=>x6 128 b.toNat) then k0 () else k1 s:=by
 intro r
 induction r with
 | zero=>
  intro i n c d;obtain⟨n,rfl⟩:∃m,n=m+1:=⟨n-1,by omega⟩
  rw[Mw];rw[A6,j1 (by omega)];rfl
 | succ r e=>
  intro i n c d;obtain⟨n,rfl⟩:∃m,n=m+1:=⟨n-1,by omega⟩
  rw[Mw];have a:A1 ((i:Int)+1)=((i+1:Nat):Int):=by rw[A7];rfl
  rw[A8,E9,D3,D5 s i (by omega),a,ai7];simp only[cond_true];generalize s.getD i 0=b;by_cases h:128<=b.toNat
  ·rw[A6,aa5 h];rfl
  ·have:x6 128 b.toNat=false:=by rw[y9,ne_eq,x9];exact h
   rw[A8,this,ae9];exact e (i+1) n (by omega) (by omega)
theorem B58{R:Type}{k0:By->Int->LL->Option R}(s:By)(q:s.length<=1000000)(k:Nat)(p:k<=s.length):∀(r i n:Nat) (l:List Nat),i+r=k->r<n->l.length=i->
  Ja LF n s (k:Int) (i:Int) (B6 l) k0=k0 s (k:Int) (B6 (l++((s.take k).drop i).map (·.toNat))):=by
 intro r
 induction r with
 | zero=>
  intro i n l f h g;obtain⟨n,rfl⟩:∃m,n=m+1:=⟨n-1,by omega⟩
  rw[Ja];rw[A6,j1 (by rw[p4];omega)];simp
 | succ r j=>
  intro i n l f h g;obtain⟨n,rfl⟩:∃m,n=m+1:=⟨n-1,by omega⟩
  rw[Ja];have c:A1 ((i:Int)+1)=((i+1:Nat):Int):=by rw[A7];rfl
  have e:(s.take k).drop i=s.getD i 0::(s.take k).drop (i+1):=by
   rw[D5 (s.take k) i (by rw[p4];omega)]
   congr 1
   rw[a8,a8,List.getElem?_take_of_lt (by omega)]
  rw[A8,E9,D3,e,D4,F4 (by omega),c];simp only[cond_true];generalize s.getD i 0=b;have o:=b.toNat_lt;have d:A1 (b.toNat:Int)=(b.toNat:Int):=A7;have a:B6 l++[[SV.int .i64 (A1 (b.toNat:Int))]]=B6 (l++[b.toNat]):=by rw[d,Ky];rfl
  rw[a,j (i+1) n _ (by omega) (by omega) (by simp;omega)];simp
theorem Pt:∀s:By,G6 s<=s.length-1
 | []=>by simp[G6]
 | b::r=>by
  have:=Pt r;unfold G6;grind
theorem A82(s:By)(M:A3 s.length=true):(∃e,N6 s=([],e)/\∀(R:Type) (k0:Int->Option R) (k1:Int->LL->By->Int->Int->Int->Bool->Option R) (a:LL->By->Int->Int->Int->Bool->Option R),Xu LF s k0 k1 a=k0 (e:Nat))\/
  (∃e l k j i f c,N6 s=([],e)/\∀(R:Type) (k0:Int->Option R) (k1:Int->LL->By->Int->Int->Int->Bool->Option R) (a:LL->By->Int->Int->Int->Bool->Option R),Xu LF s k0 k1 a=k1 (e:Nat) l k j i f c)\/
  ((N6 s).2=0/\∃k j i f c,∀(R:Type) (k0:Int->Option R) (k1:Int->LL->By->Int->Int->Int->Bool->Option R) (a:LL->By->Int->Int->Int->Bool->Option R),Xu LF s k0 k1 a=a (B6 (N6 s).1) k j i f c):=by
 have N:=C2;unfold N6;by_cases C:1024<s.length
 ·rw[if_pos C];refine .inl ⟨3,rfl,λR k0 k1 a=>?_⟩;unfold Xu;rw[A8];rfl
 ·rw[if_neg C];have r:=λ(R:Type) (G:Unit->Option R) (H:By->Option R)=>A81 (k0:=G) (k1:=H) s (by omega) s.length 0 LF (by omega) (by omega)
  rw[j9] at r;cases A:s.any (λb=>x6 128 b.toNat) with
  | true=>
   rw[if_pos rfl];refine .inl ⟨4,rfl,λR k0 k1 a=>?_⟩;unfold Xu;rw[A6,cond_false];refine j7 (r R _ _) ?_;rw[A,if_pos rfl];rfl
  | false=>
   rw[if_neg (by simp)];obtain⟨I,J⟩:=Ps s;have O:=Pt s;have key:∀(d:List Nat) (t:By),d.length<=256->t.length<=1024->(∀(R:Type) (k0:Int->Option R) (k1:Int->LL->By->Int->Int->Int->Bool->Option R) (a:LL->By->Int->Int->Int->Bool->Option R),Xu LF s k0 k1 a=T0 LF LF (B6 d) t 128 0 72 false k1 a)->
     (∃e l k j i f c,H7 t d 128 0 72 true=([],e)/\∀(R:Type) (k0:Int->Option R) (k1:Int->LL->By->Int->Int->Int->Bool->Option R) (a:LL->By->Int->Int->Int->Bool->Option R),Xu LF s k0 k1 a=k1 (e:Nat) l k j i f c)\/
     ((H7 t d 128 0 72 true).2=0/\∃k j i f c,∀(R:Type) (k0:Int->Option R) (k1:Int->LL->By->Int->Int->Int->Bool->Option R) (a:LL->By->Int->Int->Int->Bool->Option R),Xu LF s k0 k1 a=a (B6 (H7 t d 128 0 72 true).1) k j i f c):=by
    intro d t P V B;obtain⟨D,F⟩:=B59 t.length t d 128 0 72 LF false (af3 _) (by omega) (by omega) P (by omega) (by omega) (by omega);rw[b8] at D F;by_cases w:(H7 t d 128 0 72 true).2=0
    ·obtain⟨k,j,i,f,c,e⟩:=D w;exact .inr ⟨w,k,j,i,f,c,λR k0 k1 a=>by rw[B];exact e R k1 a⟩
    ·obtain⟨S,l,k,j,i,f,c,e⟩:=F w;exact .inl ⟨_,l,k,j,i,f,c,Prod.ext S rfl,λR k0 k1 a=>by rw[B];exact e R k1 a⟩
   have Q:u8n 45=45:=rfl;have top:∀(R:Type) (k0:Int->Option R) (k1:Int->LL->By->Int->Int->Int->Bool->Option R) (a:LL->By->Int->Int->Int->Bool->Option R),Xu LF s k0 k1 a =
     cond (ltI 0 (L6 45 s)) (Ja LF LF s (L6 45 s) 0 [] (λn x u=>cond (I6 (A1 (x+1)) (n.length:Int) n.length)
      (vl (cut n (A1 (x+1)) (n.length:Int)) λy=>cond (ltI 256 (u.length:Int)) (k1 3 u y 128 0 72 false) (T0 LF LF u y 128 0 72 false k1 a)) none))
      (T0 LF LF [] s 128 0 72 false k1 a):=by
    intro R k0 k1 a;unfold Xu;rw[A6,cond_false];refine j7 (r R _ _) ?_;rw[A,if_neg (by simp),M,Q];rfl
   by_cases T:0<G6 s
   ·have v:45∈s:=by
     apply ae1;intro h;have:=(J h).2;omega
    have z:=I v;generalize G6 s=m at *;have g:=λ(R:Type) (K:By->Int->LL->Option R)=>B58 (k0:=K) s (by omega) m (by omega) m 0 LF [] (by omega) (by omega) rfl
    rw[j9] at g;have L:A1 ((m:Int)+1)=((m+1:Nat):Int):=by rw[A7];rfl
    have p:((s.take m).map (·.toNat)).length=m:=by rw[o9,p4];omega
    have q:∀(R:Type) (k0:Int->Option R) (k1:Int->LL->By->Int->Int->Int->Bool->Option R) (a:LL->By->Int->Int->Int->Bool->Option R),Xu LF s k0 k1 a =
      cond (ltI 256 (m:Int)) (k1 3 (B6 ((s.take m).map (·.toNat))) (s.drop (m+1)) 128 0 72 false) (T0 LF LF (B6 ((s.take m).map (·.toNat))) (s.drop (m+1)) 128 0 72 false k1 a):=by
     intro R k0 k1 a;rw[top,z,A8,cond_true];refine j7 (g R _) ?_;rw[L,I1,Fd,al5,p5,D4,p];rfl
    by_cases o:256<m
    ·rw[if_pos o];refine .inr (.inl ⟨3,B6 ((s.take m).map (·.toNat)),s.drop (m+1),128,0,72,false,rfl,λR k0 k1 a=>?_⟩);rw[q,A8];rfl
    ·rw[if_neg o,if_neg (show ¬m=0 by omega)];exact .inr (key _ (s.drop (m+1)) (by rw[p];omega) (by rw[j6];omega) (λR k0 k1 a=>by rw[q,A6];rfl))
   ·have w:G6 s=0:=by omega
    have z:¬ 0<L6 45 s:=by
     by_cases U:45∈s;all_goals grind
    rw[w,G3,if_pos rfl];refine .inr (key [] s (by simp) (by omega) (λR k0 k1 a=>?_));rw[top,A6];rfl
theorem Xp(l:List Nat):(B6 l).isEmpty=l.isEmpty:=by cases l<;>rfl
theorem Dd6(s:By)(k:A3 s.length=true):∃r H,Xu LF s (λf=>rv (.tup [.fl 0,.s (.int .i64 f)]) [.arr true 3 1 []]) (λf o w c d t j=>rv (.tup [.fl 2,.s (.int .i64 f)]) [.arr true 3 1 o,.box [.s (.str w),.fl 0,.s (.int .i64 c),.s (.int .i64 d),.s (.int .i64 t),.s (.bool j)],.arr true 3 1 []]) (λn v q c d i=>rv (.tup [.fl 0,.s (.int .i64 (0:Int))]) [.arr true 3 1 n,.box [.s (.str v),.fl 0,.s (.int .i64 q),.s (.int .i64 c),.s (.int .i64 d),.s (.bool i)]])=rv r H/\
  r.stab [1,0] H = .tup [.s (.sl (N6 s).1.isEmpty (N6 s).1.isEmpty 1 (Mt (N6 s).1)),.s (.int .i64 ((N6 s).2:Nat))]:=by
 rcases A82 s k with⟨e,a,b⟩|⟨e,l,u,p,m,h,g,a,b⟩|⟨a,u,p,m,h,g,b⟩
 ·refine⟨_,_,b _ _ _ _,?_⟩;rw[a];rfl
 ·refine⟨_,_,b _ _ _ _,?_⟩;rw[a];rfl
 ·refine⟨_,_,b _ _ _ _,?_⟩;rw[a,Di];simp[PV.stab,Po,Sc,PV.snap,M3,Xp]
end
section
open Go
theorem LA(x y:By)(r:List By)(p:By):ac0 (x::y::r) p=x++(p++ac0 (y::r) p):=by simp[ac0,List.intercalate]
theorem Ak2(c:UInt8):∀l:List By,l≠[]->(∀x∈l,c∉x)->pcs c (ac0 l [c])=l
 | [],h,_=>absurd rfl h
 | [x],_,h=>by rw[ap0,Qa (h x (by simp))]
 | x::y::r,_,h=>by
  rw[LA,List.singleton_append,YK (h x (by simp)),Ak2 c (y::r) (by simp) (λz a=>h z (by simp[a]))]
theorem Gf(s:By):(B9 s).length=s.length:=o9 _
theorem Mp(s:By)(i:Nat):(B9 s).getD i 0=Ce (s.getD i 0):=by unfold B9;simp only[a8,ak3];cases s[i]?<;>rfl
theorem B42{s:By}:B9 s=[]↔s=[]:=by unfold B9;simp
theorem A61(s:By)(i:Nat):(B9 s).drop i=B9 (s.drop i):=by unfold B9;rw[ai8]
theorem Pu(b:UInt8):U2 b=true↔(97<=b.toNat/\b.toNat<=122)\/(48<=b.toNat/\b.toNat<=57)\/b=45\/b=95:=by simp[U2,or_assoc]
theorem A54{b:UInt8}(h:U2 b=true):b.toNat<128/\(b.toNat<65\/90<b.toNat)/\b≠46/\b≠37/\b≠91:=by
 rw[Pu] at h;have key:∀c:UInt8,b=c->b.toNat=c.toNat:=λc e=>by rw[e]
 rcases h with h|h|h|h
 ·refine⟨by omega,by omega,?_,?_,?_⟩<;>intro e<;>have:=key _ e<;>simp at this<;>omega
 ·refine⟨by omega,by omega,?_,?_,?_⟩<;>intro e<;>have:=key _ e<;>simp at this<;>omega
 all_goals simp_all
structure VL (s:By):Prop where
 ne:s≠[]
 le:s.length<=63
 byt:∀b∈s,U2 b=true
theorem Sa{s:By}(h:L2 s=true):VL s:=by unfold L2 at h;simp only[o8,aj6,y5] at h;obtain⟨⟨⟨⟨⟨a,c⟩,g⟩,i⟩,d⟩,j⟩:=h;refine⟨by intro e;subst e;simp at a,ab8 c,λb f=>d b f⟩
structure VN (s:By):Prop where
 le:s.length<=253
 num:G4 s=false
 all:∀x∈pcs 46 s,L2 x=true
theorem NJ{s:By}:T7 s=true↔VN s:=by unfold T7;simp only[o8,aj6,y5];exact⟨λh=>⟨ab8 h.1.1,h.1.2,h.2⟩,λh=>⟨⟨aa5 h.le,h.num⟩,h.all⟩⟩
theorem Dv5(v:Nat)(h:v<4294967296):(Ii v).length<=43:=by unfold Ii;have a:=F6 (v / 16777216) (by omega);have b:=F6 (v / 65536 % 256) (by omega);have c:=F6 (v / 256 % 256) (by omega);have d:=F6 (v % 256) (by omega);grind
theorem Ak4(free:Nat):∀(l:List By) (v x:Nat),Xv free v l=some x->x<(v+1)*256 ^ (l.length-1)*2 ^ free
 | [],v,x,h=>by simp[Xv] at h
 | [p],v,x,h=>by
  simp only[Xv] at h;split at h
  ·cases h
  ·split at h
   ·rename_i n c b;simp only[j2] at h;subst h;simp only[k9,aa1,ap6,Nat.pow_zero,Nat.mul_one,Nat.add_mul];omega
   ·cases h
 | p::q::r,v,x,h=>by
  rw[Xv] at h;split at h
  ·cases h
  ·simp only at h;split at h
   ·rename_i n c a;have d:=Ak4 free (q::r) _ x h;refine Nat.lt_of_lt_of_le d (ai1 _ ?_);simp only[k9,Nat.add_sub_cancel];rw[ae7,Nat.mul_comm (256 ^ r.length) 256,<-Nat.mul_assoc];exact ai1 _ (by omega)
   ·cases h
theorem De1{s:By}{v:Nat}(h:pnB s=some v):v<4294967296:=by
 unfold pnB at h;split at h
 ·cases h
 ·rename_i b;have a:=(Bb s).1;have:=Ak4 _ _ _ _ h;generalize (D0 s).length=n at *;have:n=1\/n=2\/n=3\/n=4:=by omega
  grind
def sh(n:Nat)(i:Int):Int:=if i=-1 then -1 else i+n
theorem C10(a:List Nat)(e:a.length=8)(h:∀x∈a,x<65536):(Oi a).length<=90:=by
 unfold Oi;split
 ·have:=Bl a h;omega
 ·have c:=Bl (a.take (zGo a 0 0 0).1) (λx b=>h x (ad7 b));have d:=Bl (a.drop ((zGo a 0 0 0).1+(zGo a 0 0 0).2)) (λx b=>h x (af2 b));grind
theorem Ah1{s:By}{last:Bool}{r:List Nat}(h:Q1 s last=some r):∀x∈r,x<65536:=by
 unfold Q1 at h;split at h
 ·grind
 ·exact Bs5 _ _ _ h
theorem Dv8{s:By}{a:List Nat}(h:v6B s=some a):a.length=8/\∀x∈a,x<65536:=by
 unfold v6B at h;split at h
 ·rename_i x y b c;have d:=Ah1 b;have e:=Ah1 c;grind
 ·cases h
theorem Cy8{s:By}(h:(J0 s).2=0):L2 (J0 s).1=true:=by unfold J0 at h ⊢;grind
theorem Kk:∀l:List By,(F7 l).2=0->(∀x∈(F7 l).1,L2 x=true)/\(F7 l).1.length=l.length
 | [],_=>⟨by simp[F7],rfl⟩
 | x::r,h=>by
  unfold F7 at h ⊢;by_cases a:(J0 x).2=0
  ·rw[if_pos a] at h ⊢;obtain⟨d,c⟩:=Kk r h;refine⟨λy b=>?_,by simp[c]⟩;rcases ai9.1 b with rfl|b
   ·exact Cy8 a
   grind
  grind
structure On (h:B4):Prop where
 v4:h.v4<4294967296
 v6:h.v6.length=8/\∀x∈h.v6,x<65536
 kd:h.kind<4
theorem Bz3:z8.length=8/\∀x∈z8,x<65536:=by decide
theorem B55(s:By):On (C9 s).1/\((C9 s).2=0->M0 (C9 s).1=true):=by
 have no:On L0:=⟨by decide,Bz3,by decide⟩
 unfold C9;split
 ·grind
 split
 ·split
  ·cases d:v6B ((s.take (s.length-1)).drop 1) with
   | none=>exact⟨no,by simp⟩
   | some a=>exact⟨⟨show 0<4294967296 by decide,Dv8 d,show 3<4 by decide⟩,λ_=>by simp[M0]⟩
  grind
 cases l:S6 s with
 | none=>exact⟨no,by simp⟩
 | some t=>
  simp only;split
  ·cases d:pnB (I7 t) with
   | none=>exact⟨no,by simp⟩
   | some v=>exact⟨⟨De1 d,Bz3,show 2<4 by decide⟩,λ_=>by simp[M0]⟩
  split
  ·rename_i g;split
   ·grind
   split
   ·grind
   ·rename_i k h;refine⟨⟨show 0<4294967296 by decide,Bz3,show 1<4 by decide⟩,λ_=>?_⟩;obtain⟨f,i⟩:=Kk _ g;have b:(F7 (pcs 46 (I7 t))).1≠[]:=by
     intro e;rw[e] at i;have:=A80 46 (I7 t);grind
    have c:=Ak2 46 (F7 (pcs 46 (I7 t))).1 b (λx j e=>(A54 ((Sa (f x j)).byt 46 e)).2.2.1 rfl);unfold M0;simp only[if_true,beq_self_eq_true,ad2];rw[NJ];exact⟨by omega,by simpa using h,by rw[c];exact f⟩
  grind
theorem KP{h:B4}(a:M0 h=false):Bt h=[]:=by unfold Bt;rw[a];rfl
theorem EG:∀(f:Nat) (l:By),ap2 f l=(Z7 f l).isSome
 | 0,_=>rfl
 | f+1,l=>by
  unfold ap2 Z7;split
  ·rfl
  ·split
   ·rfl
   ·rw[EG f,ag4]
theorem Bm3(l:By):Lib.validD l=(Dk l).isSome:=EG _ l
theorem ME:∀(n m:Nat) (l:By),l.length<=n->l.length<=m->Z7 n l=Z7 m l
 | 0,m,l,b,_=>by
  have:l=[]:=o5.1 (by omega);subst this;cases m<;>simp[Z7]
 | n+1,0,l,_,hm=>by
  have:l=[]:=o5.1 (by omega);subst this;simp[Z7]
 | n+1,m+1,l,b,hm=>by
  unfold Z7;split
  ·rfl
  ·rename_i a;have d:=ag3 l;have c:0<l.length:=aa0.2 a;rw[ME n m (l.drop (w6 l).2) (by rw[j6];omega) (by rw[j6];omega)]
theorem B67(l:By)(a:l≠[]):Dk l=if (w6 l).1=65533/\(w6 l).2=1 then none else (Dk (l.drop (w6 l).2)).map ((w6 l).1::·):=by
 have c:0<l.length:=aa0.2 a;have d:=ag3 l;obtain⟨n,b⟩:∃n,l.length=n+1:=⟨l.length-1,by omega⟩
 unfold Dk;rw[b]
 conv=>lhs;unfold Z7
 rw[if_neg a,ME n (l.drop (w6 l).2).length _ (by rw[j6];omega) (af3 _)]
theorem RL:∀(f:Nat) (s:ByteArray) (pos:Nat) (p:List Nat),pos<=s.size->Z7 f (s.data.toList.drop pos)=some p->s.size-pos<=f->ak1 s f pos=p.length
 | 0,s,pos,p,e,h,d=>by
  simp only[Z7,j2] at h;subst h;rfl
 | f+1,s,pos,p,e,h,d=>by
  have g:s.data.toList.length=s.size:=by rw[Array.length_toList];rfl
  unfold Z7 at h;rw[ag9] at h;by_cases a:pos<s.size
  ·rw[if_neg (by rw[<-o5,j6];omega)] at h;split at h
   ·cases h
   ·cases b:Z7 f (ad4 (ag7 s pos).2 (ad4 pos s.data.toList)) with
    | none=>rw[b] at h;cases h
    | some q=>
     rw[b] at h;simp only[x3,j2] at h;subst h;have i:=Lib.decode_width_pos s pos a;have c:pos+(ag7 s pos).2<=s.size:=by
      have:=am5 (s.data.toList.drop pos) (by rw[ne_eq,<-o5,j6];omega);rw[ag9,j6] at this;omega
     rw[am6] at b;unfold ak1;rw[if_pos a,RL f s _ q c b (by omega)];grind
  ·rw[if_pos (by rw[<-o5,j6];omega)] at h;simp only[j2] at h;subst h;rw[Lib.runeCountFrom_end s _ _ a];rfl
theorem MQ{l:By}{p:List Nat}(h:Dk l=some p):af8 l=p.length:=by
 unfold af8 Lib.runeCount;have a:(ByteArray.mk l.toArray).size=l.length:=by simp[ByteArray.size]
 refine RL _ _ 0 p (Nat.zero_le _) ?_ (by omega);rw[a,j9];simpa[Dk] using h
open Lib in theorem D39(n b a d e:Nat)(g:194<=b/\b<224)(f:a<256):decodeN n b a d e=if 2<=n/\128<=a/\a<=191 then ((b-192)*64+a-128,2) else (65533,1):=by
 unfold decodeN;rw[G3];by_cases c:2<=n/\128<=a/\a<=191
 ·rw[if_pos c,T5,T5];exact Prod.ext (by show b % 32*64+a % 64=(b-192)*64+a-128;omega) rfl
 ·rw[if_neg c,G3,G3,G3]
open Lib in theorem D40(n c a b f:Nat)(i:224<=c/\c<240)(g:a<256)(h:b<256):decodeN n c a b f=if 3<=n/\(128<=a/\a<=191)/\(128<=b/\b<=191) then
  (if 2048<=((c-224)*64+a-128)*64+b-128/\V3 (((c-224)*64+a-128)*64+b-128)=true then (((c-224)*64+a-128)*64+b-128,3) else (65533,1)) else (65533,1):=by
 unfold decodeN;rw[G3,G3];by_cases d:3<=n/\(128<=a/\a<=191)/\(128<=b/\b<=191)
 ·rw[if_pos d,T5];have e:c % 16*4096+a % 64*64+b % 64=((c-224)*64+a-128)*64+b-128:=by omega
  rw[e];generalize ((c-224)*64+a-128)*64+b-128=v
  congr 1
  simp only[V3,o8,am1,x9,aj2];apply propext;omega
 ·rw[if_neg d,G3,G3]
open Lib in theorem D41(n d a b c:Nat)(j:240<=d/\d<245)(g:a<256)(h:b<256)(i:c<256):decodeN n d a b c=if 4<=n/\(128<=a/\a<=191)/\(128<=b/\b<=191)/\(128<=c/\c<=191) then
  (if 65536<=(((d-240)*64+a-128)*64+b-128)*64+c-128/\V3 ((((d-240)*64+a-128)*64+b-128)*64+c-128)=true then ((((d-240)*64+a-128)*64+b-128)*64+c-128,4) else (65533,1)) else (65533,1):=by
 unfold decodeN;rw[G3,G3,G3];by_cases f:4<=n/\(128<=a/\a<=191)/\(128<=b/\b<=191)/\(128<=c/\c<=191)
 ·rw[if_pos f,T5];have e:d % 8*262144+a % 64*4096+b % 64*64+c % 64=(((d-240)*64+a-128)*64+b-128)*64+c-128:=by omega
  rw[e];generalize (((d-240)*64+a-128)*64+b-128)*64+c-128=v
  congr 1
  simp only[V3,o8,am1,x9,aj2];apply propext;omega
 ·rw[if_neg f,G3]
end
section
open Go Go.Proofs
theorem Wr(l:List Nat):W4 (l.map λn:Nat=>(n:Int))=Da l:=by
 have b:(l.map λn:Nat=>(n:Int)).all ptI=l.all V3:=by
  rw[ak2]
  congr 1
 have c:(l.map λn:Nat=>(n:Int)).map j5=l:=by
  rw[ae6];exact(ab4 λa _=>by simp).trans (ah8 l)
 unfold W4;rw[o9,b,c];by_cases h:256<l.length
 ·rw[if_pos h];unfold Da;rw[if_pos h]
 ·rw[if_neg h];cases d:l.all V3 with
  | true=>rw[if_pos rfl]
  | false=>
   rw[if_neg (by simp)];unfold Da;grind
theorem Wp(l:List Nat):(B6 l).map elI=l.map λn:Nat=>(n:Int):=by unfold B6;rw[ae6];exact ab4 λa _=>rfl
theorem Dv(l:List Nat):(B6 l).all Od=true:=by unfold B6;rw[ak2,y5];intro x _;rfl
theorem A63{R:Type}{a:Unit->Option R}{d:By->Bool->LL->Bool->Option R}(s:By)(z:Bool)(p:List Nat)(t:p.length<=1000000000):∀(r i n:Nat) (b:Bool),i+r=p.length->r<n->
  X9 LF n s z (B6 p) b (p.length:Int) (i:Int) a d=if (p.drop i).any (λp=>x6 65 p&&x6 p 90) then a () else d s z (B6 p) (b&&!((p.drop i).any λp=>x6 128 p)):=by
 intro r
 induction r with
 | zero=>
  intro i n b h j;obtain⟨n,rfl⟩:∃m,n=m+1:=⟨n-1,by omega⟩
  rw[X9];rw[A6,j1 (by omega)];simp
 | succ r k=>
  intro i n b h j;obtain⟨n,rfl⟩:∃m,n=m+1:=⟨n-1,by omega⟩
  rw[X9];have f:A1 ((i:Int)+1)=((i+1:Nat):Int):=by rw[A7];rfl
  have g:p.drop i=p.getD i 0::p.drop (i+1):=by
   rw[a8,j4 (by omega),p7,z7]
  rw[A8,D4,E9,c9,Rl (by omega),BM _ _ (by omega),g,ai7,ai7,f];simp only[cond_true,vl];generalize p.getD i 0=q;have go:∀c:Bool,X9 LF n s z (B6 p) c (p.length:Int) ((i+1:Nat):Int) a d=_:=λc=>k (i+1) n c (by omega) (by omega)
  by_cases l:q<65
  ·rw[A8,show x6 65 q=false by rw[y9,ne_eq,x9];omega];have e:x6 128 q=false:=by rw[y9,ne_eq,x9];omega
   rw[show ltI (q:Int) (128:Int)=true from A8,e];simp only[j0,cond_false,ah6,ae9];cases b<;>simp only[cond_true,cond_false]<;>rw[go]
  ·rw[A6,show x6 65 q=true by rw[x9];omega];simp only[b8,cond_true,ad3];by_cases e:90<q
   ·rw[A8,show x6 q 90=false by rw[y9,ne_eq,x9];omega];simp only[j0,cond_false,ae9];by_cases o:q<128
    ·rw[show ltI (q:Int) (128:Int)=true from A8,show x6 128 q=false by rw[y9,ne_eq,x9];omega];cases b<;>simp only[cond_true,cond_false,ae9]<;>rw[go]
    ·rw[show ltI (q:Int) (128:Int)=false from A6,show x6 128 q=true by rw[x9];omega];cases b<;>simp only[cond_true,cond_false,Bool.true_or,j0,am3]<;>rw[go]<;>simp
   ·rw[A6,show x6 q 90=true by rw[x9];omega];simp
theorem A18:∀(m:Nat) (s:By) (a:List Nat) (n i b:Nat) (f:Bool),s.length<=m->a.length<=256->(H7 s a n i b f).1.length<=256:=by
 intro m
 induction m with
 | zero=>
  intro s a n i b f e d;obtain rfl:=o5.1 (Nat.le_zero.1 e);rw[Cy];exact d
 | succ m j=>
  intro s a n i b f e d;by_cases h:s=[]
  ·grind
  ·by_cases c:(D8 b s i 1 0).2.2=0
   ·rw[Ed h _ _ _ _ _ c];have g:=Rd b s i 1 0 c;split
    ·split
     ·grind
     ·rename_i k;exact j _ _ _ _ _ _ (by omega) (by rw[Bk];omega)
    grind
   ·rw[Ha h _ _ _ _ _ c];grind
theorem Af4(s:By):(N6 s).1.length<=256:=by
 unfold N6;split
 ·grind
 ·split
  ·grind
  ·split
   ·grind
   ·rename_i h;exact A18 _ _ _ _ _ _ _ (af3 _) (by rw[o9,p4];omega)
theorem A64{R:Type}{a:Bool->Option R}(s:By)(b:A3 s.length=true):Bt9 LF s a=a (Dy s):=by
 have c:=C2;unfold Bt9 Dy;rw[b,cond_true];by_cases h:(N6 s).2=0
 ·have e:(((N6 s).2:Int)!=(0:Int))=false:=by rw[h];rfl
  rw[e,cond_false,Di,D4,h];have i:=Af4 s;refine j7 (A63 s _ (N6 s).1 (by omega) (N6 s).1.length 0 LF true (by omega) (by omega)) ?_;rw[j9];cases d:(N6 s).1.any (λp=>x6 65 p&&x6 p 90) with
  | true=>simp
  | false=>
   rw[if_neg (by simp),Dv,Wp,Wr];simp only[cond_true,vl,ad3,b8];cases f:(N6 s).1.any (λp=>x6 128 p) with
   | false=>simp
   | true=>
    simp only[j0,b8,cond_true,ad2,beq_self_eq_true,ad3];by_cases g:(Da (N6 s).1).2=0;all_goals grind
 grind
theorem B45{R:Type}{d:Unit->Option R}{e:By->Option R}(s:By)(w:s.length<=1000000000):∀(r i n:Nat),i+r=s.length->r<n->
  R6 LF n s (s.length:Int) (i:Int) d e=if (s.drop i).all U2 then e s else d ():=by
 intro r
 induction r with
 | zero=>
  intro i n l c;obtain⟨n,rfl⟩:∃m,n=m+1:=⟨n-1,by omega⟩
  rw[R6];rw[A6,j1 (by omega)];rfl
 | succ r o=>
  intro i n l c;obtain⟨n,rfl⟩:∃m,n=m+1:=⟨n-1,by omega⟩
  rw[R6];have k:A1 ((i:Int)+1)=((i+1:Nat):Int):=by rw[A7];rfl
  rw[A8,E9,D3,D5 s i (by omega),k,ac5];simp only[cond_true];rw[o (i+1) n (by omega) (by omega)];generalize s.getD i 0=b;have j:=Pu b;have u:((b.toNat:Int)!=45) = !(b==45):=congrArg _ (Q8 b 45 (by omega));have v:((b.toNat:Int)!=95) = !(b==95):=congrArg _ (Q8 b 95 (by omega));rw[u,v];have t:∀{x:Bool},U2 b=x->(if (U2 b&&(s.drop (i+1)).all U2)=true then e s else d ())=if (x&&(s.drop (i+1)).all U2)=true then e s else d ():=λh=>by rw[h]
  cases a:U2 b with
  | true=>
   rw[j] at a;simp only[ad3];by_cases f:b=45
   ·subst f;simp (disch:=decide) [ltI]
   ·by_cases g:b=95
    ·subst g;simp (disch:=decide) [ltI]
    ·rcases a with a|a|a|a
     ·rw[show ltI (b.toNat:Int) 97=false from A6,show ltI (122:Int) b.toNat=false from A6];rfl
     ·rw[show ltI (b.toNat:Int) 97=true from A8,show ltI (b.toNat:Int) 48=false from A6,show ltI (57:Int) b.toNat=false from A6];rfl
     ·exact absurd a f
     ·exact absurd a g
  | false=>
   have c:¬((97<=b.toNat/\b.toNat<=122)\/(48<=b.toNat/\b.toNat<=57)\/b=45\/b=95):=λh=>by rw[j.2 h] at a;cases a
   have p:(b==45)=false:=by simpa using λh=>c (.inr (.inr (.inl h)))
   have q:(b==95)=false:=by simpa using λh=>c (.inr (.inr (.inr h)))
   rw[p,q];simp only[b8,cond_true,ah6,w8,if_false];by_cases f:b.toNat<48
   ·rw[show ltI (b.toNat:Int) 97=true from A8,show ltI (b.toNat:Int) 48=true from A8];rfl
   ·by_cases g:b.toNat<97
    ·rw[show ltI (b.toNat:Int) 97=true from A8,show ltI (b.toNat:Int) 48=false from A6,show ltI (57:Int) b.toNat=true from A8];rfl
    ·rw[show ltI (b.toNat:Int) 97=false from A6,show ltI (122:Int) b.toNat=true from A8,show ltI (b.toNat:Int) 48=false from A6,show ltI (57:Int) b.toNat=true from A8];rfl
theorem B46{R:Type}{a:Bool->Option R}(s:By)(b:A3 s.length=true):Dc4 LF s a=a (L2 s):=by
 have k:=K7 b;have h:=C2;unfold Dc4 L2;by_cases c:s=[]
 ·simp_all
 ·have o:0<s.length:=aa0.2 c;have j:s.isEmpty=false:=by simpa using c
  rw[A6,cond_false,j];by_cases m:63<s.length
  ·rw[A8,show x6 s.length 63=false by rw[y9,ne_eq,x9];omega];rfl
  ·rw[A6,cond_false,show x6 s.length 63=true by rw[x9];omega,E9];have l:(bAt s 0==(45:Int))=(s.getD 0 0==45):=by rw[Ai];exact Q8 _ 45 (by omega)
   have d:A1 ((s.length:Int)-1)=((s.length-1:Nat):Int):=by rw[A7];omega
   rw[l,d];simp only[cond_true,vl];rw[E9,D3,show((((s.getD (s.length-1) 0).toNat:Nat):Int)==45)=(s.getD (s.length-1) 0==45) from Q8 _ 45 (by omega)];cases e:(s.getD 0 0==45) with
   | true=>
    grind
   | false=>
    rw[show(s.getD 0 0 !=45)=true by unfold bne;rw[e];rfl];simp only[cond_true,cond_false];cases f:(s.getD (s.length-1) 0==45) with
    | true=>
     grind
    | false=>
     rw[show(s.getD (s.length-1) 0 !=45)=true by unfold bne;rw[f];rfl];simp only[cond_false];refine j7 (B45 s k s.length 0 LF (by omega) (by omega)) ?_;rw[j9];cases n:s.all U2 with
     | false=>simp
     | true=>
      rw[if_pos rfl,b,cond_true];simp only[b8,ad3,ad2];show cond (!(xnB.isPrefixOf s)) _ _=_;cases g:xnB.isPrefixOf s with
      | false=>rfl
      | true=>
       have i:Gz s xnB=s.drop 4:=by unfold Gz;rw[g];rfl
       show cond (A3 (Gz s xnB).length) (a (Dy (Gz s xnB))) none=_;rw[i,E6 (by rw[j6];omega)];rfl
theorem A27(a:List Nat)(b:Nat)(F:a.length<=256)(A:b<=256)(d:∀p∈a,p<=1114111):∀(f n:Nat) (s:SE),s.done=a.countP (λp=>decide (p<n))->s.delta<=300->s.bias<=500->s.out.length+20*(a.length-s.done)<=80000->n<=1114112->
  (R1 a b f n s).out.length<=80000:=by
 intro f;have z:=C2
 induction f with
 | zero=>intro n s C w q x y;unfold R1;omega
 | succ f G=>
  intro n s C w q x y;have B:a.countP (λp=>decide (p<n))<=a.length:=aa4;by_cases h:s.done<a.length
  ·obtain⟨u,i,j⟩:=A14 (n:=n) (l:=a) (by omega);obtain⟨L,M,o⟩:=Ei n a 1114112;have N:=o u i j;have O:=d u i;have c:H8 n a 1114112∈a/\n<=H8 n a 1114112:=by grind
   have D:R1 a b (f+1) n s=R1 a b f (H8 n a 1114112+1) { I3 (H8 n a 1114112) b a { s with delta:=s.delta+(H8 n a 1114112-n)*(s.done+1) } with delta:=(I3 (H8 n a 1114112) b a { s with delta:=s.delta+(H8 n a 1114112-n)*(s.done+1) }).delta+1 }:=by
    rw[R1,if_pos h]
   rw[D];generalize H8 n a 1114112=m at *;have t:(m-n)*(s.done+1)<=1114112*256:=ai0 (by omega) (by omega);have g:=Bv2 false false a b m (by omega) F a.length 0 LF { s with delta:=s.delta+(m-n)*(s.done+1) } (by omega) (by omega) (by simp only;omega) q (by simp only;omega) (by simp only;omega) A;rw[j9] at g;obtain⟨_,H,I,J,K⟩:=g;have e:0<a.countP (· == m):=ai5.2 ⟨m,c.1,by simp⟩;rw[if_pos e] at K;have k:=Wi c.2 a o;generalize I3 m b a { s with delta:=s.delta+(m-n)*(s.done+1) } = v at *;simp only at I J;have r:a.countP (λp=>decide (p<m+1))<=a.length:=aa4;exact G (m+1) { v with delta:=v.delta+1 } (by simp only;omega) (by simp only;omega) H (by simp only;omega) (by omega)
  ·rw[R1,if_neg h];omega
theorem Ag2(p:List Nat):(Da p).1.length<=80000:=by
 unfold Da;split
 ·grind
 ·rename_i h;split
  ·grind
  ·rename_i a;have d:∀q∈p,q<=1114111:=λq e=>by
    have a:p.all V3=true:=by simpa using a
    have:=y5.1 a q e;simp only[V3,o8,x9] at this;omega
   have b:=Tu p;have c:p.countP (λq=>decide (q<128))<=p.length:=aa4;refine A27 p _ (by omega) (by omega) d 256 128 _ b (by simp) (by simp) ?_ (by omega);grind
theorem XT{b:UInt8}(h:128<=b.toNat):Ce b=b:=by
 rcases U4 b with⟨_,e⟩|⟨_,e⟩|⟨_,a,_⟩
 all_goals omega
theorem XU{b:UInt8}(h:b.toNat<128):(Ce b).toNat<128:=by
 rcases U4 b with⟨_,e⟩|⟨_,e⟩|⟨_,a,e⟩
 all_goals grind
theorem B02(n:Nat)(a c d e:UInt8)(h:128<=a.toNat):al9 n a.toNat (Ce c).toNat (Ce d).toNat (Ce e).toNat=al9 n a.toNat c.toNat d.toNat e.toNat:=by
 have i:∀b:UInt8,b.toNat / 64=2->Ce b=b:=λb f=>XT (by omega)
 have j:∀b:UInt8,¬b.toNat / 64=2->¬(Ce b).toNat / 64=2:=λb f h=>by
  by_cases g:128<=b.toNat
  ·rw[XT g] at h;exact f h
  ·have:=XU (b:=b) (by omega);omega
 unfold al9;grind
theorem C77(l:By)(c:l≠[]):(w6 (B9 l)).2=(w6 l).2/\(¬((w6 l).1=65533/\(w6 l).2=1)->¬((w6 (B9 l)).1=65533/\(w6 (B9 l)).2=1)):=by
 cases l with
 | nil=>exact absurd rfl c
 | cons b t=>
  by_cases a:b.toNat<128
  ·have d:=aj9 b t a;have f:w6 (B9 (b::t))=((Ce b).toNat,1):=aj9 (Ce b) (B9 t) (XU a);rw[d,f];refine⟨rfl,λ_ h=>?_⟩;have:=XU a;omega
  ·have e:w6 (B9 (b::t))=w6 (b::t):=by
    rw[an1,an1,Gf,Mp,Mp,Mp,Mp];have e0:Ce ((b::t).getD 0 0)=b:=XT (b:=b) (show 128<=b.toNat by omega);rw[e0];exact B02 (b::t).length b ((b::t).getD 1 0) ((b::t).getD 2 0) ((b::t).getD 3 0) (show 128<=b.toNat by omega)
   grind
theorem QU:∀(f:Nat) (l:By),(Z7 f l).isSome=true->(Z7 f (B9 l)).isSome=true
 | 0,_,_=>rfl
 | f+1,l,h=>by
  unfold Z7 at h ⊢;by_cases a:l=[]
  ·subst a;rfl
  ·rw[if_neg a] at h;rw[if_neg (by rw[B42];exact a)];obtain⟨b,c⟩:=C77 l a;split at h
   ·cases h
   ·rename_i d;rw[if_neg (c d),ag4,b,A61];rw[ag4] at h;exact QU f _ h
theorem Ak6{l:By}(h:(Dk l).isSome=true):(Dk (B9 l)).isSome=true:=by unfold Dk at h ⊢;rw[Gf];exact QU _ _ h
theorem B35(t:By)(C:t.length<=1000000000):∀(f pos:Nat) (P q:List Nat) (n:Nat),pos<=t.length->t.length-pos<=f->f<n->P.length<=pos->Z7 f (t.drop pos)=some q->
  ∃m,∀(R:Type) (h:LL->By->Nat->Option R),Fh LF n (B6 P) t pos h=h (B6 (P++q)) t m:=by
 intro f
 induction f with
 | zero=>
  intro pos P q n u v w x a;obtain⟨n,rfl⟩:∃m,n=m+1:=⟨n-1,by omega⟩
  simp only[Z7,j2] at a;subst a;refine⟨pos,λR h=>?_⟩;rw[Fh];rw[decide_eq_false (by omega),cond_false,v7]
 | succ f z=>
  intro pos P q n u v w x a;obtain⟨n,rfl⟩:∃m,n=m+1:=⟨n-1,by omega⟩
  by_cases l:pos<t.length
  ·have b:t.drop pos≠[]:=by rw[ne_eq,<-o5,j6];omega
   have y:=ag9 ⟨t.toArray⟩ pos;have i:ag7 ⟨ak5 t⟩ pos=w6 (t.drop pos):=by rw[<-y]
   unfold Z7 at a;rw[if_neg b] at a;split at a
   ·cases a
   ·have D:=ag3 (t.drop pos);have j:=am5 (t.drop pos) b;have B:=Lib.decodeL_rune (t.drop pos);rw[j6] at j;rw[am6] at a;generalize w6 (t.drop pos)=p at *;obtain⟨c,o⟩:=p;simp only at *;cases k:Z7 f (t.drop (pos+o)) with
    | none=>rw[k] at a;cases a
    | some A=>
     rw[k] at a;simp only[x3,j2] at a;subst a;obtain⟨m,e⟩:=z (pos+o) (P++[c]) A n (by omega) (by omega) (by omega) (by simp;omega) k;refine⟨m,λR h=>?_⟩;rw[Fh];rw[decide_eq_true l,cond_true,i,D4,F4 (by omega)];simp only[vl,cond_true];have r:A1 (c:Int)=(c:Int):=A7;have g:B6 P++[[SV.int .i64 (A1 (c:Int))]]=B6 (P++[c]):=by rw[r,Ky];rfl
     rw[g,e,p9];rfl
  ·have d:t.drop pos=[]:=by rw[<-o5,j6];omega
   unfold Z7 at a;rw[d,if_pos rfl] at a;simp only[j2] at a;subst a;refine⟨pos,λR h=>?_⟩;rw[Fh];rw[decide_eq_false l,cond_false,v7]
theorem A50(s:By)(i:A3 s.length=true):(∀(R:Type) (b:By->Int->Option R) (c:By->Int->LL->By->Nat->Option R),Ai5 LF s b c=b (J0 s).1 ((J0 s).2:Nat))\/
  (∃l t m,∀(R:Type) (b:By->Int->Option R) (c:By->Int->LL->By->Nat->Option R),Ai5 LF s b c=c (J0 s).1 ((J0 s).2:Nat) l t m):=by
 have x:=K7 i;have u:=C2;unfold J0;cases h:Dk s with
 | none=>
  refine .inl λR b c=>?_
  unfold Ai5;rw[i,h];rfl
 | some p=>
  have k:=MQ h;have top:∀(R:Type) (b:By->Int->Option R) (c:By->Int->LL->By->Nat->Option R),Ai5 LF s b c=cond (ltI 256 (p.length:Int)) (b [] 3) (cond (ltI (p.length:Int) (s.length:Int)) (Fh LF LF [] (B9 s) 0 (λa g f=>cond (af9 a Od)
      (cond (((W4 (ab7 elI a)).2:Int)!=(0:Int))
       (c ([]:List UInt8) 14 a g f)
       (cond (E7 4 (o0 ((W4 (ab7 elI a))).1))
        (cond (A3 (o0 (xnB++((W4 (ab7 elI a))).1)))
         (cond (not (L2 (xnB++((W4 (ab7 elI a))).1)))
         (c ([]:List UInt8) 14 a g f)
         (c (xnB++((W4 (ab7 elI a))).1) 0 a g f))
         (none))
        (none)))
      (none)))
     (cond (A3 (o0 (B9 s)))
      (cond (not (L2 (B9 s)))
      (b ([]:List UInt8) 14)
      (b (B9 s) 0))
      (none))):=by
   intro R b c;unfold Ai5;rw[i,h,k];rfl
  simp only;by_cases n:256<p.length
  ·rw[if_pos n];refine .inl λR b c=>?_
   rw[top,A8];rfl
  ·rw[if_neg n];by_cases o:p.length<s.length
   ·rw[if_pos o];have d:=Ak6 (l:=s) (by rw[h];rfl);cases r:Dk (B9 s) with
    | none=>rw[r] at d;cases d
    | some q=>
     have w:=Gf s;obtain⟨m,e⟩:=B35 (B9 s) (by omega) (B9 s).length 0 [] q LF (by omega) (by omega) (by omega) (by simp) (by rw[j9];exact r);refine .inr ⟨B6 q,B9 s,m,λR b c=>?_⟩;rw[top,A6,cond_false,A8,cond_true];refine j7 (e R _) ?_;have v:=Ag2 q;rw[p5,Dv,Wp,Wr,cond_true,G0 (by omega),cond_true,E6 (by rw[x8];simp only[xnB,k9,aa1];omega),cond_true];simp only;by_cases j:(Da q).2=0
     ·rw[j,if_pos rfl];cases y:L2 (xnB++(Da q).1) with
      | true=>rfl
      | false=>rfl
     ·rw[if_neg j];have:(((Da q).2:Int)!=(0:Int))=true:=by simpa using j
      rw[this];rfl
   ·rw[if_neg o];refine .inl λR b c=>?_
    rw[top,A6,cond_false,A6,cond_false,E6 (by rw[Gf];exact x),cond_true];cases L2 (B9 s)<;>rfl
theorem Db4(s:By)(c:A3 s.length=true):∃r H,Ai5 LF s (λa b=>rv (.tup [.s (.str a),.s (.int .i64 b)]) []) (λa b d f e=>rv (.tup [.s (.str a),.s (.int .i64 b)]) [.arr true 3 1 d,.iter f e])=rv r H/\
  r.stab [0,0] H = .tup [.s (.str (J0 s).1),.s (.int .i64 ((J0 s).2:Nat))]:=by
 rcases A50 s c with h|⟨l,t,m,h⟩
 ·exact⟨_,_,h _ _ _,rfl⟩
 ·exact⟨_,_,h _ _ _,rfl⟩
theorem B17{R:Type}{g:Int->Option R}(b:Int)(h:inR b 256=true):Cn1 LF b g=g (Fe (u8n b)):=by
 simp only[inR,o8,decide_eq_true_eq] at h;have j:b=((u8n b).toNat:Int):=by
  unfold u8n;simp;omega
 generalize u8n b=c at *;subst j;have i:=c.toNat_lt;unfold Cn1;simp only[Xc,Xb,vl,Fe];rcases Cz c with⟨d,f,e⟩|⟨d,f,e⟩|⟨d,f,e⟩|⟨d,f,o,e⟩
 ·have a:A1 (wu8 ((c.toNat:Int)-48))=((dig c:Nat):Int):=by
   rw[M4,A7];omega
  rw[T5];simp (disch:=omega) only[B7,E4,j0,b8,cond_false,cond_true,a]
 ·have a:A1 (A1 (wu8 ((c.toNat:Int)-97))+10)=((dig c:Nat):Int):=by
   rw[M4,C8 (n:=(c.toNat:Int)-97) (by omega) (by omega),A7];omega
  rw[T5];simp (disch:=omega) only[B7,E4,j0,b8,cond_false,cond_true,a]
 ·have a:A1 (A1 (wu8 ((c.toNat:Int)-65))+10)=((dig c:Nat):Int):=by
   rw[M4,C8 (n:=(c.toNat:Int)-65) (by omega) (by omega),A7];omega
  rw[T5];simp (disch:=omega) only[B7,E4,j0,b8,cond_false,cond_true,a]
 ·rw[e,if_neg (by decide)];by_cases k:c.toNat<48
  ·simp (disch:=omega) only[B7,E4,j0,b8,cond_false,cond_true]
  ·by_cases l:c.toNat<65
   ·simp (disch:=omega) only[B7,E4,j0,b8,cond_false,cond_true]
   ·by_cases m:c.toNat<97
    ·simp (disch:=omega) only[B7,E4,j0,b8,cond_false,cond_true]
    ·simp (disch:=omega) only[B7,E4,j0,b8,cond_false,cond_true]
theorem YL{b:UInt8}(r:By)(h:b≠37):S6 (b::r)=(S6 r).map (b::·):=by
 conv=>lhs;unfold S6
 grind
theorem MB(x y:UInt8)(r:By):S6 (37::x::y::r)=if dig x<16/\dig y<16 then (S6 r).map (ab1 (16*dig x+dig y)::·) else none:=by
 conv=>lhs;unfold S6
 grind
theorem Af6(x:UInt8):ltI (Fe x) 0 = !(decide (dig x<16)):=by
 unfold Fe;by_cases h:dig x<16
 ·simp_all
 ·rw[if_neg h,A8,decide_eq_false h];rfl
theorem FZ:∀(s t:By),S6 s=some t->t.length<=s.length
 | [],t,h=>by simp only[S6,j2] at h;subst h;exact af3 _
 | b::r,t,h=>by
  by_cases c:b=37
  ·subst c
   match r,h with
   | [],h=>cases h
   | [x],h=>cases h
   | x::y::d,h=>
    rw[MB] at h;split at h
    ·cases a:S6 d with
     | none=>rw[a] at h;cases h
     | some q=>
      rw[a] at h;simp only[x3,j2] at h;subst h;have:=FZ d q a;simp only[k9];omega
    ·cases h
  ·rw[YL _ c] at h;cases a:S6 r with
   | none=>rw[a] at h;cases h
   | some q=>
    rw[a] at h;simp only[x3,j2] at h;subst h;have:=FZ r q a;grind
theorem B16(s:By)(P:s.length<=1000000000):∀(m i n:Nat) (a:By),i<=s.length->s.length-i<=m->m<n->a.length<=i->
  (∀t,S6 (s.drop i)=some t->∀(R:Type) (c:LL->Option R) (d:LL->Option R),S9 LF n s (i:Int) (a.map E2) c d=d ((a++t).map E2))/\
  (S6 (s.drop i)=none->∃l,∀(R:Type) (c:LL->Option R) (d:LL->Option R),S9 LF n s (i:Int) (a.map E2) c d=c l):=by
 intro m
 induction m with
 | zero=>
  intro i n a J K L I;obtain⟨n,rfl⟩:∃m,n=m+1:=⟨n-1,by omega⟩
  rw[j1 (by omega)];refine⟨λt f R c d=>?_,λh=>(by cases h)⟩;simp only[S6,j2] at f;subst f;rw[S9];rw[A6,v7];rfl
 | succ m G=>
  intro i n a J K L I;obtain⟨n,rfl⟩:∃m,n=m+1:=⟨n-1,by omega⟩
  by_cases z:i<s.length
  ·have D:A1 ((i:Int)+1)=((i+1:Nat):Int):=by rw[A7];rfl
   have F:A1 ((i:Int)+2)=((i+2:Nat):Int):=by rw[A7];rfl
   have H:A1 (((i+2:Nat):Int)+1)=((i+3:Nat):Int):=by rw[A7];omega
   have p:(a.map E2).length=a.length:=o9 _;have v:∀b:UInt8,a.map E2++[[SV.int .u8 (b.toNat:Int)]]=(a++[b]).map E2:=λb=>by rw[af4];rfl
   have C:(((s.getD i 0).toNat:Int)!=37) = !(s.getD i 0==37):=congrArg _ (Q8 _ 37 (by omega));rw[D5 s i z];by_cases g:s.getD i 0=37
   ·by_cases O:i+2<s.length
    ·rw[D5 s (i+1) (by omega),D5 s (i+1+1) (by omega),g,MB];obtain⟨A,B⟩:=G (i+3) n (a++[ab1 (16*dig (s.getD (i+1) 0)+dig (s.getD (i+2) 0))]) (by omega) (by omega) (by omega) (by simp;omega);have top:∀(R:Type) (c:LL->Option R) (d:LL->Option R),S9 LF (n+1) s (i:Int) (a.map E2) c d=cond (decide (dig (s.getD (i+1) 0)<16)&&decide (dig (s.getD (i+2) 0)<16)) (S9 LF n s ((i+3:Nat):Int) ((a++[ab1 (16*dig (s.getD (i+1) 0)+dig (s.getD (i+2) 0))]).map E2) c d) (c (a.map E2)):=by
      intro R c d;rw[S9];rw[A8,E9,D3,C,g,p,F,A8,D,E9,E9,D3,D3];simp only[cond_true,vl,j0,cond_false,beq_self_eq_true,Aa1,Jm,Af6,F4 (show a.length+1<=68719476736 by omega),H];generalize s.getD (i+1) 0=x at *;generalize s.getD (i+2) 0=y at *;by_cases M:dig x<16
      ·by_cases N:dig y<16
       ·have w1:Fe x=(dig x:Int):=by unfold Fe;rw[if_pos M]
        have S:Fe y=(dig y:Int):=by unfold Fe;rw[if_pos N]
        have T:A1 ((16:Int)*(dig x:Int))=((16*dig x:Nat):Int):=by rw[A7];omega
        have U:A1 (((16*dig x:Nat):Int)+(dig y:Int))=((16*dig x+dig y:Nat):Int):=by rw[A7];omega
        have V:wu8 ((16*dig x+dig y:Nat):Int)=((ab1 (16*dig x+dig y)).toNat:Int):=by
         rw[M4];simp;omega
        grind
       grind
      grind
     by_cases o:dig (s.getD (i+1) 0)<16/\dig (s.getD (i+2) 0)<16
     ·rw[if_pos o];have w:(decide (dig (s.getD (i+1) 0)<16)&&decide (dig (s.getD (i+2) 0)<16))=true:=by rw[decide_eq_true o.1,decide_eq_true o.2];rfl
      refine⟨λt f R c d=>?_,λh=>?_⟩
      ·cases j:S6 (s.drop (i+3)) with
       | none=>rw[show i+1+1+1=i+3 from rfl,j] at f;cases f
       | some q=>
        rw[show i+1+1+1=i+3 from rfl,j] at f;simp only[x3,j2] at f;subst f;rw[top,w,cond_true,A q j,p9];rfl
      ·cases j:S6 (s.drop (i+3)) with
       | some q=>rw[show i+1+1+1=i+3 from rfl,j] at h;cases h
       | none=>
        obtain⟨l,e⟩:=B j;exact⟨l,λR c d=>by rw[top,w,cond_true,e]⟩
     ·rw[if_neg o];have w:(decide (dig (s.getD (i+1) 0)<16)&&decide (dig (s.getD (i+2) 0)<16))=false:=by grind
      exact⟨λt h=>(by cases h),λ_=>⟨_,λR c d=>by rw[top,w,cond_false]⟩⟩
    ·have k:S6 (s.getD i 0::s.drop (i+1))=none:=by
      rw[g];cases o:s.drop (i+1) with
      | nil=>rfl
      | cons x r=>
       cases r with
       | nil=>rfl
       | cons y Q=>
        exfalso;have:=congrArg o0 o;rw[j6,k9,k9] at this;omega
     rw[k];refine⟨λt h=>(by cases h),λ_=>⟨a.map E2,λR c d=>?_⟩⟩;rw[S9];rw[A8,E9,D3,C,g,F,A6];rfl
   ·rw[YL _ g];obtain⟨A,B⟩:=G (i+1) n (a++[s.getD i 0]) (by omega) (by omega) (by omega) (by simp;omega);have u:(s.getD i 0==37)=false:=by simpa using g
    have top:∀(R:Type) (c:LL->Option R) (d:LL->Option R),S9 LF (n+1) s (i:Int) (a.map E2) c d=S9 LF n s ((i+1:Nat):Int) ((a++[s.getD i 0]).map E2) c d:=by
     intro R c d;rw[S9];rw[A8,E9,D3,C,u,p,F4 (by omega),D,v];rfl
    refine⟨λt f R c d=>?_,λh=>?_⟩
    ·cases j:S6 (s.drop (i+1)) with
     | none=>rw[j] at f;cases f
     | some q=>
      rw[j] at f;simp only[x3,j2] at f;subst f;rw[top,A q j,p9];rfl
    ·cases j:S6 (s.drop (i+1)) with
     | some q=>rw[j] at h;cases h
     | none=>
      obtain⟨l,e⟩:=B j;exact⟨l,λR c d=>by rw[top,e]⟩
  ·rw[j1 (by omega)];refine⟨λt f R c d=>?_,λh=>(by cases h)⟩;simp only[S6,j2] at f;subst f;rw[S9];rw[A6,v7];rfl
theorem C97(s:By)(f:A3 s.length=true):∃r H,Cn0 LF s (λj k i=>rv (.tup [.s (.str j),.s (.bool k)]) [.arr false 5 1 i])=rv r H/\
  r.stab [0,0] H = .tup [.s (.str (Fl s)),.s (.bool (S6 s).isSome)]:=by
 have h:=K7 f;have g:=C2;have a:((decide ((0:Int)<=(s.length:Int)))&&(F9 (j5 (s.length:Int))))=true:=by
  rw[c9,F4 (by omega),decide_eq_true (by omega)];rfl
 obtain⟨c,d⟩:=B16 s h s.length 0 LF [] (by omega) (by omega) (by omega) (by simp);rw[j9] at c d;unfold Fl;cases b:S6 s with
 | none=>
  obtain⟨l,e⟩:=d b;refine⟨.tup [.s (.str []),.s (.bool false)],[.arr false 5 1 l],?_,rfl⟩;unfold Cn0;rw[a,cond_true];exact e _ _ _
 | some t=>
  refine⟨.tup [.s (.str t),.s (.bool true)],[.arr false 5 1 (t.map E2)],?_,rfl⟩;unfold Cn0;rw[a,cond_true];refine j7 (c t b _ _ _) ?_;rw[p5,X3,Y0];rfl
abbrev Sb(i:Int)(j:By)(v4 a b c d e f g h:Int):List PV:=[.s (.int .i64 i),.s (.str j),.s (.int .u32 v4),.s (.int .u16 a),.s (.int .u16 b),.s (.int .u16 c),.s (.int .u16 d),.s (.int .u16 e),.s (.int .u16 f),.s (.int .u16 g),.s (.int .u16 h)]
def DU(h:B4):PV:=.agg [.s (.int .i64 (h.kind:Nat)),.s (.str h.name),.s (.int .u32 (h.v4:Nat)),.s (.int .u16 (h.v6.getD 0 0:Nat)),.s (.int .u16 (h.v6.getD 1 0:Nat)),.s (.int .u16 (h.v6.getD 2 0:Nat)),.s (.int .u16 (h.v6.getD 3 0:Nat)),.s (.int .u16 (h.v6.getD 4 0:Nat)),.s (.int .u16 (h.v6.getD 5 0:Nat)),.s (.int .u16 (h.v6.getD 6 0:Nat)),.s (.int .u16 (h.v6.getD 7 0:Nat))]
abbrev D42:Int->Int->Int->Int->Int->Int->Int->Int->Int->Int->Int->LL->Option (PV × List Blk × Unit):=λj c d e f g h i r8 k b a=>rv (.tup [.agg (Sb j [] 0 c d e f g h i r8),.s (.int .i64 k)]) [.box (Sb b [] 0 c d e f g h i r8),.arr false 26 1 a]
abbrev D14:Unit->Option (PV × List Blk × Unit):=λ_=>rv (.tup [.agg (Sb 0 [] 0 0 0 0 0 0 0 0 0),.s (.int .i64 14)]) [.box (Sb 0 [] 0 0 0 0 0 0 0 0 0)]
theorem FU(s:By)(c:UInt8)(h:s≠[]):(s.getLast? = some c)↔s.getD (s.length-1) 0=c:=by have:0<s.length:=aa0.2 h;grind
theorem Cm9(s:By)(g:A3 s.length=true)(e:Cn8 s=true):∃r H,Bs7 LF s D42 D14=rv r H/\r.stab [0,0] H = .tup [DU (Q0 s).1,.s (.int .i64 ((Q0 s).2:Nat))]:=by
 have m:=K7 g;have c:s≠[]:=by rintro rfl;cases e
 have l:0<s.length:=aa0.2 c;have i:s.getD 0 0=91:=by
  cases s with
  | nil=>exact absurd rfl c
  | cons b t=>
   simp only[Cn8,ae3,ad2,beq_iff_eq] at e;grind
 have f:A1 ((s.length:Int)-1)=((s.length-1:Nat):Int):=by rw[A7];omega
 have k:(((s.getD (s.length-1) 0).toNat:Int)==93)=(s.getD (s.length-1) 0==93):=Q8 _ 93 (by omega);have bad:∃r H,D14 ()=rv r H/\r.stab [0,0] H = .tup [DU L0,.s (.int .i64 14)]:=⟨_,_,rfl,rfl⟩
 unfold Bs7 Q0;simp only[vl,f];rw[E9,D3,k,cond_true];by_cases d:s.getD (s.length-1) 0=93
 ·have h:2<=s.length:=by grind
  rw[if_pos ⟨(FU s 93 c).2 d,h⟩,d,beq_self_eq_true,cond_true,show(1:Int)=((1:Nat):Int) from rfl,I1,cond_true,Fd];have j:((s.take (s.length-1)).drop 1).length<=s.length:=by rw[j6,p4];omega
  rw[J9,cond_true];unfold v6c;cases n:v6B ((s.take (s.length-1)).drop 1) with
  | none=>exact⟨_,_,rfl,rfl⟩
  | some a=>exact⟨_,_,rfl,rfl⟩
 grind
theorem Cy1(l:List By)(i:Nat)(y:By)(h:i<l.length):ah9 (D1 l) i (G1 ((D1 l).getD i []) 0 [SV.str y])=D1 (l.set i y):=by
 have e:(D1 l).getD i []=[SV.str (l.getD i [])]:=by
  unfold D1;grind
 rw[e];unfold D1;rw[List.map_set];rfl
theorem Ah5(N:Nat)(hN:N<=1000000001):∀(a:List By) (done:List By) (n:Nat),done.length+a.length=N->a.length<n->(∀x∈a,x.length<=1000000000)->
  ((F7 a).2=0->∀(R:Type) (b:Int->LL->Option R) (c:Nat->LL->Option R),T4 LF n N (N:Int) (done.length:Int) (D1 (done++a)) b c=c N (D1 (done++(F7 a).1)))/\
  ((F7 a).2≠0->∃l,∀(R:Type) (b:Int->LL->Option R) (c:Nat->LL->Option R),T4 LF n N (N:Int) (done.length:Int) (D1 (done++a)) b c=b ((F7 a).2:Nat) l):=by
 intro a
 induction a with
 | nil=>
  intro done n i o p;obtain⟨n,rfl⟩:∃m,n=m+1:=⟨n-1,by simp at o;omega⟩
  simp only[aa1] at i;refine⟨λ_ R b c=>?_,λh=>absurd rfl h⟩;rw[T4];rw[A6];rfl
 | cons x r z=>
  intro done n i o p;simp only[k9] at i o;obtain⟨n,rfl⟩:∃m,n=m+1:=⟨n-1,by omega⟩
  have v:A1 ((done.length:Int)+1)=((done.length+1:Nat):Int):=by rw[A7];rfl
  have q:(done++x::r).length=N:=by rw[x8,k9];omega
  have k:(done++x::r).getD done.length []=x:=by grind
  have f:∀y,(done++x::r).set done.length y=(done++[y])++r:=λy=>by grind
  have top:∀(R:Type) (b:Int->LL->Option R) (c:Nat->LL->Option R),T4 LF (n+1) N (N:Int) (done.length:Int) (D1 (done++x::r)) b c=cond (((J0 x).2:Int)!=0) (b ((J0 x).2:Nat) (D1 (done++x::r))) (T4 LF n N (N:Int) ((done.length+1:Nat):Int) (D1 ((done++[(J0 x).1])++r)) b c):=by
   intro R b c;rw[T4];rw[A8,E9,c9,ah1,O9 (by omega),S8,k];simp only[vl,cond_true];rw[E6 (p x (by simp)),E1,decide_eq_true (show done.length<(done++x::r).length by omega),Cy1 _ _ _ (by omega),f,v];rfl
  unfold F7;obtain⟨t,u⟩:=z (done++[(J0 x).1]) n (by simp;omega) (by omega) (λy w=>p y (by simp[w]));have j:(done++[(J0 x).1]).length=done.length+1:=by simp
  rw[j] at t u;by_cases h:(J0 x).2=0
  ·rw[if_pos h];have g:(((J0 x).2:Int)!=0)=false:=by rw[h];rfl
   refine⟨λd R b c=>?_,λd=>?_⟩
   ·rw[top,g,cond_false,t d,p9];rfl
   ·obtain⟨l,e⟩:=u d;exact⟨l,λR b c=>by rw[top,g,cond_false,e]⟩
  ·rw[if_neg h];have g:(((J0 x).2:Int)!=0)=true:=by simpa using h
   exact⟨λd=>absurd d h,λ_=>⟨_,λR b c=>by rw[top,g,cond_true]⟩⟩
theorem XO(p:By)(m:Nat):∀l:List By,(∀x∈l,x.length<=m)->(ac0 l p).length<=(m+p.length)*l.length
 | [],_=>by simp[ac0]
 | [x],h=>by
  have:=h x (by simp);rw[show ac0 [x] p=x by simp[ac0,ao9]];grind
 | x::y::r,h=>by
  have b:=h x (by simp);have c:=XO p m (y::r) (λz a=>h z (by simp[a]));rw[LA,x8,x8,k9,Nat.mul_add,Nat.mul_one];omega
theorem VI(l:List By):(D1 l).all isS=true:=by unfold D1;rw[ak2,y5];intro x _;rfl
theorem Cz1(s:By):ZY s [46]=I7 s:=by
 unfold ZY I7;by_cases h:s.getLast? = some 46
 ·obtain⟨t,rfl⟩:=List.getLast?_eq_some_iff.1 h;grind
 ·rw[if_neg h,if_neg];rw[List.isSuffixOf_iff_suffix];rintro⟨t,a⟩;grind
abbrev D15:Int->By->Int->Int->Int->Int->Int->Int->Int->Int->Int->Int->Int->By->Int->Int->Int->Int->Int->Int->Int->Int->Int->Option (PV × List Blk × Unit):=λn o p q r t u v r8 w k l a m b c d e f g h i j=>rv (.tup [.agg (Sb n o p q r t u v r8 w k),.s (.int .i64 l)]) [.box (Sb a m b c d e f g h i j)]
abbrev D16:Int->By->Int->Int->By->LL->Option (PV × List Blk × Unit):=λc d e b f a=>rv (.tup [.agg (Sb c d 0 0 0 0 0 0 0 0 0),.s (.int .i64 e)]) [.box (Sb b f 0 0 0 0 0 0 0 0 0),.arr false 9 1 a]
theorem B21(s:By)(n:A3 s.length=true):∃r H,BQ LF s D15 D16=rv r H/\r.stab [0,0] H = .tup [DU (C9 s).1,.s (.int .i64 ((C9 s).2:Nat))]:=by
 have Q:=K7 n;have A:=C2;have bad:∀e:Nat,∃r H,D15 0 [] 0 0 0 0 0 0 0 0 0 (e:Int) 0 [] 0 0 0 0 0 0 0 0 0=rv r H/\r.stab [0,0] H = .tup [DU L0,.s (.int .i64 (e:Nat))]:=λe=>⟨_,_,rfl,rfl⟩
 have a:∀(e:Nat) (l:LL),∃r H,D16 0 [] (e:Int) 0 [] l=rv r H/\r.stab [0,0] H = .tup [DU L0,.s (.int .i64 (e:Nat))]:=λe l=>⟨_,_,rfl,rfl⟩
 by_cases i:1024<s.length
 ·have e:C9 s=(L0,3):=by unfold C9;rw[if_pos i]
  rw[e];unfold BQ;rw[A8,cond_true];exact bad 3
 ·have f:([91]:By).isPrefixOf s=decide (s.head? = some 91):=by
   cases s with
   | nil=>rfl
   | cons b t=>
    grind
  by_cases d:s.head? = some 91
  ·have j:([91]:By).isPrefixOf s=true:=by rw[f,decide_eq_true d]
   have e:C9 s=Q0 s:=by unfold C9 Q0;rw[if_neg i,if_pos d]<;>rfl
   rw[e];unfold BQ;rw[A6,cond_false,n,cond_true,j,cond_true,cond_true,show Cn8 s=true from j,cond_true];exact⟨_,_,rfl,rfl⟩
  ·have j:([91]:By).isPrefixOf s=false:=by rw[f,decide_eq_false d]
   unfold BQ;rw[A6,cond_false,n,cond_true,j,cond_false,cond_true];cases k:S6 s with
   | none=>
    have e:C9 s=(L0,14):=by unfold C9;rw[if_neg i,if_neg d,k]
    rw[e];exact bad 14
   | some t=>
    have L:t.length<=s.length:=FZ s t k;have M:Fl s=t:=by unfold Fl;rw[k];rfl
    rw[M,J9];simp only[w9,j0,cond_false,cond_true,vl];rw[Cz1];have K:(I7 t).length<=t.length:=by unfold I7;split<;>simp
    have B:C9 s=if G4 (I7 t) then (match pnB (I7 t) with
      | some v=>(⟨2,[],v,z8⟩,0)
      | none=>(L0,14))
     else if (F7 (pcs 46 (I7 t))).2=0 then (
      let name:=ac0 (F7 (pcs 46 (I7 t))).1 [46]
      if 253<name.length then (L0,3) else if G4 name then (L0,14) else (⟨1,name,0,z8⟩,0))
     else (L0,(F7 (pcs 46 (I7 t))).2):=by
     unfold C9;rw[if_neg i,if_neg d,k];rfl
    rw[B];generalize I7 t=u at *;rw[J9,cond_true];cases O:G4 u with
    | true=>
     rw[if_pos rfl,cond_true,cond_true];cases P:pnB u with
     | none=>exact bad 14
     | some v=>exact⟨_,_,rfl,rfl⟩
    | false=>
     rw[if_neg (by simp),cond_false,cond_true,show((1:Nat)==1)=true from rfl,cond_true];have C:([46]:By).getD 0 0=46:=rfl;rw[C];have J:=Iz 46 u;have D:=Gy 46 u;obtain⟨w,y⟩:=Ah5 (pcs 46 u).length (by omega) (pcs 46 u) [] LF (by simp) (by omega) (λx p=>by have:=(Dx p).2;omega);rw[p5,aa1] at w y;by_cases g:(F7 (pcs 46 u)).2=0
     ·rw[if_pos g];obtain⟨z,N⟩:=Kk _ g;have G:=XO [46] 63 (F7 (pcs 46 u)).1 (λx p=>(Sa (z x p)).le);have F:∀{R:Type} (m:Int->LL->Option R) (h:Nat->LL->Option R),T4 LF LF (pcs 46 u).length ((pcs 46 u).length:Int) 0 (D1 (pcs 46 u)) m h=h (pcs 46 u).length (D1 (F7 (pcs 46 u)).1):=λm h=>w g _ m h
      rw[F];have hA:(F7 (pcs 46 u)).1.length<=1025:=by omega
      have o:ac7 (pcs 46 u).length (ad4 0 (D1 (F7 (pcs 46 u)).1))=D1 (F7 (pcs 46 u)).1:=by
       rw[j9,p6 (by rw[E1];omega)]
      have q:(63+([46]:By).length)*(F7 (pcs 46 u)).1.length<=64*1025:=ai0 (by simp) hA;rw[o,VI,Ag1,E1,J9,J9];simp only[cond_true];generalize ac0 (F7 (pcs 46 u)).1 [46]=name at *;by_cases c:253<name.length
      ·rw[if_pos c,A8,cond_true];exact a 3 _
      ·rw[if_neg c,A6,cond_false];cases I:G4 name with
       | true=>exact a 14 _
       | false=>exact⟨_,_,rfl,rfl⟩
     ·rw[if_neg g];obtain⟨l,e⟩:=y g;simp_all
end
end Go.Proofs.YtfkhfkjcidamaaaGreatDoor.E
