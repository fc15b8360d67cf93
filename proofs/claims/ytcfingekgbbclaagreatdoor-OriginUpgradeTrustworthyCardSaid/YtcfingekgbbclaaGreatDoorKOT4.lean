/-
  Parts of the proof, merged by a program of the prover's own; no condition.
-/
import Derived.Test.YtcfingekgbbclaaGreatDoorKOT3
import Derived.Lib.JoinLaws
import Derived.Lib.TrimAscii
import Derived.Lib.TrimUEq
import Derived.Lib.ValidLaws
import Derived.Shelf.LaysM
import Derived.Shelf.Small.Strs
import Derived.Shelf.Spec.SlicesInsert
import Derived.Shelf.Spec.SlicesInsertGrow
import Derived.Shelf.Spec.TrailingZeros
import Derived.Shelf.Strconv.Itoa3
import Derived.Shelf.Strings.Count
import Derived.Shelf.Strings.Cut
import Derived.Shelf.Strings.IndexAnyAll
import Derived.Shelf.Strings.OnBuilder
import Derived.Shelf.Strings.Search3
import Derived.Shelf.Unicode.ValidAny
import Derived.Shelf.Utf8.RuneCount
import Derived.Test.YtcfingekgbbclaaGreatDoorProg
open List renaming replicate->a8,getD_eq_getElem?_getD->b9,drop_of_length_le->j1,length_cons->j6,getElem?_eq_getElem->j7,length_drop->j9,length_eq_zero_iff->k9,length->p5,getD->p6,length_map->p7,append_assoc->s9,drop_zero->v7,take_of_length_le->v8,length_append->x4,append_nil->x7,nil_append->x8,all_eq_true->y5,length_take->y7,length_nil->aa0,length_pos_iff->aa4,map_congr_left->aa5,countP_le_length->aa8,all_cons->ab3,map_cons->ab9,map->ac3,flatten->ac6,take->ad1,getElem_cons_drop->ad5,isPrefixOf->ad7,drop->ae0,cons_append->ae5,mem_cons->ae9,map_append->af1,mem_singleton->af3,map_map->af6,mem_of_mem_drop->ag0,mem_of_mem_take->ag1,all->ag6,isSuffixOf_iff_suffix->ag7,take_zero->ag8,getLastD_eq_getLast?->ah1,map_id->ah5,countP_cons_of_neg->ai2,map_nil->ai3,mem_append->ai7,length_singleton->ai8,take_append_drop->ai9,drop_drop->aj2,getLast?_append->aj3,set->aj4,countP_pos_iff->ak0,replicate_succ->ak1,any_cons->ak2,map_drop->ak3,all_map->al5,getElem?_map->al6,mem_map->al7,mem_of_head?->al8,take_add_one->al9,toArray->am0,isEmpty_iff->am8,not_mem_nil->am9,take_length->an0,append->an7,drop_left'->ao0,map_take->ap1,isEmpty->aq8
open Int renaming toNat_natCast->b8,toNat->j5,eq_ofNat_of_zero_le->j8,tdiv->ae3,add->af0,tmod->al1,mul_nonneg->ao4
open Bool renaming not_true->c9,not_false->j0,and_eq_true->j4,false_eq_true->w6,eq_false_iff->z7,and_true->ad0,true_and->ad9,false_or->af8,or_eq_true->ai6,false_and->aj0,not_eq_true'->al0,eq_iff_iff->an9,and_false->ao3
open Option.some renaming injEq->j2
open Eq renaming trans->p4
open Go.Lib renaming index->p9,decodeL->w9,decDigits->x6,join->y9,cut->ab2,decDigits_one->af4,join_one->af5,runeCountL->ag5,decodeL_ascii->ah3,decodeL_width->ah4,decodeL_drop->ai1,deBruijn64tab->al2,firstTab->al3,runeCountFrom->al4,decodeN->an6,decodeL_le->ao5,decodeL_N->ao9,join_cons->ap0,index_ge->aq3,joinTail->aq4,join_nil->aq5,pow10Tab->aq6,validGoD->aq7
open Go.Proofs.Tryz renaming prog->s7,underlying3->w8,zeroValue3->x9,underlying4->y8,zeroValue4->aa1,underlying5->aa2,underlying9->aa3,zeroValue5->aa6,zeroValue9->aa7,underlying0->ab0,sizeOf3->ab4,underlying53->ab5,zeroValue0->ab7,sizeOf4->ab8,isAgg3->ac0,zeroValue53->ac2,isAgg4->ac7,sizeOf5->ac8,sizeOf9->ac9,isAgg5->ad3,isAgg9->ad4,sizeOf0->ad6,sizeOf53->ae1,underlying23->ae2,isAgg0->ae4,isAgg53->ae6,zeroValue23->ae7,sizeOf23->af9,func100->ag2,func134->ag3,isAgg23->ag4,underlying112->ag9,underlying140->ah0,zeroValue112->ah7,zeroValue140->ah8,func102->ai4,func103->ai5,sizeOf112->aj7,sizeOf140->aj8,f155->aj9,isAgg112->ak4,isAgg140->ak5,underlying161->ak8,underlying162->ak9,func133->am3,func163->am4,underlying20->am5,underlying38->am6,zeroValue161->am7,f136->an2,f141->an3,zeroValue20->an4,zeroValue38->an5,func99->an8,sizeOf161->ao7,sizeOf162->ao8,isAgg161->ap2,isAgg162->ap3,sizeOf20->ap4,sizeOf38->ap5,f104->ap6,f106->ap7,f110->ap8,f126->ap9,f132->aq0,f169->aq1,f186->aq2,func140->ar4,func154->ar5,func162->ar6,func177->ar7,func178->ar8,isAgg20->ar9,isAgg38->as0,f81->as4,f92->as5,func73->as6
open UInt8 renaming ofNat->s8,toNat_inj->ao2,toNat->as7
open Nat renaming ble->x3,ble_eq->x5,ble_eq_true_of_le->aa9,le_of_ble_eq_true->ac5,le_refl->ad2,strongRecOn->ad8,div_le_self->af2,mul_le_mul->aj5,mul_le_mul_right->aj6,blt_eq->ak6,pow_succ->am1,zero_add->am2,min_eq_left->ao1,mod_lt->ao6,add_zero->aq9,le_trans->ar0,sub_self->ar1
open Go.Shelf renaming Ren->ab1
open Option renaming map_some->ab6,getD_some->ac1,isSome_some->ac4,isSome_map->ah6,isSome->ai0,isSome_none->ak7,bind_some->an1
open Classical renaming byContradiction->ae8
open Go.RowKit.Below renaming refl->af7
open Function renaming comp_def->ah2
open Go.Utf8 renaming decode->ah9
open Go.IntKind renaming u16->aj1
open Ne renaming symm->ar2
open Go.RowKit renaming Below->ar3
open Go.Proofs.LaysM renaming n171->as1
open Go.Proofs.Lays renaming n137->as8,n138->as9,n143->at3,n145->at4,n153->at5,n156->at6,n195->at7,n196->au0
open Go.Proofs.Lays2 renaming n21->au1
open Go.Proofs.Lays7 renaming n27->au2
namespace Go.Proofs.YtcfingekgbbclaaGreatDoor.E
set_option linter.all false
section
open Go Go.Proofs
theorem HX:∀(s:By) (v:Nat) (b:UInt8),b∈s->16<=dig b->Z4 v s=none
 | c::r,v,b,h,a=>by
  simp only[Z4];rcases ae9.1 h with rfl|h
  ·grind
  ·split
   ·exact HX r _ b h a
   ·rfl
theorem Bb1{s:By}{v:Nat}(h:v4B s=some v):grp s=none:=by
 unfold v4B at h;split at h
 ·rename_i a;have b:(46:UInt8)∈s:=by
   apply ae8;intro c;rw[Ke c] at a;simp at a
  unfold grp;split
  ·rfl
  ·exact HX s 0 46 b (by decide)
 ·cases h
theorem A29{R:Type}{k0:LL->Option R}{k1:LL->Option R}(last:Bool)(l:List By)(I:l.length<=1000000001)(D:∀x∈l,x.length<=1000000000):∀(r i n:Nat) (d:List Nat),i+r=l.length->r<n->d.length<=2*i->
  (∀q,Cj last (l.drop i)=some q->Q6 LF n last (D5 l) (i:Int) (D7 d) k0 k1=k1 (D7 (d++q)))/\
  (Cj last (l.drop i)=none->∃k,Q6 LF n last (D5 l) (i:Int) (D7 d) k0 k1=k0 k):=by
 intro r
 induction r with
 | zero=>
  intro i n d C F B;obtain⟨n,rfl⟩:∃m,n=m+1:=⟨n-1,by omega⟩
  rw[Q6,j1 (by omega)];rw[G6,A6];refine⟨λq a=>?_,λh=>(by cases h)⟩;simp only[Cj,j2] at a;subst a;simp
 | succ r y=>
  intro i n d C F B;obtain⟨n,rfl⟩:∃m,n=m+1:=⟨n-1,by omega⟩
  rw[Q6,Je l i (by omega)];have L:=D _ (NX (show i<l.length by omega));have t:((i:Int)+1)=((i+1:Nat):Int):=by omega
  have w:A1 ((l.length:Int)-1)=((l.length-1:Nat):Int):=by rw[A7];omega
  simp (disch:=omega) only[B7,G6,M8,cond_true,b8,T7,Y5,E0,vl,Kf,Kg,H6,F3,C7,cond_false];rw[t];simp only[Cj];have e:∀(f:v4B (l.getD i [])=none\/(last=false\/l.drop (i+1)≠[])),
    (∀q,(match grp (l.getD i []) with|some v=>(Cj last (l.drop (i+1))).map (v::·)|none=>match v4B (l.getD i []) with|some v=>if last=true/\l.drop (i+1)=[] then some [v / 65536,v % 65536] else none|none=>none)=some q->
     (cond (!(grp (l.getD i [])).isSome) (k0 (D7 d)) (Q6 LF n last (D5 l) ((i+1:Nat):Int) (D7 d++[[SV.int .u16 (N1 (grp (l.getD i [])):Int)]]) k0 k1))=k1 (D7 (d++q)))/\
    ((match grp (l.getD i []) with|some v=>(Cj last (l.drop (i+1))).map (v::·)|none=>match v4B (l.getD i []) with|some v=>if last=true/\l.drop (i+1)=[] then some [v / 65536,v % 65536] else none|none=>none)=none->
     ∃k,(cond (!(grp (l.getD i [])).isSome) (k0 (D7 d)) (Q6 LF n last (D5 l) ((i+1:Nat):Int) (D7 d++[[SV.int .u16 (N1 (grp (l.getD i [])):Int)]]) k0 k1))=k0 k):=by
   intro f;cases J:grp (l.getD i []) with
   | some v=>
    simp only[ac4,c9,cond_false,N1,ac1];have c:D7 d++[[SV.int .u16 (v:Int)]]=D7 (d++[v]):=by rw[Kr];rfl
    rw[c];have:=y (i+1) n (d++[v]) (by omega) (by omega) (by simp<;>omega);refine⟨λq a=>?_,λh=>?_⟩
    ·cases b:Cj last (l.drop (i+1)) with
     | none=>simp[b] at a
     | some z=>
      simp only[b,ab6,j2] at a;subst a;rw[this.1 z b];simp
    ·cases b:Cj last (l.drop (i+1)) with
     | none=>exact this.2 b
     | some z=>simp[b] at h
   | none=>
    simp only[ak7,j0,cond_true];refine⟨λq a=>?_,λ_=>⟨_,rfl⟩⟩;exfalso;cases g:v4B (l.getD i []) with
    | none=>rw[g] at a;cases a
    | some v=>
     rw[g] at a;rcases f with h|h|h
     ·rw[g] at h;cases h
     ·simp only[h,w6,false_and,if_false] at a;cases a
     ·simp only[if_neg (λhc:last=true/\l.drop (i+1)=[]=>h hc.2)] at a;cases a
  cases f:v4B (l.getD i []) with
  | none=>
   simp only[ak7,cond_false];have:=e (.inl f);simp only[f] at this;exact this
  | some v=>
   have H:=Bb0 f;have p:=Bb1 f;simp only[ac4,cond_true,N1,ac1];cases last with
   | false=>
    simp only[cond_false];have:=e (.inr (.inl rfl));simp only[f,N1] at this;exact this
   | true=>
    simp only[cond_true];by_cases K:r=0
    ·have j:l.drop (i+1)=[]:=j1 (by omega);have o:((i:Int)==(l.length:Int)-1)=true:=by rw[beq_iff_eq];omega
     rw[o,p,j];simp only[cond_true,and_self,if_true,j2];refine⟨λq a=>?_,λh=>(by cases h)⟩;subst a;rw[show(16:Int)=((16:Nat):Int) from rfl,VY .u32 v 16 (by decide)];have w:Mt ((v / 2 ^ 16:Nat):Int)=((v / 65536:Nat):Int):=Pk;have A:Mt (v:Int)=((v % 65536:Nat):Int):=Ak7 v;rw[w,A];have c:D7 d++[[SV.int .u16 ((v / 65536:Nat):Int)],[SV.int .u16 ((v % 65536:Nat):Int)]]=D7 (d++[v / 65536,v % 65536]):=by rw[Kr];rfl
     rw[c];have G:0<n:=by omega
     exact(y (i+1) n (d++[v / 65536,v % 65536]) (by omega) (by omega) (by simp<;>omega)).1 [] (by rw[j];rfl) |>.trans (by simp)
    ·have u:l.drop (i+1)≠[]:=by
      rw[Je l (i+1) (by omega)];simp
     have o:((i:Int)==(l.length:Int)-1)=false:=by rw[beq_eq_false_iff_ne];omega
     rw[o];simp only[cond_false];have:=e (.inr (.inr u));simp only[f,N1] at this;exact this
theorem A30(s:By)(last:Bool)(f:A2 s.length=true):∃r H,Ac7 LF s last (λl=>rv (.tup [.fl 0,.s (.bool true)]) [.arr true 24 1 l]) (λl=>rv (.tup [.fl 1,.s (.bool false)]) [.arr true 24 1 l,.arr true 24 1 []])=rv r H/\
  r.stab [1,0] H = .tup [.s (.sl (gvs s last).isEmpty (gvs s last).isEmpty 1 (D7 (gvs s last))),.s (.bool (O7 s last).isSome)]:=by
 have d:=M3 f;have:=C6;unfold Ac7 gvs O7;by_cases c:s=[]
 ·subst c;exact⟨_,_,rfl,rfl⟩
 ·rw[show(s==([]:By))=false from beq_eq_false_iff_ne.2 c,f,if_neg c];simp only[cond_false,cond_true,vl,show u8n 58=58 from rfl];obtain⟨a,b⟩:=A29 (k0:=λl=>rv (.tup [.fl 1,.s (.bool false)]) [.arr true 24 1 l,.arr true 24 1 []]) (k1:=λl=>rv (.tup [.fl 0,.s (.bool true)]) [.arr true 24 1 l]) last (pcs 58 s) (Y9 58 d) (λx h=>ar0 (Ca h).2 d) (pcs 58 s).length 0 LF [] (by omega) (by have:=Y9 58 d;omega) (by simp);rw[v7] at a b;cases g:Cj last (pcs 58 s) with
  | some q=>
   refine⟨_,_,a q g,?_⟩;simp[PV.stab,Og,Qt,PV.snap,L8,Xk]
  | none=>
   obtain⟨i,e⟩:=b g;refine⟨_,_,e,?_⟩;simp[PV.stab,Og,Qt,PV.snap,L8,D7]
theorem Cu1{j:Type}{W:List j}(h:W.length=8):∃a b c d e f g i,W=[a,b,c,d,e,f,g,i]:=by
 match W,h with
 | [a,b,c,d,e,f,g,i],_=>exact⟨a,b,c,d,e,f,g,i,rfl⟩
def r8(n:Nat):LL:=a8 n [SV.int .u16 0]
theorem A03(n:Nat):r8 n=D7 (a8 n 0):=by simp[r8,D7]
theorem IA{s:By}{last:Bool}{q:List Nat}(h:O7 s last=some q):gvs s last=q:=by unfold gvs;rw[h];rfl
theorem Cp5(s:By):(ab2 s [58,58]).1.length<=s.length/\(ab2 s [58,58]).2.1.length<=s.length:=by unfold ab2;grind
theorem Bl2{R:Type}{K:LL->LL->Option R}(X Y:List Nat)(h:X.length+Y.length<=8) :
  Pi (D7 X) (D7 Y) (r8 8) K=K (D7 (X++a8 (8-X.length-Y.length) 0++Y)) (D7 (X++a8 (8-X.length-Y.length) 0++Y)):=by
 unfold Pi;have n:(ad1 0 (r8 8)++(ad1 8 (D7 X)++ae0 (0+min (D7 X).length 8) (r8 8)))=D7 (X++a8 (8-X.length) 0):=by
  rw[H6,ao1 (show X.length<=8 by omega),v8 (l:=D7 X) (i:=8) (by rw[H6];omega),Kr,am2,A03,ag8,x8];unfold D7;rw[<-ak3,List.drop_replicate]
 have m:A1 (8-(Y.length:Int))=((8-Y.length:Nat):Int):=by rw[A7];omega
 have o:(D7 (X++a8 (8-X.length) 0)).length=8:=by simp[H6]<;>omega
 have j:(ad1 (8-Y.length) (D7 (X++a8 (8-X.length) 0))++(ad1 (8-(8-Y.length)) (D7 Y)++ae0 (8-Y.length+min Y.length (8-(8-Y.length))) (D7 (X++a8 (8-X.length) 0))))=D7 (X++a8 (8-X.length-Y.length) 0++Y):=by
  rw[j1 (by rw[o];omega),v8 (l:=D7 Y) (by rw[H6];omega),Kr (X++_) Y,x7]
  congr 1
  unfold D7;rw[<-ap1,List.take_append,v8 (by omega),List.take_replicate];grind
 have k:(X++a8 (8-X.length-Y.length) 0++Y).length=8:=by simp<;>omega
 simp only[vl];rw[n];simp only[H6,m,b8];rw[j];simp only[H6];rw[show(r8 8).length=8 from rfl,show p5 (X++a8 (8-X.length) (0:Nat))=8 by simp<;>omega,I2,decide_eq_true (show 8-Y.length+(8-(8-Y.length))<=8 by omega)];simp only[decide_true,cond_true,ad2,k];generalize (X++a8 (8-X.length-Y.length) 0++Y)=W at *;obtain⟨a,b,c,d,e,f,g,i,rfl⟩:=Cu1 k;rfl
theorem Ck9{R:Type}{k0:Int->Int->Int->Int->Int->Int->Int->Int->Bool->LL->LL->Option R}(s:By)(r:A2 s.length=true) :
  ∃l q,v6p LF s k0=k0 (v6c 0 s) (v6c 1 s) (v6c 2 s) (v6c 3 s) (v6c 4 s) (v6c 5 s) (v6c 6 s) (v6c 7 s) (v6B s).isSome l q:=by
 have C:=M3 r;have w:=Cp5 s;unfold v6p v6c;rw[r];have bad:∀(h:v6B s=none),k0 0 0 0 0 0 0 0 0 false (r8 8) (r8 8)=k0 ((((v6B s).getD z8).getD 0 0:Nat):Int) ((((v6B s).getD z8).getD 1 0:Nat):Int) ((((v6B s).getD z8).getD 2 0:Nat):Int) ((((v6B s).getD z8).getD 3 0:Nat):Int) ((((v6B s).getD z8).getD 4 0:Nat):Int) ((((v6B s).getD z8).getD 5 0:Nat):Int) ((((v6B s).getD z8).getD 6 0:Nat):Int) ((((v6B s).getD z8).getD 7 0:Nat):Int) (v6B s).isSome (r8 8) (r8 8):=by
  intro h;rw[h];rfl
 simp (disch:=omega) only[cond_true,vl,E0];have j:v6B s=match O7 (ab2 s [58,58]).1 (!(ab2 s [58,58]).2.2),O7 (ab2 s [58,58]).2.1 true with
  | some x,some y=>if (ab2 s [58,58]).2.2 then (if x.length+y.length<=7 then some (x++a8 (8-x.length-y.length) 0++y) else none)
   else if x.length+y.length=8 then some (x++y) else none
  | _,_=>none:=rfl
 generalize (ab2 s [58,58]).1=A at *;generalize (ab2 s [58,58]).2.1=B at *;generalize (ab2 s [58,58]).2.2=o at *;cases k:O7 A (!o) with
 | none=>exact⟨_,_,bad (by rw[j,k])⟩
 | some X=>
  cases m:O7 B true with
  | none=>exact⟨_,_,bad (by rw[j,k,m])⟩
  | some Y=>
   have u:X.length<=2000000002:=by
    unfold O7 at k;split at k
    ·grind
    ·have:=Jy _ _ _ k;have:=Y9 58 (s:=A) (by omega);omega
   have v:Y.length<=2000000002:=by
    unfold O7 at m;split at m
    ·grind
    ·have:=Jy _ _ _ m;have:=Y9 58 (s:=B) (by omega);omega
   rw[k,m] at j;simp only[IA k,IA m,H6,ac4,c9,cond_false];rw[A7];have n:∀(W:List Nat),W.length=8->v6B s=some W->∃l q,(cond ((decide (8=(D7 W).length*1))&&(okS ⟨true,true,[.int .u16,.int .u16,.int .u16,.int .u16,.int .u16,.int .u16,.int .u16,.int .u16]⟩ (ac6 (D7 W)) 0))
     (k0 (SV.gI (p6 (ac6 (D7 W)) 0 SV.nilp)) (SV.gI (p6 (ac6 (D7 W)) 1 SV.nilp)) (SV.gI (p6 (ac6 (D7 W)) 2 SV.nilp)) (SV.gI (p6 (ac6 (D7 W)) 3 SV.nilp)) (SV.gI (p6 (ac6 (D7 W)) 4 SV.nilp)) (SV.gI (p6 (ac6 (D7 W)) 5 SV.nilp)) (SV.gI (p6 (ac6 (D7 W)) 6 SV.nilp)) (SV.gI (p6 (ac6 (D7 W)) 7 SV.nilp)) true (D7 W) (D7 W)) none) =
     k0 ((((v6B s).getD z8).getD 0 0:Nat):Int) ((((v6B s).getD z8).getD 1 0:Nat):Int) ((((v6B s).getD z8).getD 2 0:Nat):Int) ((((v6B s).getD z8).getD 3 0:Nat):Int) ((((v6B s).getD z8).getD 4 0:Nat):Int) ((((v6B s).getD z8).getD 5 0:Nat):Int) ((((v6B s).getD z8).getD 6 0:Nat):Int) ((((v6B s).getD z8).getD 7 0:Nat):Int) (v6B s).isSome l q:=by
    intro W t h;rw[h];obtain⟨a,b,c,d,e,f,g,i,rfl⟩:=Cu1 t;exact⟨_,_,rfl⟩
   cases o with
   | false=>
    simp only[j0,cond_true,w6,if_false] at j ⊢;by_cases p:X.length+Y.length=8
    ·rw[if_pos p] at j;rw[show((X.length:Int)+(Y.length:Int)!=8)=false by simp;omega];simp only[cond_false];rw[show(a8 8 [SV.int aj1 0])=r8 8 from rfl,Bl2 X Y (by omega)];have z:8-X.length-Y.length=0:=by omega
     rw[z];simp only[List.replicate_zero,x7];exact n (X++Y) (by simp<;>omega) j
    ·rw[if_neg p] at j;rw[show((X.length:Int)+(Y.length:Int)!=8)=true by simp;omega];exact⟨_,_,bad j⟩
   | true=>
    simp only[c9,cond_false,cond_true,if_true] at j ⊢;by_cases p:X.length+Y.length<=7
    ·rw[if_pos p] at j;rw[A6];simp only[cond_false];rw[show(a8 8 [SV.int aj1 0])=r8 8 from rfl,Bl2 X Y (by omega)];exact n _ (by simp<;>omega) j
    ·rw[if_neg p] at j;rw[A8];exact⟨_,_,bad j⟩
theorem VW(P T:List Nat)(t v:Nat):aj4 (D7 (P++t::T)) P.length (F8 (p6 (D7 (P++t::T)) P.length []) 0 [SV.int .u16 (v:Int)])=D7 (P++v::T):=by
 have a:p6 (D7 (P++t::T)) P.length []=[SV.int .u16 (t:Int)]:=by
  simp[D7,b9]
 rw[a];simp only[F8,List.set_cons_zero];simp[D7]
theorem Ci1(X T:List Nat)(i:Nat)(h:i<X.length):X.take (i+1)++T=X.take i++X.getD i 0::T:=by rw[al9,j7 h,b9,j7 h,s9];rfl
theorem Dc6{R:Type}{k0:LL->LL->Option R}(z:Bool)(X:List Nat)(h:X.length=8)(c:LL):∀(r i n:Nat),i+r=8->r<n->Mh LF n z (D7 X) (i:Int) c (D7 (X.take i++a8 r 0)) k0=k0 c (D7 X):=by
 intro r
 induction r with
 | zero=>
  intro i n d f;obtain⟨n,rfl⟩:∃m,n=m+1:=⟨n-1,by omega⟩
  rw[Mh];rw[A6,v8 (by omega)];simp
 | succ r g=>
  intro i n d f;obtain⟨n,rfl⟩:∃m,n=m+1:=⟨n-1,by omega⟩
  rw[Mh];have a:((i:Int)+1)=((i+1:Nat):Int):=by omega
  have e:(X.take i).length=i:=by rw[y7];omega
  have b:=VW (X.take i) (a8 r 0) 0 (X.getD i 0);rw[e] at b;simp (disch:=first|omega|(simp[H6];omega)) only[B7,H6,M8,cond_true,b8,Wc,HW,vl,C7,ak1,b];rw[decide_eq_true (show i<p5 (X.take i++(0:Nat)::a8 r (0:Nat)) by simp<;>omega),a];simp only[cond_true];have:=g (i+1) n (by omega) (by omega);rw[Ci1 X _ i (by omega)] at this;exact this
theorem Dc7{R:Type}{k0:Bool->LL->LL->LL->Option R}(z:Bool)(X:List Nat)(k:X.length<=8)(e:Bool)(d c:LL):∀(r i n:Nat),i+r=X.length->r<n->Mi LF n z (D7 X) e d (i:Int) c (D7 (X.take i++a8 (8-i) 0)) k0=k0 e d c (D7 (X++a8 (8-X.length) 0)):=by
 intro r
 induction r with
 | zero=>
  intro i n f h;obtain⟨n,rfl⟩:∃m,n=m+1:=⟨n-1,by omega⟩
  rw[Mi];rw[H6,A6,v8 (by omega),show i=X.length by omega];rfl
 | succ r j=>
  intro i n f h;obtain⟨n,rfl⟩:∃m,n=m+1:=⟨n-1,by omega⟩
  rw[Mi];have a:((i:Int)+1)=((i+1:Nat):Int):=by omega
  have g:(X.take i).length=i:=by rw[y7];omega
  have b:=VW (X.take i) (a8 (7-i) 0) 0 (X.getD i 0);rw[g] at b;rw[show 8-i=7-i+1 by omega,ak1];simp (disch:=first|omega|(simp[H6];omega)) only[B7,H6,M8,cond_true,b8,Wc,HW,vl,C7,b];rw[decide_eq_true (show i<p5 (X.take i++(0:Nat)::a8 (7-i) (0:Nat)) by simp<;>omega),a];simp only[cond_true];have:=j (i+1) n (by omega) (by omega);rw[Ci1 X _ i (by omega),show 8-(i+1)=7-i by omega] at this;exact this
theorem Dc8{R:Type}{k0:LL->LL->Option R}(z:Bool)(Y P:List Nat)(o:P.length+Y.length=8)(e:LL):∀(r i n:Nat) (T:List Nat),i+r=Y.length->r<n->T.length=r->Mj LF n z (D7 Y) (i:Int) e (D7 (P++Y.take i++T)) k0=k0 e (D7 (P++Y)):=by
 intro r
 induction r with
 | zero=>
  intro i n T h k a;obtain⟨n,rfl⟩:∃m,n=m+1:=⟨n-1,by omega⟩
  rw[Mj];rw[H6,A6,v8 (by omega),k9.1 a];simp
 | succ r l=>
  intro i n T h k a;obtain⟨n,rfl⟩:∃m,n=m+1:=⟨n-1,by omega⟩
  obtain⟨t,T,rfl⟩:∃t b,T=t::b:=by
   match T,a with
   | t::b,_=>exact⟨t,b,rfl⟩
  rw[Mj];have c:((i:Int)+1)=((i+1:Nat):Int):=by omega
  have j:(P++Y.take i).length=P.length+i:=by simp<;>omega
  have d:=VW (P++Y.take i) T t (Y.getD i 0);rw[j] at d;have f:A1 (8-(Y.length:Int))=(P.length:Int):=by rw[A7];omega
  have g:A1 ((P.length:Int)+(i:Int))=((P.length+i:Nat):Int):=by rw[A7];rfl
  simp (disch:=first|omega|(simp[H6];omega)) only[B7,H6,M8,cond_true,b8,Wc,HW,vl,f,g,C7,d];rw[decide_eq_true (show P.length+i<p5 (P++Y.take i++t::T) by simp<;>omega),c];simp only[cond_true];have:=l (i+1) n T (by omega) (by omega) (by simpa using a);rw[s9,Ci1 Y _ i (by omega),<-s9] at this;exact this
theorem Bw9{R:Type}{k0:Int->Int->Int->Int->Int->Int->Int->Int->Bool->LL->LL->Option R}(s:By)(B:A2 s.length=true) :
  ∃l L,Cg8 LF s k0=k0 (v6c 0 s) (v6c 1 s) (v6c 2 s) (v6c 3 s) (v6c 4 s) (v6c 5 s) (v6c 6 s) (v6c 7 s) (v6B s).isSome l L:=by
 have M:=M3 B;have F:=C6;unfold Cg8 v6c;rw[B];have bad:∀(h:v6B s=none),k0 0 0 0 0 0 0 0 0 false (r8 8) (r8 8)=k0 ((((v6B s).getD z8).getD 0 0:Nat):Int) ((((v6B s).getD z8).getD 1 0:Nat):Int) ((((v6B s).getD z8).getD 2 0:Nat):Int) ((((v6B s).getD z8).getD 3 0:Nat):Int) ((((v6B s).getD z8).getD 4 0:Nat):Int) ((((v6B s).getD z8).getD 5 0:Nat):Int) ((((v6B s).getD z8).getD 6 0:Nat):Int) ((((v6B s).getD z8).getD 7 0:Nat):Int) (v6B s).isSome (r8 8) (r8 8):=by
  intro h;rw[h];rfl
 have j:v6B s=match O7 (ab2 s [58,58]).1 (!(ab2 s [58,58]).2.2),O7 (ab2 s [58,58]).2.1 true with
  | some x,some y=>if (ab2 s [58,58]).2.2 then (if x.length+y.length<=7 then some (x++a8 (8-x.length-y.length) 0++y) else none)
   else if x.length+y.length=8 then some (x++y) else none
  | _,_=>none:=rfl
 have J:=Lib.index_room s [58,58];have I:=aq3 s [58,58];simp only[cond_true];by_cases C:HJ s<0
 ·have n:ab2 s [58,58]=(s,[],false):=by
   unfold ab2;rw[if_neg (by unfold HJ at C;omega)]
  rw[n] at j;simp only[j0,w6,if_false] at j;rw[B7 C];simp only[cond_true];cases m:O7 s true with
  | none=>
   rw[m] at j;exact⟨_,_,bad j⟩
  | some X=>
   have o:O7 [] true=some []:=rfl;have A:X.length<=2000000002:=by
    unfold O7 at m;split at m
    ·cases m;simp
    ·have:=Jy _ _ _ m;have:=Y9 58 (s:=s) (by omega);omega
   rw[m,o] at j;simp only[aa0,aq9,x7] at j;simp only[ac4,c9,cond_false,IA m,H6];by_cases p:X.length=8
   ·rw[if_pos p] at j;rw[show((X.length:Int)!=8)=false by simp;omega];simp only[cond_false];rw[show(a8 8 [SV.int aj1 0])=r8 8 from rfl];have h:=λK=>Dc6 (R:=R) (k0:=K) X.isEmpty X p (r8 8) 8 0 LF (by omega) (by omega)
    simp only[ag8,x8] at h;rw[<-A03] at h;rw[show((0:Nat):Int)=0 from rfl] at h;rw[h];rw[j];clear h j m bad;obtain⟨a,b,c,d,e,f,g,i,rfl⟩:=Cu1 p;exact⟨_,_,rfl⟩
   ·rw[if_neg p] at j;rw[show((X.length:Int)!=8)=true by simp;omega];exact⟨_,_,bad j⟩
 ·have r:0<=HJ s:=by omega
  have q:=J r;obtain⟨k,t⟩:=j8 r;have w:k+2<=s.length:=by
   have:HJ s+2<=(s.length:Int):=q;omega
  have n:ab2 s [58,58]=(s.take k,s.drop (k+2),true):=by
   unfold ab2;have:p9 s [58,58]=(k:Int):=t;rw[P9,this];rfl
  rw[n] at j;simp only[c9,if_true] at j;have D:A1 ((k:Int)+2)=((k+2:Nat):Int):=by rw[A7];rfl
  rw[t,A6,I2];simp only[cond_false,cond_true,vl,D,K2,Q8,b8];rw[E0 (by simp<;>omega),I2,E0 (by simp<;>omega)];simp only[cond_true];cases m:O7 (s.take k) false with
  | none=>
   rw[m] at j;exact⟨_,_,bad j⟩
  | some X=>
   cases o:O7 (s.drop (k+2)) true with
   | none=>
    rw[m,o] at j;exact⟨_,_,bad j⟩
   | some Y=>
    have A:X.length<=2000000002:=by
     unfold O7 at m;split at m
     ·cases m;simp
     ·have:=Jy _ _ _ m;have:=Y9 58 (s:=s.take k) (by simp<;>omega);omega
    have H:Y.length<=2000000002:=by
     unfold O7 at o;split at o
     ·cases o;simp
     ·have:=Jy _ _ _ o;have:=Y9 58 (s:=s.drop (k+2)) (by simp<;>omega);omega
    rw[m,o] at j;simp only[ac4,c9,cond_false,IA m,IA o,H6];rw[A7];by_cases p:X.length+Y.length<=7
    ·simp only[if_pos p] at j;rw[A6];simp only[cond_false];rw[show(a8 8 [SV.int aj1 0])=r8 8 from rfl];have v:=λK=>Dc7 (R:=R) (k0:=K) X.isEmpty X (by omega) Y.isEmpty (D7 Y) (r8 8) X.length 0 LF (by omega) (by omega)
     simp only[ag8,x8] at v;rw[show(8-0:Nat)=8 from rfl,<-A03,show((0:Nat):Int)=0 from rfl] at v;rw[v];have u:X++a8 (8-X.length) 0=(X++a8 (8-X.length-Y.length) 0)++ad1 0 Y++a8 Y.length 0:=by
      simp only[ag8,x7,s9];rw[List.replicate_append_replicate]
      congr 2
      omega
     have z:=λK=>Dc8 (R:=R) (k0:=K) Y.isEmpty Y (X++a8 (8-X.length-Y.length) 0) (by simp<;>omega) (r8 8) Y.length 0 LF (a8 Y.length 0) (by omega) (by omega) (by simp)
     rw[<-u,show((0:Nat):Int)=0 from rfl] at z;rw[z];rw[j];have G:p5 (X++a8 (8-X.length-Y.length) 0++Y)=8:=by simp<;>omega
     clear v z u j m o bad;generalize (X++a8 (8-X.length-Y.length) 0++Y)=W at *;obtain⟨a,b,c,d,e,f,g,i,rfl⟩:=Cu1 G;exact⟨_,_,rfl⟩
    ·simp only[if_neg p] at j;rw[A8];exact⟨_,_,bad j⟩
theorem Ae9{x:Nat}{r:List Nat}:Td (x::r)=if x=0 then Td r+1 else 0:=by unfold Td;by_cases h:x=0<;>simp[h]
theorem VT(l:List Nat):Td l<=l.length:=by unfold Td;exact(List.takeWhile_sublist _).length_le
theorem Co1{R:Type}{k0:Int->Int->Int->Int->LL->Option R}(W:List Nat)(l:W.length=8)(b a:Int)(i:Nat):∀(r j n:Nat),i+j+r=8->r<n->
  Hu LF n b a (i:Int) (j:Int) (D7 W) k0=k0 b a (i:Int) ((j+Td (W.drop (i+j)):Nat):Int) (D7 W):=by
 intro r
 induction r with
 | zero=>
  intro j n f g;obtain⟨n,rfl⟩:∃m,n=m+1:=⟨n-1,by omega⟩
  rw[Hu];rw[A7,A6,j1 (by omega)];rfl
 | succ r k=>
  intro j n f g;obtain⟨n,rfl⟩:∃m,n=m+1:=⟨n-1,by omega⟩
  rw[Hu];have c:A1 ((i:Int)+(j:Int))=((i+j:Nat):Int):=by rw[A7];rfl
  have d:A1 ((j:Int)+1)=((j+1:Nat):Int):=by rw[A7];rfl
  have e:W.drop (i+j)=W.getD (i+j) 0::W.drop (i+(j+1)):=by
   rw[b9,j7 (by omega),ac1,<-Nat.add_assoc,ad5]
  simp (disch:=first|omega|(simp[H6];omega)) only[c,d,B7,M8,cond_true,b8,Wc,HW,vl];rw[e,Ae9];by_cases h:W.getD (i+j) 0=0
  ·rw[h,if_pos rfl,show(((0:Nat):Int)==0)=true from rfl,cond_true,k (j+1) n (by omega) (by omega)]
   congr 2
   omega
  ·rw[if_neg h,show(((W.getD (i+j) 0:Nat):Int)==0)=false by rw[beq_eq_false_iff_ne];omega];rfl
theorem B16{R:Type}{k0:Int->Int->LL->Option R}(W:List Nat)(f:W.length=8):∀(r i n z m:Nat),i+r=8->r<n->z<=8->m<=8->
  Em LF n (z:Int) (m:Int) (i:Int) (D7 W) k0=k0 ((zGo (W.drop i) i z m).1:Nat) ((zGo (W.drop i) i z m).2:Nat) (D7 W):=by
 intro r
 induction r with
 | zero=>
  intro i n z m j o c l;obtain⟨n,rfl⟩:∃m,n=m+1:=⟨n-1,by omega⟩
  rw[Em];rw[A6,j1 (by omega)];rfl
 | succ r d=>
  intro i n z m j o c l;obtain⟨n,rfl⟩:∃m,n=m+1:=⟨n-1,by omega⟩
  have e:=C6;rw[Em];have a:=λK=>Co1 (R:=R) (k0:=K) W f (z:Int) (m:Int) i r.succ 0 LF (by omega) (by omega)
  rw[show((0:Nat):Int)=0 from rfl] at a;simp only[am2,aq9] at a;rw[A8,cond_true,a];have g:W.drop i=W.getD i 0::W.drop (i+1):=by
   rw[b9,j7 (by omega),ac1,ad5]
  have k:=VT (W.drop i);rw[j9] at k;have b:A1 ((i:Int)+1)=((i+1:Nat):Int):=by rw[A7];rfl
  rw[b];have c:zGo (W.drop i) i z m=if m<Td (W.drop i) then zGo (W.drop (i+1)) (i+1) i (Td (W.drop i)) else zGo (W.drop (i+1)) (i+1) z m:=by
   rw[g];rfl
  rw[c];by_cases h:m<Td (W.drop i)
  ·rw[if_pos h,A8,cond_true];exact d (i+1) n i (Td (W.drop i)) (by omega) (by omega) (by omega) (by omega)
  ·rw[if_neg h,A6,cond_false];exact d (i+1) n z m (by omega) (by omega) (by omega) (by omega)
theorem Wb{a b c d e f g i:Int}(h:ok8 a b c d e f g i=true):∃j k l m n o p q:Nat,a=j/\b=k/\c=l/\d=m/\e=n/\f=o/\g=p/\i=q/\j<65536/\k<65536/\l<65536/\m<65536/\n<65536/\o<65536/\p<65536/\q<65536:=by simp only[ok8,ab3,List.all_nil,ad0,j4,E3] at h;exact⟨a.toNat,b.toNat,c.toNat,d.toNat,e.toNat,f.toNat,g.toNat,i.toNat,by omega,by omega,by omega,by omega,by omega,by omega,by omega,by omega,by omega,by omega,by omega,by omega,by omega,by omega,by omega,by omega⟩
theorem Bc6{R:Type}{j:Int->Int->LL->Option R}(a b c d e f g i:Int)(t:ok8 a b c d e f g i=true):Bm3 LF a b c d e f g i j=j ((zGo (n8 a b c d e f g i) 0 0 0).1:Nat) ((zGo (n8 a b c d e f g i) 0 0 0).2:Nat) (D7 (n8 a b c d e f g i)):=by obtain⟨k,l,m,n,o,p,q,r,rfl,rfl,rfl,rfl,rfl,rfl,rfl,rfl,h⟩:=Wb t;have:=C6;unfold Bm3;exact B16 [k,l,m,n,o,p,q,r] rfl 8 0 LF 0 0 rfl (by omega) (by omega) (by omega)
theorem Bw{n:Nat}(h:n<16):U7 n=[Nh n]:=by rw[U7,dif_pos h]
theorem Bd{n:Nat}(h:¬n<16):U7 n=U7 (n / 16)++[Nh (n % 16)]:=by rw[U7,dif_neg h]
theorem IB:∀n:Nat,n<65536->1<=(U7 n).length/\(U7 n).length<=4:=by
 intro n d;by_cases a:n<16
 ·rw[Bw a];simp
 rw[Bd a];by_cases b:n / 16<16
 ·rw[Bw b];simp
 rw[Bd b];by_cases c:n / 16 / 16<16
 ·rw[Bw c];simp
 rw[Bd c,Bw (show n / 16 / 16 / 16<16 by omega)];simp
theorem Bg9(d:Nat)(h:d<16):Nh d≠58:=by
 have:∀d:Fin 16,Nh d.val≠58:=by decide
 exact this ⟨d,h⟩
theorem VF{R:Type}{c:Int->Option R}{d:Unit->Option R}(s:By)(x:s.length<=1000000000):∀(r i n:Nat),i+r=s.length->r<n->
  U5 LF n s (i:Int) c d=if p9 (s.drop i) [58,58]=-1 then d () else c ((i:Int)+p9 (s.drop i) [58,58]):=by
 intro r
 induction r with
 | zero=>
  intro i n q u;obtain⟨n,rfl⟩:∃m,n=m+1:=⟨n-1,by omega⟩
  rw[U5];rw[A7,A6,j1 (by omega)];rfl
 | succ r h=>
  intro i n q u;obtain⟨n,rfl⟩:∃m,n=m+1:=⟨n-1,by omega⟩
  rw[U5];have f:A1 ((i:Int)+1)=((i+1:Nat):Int):=by rw[A7];rfl
  rw[f];by_cases t:i+1<s.length
  ·have h:=h (i+1) n (by omega) (by omega);rw[D2 s i (by omega)];have e:=D2 s (i+1) t;have p:=aq3 (s.drop (i+1)) [58,58];have l:p9 (s.getD i 0::s.drop (i+1)) [58,58]=if ([58,58]:By).isPrefixOf (s.getD i 0::s.drop (i+1)) then 0 else if p9 (s.drop (i+1)) [58,58]==-1 then -1 else p9 (s.drop (i+1)) [58,58]+1:=by
    rw[p9]
   have o:([58,58]:By).isPrefixOf (s.getD i 0::s.drop (i+1))=(s.getD i 0==58&&s.getD (i+1) 0==58):=by
    rw[e];simp only[ad7,ad0];rw[BEq.comm (a:=(58:UInt8)),BEq.comm (a:=(58:UInt8)) (b:=s.getD (i+1) 0)]
   have j:=Q7 (s.getD i 0) 58 (by omega);have k:=Q7 (s.getD (i+1) 0) 58 (by omega);rw[show((58:Nat):Int)=58 from rfl,show s8 58=(58:UInt8) from rfl] at j k;have next:U5 LF n s ((i+1:Nat):Int) c d=if (if p9 (s.drop (i+1)) [58,58]==-1 then (-1:Int) else p9 (s.drop (i+1)) [58,58]+1)=-1 then d () else c ((i:Int)+(if p9 (s.drop (i+1)) [58,58]==-1 then -1 else p9 (s.drop (i+1)) [58,58]+1)):=by
    rw[h];by_cases g:p9 (s.drop (i+1)) [58,58]=-1
    ·rw[g];rfl
    ·rw[if_neg g,show(p9 (s.drop (i+1)) [58,58]==-1)=false from beq_eq_false_iff_ne.2 g];simp only[w6,if_false];rw[F5]
     congr 1
     omega
   rw[l,o,A8,E9,E9];simp only[cond_true,D1,vl,j,k];cases v:(s.getD i 0==58) with
   | false=>
    simp only[cond_false,aj0,w6,if_false];exact next
   | true=>
    cases w:(s.getD (i+1) 0==58) with
    | false=>
     simp only[cond_true,cond_false,ao3,w6,if_false];exact next
    | true=>
     simp
  ·rw[A6,D2 s i (by omega),j1 (show s.length<=i+1 by omega)];have:p9 [s.getD i 0] [58,58]=-1:=by
    rw[p9];simp[ad7,p9]
   rw[this];rfl
theorem VG{R:Type}{a:Int->Option R}(s:By)(b:A2 s.length=true):EC LF s a=a (HJ s):=by have c:=M3 b;have:=C6;unfold EC HJ;refine p4 (VF s c s.length 0 LF (by omega) (by omega)) ?_;grind
theorem Lw(n:Nat):ptI (n:Int)=V0 n:=rfl
theorem Ab9{R:Type}{a:Bool->Option R}(n:Int):VA LF n a=a (ptI n):=by
 unfold VA;by_cases h:n<0
 ·rw[B7 h];have:ptI n=false:=by
   cases n with
   | ofNat m=>exact absurd h (by simp)
   | negSucc m=>rfl
  grind
 ·obtain⟨m,rfl⟩:=j8 (show 0<=n by omega);rw[A6,Lw];unfold V0;by_cases b:1114111<m
  ·rw[A8];have:x3 m 1114111=false:=by rw[z7,ne_eq,x5];omega
   grind
  ·rw[A6];have:x3 m 1114111=true:=by rw[x5];omega
   rw[this];by_cases c:m<55296
   ·rw[A8];have:Nat.blt m 55296=true:=by rw[ak6];omega
    grind
   ·rw[A6];have e:Nat.blt m 55296=false:=by rw[z7,ne_eq,ak6];omega
    rw[e];simp only[j0,cond_true,cond_false,af8,ad9]
    congr 1
theorem GI{d k:Nat}(h:455<d):Yr d k=Yr (d / 35) (k+36):=by rw[Yr,dif_pos h]
theorem Rv{d k:Nat}(h:¬ 455<d):Yr d k=k+36*d / (d+38):=by rw[Yr,dif_neg h]
theorem Aa8{R:Type}{k0:Int->Int->Option R}:∀(d n k:Nat),d<2305843009213693952->d<n->k+d<=4611686018427387904->
  ∃a b,a<=455/\b<=k+d/\Yr d k=b+36*a / (a+38)/\Ga LF n (d:Int) (k:Int) k0=k0 (a:Int) (b:Int):=by
 intro d
 induction d using ad8 with
 | _ d l=>
  intro n k p r q;obtain⟨n,rfl⟩:∃m,n=m+1:=⟨n-1,by omega⟩
  rw[Ga];by_cases h:455<d
  ·obtain⟨a,b,g,o,i,j⟩:=l (d / 35) (by omega) n (k+36) (by omega) (by omega) (by omega);refine⟨a,b,g,by omega,by rw[GI h];exact i,?_⟩;have e:ae3 (d:Int) 35=((d / 35:Nat):Int):=M9 d 35;have c:A1 ((d / 35:Nat):Int)=((d / 35:Nat):Int):=A7;have f:A1 ((k:Int)+36)=((k+36:Nat):Int):=by rw[A7];rfl
   rw[A8];simp only[cond_true,vl,e,c,f];exact j
  ·refine⟨d,k,by omega,by omega,Rv h,?_⟩;rw[A6];rfl
theorem Aa9{R:Type}{k0:Int->Option R}(d c:Int)(f:Bool)(z:ltN d 1152921504606846976=true)(A:ltN c 1000000=true)(B:ltI 0 c=true):JC LF d c f k0=k0 (Q3 d.toNat c.toNat f:Nat):=by
 obtain⟨k,F⟩:=E3.1 z;obtain⟨j,D⟩:=E3.1 A;obtain⟨d,rfl⟩:=j8 k;obtain⟨c,rfl⟩:=j8 j;have J:=Lr.1 B;have C:=C6;have key:∀x:Nat,x<1152921504606846976->Fz LF (x:Int) (c:Int) k0=k0 ((Yr (x+x / c) 0:Nat):Int):=by
  intro x L;have G:x / c<=x:=af2 _ _;unfold Fz;have g:ae3 (x:Int) (c:Int)=((x / c:Nat):Int):=M9 x c;generalize x / c=q at *;have h:A1 (q:Int)=(q:Int):=A7;have o:A1 ((x:Int)+(q:Int))=((x+q:Nat):Int):=by rw[A7];rfl
  rw[show((c:Int)!=0)=true by simp;omega];simp only[cond_true,vl,g,h,o];obtain⟨a,n,H,I,w,y⟩:=Aa8 (R:=R) (k0:=λb l=>vl (A1 ((36)*b)) λm=>vl (A1 (b+(38))) λe=>cond (e !=(0)) (vl (A1 (ae3 m e)) λi=>k0 (A1 (l+i))) none) (x+q) LF 0 (by omega) (by omega) (by omega);refine p4 y ?_;have K:36*a / (a+38)<=36*a:=af2 _ _;have p:A1 (36*(a:Int))=((36*a:Nat):Int):=by rw[A7];rfl
  have r:A1 ((a:Int)+38)=((a+38:Nat):Int):=by rw[A7];rfl
  have t:ae3 ((36*a:Nat):Int) ((a+38:Nat):Int)=((36*a / (a+38):Nat):Int):=M9 _ _;have u:A1 ((36*a / (a+38):Nat):Int)=((36*a / (a+38):Nat):Int):=A7;have v:A1 ((n:Int)+((36*a / (a+38):Nat):Int))=((n+36*a / (a+38):Nat):Int):=by rw[A7];rfl
  simp only[vl,p,r,t,u,v];rw[show(((a+38:Nat):Int)!=0)=true by simp;omega,w];rfl
 unfold JC Q3;rw[b8,b8];cases f with
 | true=>
  have g:ae3 (d:Int) 700=((d / 700:Nat):Int):=M9 d 700;have h:A1 ((d / 700:Nat):Int)=((d / 700:Nat):Int):=A7;simp only[cond_true,vl,g,h,if_true];exact key _ (by omega)
 | false=>
  have g:ae3 (d:Int) 2=((d / 2:Nat):Int):=M9 d 2;have h:A1 ((d / 2:Nat):Int)=((d / 2:Nat):Int):=A7;simp only[cond_false,vl,g,h,w6,if_false];exact key _ (by omega)
theorem MV{d:Nat}(h:d<36):(Aj d).toNat=if d<26 then 97+d else 22+d:=by unfold Aj;split<;>simp<;>omega
theorem Bs8{R:Type}{b:Int->Option R}(d:Int)(c:ltN d 36=true):Cw5 LF d b=b ((Aj d.toNat).toNat:Nat):=by
 obtain⟨a,e⟩:=E3.1 c;obtain⟨d,rfl⟩:=j8 a;unfold Cw5;rw[b8,MV (by omega)];by_cases h:d<26
 ·rw[A8,if_pos h];simp only[cond_true,vl]
  congr 1
  rw[A7,L9];rfl
 ·rw[A6,if_neg h];simp only[cond_false,vl]
  congr 1
  rw[C7 (n:=48+(d:Int)) (by omega) (by omega),A7,L9];omega
theorem DB(b:UInt8):(97<=b.toNat/\b.toNat<=122/\Ng b=some (b.toNat-97))\/(65<=b.toNat/\b.toNat<=90/\Ng b=some (b.toNat-65))\/(48<=b.toNat/\b.toNat<=57/\Ng b=some (b.toNat-22))\/(¬(97<=b.toNat/\b.toNat<=122)/\¬(65<=b.toNat/\b.toNat<=90)/\¬(48<=b.toNat/\b.toNat<=57)/\Ng b=none):=by unfold Ng;grind
theorem Bt5{R:Type}{g:Int->Option R}(b:Int)(h:inR b 256=true):Cd2 LF b g=g (D9 (u8n b)):=by
 simp only[inR,j4,decide_eq_true_eq] at h;have j:b=((u8n b).toNat:Int):=by
  unfold u8n;simp;omega
 generalize u8n b=c at *;subst j;have i:=c.toNat_lt;unfold Cd2 D9;simp only[Wf,We,vl];rcases DB c with⟨d,f,e⟩|⟨d,f,e⟩|⟨d,f,e⟩|⟨d,f,o,e⟩
 ·have a:A1 (wu8 ((c.toNat:Int)-97))=((c.toNat-97:Nat):Int):=by
   rw[L9,A7];omega
  simp (disch:=omega) only[B7,E2,c9,j0,cond_false,cond_true,a,e]
 ·have a:A1 (wu8 ((c.toNat:Int)-65))=((c.toNat-65:Nat):Int):=by
   rw[L9,A7];omega
  simp (disch:=omega) only[B7,E2,c9,j0,cond_false,cond_true,a,e]
 ·have a:A1 (A1 (wu8 ((c.toNat:Int)-48))+26)=((c.toNat-22:Nat):Int):=by
   rw[L9,C7 (n:=(c.toNat:Int)-48) (by omega) (by omega),A7];omega
  simp (disch:=omega) only[B7,E2,c9,j0,cond_false,cond_true,a,e]
 ·rw[e];by_cases k:c.toNat<48
  ·simp (disch:=omega) only[B7,E2,c9,j0,cond_false,cond_true]
  ·by_cases l:c.toNat<65
   ·simp (disch:=omega) only[B7,E2,c9,j0,cond_false,cond_true]
   ·by_cases m:c.toNat<97
    ·simp (disch:=omega) only[B7,E2,c9,j0,cond_false,cond_true]
    ·simp (disch:=omega) only[B7,E2,c9,j0,cond_false,cond_true]
theorem C12{l:LL}(h:l.all Vo=true):∃W:List Nat,l=D7 W/\(∀x∈W,x<65536):=by
 induction l with
 | nil=>exact⟨[],rfl,by simp⟩
 | cons x r c=>
  simp only[ab3,j4] at h;obtain⟨W,rfl,e⟩:=c h.2;have a:=h.1;unfold Vo at a;split at a
  ·rename_i n;obtain⟨b,d⟩:=E3.1 a;obtain⟨m,rfl⟩:=j8 b;refine⟨m::W,rfl,?_⟩;grind
  ·cases a
theorem WO{W:List Nat}(h:∀x∈W,x<65536):(D7 W).all Vo=true:=by rw[y5];intro x a;simp only[D7,al7] at a;obtain⟨n,b,rfl⟩:=a;have:=h n b;exact Vt (v:=(n:Int)) (n:=65536) (by omega) (by omega)
theorem Uw(W:List Nat):(D7 W).map elN=W:=by
 unfold D7;rw[af6]
 conv=>rhs;rw[<-ah5 W]
 apply aa5;intro x _;simp[elN,SV.gI]
theorem YW(l:List By):(D5 l).map elS=l:=by
 unfold D5;rw[af6]
 conv=>rhs;rw[<-ah5 l]
 apply aa5;intro x _;simp[elS,SV.gS]
theorem Ch7(l:List By):(D5 l).all isS=true:=by rw[y5];intro x a;simp only[D5,al7] at a;obtain⟨n,b,rfl⟩:=a;rfl
theorem Ch4{P:List Nat->Prop}(a:P [])(b:∀l x,P l->P (l++[x]))(l:List Nat):P l:=by
 have:∀r:List Nat,P r.reverse:=by
  intro r
  induction r with
  | nil=>exact a
  | cons x r c=>rw[List.reverse_cons];exact b _ _ c
 have:=this l.reverse;grind
theorem Bp8(l:List By)(x p:By)(h:l≠[]):y9 (l++[x]) p=y9 l p++p++x:=by
 cases l with
 | nil=>exact absurd rfl h
 | cons y r=>
  rw[ae5,ap0,ap0];unfold aq4;simp
theorem NN:N8 []=[]:=rfl
theorem AB(n:Nat):N8 [n]=U7 n:=by unfold N8;exact af5 _ _
theorem Av2(l:List Nat)(n:Nat)(h:l≠[]):N8 (l++[n])=N8 l++[58]++U7 n:=by unfold N8;rw[af1,List.map_singleton,Bp8 _ _ _ (by simpa using h)]
theorem Fw:∀l:List Nat,(∀x∈l,x<65536)->(N8 l).length<=5*l.length:=by
 refine Ch4 ?_ ?_
 ·intro _;simp[NN]
 ·intro l n c h;have d:=c (λx b=>h x (by simp[b]));have e:=IB n (h n (by simp));by_cases a:l=[]
  ·subst a;rw[x8,AB];simp;omega
  ·rw[Av2 l n a];simp;omega
theorem Ck7{R:Type}{c:LL->Option R}(z t:Bool)(W:List Nat)(l:∀x∈W,x<65536)(p:W.length<=8):∀(r i n:Nat) (d:List By),i+r=W.length->r<n->d.length=i->
  Tv LF n z t (D7 W) (W.length:Int) (i:Int) (D5 d) c=c (D5 (d++(W.drop i).map U7)):=by
 intro r
 induction r with
 | zero=>
  intro i n d h j f;obtain⟨n,rfl⟩:∃m,n=m+1:=⟨n-1,by omega⟩
  rw[Tv];rw[A6,j1 (by omega)];simp
 | succ r k=>
  intro i n d h j f;obtain⟨n,rfl⟩:∃m,n=m+1:=⟨n-1,by omega⟩
  rw[Tv];have b:W.drop i=W.getD i 0::W.drop (i+1):=by
   rw[b9,j7 (by omega),ac1,ad5]
  have o:W.getD i 0<65536:=by
   rw[b9,j7 (by omega),ac1];simp_all
  have e:A1 ((i:Int)+1)=((i+1:Nat):Int):=by rw[A7];rfl
  rw[b];generalize g:W.getD i 0=x at *;simp (disch:=omega) only[B7,M8,cond_true,H6,b8,Wc,HW,vl,e,g,WY,Vt,G6,F3,show((16:Int)==16)=true from rfl];have a:D5 d++[[SV.str (U7 x)]]=D5 (d++[U7 x]):=by rw[Xh];rfl
  rw[a,k (i+1) n _ (by omega) (by omega) (by simp;omega)];simp
theorem Ck8{R:Type}{k0:By->LL->Option R}(z t:Bool)(l:LL)(c:l.all Vo=true)(a:x3 l.length 8=true):∃g,v6j LF z t l k0=k0 (N8 (l.map elN)) g:=by
 obtain⟨W,rfl,b⟩:=C12 c;have f:W.length<=8:=by rw[H6] at a;exact ac5 a
 have d:=C6;refine⟨D5 (W.map U7),?_⟩;unfold v6j;rw[H6];refine p4 (Ck7 z t W b f W.length 0 LF [] (by omega) (by omega) rfl) ?_;have e:=Fw W b;unfold N8 at e;rw[x8,v7,Ch7,YW,Uw,G6,M5,E0 (by simp;omega)];rfl
theorem Bc3:∀(l:List Nat) (i z m:Nat),z+m<=i+l.length->(zGo l i z m).1+(zGo l i z m).2<=i+l.length
 | [],i,z,m,h=>by simpa[zGo] using h
 | x::r,i,z,m,h=>by
  have a:=VT (x::r);simp only[zGo];simp only[j6] at h a ⊢;split
  ·have:=Bc3 r (i+1) i (Td (x::r)) (by omega);omega
  ·have:=Bc3 r (i+1) z m (by omega);omega
theorem Ck6{R:Type}{k0:By->LL->Option R}(p r t u v w y A:Int)(G:ok8 p r t u v w y A=true):∃l,v6f LF p r t u v w y A k0=k0 (Co (n8 p r t u v w y A)) l:=by
 obtain⟨a,b,c,d,e,f,g,j,rfl,rfl,rfl,rfl,rfl,rfl,rfl,rfl,h⟩:=Wb G;have C:n8 a b c d e f g j=[a,b,c,d,e,f,g,j]:=rfl;refine⟨D7 [a,b,c,d,e,f,g,j],?_⟩;unfold v6f;rw[G,C,cond_true];have o:([[SV.int .u16 (a:Int)],[SV.int .u16 (b:Int)],[SV.int .u16 (c:Int)],[SV.int .u16 (d:Int)],[SV.int .u16 (e:Int)],[SV.int .u16 (f:Int)],[SV.int .u16 (g:Int)],[SV.int .u16 (j:Int)]]:LL)=D7 [a,b,c,d,e,f,g,j]:=rfl;rw[o];have B:∀x∈[a,b,c,d,e,f,g,j],x<65536:=by simp_all
 have n:[a,b,c,d,e,f,g,j].length=8:=rfl;have k:=Bc3 [a,b,c,d,e,f,g,j] 0 0 0 (by simp);unfold Co;generalize [a,b,c,d,e,f,g,j]=W at *;generalize zGo W 0 0 0=q at *;obtain⟨z,m⟩:=q;rw[n] at k;simp only[vl] at k ⊢;have N:∀i,(D7 W).take i=D7 (W.take i):=λi=>by unfold D7;rw[ap1]
 have J:∀i,(D7 W).drop i=D7 (W.drop i):=λi=>by unfold D7;rw[ak3]
 by_cases I:m<2
 ·rw[if_pos I,A8,cond_true,WO B,Uw];rfl
 ·have K:A1 ((z:Int)+(m:Int))=((z+m:Nat):Int):=by rw[A7];rfl
  have hA:∀x∈W.take z,x<65536:=λx D=>B x (ag1 D)
  have H:∀x∈W.drop (z+m),x<65536:=λx D=>B x (ag0 D)
  have O:=Fw _ hA;have P:=Fw _ H;have L:(W.take z).length<=8:=by rw[y7];omega
  have M:(W.drop (z+m)).length<=8:=by rw[j9];omega
  rw[if_neg I,A6,cond_false,I2,K];simp only[b8,Nat.sub_zero];rw[N,J,WO hA,Uw,H6,aa9 L,J7 (by omega),I2];have F:(D7 (W.drop (z+m))).take (8-(z+m))=D7 (W.drop (z+m)):=v8 (by rw[H6,j9];omega);rw[F,WO H,Uw,H6,aa9 M,J7 (by simp;omega)];simp
set_option maxRecDepth 100000
section
variable {Z R : Type} (L : Nat) (Y : G0) (Q : Yh Z) (s : Z) (k : Out -> St Z -> Option R)
noncomputable def SP(L:Nat):Cfg:=B6 L [161] (A3 []) [] (A3 [(1,[2]),(0,[0])]) [] (A3 []) (some [2]) [] [] []
noncomputable def C75{R:Type}(L:Nat)(a:Unit->Option R):Option R:=a ()
theorem B95(d:Nat):evC (SP L) (d+1) Z Q 161 [pI (16:Int)] [] s=C75 L  (λ_=>some (pB true,[],s)):=by refine(evE (fn:=Tryz.f161) (by kernel_rfl)).trans ?_;generalize evC (SP L) d=Y;unfold C75;kernel_rfl
noncomputable abbrev SE:Code:=C8 aq0
noncomputable def Hx(L:Nat):Cfg:=B6 L [132] (A3 [(11,[0,0,1,0,5,0,0,0,0,0,0]),(18,[0,0,1,0,5,0,0,0,3])]) [(161,QB),(162,C84)] (A3 [(30,[10,0]),(29,[10,0]),(28,[0,9,0,0,0,80]),(27,[0,3,5,0,0,0]),(26,[0,3,5,0,0,0]),(25,[0,3,5,0,0,0,75]),(16,[0,2,0,5,0,0,0]),(15,[0,0,1,0,5,0,0,0]),(14,[0,0,1,0,5,0,0,0,0,0,0]),(13,[0,0,1,0,5,0,0,0,0,0,0]),(12,[0,0,1,0,5,0,0,0,0,0,0]),(11,[0,0,1,0,5,0,0,0,0,0,0,29]),(10,[0,0,1,0,5,0,0,0,0,0,0]),(9,[0,0,0,0,0,5,0,0,0,0,0]),(8,[0,0,0,0,0,5,0,0,0,0]),(24,[0,2,0,5,0,0,0]),(23,[0,0,1,0,5,0,0,0]),(22,[0,0,1,0,5,0,0,0,3]),(21,[0,2,0,5,0,0,0,3,0]),(20,[0,0,1,0,5,0,0,0,3,0]),(19,[0,0,1,0,5,0,0,0,3]),(18,[0,0,1,0,5,0,0,0,3,50]),(17,[0,0,1,0,5,0,0,0,3]),(7,[0,0,0,0,0,5,0,0,0,20]),(6,[0,0,0,0,0,5,0,0,0]),(5,[0,0,0,0,0,5,0,0,0,16]),(4,[0,0,0,0,0,5,0,0,0]),(3,[0,0,0,0,0,5,0,0]),(2,[0,0,0,0,0,5,0]),(1,[0,0,0,0,0,5,0,16]),(0,[0,0,0,0,0,5,0])]) [161,162] (A3 [(0,[0,0,1,0,5,0,0,0]),(1,[0,0,1,0,5,0,0,0,0,0,0]),(2,[0,0,1,0,5,0,0,0]),(3,[0,0,1,0,5,0,0,0,3])]) (some [10,0]) [] [] []
noncomputable def Jx{R:Type}(L n:Nat)(b a:Bool)(c:LL)(g d:Int)(f:LL)(j:Bool->Bool->LL->Int->Int->LL->Option R):Option R:=match n with|0=>none|n+1=>cond (not (ltI g 16)) (vl (Ap0 .u64 g (15:Int)) λe=>cond (inR e 36) (vl (bAt (([48,49,50,51,52,53,54,55,56,57,97,98,99,100,101,102,103,104,105,106,107,108,109,110,111,112,113,114,115,116]:List UInt8)++[117,118,119,120,121,122]) e) λi=>cond (inR (A1 (d-1)) 65) (cond (decide ((j5 (A1 (d-1)))<f.length)) (vl (aj4 f (j5 (A1 (d-1))) (F8 (p6 f (j5 (A1 (d-1))) []) 0 [(SV.int .u8 i)])) λh=>Jx L n b a c (KB .u64 g (4:Int)) (A1 (d-1)) h j) none) none) none) (j b a c g d f)
theorem YZ(n b a c f d e):D0 2 ((Hx L).keep 11) (bd (Hx L) Y Q (cd [1,1,1,1,1,0,1,0,1,1,1,0,0,0] SE)) n ⟨gp [(0,.s (.sl b a 0 c)),(0,p64 f),(1,pB false),(0,pB false),(5,.fl 0),(0,pS ([]:List UInt8)),(0,.ptr 1 0 0),(0,pI d),(0,p64 (4:Int)),(0,p64 (16:Int)),(0,p64 (15:Int))] 85,[.arr true 5 1 [],.arr false 138 1 e],s⟩ k =
 Jx L n b a c f d e (λb a c f d e=>k (.exit 0) ⟨gp [(0,.s (.sl b a 0 c)),(0,p64 f),(1,pB false),(0,pB false),(5,.fl 0),(0,pS ([]:List UInt8)),(0,.ptr 1 0 0),(0,pI d)] 88,[.arr true 5 1 [],.arr false 138 1 e],s⟩):=by
 induction n generalizing b a c f d e with
 | zero=>rfl
 | succ n g=>rw[Jx];simp only[<-g];kernel_rfl
noncomputable def YY{R:Type}(L:Nat)(e d:Bool)(ds:LL)(v:Int)(m:By->LL->Option R):Option R:=cond ((16:Int)==16) (cond ((16:Int)==16) (Jx L L e d ds v 65 (a8 65 [(SV.int .u8 (0:Int))]) (λg f j i a c=>cond (inR i 36) (vl (bAt (([48,49,50,51,52,53,54,55,56,57,97,98,99,100,101,102,103,104,105,106,107,108,109,110,111,112,113,114,115,116]:List UInt8)++[117,118,119,120,121,122]) i) λl=>cond (inR (A1 (a-1)) 65) (cond (decide ((j5 (A1 (a-1)))<c.length)) (vl (aj4 c (j5 (A1 (a-1))) (F8 (p6 c (j5 (A1 (a-1))) []) 0 [(SV.int .u8 l)])) λb=>cond (decide (b.length=65)) (cond (I7 (A1 (a-1)) (65:Int) 65) (cond (ag6 (ad1 (65-(j5 (A1 (a-1)))) (ae0 (j5 (A1 (a-1))) b)) Nj) (vl (ac3 Lh (ad1 (65-(j5 (A1 (a-1)))) (ae0 (j5 (A1 (a-1))) b))) λh=>m h b) none) none) none) none) none) none)) none) none
theorem B75(d:Nat)(ds_z ds_t ds v):evC (Hx L) (d+1) Z Q 132 [.s (.sl ds_z ds_t 0 ds),p64 v,pI (16:Int),pB false,pB false] [] s=YY L ds_z ds_t ds v (λb a=>some (.tup [.fl 0,pS b],[.arr true 5 1 [],.arr false 138 1 a],s)):=by refine(evE (fn:=aq0) (by kernel_rfl)).trans ?_;generalize evC (Hx L) d=Y;unfold YY;exact(p4 (by kernel_rfl) (A0 (A0 ((YZ L Y Q s (E6 0 (E5 (Hx L) Y Q (cd [1,1,1,1,1,0,1,0,1,1,1,1] SE) (E5 (Hx L) Y Q (cd [1,1,1,1,1,1] SE) (F7 (Hx L) aq0)))) L ds_z ds_t ds v 65 (a8 65 [(SV.int .u8 (0:Int))])).trans (by kernel_rfl)) rfl) rfl))
noncomputable def SO(L:Nat):Cfg:=B6 L [157] (A3 []) [(132,PM)] (A3 [(9,[4]),(8,[8]),(7,[4]),(6,[5,0]),(5,[0,4,0]),(4,[0,4]),(3,[4]),(2,[0,11]),(1,[0,0,8]),(0,[0,0])]) [] (A3 []) (some [4]) [] [] []
noncomputable def Bh3{R:Type}(L:Nat)(v:Int)(a:By->Option R):Option R:=cond (ltN v 65536) (cond ((16:Int)==16) (a (U7 (j5 v))) none) none
theorem B90(d:Nat)(v):evC (SO L) (d+1) Z Q 157 [p64 v,pI (16:Int)] [] s=Bh3 L v (λa=>some (pS a,[],s)):=by refine(evE (fn:=Tryz.f157) (by kernel_rfl)).trans ?_;generalize evC (SO L) d=Y;unfold Bh3;kernel_rfl
noncomputable def Ap8(L:Nat):Cfg:=B6 L [128] (A3 []) [(157,QA)] (A3 [(1,[4]),(0,[0,0])]) [157] (A3 []) (some [4]) [] [] []
noncomputable def Cr0{R:Type}(L:Nat)(v:Int)(a:By->Option R):Option R:=cond (ltN v 65536) (cond ((16:Int)==16) (a (U7 (j5 v))) none) none
theorem Cr1(d:Nat)(v):evC (Ap8 L) (d+1) Z Q 128 [p64 v,pI (16:Int)] [] s=Cr0 L v (λa=>some (pS a,[],s)):=by refine(evE (fn:=Tryz.f128) (by kernel_rfl)).trans ?_;generalize evC (Ap8 L) d=Y;unfold Cr0;kernel_rfl
end
end
end Go.Proofs.YtcfingekgbbclaaGreatDoor.E
namespace Go.Proofs
open Go.Shelf
def Tryz.lays156_ren:ab1:=⟨fun|156=>111|165=>142|166=>143|169=>144|240=>171|241=>172|276=>184|277=>185|n=>n,fun|31=>54|9=>9|3=>3|4=>4|0=>0|20=>20|72=>121|76=>125|70=>119|37=>38|75=>124|127=>149|164=>157|5=>5|80=>127|n=>n,fun|n=>n⟩
theorem Tryz.lays156:at6 s7 Tryz.lays156_ren:={
 mixed:=by kernel_rfl
 f156:=Tryz.func111.trans (congrArg some (by kernel_rfl))
 f165:=Tryz.func142.trans (congrArg some (by kernel_rfl))
 f166:=Tryz.func143.trans (congrArg some (by kernel_rfl))
 f169:=Tryz.func144.trans (congrArg some (by kernel_rfl))
 f240:=Tryz.func171.trans (congrArg some (by kernel_rfl))
 f241:=Tryz.func172.trans (congrArg some (by kernel_rfl))
 f276:=Tryz.func184.trans (congrArg some (by kernel_rfl))
 f277:=Tryz.func185.trans (congrArg some (by kernel_rfl))
 t0:=ab0
 a0:=ae4
 z0:=ad6
 v0:=ab7
 t3:=w8
 a3:=ac0
 z3:=ab4
 v3:=x9
 t4:=y8
 a4:=ac7
 z4:=ab8
 v4:=aa1
 t9:=aa3
 a9:=ad4
 z9:=ac9
 v9:=aa7
 t20:=am5
 a20:=ar9
 z20:=ap4
 v20:=an4
 t31:=Tryz.underlying54
 a31:=Tryz.isAgg54
 z31:=Tryz.sizeOf54
 v31:=Tryz.zeroValue54
 t37:=am6
 a37:=as0
 z37:=ap5
 v37:=an5
 t70:=Tryz.underlying119
 a70:=Tryz.isAgg119
 z70:=Tryz.sizeOf119
 v70:=Tryz.zeroValue119
 t72:=Tryz.underlying121
 a72:=Tryz.isAgg121
 z72:=Tryz.sizeOf121
 v72:=Tryz.zeroValue121
 t75:=Tryz.underlying124
 a75:=Tryz.isAgg124
 z75:=Tryz.sizeOf124
 v75:=Tryz.zeroValue124
 t76:=Tryz.underlying125
 a76:=Tryz.isAgg125
 z76:=Tryz.sizeOf125
 v76:=Tryz.zeroValue125
 t127:=Tryz.underlying149
 a127:=Tryz.isAgg149
 z127:=Tryz.sizeOf149
 v127:=Tryz.zeroValue149
 t164:=Tryz.underlying157
 a164:=Tryz.isAgg157
 z164:=Tryz.sizeOf157
 v164:=Tryz.zeroValue157 }
theorem Tryz.Builder_Extra_156:Builder.Extra s7 Tryz.lays156_ren:={
 sizeBuilder:=by kernel_rfl
 liesBuilder:=by kernel_rfl
 t5:=aa2
 a5:=ad3
 z5:=ac8
 v5:=aa6
 infoByte:=by kernel_rfl
 cellsByte:=by kernel_rfl
 sizeByte:=by kernel_rfl
 neB5:=by decide }
def Tryz.lays195_ren:ab1:=⟨fun|195=>140|n=>n,fun|9=>9|3=>3|0=>0|4=>4|n=>n,fun|n=>n⟩
theorem Tryz.lays195:at7 s7 Tryz.lays195_ren:={
 mixed:=by kernel_rfl
 f195:=ar4.trans (congrArg some (by kernel_rfl))
 t0:=ab0
 a0:=ae4
 z0:=ad6
 v0:=ab7
 t3:=w8
 a3:=ac0
 z3:=ab4
 v3:=x9
 t4:=y8
 a4:=ac7
 z4:=ab8
 v4:=aa1
 t9:=aa3
 a9:=ad4
 z9:=ac9
 v9:=aa7 }
def Tryz.laysM171_ren:ab1:=⟨fun|171=>51|243=>69|246=>97|283=>129|284=>130|285=>131|286=>132|129=>159|317=>158|318=>160|319=>161|320=>162|337=>177|338=>178|n=>n,fun|3=>3|9=>9|2=>2|4=>4|171=>113|0=>0|53=>112|37=>38|5=>5|173=>116|212=>137|51=>23|20=>20|213=>138|46=>53|232=>161|233=>162|n=>n,fun|17=>1|18=>4|19=>5|n=>n⟩
theorem Tryz.laysM171:as1 s7 Tryz.laysM171_ren:={
 mixed:=by kernel_rfl
 f129:=Tryz.func159.trans (congrArg some (by kernel_rfl))
 f171:=Tryz.func51.trans (congrArg some (by kernel_rfl))
 f243:=Tryz.func69.trans (congrArg some (by kernel_rfl))
 f246:=Tryz.func97.trans (congrArg some (by kernel_rfl))
 f283:=Tryz.func129.trans (congrArg some (by kernel_rfl))
 f284:=Tryz.func130.trans (congrArg some (by kernel_rfl))
 f285:=Tryz.func131.trans (congrArg some (by kernel_rfl))
 f286:=Tryz.func132.trans (congrArg some (by kernel_rfl))
 f317:=Tryz.func158.trans (congrArg some (by kernel_rfl))
 f318:=Tryz.func160.trans (congrArg some (by kernel_rfl))
 f319:=Tryz.func161.trans (congrArg some (by kernel_rfl))
 f320:=ar6.trans (congrArg some (by kernel_rfl))
 f337:=ar7.trans (congrArg some (by kernel_rfl))
 f338:=ar8.trans (congrArg some (by kernel_rfl))
 t0:=ab0
 a0:=ae4
 z0:=ad6
 v0:=ab7
 t2:=Tryz.underlying2
 a2:=Tryz.isAgg2
 z2:=Tryz.sizeOf2
 v2:=Tryz.zeroValue2
 t3:=w8
 a3:=ac0
 z3:=ab4
 v3:=x9
 t4:=y8
 a4:=ac7
 z4:=ab8
 v4:=aa1
 t5:=aa2
 a5:=ad3
 z5:=ac8
 v5:=aa6
 t9:=aa3
 a9:=ad4
 z9:=ac9
 v9:=aa7
 t20:=am5
 a20:=ar9
 z20:=ap4
 v20:=an4
 t37:=am6
 a37:=as0
 z37:=ap5
 v37:=an5
 t46:=ab5
 a46:=ae6
 z46:=ae1
 v46:=ac2
 t51:=ae2
 a51:=ag4
 z51:=af9
 v51:=ae7
 t53:=ag9
 a53:=ak4
 z53:=aj7
 v53:=ah7
 t171:=Tryz.underlying113
 a171:=Tryz.isAgg113
 z171:=Tryz.sizeOf113
 v171:=Tryz.zeroValue113
 t173:=Tryz.underlying116
 a173:=Tryz.isAgg116
 z173:=Tryz.sizeOf116
 v173:=Tryz.zeroValue116
 t212:=Tryz.underlying137
 a212:=Tryz.isAgg137
 z212:=Tryz.sizeOf137
 v212:=Tryz.zeroValue137
 t213:=Tryz.underlying138
 a213:=Tryz.isAgg138
 z213:=Tryz.sizeOf138
 t232:=ak8
 a232:=ap2
 z232:=ao7
 v232:=am7
 t233:=ak9
 a233:=ap3
 z233:=ao8
 v233:=Tryz.zeroValue162
 g17:=by kernel_rfl
 g18:=by kernel_rfl
 g19:=by kernel_rfl
 i0:=by kernel_rfl
 i2:=by kernel_rfl
 i3:=by kernel_rfl
 i4:=by kernel_rfl
 i5:=by kernel_rfl
 i9:=by kernel_rfl
 i20:=by kernel_rfl
 i37:=by kernel_rfl
 i46:=by kernel_rfl
 i51:=by kernel_rfl
 i53:=by kernel_rfl
 i171:=by kernel_rfl
 i173:=by kernel_rfl
 i212:=by kernel_rfl
 i232:=by kernel_rfl
 i233:=by kernel_rfl
 m17:=by kernel_rfl
 m18:=by kernel_rfl
 m19:=by kernel_rfl }
def Tryz.lays143_ren:ab1:=⟨fun|143=>154|219=>99|217=>100|225=>103|224=>102|267=>133|266=>134|314=>163|n=>n,fun|9=>9|3=>3|4=>4|5=>5|46=>53|146=>140|51=>23|n=>n,fun|1=>0|n=>n⟩
theorem Tryz.lays143:at3 s7 Tryz.lays143_ren:={
 mixed:=by kernel_rfl
 f143:=ar5.trans (congrArg some (by kernel_rfl))
 f217:=ag2.trans (congrArg some (by kernel_rfl))
 f219:=an8.trans (congrArg some (by kernel_rfl))
 f224:=ai4.trans (congrArg some (by kernel_rfl))
 f225:=ai5.trans (congrArg some (by kernel_rfl))
 f266:=ag3.trans (congrArg some (by kernel_rfl))
 f267:=am3.trans (congrArg some (by kernel_rfl))
 f314:=am4.trans (congrArg some (by kernel_rfl))
 t3:=w8
 a3:=ac0
 z3:=ab4
 v3:=x9
 t4:=y8
 a4:=ac7
 z4:=ab8
 v4:=aa1
 t5:=aa2
 a5:=ad3
 z5:=ac8
 v5:=aa6
 t9:=aa3
 a9:=ad4
 z9:=ac9
 v9:=aa7
 t46:=ab5
 a46:=ae6
 z46:=ae1
 v46:=ac2
 t51:=ae2
 a51:=ag4
 z51:=af9
 v51:=ae7
 t146:=ah0
 a146:=ak5
 z146:=aj8
 v146:=ah8
 g1:=by kernel_rfl }
def Tryz.lays145_ren:ab1:=⟨fun|145=>54|220=>72|219=>99|217=>100|225=>103|224=>102|267=>133|266=>134|314=>163|n=>n,fun|9=>9|4=>4|59=>57|3=>3|5=>5|46=>53|146=>140|51=>23|n=>n,fun|1=>0|n=>n⟩
theorem Tryz.lays145:at4 s7 Tryz.lays145_ren:={
 mixed:=by kernel_rfl
 f145:=Tryz.func54.trans (congrArg some (by kernel_rfl))
 f217:=ag2.trans (congrArg some (by kernel_rfl))
 f219:=an8.trans (congrArg some (by kernel_rfl))
 f220:=Tryz.func72.trans (congrArg some (by kernel_rfl))
 f224:=ai4.trans (congrArg some (by kernel_rfl))
 f225:=ai5.trans (congrArg some (by kernel_rfl))
 f266:=ag3.trans (congrArg some (by kernel_rfl))
 f267:=am3.trans (congrArg some (by kernel_rfl))
 f314:=am4.trans (congrArg some (by kernel_rfl))
 t3:=w8
 a3:=ac0
 z3:=ab4
 v3:=x9
 t4:=y8
 a4:=ac7
 z4:=ab8
 v4:=aa1
 t5:=aa2
 a5:=ad3
 z5:=ac8
 v5:=aa6
 t9:=aa3
 a9:=ad4
 z9:=ac9
 v9:=aa7
 t46:=ab5
 a46:=ae6
 z46:=ae1
 v46:=ac2
 t51:=ae2
 a51:=ag4
 z51:=af9
 v51:=ae7
 t59:=Tryz.underlying57
 a59:=Tryz.isAgg57
 z59:=Tryz.sizeOf57
 v59:=Tryz.zeroValue57
 t146:=ah0
 a146:=ak5
 z146:=aj8
 v146:=ah8
 g1:=by kernel_rfl }
def Tryz.lays138_ren:ab1:=⟨fun|138=>166|195=>140|218=>181|143=>154|219=>99|217=>100|225=>103|224=>102|267=>133|266=>134|314=>163|n=>n,fun|9=>9|3=>3|4=>4|5=>5|0=>0|46=>53|146=>140|51=>23|n=>n,fun|1=>0|n=>n⟩
theorem Tryz.lays138:as9 s7 Tryz.lays138_ren:={
 mixed:=by kernel_rfl
 f138:=Tryz.func166.trans (congrArg some (by kernel_rfl))
 f143:=ar5.trans (congrArg some (by kernel_rfl))
 f195:=ar4.trans (congrArg some (by kernel_rfl))
 f217:=ag2.trans (congrArg some (by kernel_rfl))
 f218:=Tryz.func181.trans (congrArg some (by kernel_rfl))
 f219:=an8.trans (congrArg some (by kernel_rfl))
 f224:=ai4.trans (congrArg some (by kernel_rfl))
 f225:=ai5.trans (congrArg some (by kernel_rfl))
 f266:=ag3.trans (congrArg some (by kernel_rfl))
 f267:=am3.trans (congrArg some (by kernel_rfl))
 f314:=am4.trans (congrArg some (by kernel_rfl))
 t0:=ab0
 a0:=ae4
 z0:=ad6
 v0:=ab7
 t3:=w8
 a3:=ac0
 z3:=ab4
 v3:=x9
 t4:=y8
 a4:=ac7
 z4:=ab8
 v4:=aa1
 t5:=aa2
 a5:=ad3
 z5:=ac8
 v5:=aa6
 t9:=aa3
 a9:=ad4
 z9:=ac9
 v9:=aa7
 t46:=ab5
 a46:=ae6
 z46:=ae1
 v46:=ac2
 t51:=ae2
 a51:=ag4
 z51:=af9
 v51:=ae7
 t146:=ah0
 a146:=ak5
 z146:=aj8
 v146:=ah8
 g1:=by kernel_rfl }
def Tryz.lays196_ren:ab1:=⟨fun|196=>139|259=>167|n=>n,fun|9=>9|4=>4|3=>3|5=>5|12=>12|119=>144|0=>0|46=>53|139=>147|138=>146|53=>112|n=>n,fun|3=>2|4=>3|n=>n⟩
theorem Tryz.lays196:au0 s7 Tryz.lays196_ren:={
 mixed:=by kernel_rfl
 f196:=Tryz.func139.trans (congrArg some (by kernel_rfl))
 f259:=Tryz.func167.trans (congrArg some (by kernel_rfl))
 t0:=ab0
 a0:=ae4
 z0:=ad6
 v0:=ab7
 t3:=w8
 a3:=ac0
 z3:=ab4
 v3:=x9
 t4:=y8
 a4:=ac7
 z4:=ab8
 v4:=aa1
 t5:=aa2
 a5:=ad3
 z5:=ac8
 v5:=aa6
 t9:=aa3
 a9:=ad4
 z9:=ac9
 v9:=aa7
 t12:=Tryz.underlying12
 a12:=Tryz.isAgg12
 z12:=Tryz.sizeOf12
 v12:=Tryz.zeroValue12
 t46:=ab5
 a46:=ae6
 z46:=ae1
 v46:=ac2
 t53:=ag9
 a53:=ak4
 z53:=aj7
 v53:=ah7
 t119:=Tryz.underlying144
 a119:=Tryz.isAgg144
 z119:=Tryz.sizeOf144
 t138:=Tryz.underlying146
 a138:=Tryz.isAgg146
 z138:=Tryz.sizeOf146
 v138:=Tryz.zeroValue146
 t139:=Tryz.underlying147
 a139:=Tryz.isAgg147
 z139:=Tryz.sizeOf147
 v139:=Tryz.zeroValue147
 g3:=by kernel_rfl
 g4:=by kernel_rfl }
def Tryz.lays2_21_ren:ab1:=⟨fun|21=>187|27=>190|28=>191|35=>192|39=>193|n=>n,fun|22=>105|3=>3|4=>4|0=>0|n=>n,fun|n=>n⟩
theorem Tryz.lays2_21:au1 s7 Tryz.lays2_21_ren:={
 mixed:=by kernel_rfl
 f21:=Tryz.func187.trans (congrArg some (by kernel_rfl))
 f27:=Tryz.func190.trans (congrArg some (by kernel_rfl))
 f28:=Tryz.func191.trans (congrArg some (by kernel_rfl))
 f35:=Tryz.func192.trans (congrArg some (by kernel_rfl))
 f39:=Tryz.func193.trans (congrArg some (by kernel_rfl))
 t0:=ab0
 a0:=ae4
 z0:=ad6
 v0:=ab7
 t3:=w8
 a3:=ac0
 z3:=ab4
 v3:=x9
 t4:=y8
 a4:=ac7
 z4:=ab8
 v4:=aa1
 t22:=Tryz.underlying105
 a22:=Tryz.isAgg105
 z22:=Tryz.sizeOf105
 v22:=Tryz.zeroValue105
 i3:=by kernel_rfl }
def Tryz.lays7_27_ren:ab1:=⟨fun|27=>162|28=>177|29=>178|n=>n,fun|25=>53|3=>3|27=>23|22=>112|4=>4|53=>161|0=>0|5=>5|54=>162|n=>n,fun|0=>4|1=>5|n=>n⟩
theorem Tryz.lays7_27:au2 s7 Tryz.lays7_27_ren:={
 mixed:=by kernel_rfl
 f27:=ar6.trans (congrArg some (by kernel_rfl))
 f28:=ar7.trans (congrArg some (by kernel_rfl))
 f29:=ar8.trans (congrArg some (by kernel_rfl))
 t0:=ab0
 a0:=ae4
 z0:=ad6
 v0:=ab7
 i0:=by kernel_rfl
 t3:=w8
 a3:=ac0
 z3:=ab4
 v3:=x9
 i3:=by kernel_rfl
 t4:=y8
 a4:=ac7
 z4:=ab8
 v4:=aa1
 i4:=by kernel_rfl
 t5:=aa2
 a5:=ad3
 z5:=ac8
 v5:=aa6
 i5:=by kernel_rfl
 t22:=ag9
 a22:=ak4
 z22:=aj7
 v22:=ah7
 i22:=by kernel_rfl
 t25:=ab5
 a25:=ae6
 z25:=ae1
 v25:=ac2
 i25:=by kernel_rfl
 t27:=ae2
 a27:=ag4
 z27:=af9
 v27:=ae7
 i27:=by kernel_rfl
 t53:=ak8
 a53:=ap2
 z53:=ao7
 v53:=am7
 i53:=by kernel_rfl
 t54:=ak9
 a54:=ap3
 z54:=ao8
 g0:=by kernel_rfl
 g1:=by kernel_rfl }
def Tryz.lays137_ren:ab1:=⟨fun|137=>73|217=>100|266=>134|n=>n,fun|9=>9|5=>5|3=>3|n=>n,fun|n=>n⟩
theorem Tryz.lays137:as8 s7 Tryz.lays137_ren:={
 mixed:=by kernel_rfl
 f137:=as6.trans (congrArg some (by kernel_rfl))
 f217:=ag2.trans (congrArg some (by kernel_rfl))
 f266:=ag3.trans (congrArg some (by kernel_rfl))
 t3:=w8
 a3:=ac0
 z3:=ab4
 v3:=x9
 t5:=aa2
 a5:=ad3
 z5:=ac8
 v5:=aa6
 t9:=aa3
 a9:=ad4
 z9:=ac9
 v9:=aa7 }
def Tryz.lays153_ren:ab1:=⟨fun|153=>58|152=>75|226=>76|227=>77|228=>78|137=>73|119=>101|224=>102|225=>103|217=>100|266=>134|n=>n,fun|9=>9|3=>3|4=>4|5=>5|21=>21|117=>73|116=>72|0=>0|46=>53|124=>98|n=>n,fun|n=>n⟩
theorem Tryz.lays153:at5 s7 Tryz.lays153_ren:={
 mixed:=by kernel_rfl
 f119:=Tryz.func101.trans (congrArg some (by kernel_rfl))
 f137:=as6.trans (congrArg some (by kernel_rfl))
 f152:=Tryz.func75.trans (congrArg some (by kernel_rfl))
 f153:=Tryz.func58.trans (congrArg some (by kernel_rfl))
 f217:=ag2.trans (congrArg some (by kernel_rfl))
 f224:=ai4.trans (congrArg some (by kernel_rfl))
 f225:=ai5.trans (congrArg some (by kernel_rfl))
 f226:=Tryz.func76.trans (congrArg some (by kernel_rfl))
 f227:=Tryz.func77.trans (congrArg some (by kernel_rfl))
 f228:=Tryz.func78.trans (congrArg some (by kernel_rfl))
 f266:=ag3.trans (congrArg some (by kernel_rfl))
 t0:=ab0
 a0:=ae4
 z0:=ad6
 v0:=ab7
 t3:=w8
 a3:=ac0
 z3:=ab4
 v3:=x9
 t4:=y8
 a4:=ac7
 z4:=ab8
 v4:=aa1
 t5:=aa2
 a5:=ad3
 z5:=ac8
 v5:=aa6
 t9:=aa3
 a9:=ad4
 z9:=ac9
 v9:=aa7
 t21:=Tryz.underlying21
 a21:=Tryz.isAgg21
 z21:=Tryz.sizeOf21
 v21:=Tryz.zeroValue21
 t46:=ab5
 a46:=ae6
 z46:=ae1
 v46:=ac2
 t116:=Tryz.underlying72
 a116:=Tryz.isAgg72
 z116:=Tryz.sizeOf72
 t117:=Tryz.underlying73
 a117:=Tryz.isAgg73
 z117:=Tryz.sizeOf73
 v117:=Tryz.zeroValue73
 t124:=Tryz.underlying98
 a124:=Tryz.isAgg98
 z124:=Tryz.sizeOf98
 v124:=Tryz.zeroValue98 }
end Go.Proofs
namespace Go.Proofs.YtcfingekgbbclaaGreatDoor.E
set_option linter.all false
section
open Go Go.Proofs Go.Sort
set_option maxRecDepth 100000
theorem TT{C:Cfg}{St:Nat->Prop}{w:World}{g:Nat}{k:IntKind}{zs:List Int}(a:GOK C St w)(b:C.G=GX)(h:GX.tab g=some (k,zs)):∃e x,w.heap[g]? = some (.cells (zs.map λz=>Value.int k z).toArray e x):=(a.1 g k zs (by rw[b];exact h)).2
theorem B78{C:Cfg}{St:Nat->Prop}{w:World}(a:GOK C St w)(b:C.G=GX):∃m,w.cell? ⟨0,0,none⟩=some (.int .i64 m):=(a.2 _ (by rw[b];rfl)).2
theorem DQ{w:World}{g:Nat}{a:List Int}{k:IntKind}{e:TypeId}{x}(h:w.heap[g]? = some (.cells (a.map λz=>Value.int k z).toArray e x))(i:Nat)(b:i<a.length):w.cell? ⟨g,i,none⟩=some (.int k (a.getD i 0)):=by simp[World.cell?,h,b9,j7 b]
theorem Cr3{C:Cfg}{St:Nat->Prop}{w:World}(f:GOK C St w)(a:C.G=GX):Lib.Utf8Tabs 2 3 w:=by
 obtain⟨j,m,h⟩:=TT (g:=2) (k:=.u8) (zs:=al3) f a rfl;obtain⟨b,n,d⟩:=TT (g:=3) (k:=.u8) (zs:=Gf) f a rfl;refine⟨λc a=>?_,λi l=>⟨?_,?_⟩⟩
 ·rw[DQ h c (by simp[al3];omega)];simp[al3,b9,j7,a]
 ·rw[DQ d (2*i) (by simp[Gf];omega)];have:2*i<32:=by omega
  simp[Gf,b9,this]
 ·rw[DQ d (2*i+1) (by simp[Gf];omega)];have:2*i+1<32:=by omega
  have e:(2*i+1) / 2=i:=by omega
  have b:¬(2*i+1) % 2=0:=by omega
  simp[Gf,b9,this,e,b]
theorem B79{C:Cfg}{St:Nat->Prop}{w:World}(b:GOK C St w)(c:C.G=GX):Lib.TabIs s7 w "internal/strconv.uint64pow10" .u64 aq6:=by
 obtain⟨d,e,a⟩:=TT (g:=1) (k:=.u64) (zs:=aq6) b c rfl;unfold Lib.TabIs World.var?
 rw [show s7.globalNamed "internal/strconv.uint64pow10" = some 1 by kernel_rfl]
 simp only[an1,a]
theorem Bc1:B0 s7 GX 154 FY:=by
 refine B0.fix (pf:=RN) _ (I3 (fn:=Tryz.f154) (by kernel_rfl) (by kernel_rfl) (by kernel_rfl) ?_);intro args ret o h;unfold RN at h;split at h
 ·rename_i s p;obtain⟨b,h⟩:=C1 h;obtain⟨rfl,rfl⟩:=I9 h;refine⟨rfl,rfl,λC r a t w q c f d=>?_⟩;obtain⟨U,V,rfl,j,k⟩:=d.arr2;obtain⟨n,rfl,rfl⟩:=j.inv_str;obtain⟨l,rfl,rfl⟩:=k.inv_str;obtain⟨m,g⟩:=B78 c a;have i:=M3 b;refine(Any.strings_Index Tryz.lays143 n l m w (by simp at i;omega) g).mono ?_;rintro e w' ⟨rfl,rfl⟩;exact⟨_,rfl,af7 _ _,VP.mk_int _ _⟩
 ·cases h
theorem Cm9:B0 s7 GX 54 An7:=by
 refine B0.fix (pf:=RM) _ (I3 (fn:=Tryz.f54) (by kernel_rfl) (by kernel_rfl) (by kernel_rfl) ?_);intro args ret q h;unfold RM at h;split at h
 ·rename_i s p;obtain⟨b,h⟩:=C1 h;obtain⟨rfl,rfl⟩:=I9 h;refine⟨rfl,rfl,λC t a u w r c f d=>?_⟩;obtain⟨U,V,rfl,j,k⟩:=d.arr2;obtain⟨o,rfl,rfl⟩:=j.inv_str;obtain⟨l,rfl,rfl⟩:=k.inv_str;obtain⟨m,g⟩:=B78 c a;have i:=M3 b;refine(Any.strings_Cut Tryz.lays145 o l m w (by simp at i;omega) g).mono ?_;rintro e w' ⟨rfl,n,rfl⟩;exact⟨_,rfl,Oa _ _,VP.mk_tup3 (VP.mk_str _) (VP.mk_str _) (VP.mk_bool _)⟩
 ·cases h
theorem Cm8:B0 s7 GX 166 An6:=by
 refine B0.fix (pf:=RL) _ (I3 (fn:=Tryz.f166) (by kernel_rfl) (by kernel_rfl) (by kernel_rfl) ?_);intro args ret o h;unfold RL at h;split at h
 ·rename_i s p;obtain⟨f,h⟩:=C1 h;obtain⟨rfl,rfl⟩:=I9 h;refine⟨rfl,rfl,λC t g u w q r j i=>?_⟩;obtain⟨U,V,rfl,l,m⟩:=i.arr2;obtain⟨n,rfl,rfl⟩:=l.inv_str;obtain⟨b,rfl,k⟩:=m.inv_str;obtain⟨c,rfl⟩:∃c,p=[c]:=by
   match p,f with
   | [c],_=>exact⟨c,rfl⟩
  have a:b=⟨#[c]⟩:=by
   cases b with
   | mk d=>congr 1;exact Array.toList_inj.1 k
  subst a;refine(Any.strings_Count_one Tryz.lays138 n c w).mono ?_;rintro e w' ⟨rfl,rfl⟩;exact⟨_,rfl,af7 _ _,VP.mk_int _ _⟩
 ·cases h
theorem Cl8:B0 s7 GX 51 Am2:=by
 refine B0.fix (pf:=QC) _ (I3 (fn:=Tryz.f51) (by kernel_rfl) (by kernel_rfl) (by kernel_rfl) ?_);intro args ret l h;unfold QC at h;split at h
 ·rename_i n;obtain⟨b,h⟩:=C1 h;obtain⟨rfl,rfl⟩:=I9 h;refine⟨rfl,rfl,λC o a p w m c i g=>?_⟩;obtain⟨U,rfl,j⟩:=g.arr1;obtain rfl:=j.inv_int;obtain⟨d,f⟩:=E3.1 b;refine(Any.strconv_Itoa Tryz.laysM171 n (by omega) (by omega) w (B79 c a)).mono ?_;rintro e w' ⟨rfl,k,os,rfl⟩;refine⟨_,rfl,(Oa w k).trans (show ar3 w.heap.size _ _ from GP (w.drewN k) os),?_⟩;have:Lib.itoa n=x6 n.toNat:=by unfold Lib.itoa;rw[F5]
  rw[this];exact VP.mk_str _
 ·cases h
theorem C08{l:LL}(h:l.all isS=true):l=D5 (l.map elS):=by
 unfold D5;rw[af6]
 symm
 rw[aa5 (g:=id)]
 ·simp
 ·intro x a;have:=y5.1 h x a;unfold isS at this;split at this
  ·rfl
  grind
theorem Bm0:B0 s7 GX 111 RQ:=by
 refine B0.fix (pf:=GB) _ (I3 (fn:=Tryz.f111) (by kernel_rfl) (by kernel_rfl) (by kernel_rfl) ?_);intro args ret Hc h;unfold GB at h;split at h
 ·rename_i z t l p;obtain⟨L,h⟩:=C1 h;obtain⟨O,h⟩:=C1 h;obtain⟨P,h⟩:=C1 h;obtain⟨rfl,rfl⟩:=I9 h;refine⟨rfl,rfl,λC hP Q Γ w Vs hG H R=>?_⟩;obtain⟨U,V,rfl,Z,hv⟩:=R.arr2;obtain⟨u,rfl,rfl⟩:=hv.inv_str;have m:=M3 O;have hn:=M3 P;have Y:=Z.inv_s;have c:∀(a:Option Addr) (cap:Nat),l=[]->Calls s7 111 #[.slice a 0 cap,.string u] w λe w'=>∃V,e = .returned V/\ar3 w.heap.size w w'/\VP Γ (A5 []) w' (.s (.str (y9 (l.map elS) u.data.toList))) V:=by
   intro a cap T;subst T;refine(Any.strings_Join_none Tryz.lays156 Tryz.Builder_Extra_156 a cap u w).mono ?_;rintro e w' ⟨rfl,rfl⟩;exact⟨_,rfl,af7 _ _,VP.mk_str _⟩
  cases Y with
  | nil=>exact c _ _ rfl
  | emp=>exact c _ _ rfl
  | sl _ _ g off n cap sz Vc I M hm ht S W y K=>
   subst I;have N:=C08 L;have J:∀i (h:i<l.length),∃b:ByteArray,(l[i])=[SV.str b.data.toList]/\w.cell? ⟨g,off+i,none⟩=some (.string b):=by
    intro i B;have d:=y5.1 L (l[i]) (List.getElem_mem B);unfold isS at d;split at d
    ·rename_i x r;have k:=y i B 0 (by rw[r];simp);have o:=K i B 0 (by rw[r];simp);simp only[r,List.getElem_cons_zero] at o;obtain⟨b,f,rfl⟩:=o.inv_str;rw[f] at k;exact⟨b,r,by simpa using k⟩
    ·cases d
   obtain⟨xs,q,A⟩:∃xs:List ByteArray,xs.map (·.data.toList)=l.map elS/\∀(j:Nat) x,xs[j]? = some x->w.cell? ⟨g,off+j,none⟩=some (.string x):=by
    refine⟨(l.map elS).map λs=>⟨s.toArray⟩,by simp[ah2],?_⟩;intro j x d;simp only[al6] at d;cases D:l[j]? with
    | none=>simp[D] at d
    | some el=>
     obtain⟨F,rfl⟩:=List.getElem?_eq_some_iff.1 D;obtain⟨b,f,v⟩:=J j F;simp only[D,ab6,j2] at d;rw[f] at d;simp[elS,SV.gS] at d;rw[<-d];exact v
   have G:xs.length=l.length:=by
    have:=congrArg p5 q;simpa using this
   rw[<-q] at m ⊢;have f:g<w.heap.size:=H g S;have X:l.length<=140737488355328:=by omega
   refine(G▸Any.strings_Join Tryz.lays156 Tryz.Builder_Extra_156 g off cap xs u w A f (by omega) (by omega) (by omega)).mono ?_;rintro e w' ⟨rfl,hw⟩;exact⟨_,rfl,hw,VP.mk_str _⟩
 ·cases h
theorem Bb7(b:Nat)(f:b<=9223372036854775808):B0 s7 GX 53 (Ku b):=by
 induction b with
 | zero=>
  intro args ret c h;exfalso;unfold Ku Hv at h;split at h
  ·rename_i n g;obtain⟨a,h⟩:=C1 h;have:=E3.1 a;omega
  ·cases h
 | succ b d=>
  refine B0.fix (pf:=Hv (b+1)) _ (I5 [] (C₀:=Yy b) (M0.ok (l:=[(53,Ku b)]) rfl ⟨d (by omega),trivial⟩) (I1 rfl (by kernel_rfl)) follows ?_);intro args ret c h;unfold Hv at h;split at h
  ·rename_i n;obtain⟨a,h⟩:=C1 h;obtain⟨rfl,rfl⟩:=I9 h;have e:=(At3 b noY () 0 n).trans (TS b (by omega) n a);exact⟨rfl,rfl,rfl,1,_,_,e,rfl⟩
  ·cases h
theorem B09:B0 s7 GX 53 LY:=Bb7 4294967296 (by omega)
theorem Di1(x:Nat)(h:x<65536):Ap0 .u64 (x:Int) 15=((x % 16:Nat):Int):=by unfold Ap0;rw[show IntKind.bits .u64=64 from rfl,show(15:Int)=((15:Nat):Int) from rfl,C72 64 x 15 (by omega) (by omega),show x &&& 15=x % 16 from Nat.and_two_pow_sub_one_eq_mod x 4];exact WY (by omega) (by omega)
theorem Dm4(x:Nat):KB .u64 (x:Int) 4=((x / 16:Nat):Int):=by unfold KB;show Int.fdiv (x:Int) 16=_;grind
theorem Bg2(d:Nat)(h:d<16):bAt (([48,49,50,51,52,53,54,55,56,57,97,98,99,100,101,102,103,104,105,106,107,108,109,110,111,112,113,114,115,116]:List UInt8)++([117,118,119,120,121,122]:List UInt8)) (d:Int)=((Nh d).toNat:Int):=by
 have:∀d:Fin 16,bAt (([48,49,50,51,52,53,54,55,56,57,97,98,99,100,101,102,103,104,105,106,107,108,109,110,111,112,113,114,115,116]:List UInt8)++([117,118,119,120,121,122]:List UInt8)) (d.val:Int)=((Nh d.val).toNat:Int):=by decide
 exact this ⟨d,h⟩
def Sq(i:Nat)(s:By):LL:=a8 i [SV.int .u8 0]++s.map D8
theorem HH(i:Nat)(s:By):(Sq i s).length=i+s.length:=by simp[Sq]
theorem YN(i:Nat)(s:By)(c:UInt8):aj4 (Sq (i+1) s) i (F8 (p6 (Sq (i+1) s) i []) 0 [SV.int .u8 (c.toNat:Int)])=Sq i (c::s):=by
 have a:p6 (Sq (i+1) s) i []=[SV.int .u8 0]:=by
  unfold Sq;grind
 rw[a];unfold Sq;rw[List.replicate_succ',s9,List.set_append_right _ _ (by simp),List.length_replicate,ar1];rfl
theorem At0{R:Type}(z t:Bool)(l:LL){e:Bool->Bool->LL->Int->Int->LL->Option R}:∀(v i n:Nat) (s:By),v<65536->v<n->i+s.length=65->(U7 v).length+s.length<=60->
  ∃(u a:Nat) (b:By),u<16/\Nh u::b=U7 v++s/\a+b.length=65/\Jx LF n z t l (v:Int) (i:Int) (Sq i s) e=e z t l (u:Int) (a:Int) (Sq a b):=by
 intro v
 induction v using ad8 with
 | _ v w=>
  intro i n s r y q x;obtain⟨n,rfl⟩:∃m,n=m+1:=⟨n-1,by omega⟩
  rw[Jx];by_cases h:v<16
  ·refine⟨v,i,s,h,by rw[Bw h];rfl,q,?_⟩;rw[A8];rfl
  ·have d:=Bd h;have c:(U7 v).length=(U7 (v / 16)).length+1:=by rw[d];simp
   obtain⟨j,rfl⟩:∃j,i=j+1:=⟨i-1,by omega⟩
   have f:A1 (((j+1:Nat):Int)-1)=(j:Int):=by rw[A7];omega
   obtain⟨u,a,b,g,k,o,p⟩:=w (v / 16) (by omega) j n (Nh (v % 16)::s) (by omega) (by omega) (by rw[j6];omega) (by rw[j6];omega);refine⟨u,a,b,g,by rw[k,d];simp,o,?_⟩;rw[A6,j0,cond_true,Di1 v r];simp only[vl];rw[Dm4,f,b8,E9,Bg2 _ (by omega),E9];simp only[cond_true];rw[YN,HH,show(decide (j<j+1+s.length))=true from decide_eq_true (by omega)];exact p
theorem Bn9{R:Type}{k0:By->LL->Option R}(z t:Bool)(l:LL)(v:Int)(f:ltN v 65536=true):∃p,YY LF z t l v k0=k0 (U7 v.toNat) p:=by
 obtain⟨d,m⟩:=E3.1 f;obtain⟨v,rfl⟩:=j8 d;have k:=C6;have r:=IB v (by omega);rw[b8];unfold YY;have o:(a8 65 [SV.int .u8 (0:Int)])=Sq 65 []:=by unfold Sq;rw[ai3,x7]
 rw[o];obtain⟨u,i,s,g,c,q,h⟩:=At0 (R:=R) z t l v 65 LF [] (by omega) (by omega) rfl (by rw[aa0];omega);rw[x7] at c;have n:s.length<=3:=by have:=congrArg p5 c;rw[j6] at this;omega
 obtain⟨j,rfl⟩:∃j,i=j+1:=⟨i-1,by omega⟩
 refine⟨Sq j (Nh u::s),?_⟩;rw[show((16:Int)==16)=true from rfl,cond_true,cond_true];refine p4 h ?_;have e:A1 (((j+1:Nat):Int)-1)=(j:Int):=by rw[A7];omega
 simp only[vl];rw[e,b8,E9,Bg2 u g,E9];simp only[cond_true];have a:(Nh u::s).length=s.length+1:=rfl;have b:((Sq j (Nh u::s)).drop j).take (65-j)=(Nh u::s).map D8:=by
  unfold Sq;rw[ao0 (by simp),v8 (by rw[p7,a];omega)]
 rw[YN,HH,HH,show(decide (j<j+1+s.length))=true from decide_eq_true (by omega),a,show(decide (j+(s.length+1)=65))=true from decide_eq_true (by omega),I2,b,W8,X6,c];rfl
theorem At1(z t:Bool)(l:LL)(v:Int)(c:ltN v 65536=true):∃r H,YY LF z t l v (λb a=>rv (.tup [.fl 0,.s (.str b)]) [.arr true 5 1 [],.arr false 138 1 a])=rv r H/\r.stab [1,0] H = .tup [.s (.sl true true 1 []),.s (.str (U7 v.toNat))]:=by obtain⟨d,e⟩:=Bn9 (k0:=(λb a=>rv (.tup [.fl 0,.s (.str b)]) [.arr true 5 1 [],.arr false 138 1 a])) z t l v c;exact⟨_,_,e,rfl⟩
theorem Bo1{C:Cfg}{St:Nat->Prop}{w:World}(c:GOK C St w)(d:C.G=GX):TabAt 5 al2 w:=by obtain⟨e,f,b⟩:=TT (g:=5) (k:=.u8) (zs:=al2.map λn:Nat=>(n:Int)) c d rfl;intro j a;rw[DQ b j (by rw[p7];exact a)];simp[b9,j7 a]
theorem Dm5:B0 s7 GX 162 C84:=by
 refine B0.fix (pf:=B40) _ (I3 (fn:=Tryz.f162) (by kernel_rfl) (by kernel_rfl) (by kernel_rfl) ?_);intro args ret i h;unfold B40 at h;split at h
 ·rename_i x;obtain⟨b,h⟩:=C1 h;obtain⟨rfl,rfl⟩:=I9 h;obtain rfl:x=16:=eq_of_beq b;refine⟨rfl,rfl,λC k a l w j c f d=>?_⟩;obtain⟨U,rfl,g⟩:=d.arr1;obtain rfl:=g.inv_int;refine(Any7.bits_TrailingZeros Tryz.lays7_27 16 (by omega) w (λ_=>Bo1 c a)).mono ?_;rintro e w' ⟨rfl,rfl⟩;exact⟨_,rfl,af7 _ _,VP.mk_int _ _⟩
 ·cases h
theorem C34:B0 s7 GX 161 QB:=by
 refine B0.fix (pf:=EU) _ (I5 [] (C₀:=SP LF) (M0.ok (l:=[]) rfl trivial) (I1 rfl (by kernel_rfl)) follows ?_);intro args ret b h;unfold EU at h;split at h
 ·rename_i x;obtain⟨a,h⟩:=C1 h;obtain⟨rfl,rfl⟩:=I9 h;obtain rfl:x=16:=eq_of_beq a;exact⟨rfl,rfl,rfl,1,_,_,B95 LF noY () 0,rfl⟩
 ·cases h
theorem C30:B0 s7 GX 132 PM:=by
 refine B0.fix (pf:=EP) _ (I5 [1,0] (C₀:=Hx LF) (M0.ok (l:=[(161,QB),(162,C84)]) rfl ⟨C34,Dm5,trivial⟩) (I1 rfl (by kernel_rfl)) follows ?_);intro args ret k h;unfold EP at h;split at h
 ·rename_i c a ds v b neg app;obtain⟨d,h⟩:=C1 h;obtain⟨f,h⟩:=C1 h;obtain⟨g,h⟩:=C1 h;obtain⟨i,h⟩:=C1 h;obtain⟨rfl,rfl⟩:=I9 h;obtain rfl:b=16:=eq_of_beq f;obtain rfl:neg=false:=by simpa using g
  obtain rfl:app=false:=by simpa using i
  obtain⟨r,H,e,j⟩:=At1 c a ds v d;exact⟨rfl,rfl,rfl,1,r,H,(B75 LF noY () 0 c a ds v).trans e,j⟩
 ·cases h
theorem C33:B0 s7 GX 157 QA:=by
 refine B0.fix (pf:=ET) _ (I5 [] (C₀:=SO LF) (M0.ok (l:=[(132,PM)]) rfl ⟨C30,trivial⟩) (I1 rfl (by kernel_rfl)) follows ?_);intro args ret f h;unfold ET at h;split at h
 ·rename_i v b;obtain⟨a,h⟩:=C1 h;obtain⟨c,h⟩:=C1 h;obtain⟨rfl,rfl⟩:=I9 h;obtain rfl:b=16:=eq_of_beq c;have e:Bh3 LF v (λd=>rv (.s (.str d)) [])=rv (.s (.str (U7 v.toNat))) []:=by
   unfold Bh3;rw[a];rfl
  exact⟨rfl,rfl,rfl,1,_,_,(B90 LF noY () 0 v).trans e,rfl⟩
 ·cases h
theorem De8:B0 s7 GX 128 B20:=by
 refine B0.fix (pf:=PN) _ (I5 [] (C₀:=Ap8 LF) (M0.ok (l:=[(157,QA)]) rfl ⟨C33,trivial⟩) (I1 rfl (by kernel_rfl)) follows ?_);intro args ret f h;unfold PN at h;split at h
 ·rename_i v b;obtain⟨a,h⟩:=C1 h;obtain⟨c,h⟩:=C1 h;obtain⟨rfl,rfl⟩:=I9 h;obtain rfl:b=16:=eq_of_beq c;have e:Cr0 LF v (λd=>rv (.s (.str d)) [])=rv (.s (.str (U7 v.toNat))) []:=by
   unfold Cr0;rw[a];rfl
  exact⟨rfl,rfl,rfl,1,_,_,(Cr1 LF noY () 0 v).trans e,rfl⟩
 ·cases h
end
section
open Go Go.Proofs
theorem De2(z t:Bool)(l:LL)(c:l.all Vo=true)(d:x3 l.length 8=true):∃r H,v6j LF z t l (λb a=>rv (.s (.str b)) [.arr true 9 1 a])=rv r H/\r.stab [] H = .s (.str (N8 (l.map elN))):=by obtain⟨f,e⟩:=Ck8 (k0:=(λb a=>rv (.s (.str b)) [.arr true 9 1 a])) z t l c d;exact⟨_,_,e,rfl⟩
theorem De0(a b c d f g h i:Int)(l:ok8 a b c d f g h i=true):∃r H,v6f LF a b c d f g h i (λk j=>rv (.s (.str k)) [.arr false 25 1 j])=rv r H/\r.stab [] H = .s (.str (Co (n8 a b c d f g h i))):=by obtain⟨m,e⟩:=Ck6 (k0:=(λk j=>rv (.s (.str k)) [.arr false 25 1 j])) a b c d f g h i l;exact⟨_,_,e,rfl⟩
def v6V(s:By):PV:=.tup [.agg [.s (.int .u16 (v6c 0 s)),.s (.int .u16 (v6c 1 s)),.s (.int .u16 (v6c 2 s)),.s (.int .u16 (v6c 3 s)),.s (.int .u16 (v6c 4 s)),.s (.int .u16 (v6c 5 s)),.s (.int .u16 (v6c 6 s)),.s (.int .u16 (v6c 7 s))],.s (.bool (v6B s).isSome)]
theorem De5(s:By)(k:A2 s.length=true):∃r H,v6p LF s (λb c d f g h i j r8 a l10=>rv (.tup [.agg [.s (.int .u16 b),.s (.int .u16 c),.s (.int .u16 d),.s (.int .u16 f),.s (.int .u16 g),.s (.int .u16 h),.s (.int .u16 i),.s (.int .u16 j)],.s (.bool r8)]) [.arr false 25 1 a,.arr false 25 1 l10])=rv r H/\r.stab [0,0] H=v6V s:=by obtain⟨l,m,e⟩:=Ck9 (k0:=(λb c d f g h i j r8 a l10=>rv (.tup [.agg [.s (.int .u16 b),.s (.int .u16 c),.s (.int .u16 d),.s (.int .u16 f),.s (.int .u16 g),.s (.int .u16 h),.s (.int .u16 i),.s (.int .u16 j)],.s (.bool r8)]) [.arr false 25 1 a,.arr false 25 1 l10])) s k;exact⟨_,_,e,rfl⟩
theorem C02(s:By)(k:A2 s.length=true):∃r H,Cg8 LF s (λb c d f g h i j r8 a l10=>rv (.tup [.agg [.s (.int .u16 b),.s (.int .u16 c),.s (.int .u16 d),.s (.int .u16 f),.s (.int .u16 g),.s (.int .u16 h),.s (.int .u16 i),.s (.int .u16 j)],.s (.bool r8)]) [.arr false 25 1 a,.arr false 25 1 l10])=rv r H/\r.stab [0,0] H=v6V s:=by obtain⟨l,m,e⟩:=Bw9 (k0:=(λb c d f g h i j r8 a l10=>rv (.tup [.agg [.s (.int .u16 b),.s (.int .u16 c),.s (.int .u16 d),.s (.int .u16 f),.s (.int .u16 g),.s (.int .u16 h),.s (.int .u16 i),.s (.int .u16 j)],.s (.bool r8)]) [.arr false 25 1 a,.arr false 25 1 l10])) s k;exact⟨_,_,e,rfl⟩
set_option maxRecDepth 100000
section
variable {Z R : Type} (L : Nat) (Q : G0) (Y : Yh Z) (s : Z) (k : Out -> St Z -> Option R)
noncomputable abbrev XY:Code:=C8 as4
noncomputable def Gg(L:Nat):Cfg:=B6 L [81] (A3 [(16,[2,0,4,41,0,0])]) [(59,ES),(105,Bc9),(106,B23),(107,Be9),(90,Pn),(108,B31),(109,MD),(110,B27),(111,RQ)] (A3 [(28,[2,0]),(25,[2,0]),(27,[2,0]),(26,[2,10,64]),(24,[2,10,59]),(23,[2,10]),(22,[2,5,41,0,0]),(21,[2,5,41,0,0]),(20,[2,0]),(19,[2,5,0,1,0,37,0,0,10]),(18,[2,5,0,1,0,37,0,0]),(17,[2,5,0,0,39,0,0]),(16,[2,5,41,0,0,0]),(15,[2,5,41,0,0]),(14,[2,5]),(13,[2,0]),(12,[2,0]),(11,[2,3,37]),(10,[2,3,0]),(9,[2,1,32]),(8,[2,1]),(7,[2,0]),(6,[2,1,27]),(5,[2,1,0]),(2,[2,0]),(4,[2,0]),(3,[0,1,16]),(1,[0,1,11]),(0,[0,1])]) [59,106,107,90,108,110,111] (A3 [(3,[2,10]),(1,[2,5]),(2,[2,5,41,0,0]),(0,[0,1])]) (some [2,0]) [] [] []
noncomputable def T6{R:Type}(L n:Nat)(a:Nat)(i c:Int)(e:LL)(g:Int->LL->Option R)(h:Nat->LL->Option R):Option R:=match n with|0=>none|n+1=>cond (ltI c i) (cond (inR c a) (cond (okE Qx e (0+(j5 c)) 0) (vl (gX e (0+(j5 c)) 0) λb=>cond (A2 b.length) (vl (↑((H5 b)).2:Int) λd=>cond (d !=0) (g d e) (cond (inR c a) (cond (decide ((0+(j5 c))<e.length)) (vl (aj4 e (0+(j5 c)) (F8 (p6 e (0+(j5 c)) []) 0 [(SV.str ((H5 b)).1)])) λf=>T6 L n a i (A1 (c+1)) f g h) none) none)) none) none) none) (h a e)
theorem TV(n:Nat)(a:Nat)(d e:Int)(c:LL):D0 2 ((Gg L).keep 16) (bd (Gg L) Q Y (cd [1,1,1,1,1,1,1,0,1,0,0] XY)) n ⟨gp [(2,.ptr 0 0 0),(5,.vw 1 0 a),(41,.vw 1 0 a),(0,pI d),(0,pI e)] 31,[.box [pI (0:Int),pS ([]:List UInt8),p32 (0:Int),p16 (0:Int),p16 (0:Int),p16 (0:Int),p16 (0:Int),p16 (0:Int),p16 (0:Int),p16 (0:Int),p16 (0:Int)],.arr false 9 1 c],s⟩ k =
 T6 L n a d e c (λn0 b=>k .ret ⟨gp [(2,.ptr 0 0 0),(0,pI n0)] 80,[.box [pI (0:Int),pS ([]:List UInt8),p32 (0:Int),p16 (0:Int),p16 (0:Int),p16 (0:Int),p16 (0:Int),p16 (0:Int),p16 (0:Int),p16 (0:Int),p16 (0:Int)],.arr false 9 1 b],s⟩) (λa b=>k (.exit 1) ⟨gp [(2,.ptr 0 0 0),(5,.vw 1 0 a)] 75,[.box [pI (0:Int),pS ([]:List UInt8),p32 (0:Int),p16 (0:Int),p16 (0:Int),p16 (0:Int),p16 (0:Int),p16 (0:Int),p16 (0:Int),p16 (0:Int),p16 (0:Int)],.arr false 9 1 b],s⟩):=by
 induction n generalizing a d e c with
 | zero=>rfl
 | succ n f=>rw[T6];simp only[<-f];kernel_rfl
noncomputable def Zu{R:Type}(L:Nat)(a:By)(t:Int->By->Int->Int->Int->Int->Int->Int->Int->Int->Int->Int->Int->By->Int->Int->Int->Int->Int->Int->Int->Int->Int->Option R)(y:Int->By->Int->Int->By->LL->Option R):Option R:=cond (ltI 1024 (a.length:Int)) (t 0 ([]:List UInt8) 0 0 0 0 0 0 0 0 0 3 0 ([]:List UInt8) 0 0 0 0 0 0 0 0 0) (cond (A2 a.length) (cond (ad7 ([91]:List UInt8) a) (cond (A2 a.length) (cond (B93 a) (vl (↑(B2.kind ((P8 a)).1):Int) λf=>vl (B2.name ((P8 a)).1) λr=>vl (↑(B2.v4 ((P8 a)).1):Int) λg=>vl (↑(p6 (B2.v6 ((P8 a)).1) 0 0):Int) λh=>vl (↑(p6 (B2.v6 ((P8 a)).1) 1 0):Int) λi=>vl (↑(p6 (B2.v6 ((P8 a)).1) 2 0):Int) λj=>vl (↑(p6 (B2.v6 ((P8 a)).1) 3 0):Int) λl=>vl (↑(p6 (B2.v6 ((P8 a)).1) 4 0):Int) λm=>vl (↑(p6 (B2.v6 ((P8 a)).1) 5 0):Int) λn=>vl (↑(p6 (B2.v6 ((P8 a)).1) 6 0):Int) λo=>vl (↑(p6 (B2.v6 ((P8 a)).1) 7 0):Int) λp=>vl (↑((P8 a)).2:Int) λw=>t f r g h i j l m n o p w f r g h i j l m n o p) none) none) (cond (A2 a.length) (cond (not (ai0 (Q5 a))) (t 0 ([]:List UInt8) 0 0 0 0 0 0 0 0 0 14 0 ([]:List UInt8) 0 0 0 0 0 0 0 0 0) (cond (A2 (p5 (Fe a))) (vl (WM (Fe a) ([46]:List UInt8)) λb=>cond (A2 b.length) (cond (E4 b) (cond (A2 b.length) (vl (↑(N1 (pnB b)):Int) λq=>cond (not (ai0 (pnB b))) (t 0 ([]:List UInt8) 0 0 0 0 0 0 0 0 0 14 0 ([]:List UInt8) 0 0 0 0 0 0 0 0 0) (t 2 ([]:List UInt8) q 0 0 0 0 0 0 0 0 0 2 ([]:List UInt8) q 0 0 0 0 0 0 0 0)) none) (cond (A2 b.length) (cond (1==1) (vl (D5 (pcs (p6 ([46]:List UInt8) 0 0) b)) λu=>T6 L L (p5 (pcs (p6 ([46]:List UInt8) 0 0) b)) (↑(p5 (pcs (p6 ([46]:List UInt8) 0 0) b)):Int) 0 u (λx v=>y 0 ([]:List UInt8) x 0 ([]:List UInt8) v) (λc d=>cond (ag6 (ad1 c (ae0 0 d)) isS) (cond (A2 (p5 (y9 (ac3 elS (ad1 c (ae0 0 d))) ([46]:List UInt8)))) (cond (A2 (p5 (ad1 c (ae0 0 d)))) (vl (y9 (ac3 elS (ad1 c (ae0 0 d))) ([46]:List UInt8)) λe=>cond (ltI 253 (e.length:Int)) (y 0 ([]:List UInt8) 3 0 ([]:List UInt8) d) (cond (A2 e.length) (cond (E4 e) (y 0 ([]:List UInt8) 14 0 ([]:List UInt8) d) (y 1 e 0 1 e d)) none)) none) none) none)) none) none)) none) none)) none)) none)
theorem Bo8(d:Nat)(raw0):evC (Gg L) (d+1) Z Y 81 [pS raw0] [] s=Zu L raw0 (λo p t M N O P S r8 T q r c u e f g h i j l m n=>some (.tup [.agg [pI o,pS p,p32 t,p16 M,p16 N,p16 O,p16 P,p16 S,p16 r8,p16 T,p16 q],pI r],[.box [pI c,pS u,p32 e,p16 f,p16 g,p16 h,p16 i,p16 j,p16 l,p16 m,p16 n]],s)) (λo p t K U J=>some (.tup [.agg [pI o,pS p,p32 (0:Int),p16 (0:Int),p16 (0:Int),p16 (0:Int),p16 (0:Int),p16 (0:Int),p16 (0:Int),p16 (0:Int),p16 (0:Int)],pI t],[.box [pI K,pS U,p32 (0:Int),p16 (0:Int),p16 (0:Int),p16 (0:Int),p16 (0:Int),p16 (0:Int),p16 (0:Int),p16 (0:Int),p16 (0:Int)],.arr false 9 1 J],s)):=by refine(evE (fn:=as4) (by kernel_rfl)).trans ?_;generalize evC (Gg L) d=Q;unfold Zu;exact(p4 (by kernel_rfl) (A0 rfl (A0 (A0 (A0 (A0 (A4 λv=>(A4 λI=>(A4 λw=>(A4 λx=>(A4 λy=>(A4 λz=>(A4 λA=>(A4 λB=>(A4 λC=>(A4 λD=>(A4 λF=>(A4 λG=>rfl)))))))))))) rfl) rfl) (A0 (A0 rfl (A0 (A4 λa=>(A0 (A0 (A0 (A4 λH=>(A0 rfl rfl)) rfl) (A0 (A0 (A4 λb=>((TV L Q Y s (E6 1 (E5 (Gg L) Q Y (cd [1,1,1,1,1,1,1,1] XY) (F7 (Gg L) as4))) L (p5 (pcs (p6 ([46]:List UInt8) 0 0) a)) (↑(p5 (pcs (p6 ([46]:List UInt8) 0 0) a)):Int) 0 b).trans (by kernel_rfl))) rfl) rfl)) rfl)) rfl)) rfl)) rfl)))
noncomputable abbrev Bf5:Code:=C8 ap9
noncomputable def Lb(L:Nat):Cfg:=B6 L [126] (A3 [(6,[0,1,0,1,10,0,0])]) [(155,B30),(141,Am9)] (A3 [(13,[2]),(12,[0,3,0,2]),(11,[0,2,1,10,0,0]),(10,[0,2,1,10,0,0]),(9,[2]),(8,[0,2,1,1,8,0,0,8]),(7,[0,2,1,1,8,0,0]),(6,[0,2,1,10,0,0,0]),(5,[0,2,1,10,0,0]),(4,[0,2,1]),(3,[2]),(2,[0,2,11]),(1,[0,2,0]),(0,[0])]) [141] (A3 [(0,[0,2,1]),(1,[0,2,1,10,0,0])]) (some [2]) [] [] []
noncomputable def X5{R:Type}(L n:Nat)(i:By)(b:Bool)(a:LL)(c:Bool)(h e:Int)(f:Unit->Option R)(g:By->Bool->LL->Bool->Option R):Option R:=match n with|0=>none|n+1=>cond (ltI e h) (cond (inR e a.length) (cond (okE Kp a (j5 e) 0) (vl (gE a (j5 e) 0) λd=>cond (not (ltI d 65)) (cond (not (ltI 90 d)) (f ()) (cond c (X5 L n i b a (ltI d 128) h (A1 (e+1)) f g) (X5 L n i b a false h (A1 (e+1)) f g))) (cond c (X5 L n i b a (ltI d 128) h (A1 (e+1)) f g) (X5 L n i b a false h (A1 (e+1)) f g))) none) none) (g i b a c)
theorem Aa0(n d a b c n4 n5):D0 0 ((Lb L).keep 6) (bd (Lb L) Q Y (cd [1,1,1,1,0,1,0,0] Bf5)) n ⟨gp [(0,pS d),(2,.s (.sl a a 1 b)),(1,pB c),(10,.s (.sl a a 1 b)),(0,pI n4),(0,pI n5)] 31,[],s⟩ k =
 X5 L n d a b c n4 n5 (λ_=>k .ret ⟨gp [(2,pB false)] 47,[],s⟩) (λd a b c=>k (.exit 0) ⟨gp [(0,pS d),(2,.s (.sl a a 1 b)),(1,pB c)] 44,[],s⟩):=by
 induction n generalizing d a b c n4 n5 with
 | zero=>rfl
 | succ n e=>rw[X5];simp only[<-e];kernel_rfl
noncomputable def Bi0{R:Type}(L:Nat)(d:By)(e:Bool->Option R):Option R:=cond (A2 d.length) (cond ((↑((N6 d)).2:Int)!=0) (e false) (X5 L L d (aq8 ((N6 d)).1) (Lt ((N6 d)).1) true (↑(p5 (Lt ((N6 d)).1)):Int) 0 (λ_=>e false) (λg c a b=>cond (ag6 a Na) (vl ((W4 (ac3 elI a))).1 λh=>vl (↑((W4 (ac3 elI a))).2:Int) λf=>cond (not b) (cond (f==0) (e (h==g)) (e false)) (e false)) none))) none
theorem Ca1(d:Nat)(s0):evC (Lb L) (d+1) Z Y 126 [pS s0] [] s=Bi0 L s0 (λa=>some (pB a,[],s)):=by refine(evE (fn:=ap9) (by kernel_rfl)).trans ?_;generalize evC (Lb L) d=Q;unfold Bi0;exact(p4 (by kernel_rfl) (A0 (A0 rfl ((Aa0 L Q Y s (E6 0 (E5 (Lb L) Q Y (cd [1,1,1,1,1] Bf5) (F7 (Lb L) ap9))) L s0 (aq8 ((N6 s0)).1) (Lt ((N6 s0)).1) true (↑(p5 (Lt ((N6 s0)).1)):Int) 0).trans (by kernel_rfl))) rfl))
noncomputable abbrev B48:Code:=C8 as5
noncomputable def Sg(L:Nat):Cfg:=B6 L [92] (A3 [(4,[0,1,26,0])]) [(57,Al7),(126,Bd1)] (A3 [(11,[2]),(10,[5,0]),(9,[0,28,0]),(8,[2]),(7,[0,28,0,28]),(6,[0,3,24,0]),(5,[0,2,25,0]),(4,[0,28,0,0]),(3,[0,28,0]),(2,[2]),(1,[0,26]),(0,[0])]) [57,126] (A3 [(0,[0]),(1,[0,28,0])]) (some [2]) [] [] []
noncomputable def R8{R:Type}(L n:Nat)(b:By)(e a:Int)(c:Unit->Option R)(d:By->Option R):Option R:=match n with|0=>none|n+1=>cond (ltI a e) (cond (inR a b.length) (cond (not (ltI (bAt b a) (97:Int))) (cond (not (not (ltI 122 (bAt b a)))) (cond (not (ltI (bAt b a) (48:Int))) (cond (not (not (ltI 57 (bAt b a)))) (cond ((bAt b a)!=45) (cond ((bAt b a)!=95) (c ()) (R8 L n b e (A1 (a+1)) c d)) (R8 L n b e (A1 (a+1)) c d)) (R8 L n b e (A1 (a+1)) c d)) (cond ((bAt b a)!=45) (cond ((bAt b a)!=95) (c ()) (R8 L n b e (A1 (a+1)) c d)) (R8 L n b e (A1 (a+1)) c d))) (R8 L n b e (A1 (a+1)) c d)) (cond (not (ltI (bAt b a) (48:Int))) (cond (not (not (ltI 57 (bAt b a)))) (cond ((bAt b a)!=45) (cond ((bAt b a)!=95) (c ()) (R8 L n b e (A1 (a+1)) c d)) (R8 L n b e (A1 (a+1)) c d)) (R8 L n b e (A1 (a+1)) c d)) (cond ((bAt b a)!=45) (cond ((bAt b a)!=95) (c ()) (R8 L n b e (A1 (a+1)) c d)) (R8 L n b e (A1 (a+1)) c d)))) none) (d b)
theorem Ax0(n a n1 n2):D0 0 ((Sg L).keep 4) (bd (Sg L) Q Y (cd [1,1,0,1,0,0] B48)) n ⟨gp [(0,pS a),(28,pI n1),(0,pI n2)] 41,[],s⟩ k =
 R8 L n a n1 n2 (λ_=>k .ret ⟨gp [(2,pB false)] 69,[],s⟩) (λa=>k (.exit 0) ⟨gp [(0,pS a)] 71,[],s⟩):=by
 induction n generalizing a n1 n2 with
 | zero=>rfl
 | succ n b=>rw[R8];simp only[<-b];kernel_rfl
noncomputable def Cv1{R:Type}(L:Nat)(a:By)(b:Bool->Option R):Option R:=cond (ltI (a.length:Int) (1:Int)) (b false) (cond (ltI 63 (a.length:Int)) (b false) (cond (inR 0 a.length) (cond ((bAt a (0:Int))==45) (b false) (vl (A1 ((a.length:Int)-1)) λd=>cond (inR d a.length) (cond ((bAt a d)==45) (b false) (R8 L L a (a.length:Int) 0 (λ_=>b false) (λc=>cond (A2 c.length) (vl (Gp c ([120,110,45,45]:List UInt8)) λe=>cond (not (ad7 ([120,110,45,45]:List UInt8) c)) (b true) (cond (A2 e.length) (b (Dt e)) none)) none))) none)) none))
theorem Cv2(d:Nat)(s0):evC (Sg L) (d+1) Z Y 92 [pS s0] [] s=Cv1 L s0 (λb=>some (pB b,[],s)):=by refine(evE (fn:=as5) (by kernel_rfl)).trans ?_;generalize evC (Sg L) d=Q;unfold Cv1;exact(p4 (by kernel_rfl) (A0 rfl (A0 rfl (A0 (A0 rfl (A4 λa=>(A0 (A0 rfl ((Ax0 L Q Y s (E6 0 (E5 (Sg L) Q Y (cd [1,1,1] B48) (F7 (Sg L) as5))) L s0 (s0.length:Int) 0).trans (by kernel_rfl))) rfl))) rfl))))
noncomputable abbrev Ap1:Code:=C8 ap8
noncomputable def Oc(L:Nat):Cfg:=B6 L [110] (A3 [(9,[2,0,1,20])]) [(139,XT),(140,XR),(56,Am3),(141,Am9),(92,QL)] (A3 [(18,[2,0]),(17,[2,0]),(16,[4,41]),(15,[4]),(14,[2,0]),(13,[8,32]),(12,[8,0]),(11,[5,20]),(10,[5,1,18]),(9,[5,20,0,0]),(8,[5,20]),(7,[4,0]),(6,[4,19]),(5,[0,3]),(2,[2,0]),(4,[2,0]),(3,[0,13]),(1,[0,9]),(0,[0])]) [139,140,56,141,92] (A3 [(1,[5]),(2,[5,20]),(0,[0])]) (some [2,0]) [] [] []
noncomputable def Fa{R:Type}(L n:Nat)(c:LL)(b:By)(a:Nat)(e:LL->By->Nat->Option R):Option R:=match n with|0=>none|n+1=>cond (decide (a<b.length)) (vl ((ah9 ⟨am0 b⟩ a)).1 λd=>cond (F6 (c.length+1)) (Fa L n (c++[[(SV.int .i64 (A1 d))]]) b (a+((ah9 ⟨am0 b⟩ a)).2) e) none) (e c b a)
theorem Av4(n:Nat)(a:LL)(c:By)(b:Nat):D0 2 ((Oc L).keep 9) (bd (Oc L) Q Y (cd [1,1,1,0,1,0,1,0,1,0,0] Ap1)) n ⟨gp [(5,.fl 0),(20,.it 1)] 21,[.arr true 3 1 a,.iter c b],s⟩ k =
 Fa L n a c b (λa c b=>k (.exit 1) ⟨gp [(5,.fl 0)] 42,[.arr true 3 1 a,.iter c b],s⟩):=by
 induction n generalizing a c b with
 | zero=>rfl
 | succ n d=>rw[Fa];simp only[<-d];kernel_rfl
noncomputable def ZX{R:Type}(L:Nat)(b:By)(g:By->Int->Option R)(h:By->Int->LL->By->Nat->Option R):Option R:=cond (A2 b.length) (cond (not (ai0 (Ck b))) (g ([]:List UInt8) 4) (cond (A2 b.length) (vl (↑(ag5 b):Int) λi=>cond (ltI 256 i) (g ([]:List UInt8) 3) (cond (A2 b.length) (cond (A2 b.length) (vl (↑(ag5 b):Int) λj=>cond (ltI j (b.length:Int)) (Fa L L [] (B3 b) 0 (λa e d=>cond (ag6 a Na) (vl ((W4 (ac3 elI a))).1 λf=>vl (↑((W4 (ac3 elI a))).2:Int) λl=>cond (l !=0) (h ([]:List UInt8) 14 a e d) (cond (J6 4 f.length) (vl (([120,110,45,45]:List UInt8)++f) λc=>cond (A2 c.length) (cond (not (J5 c)) (h ([]:List UInt8) 14 a e d) (h c 0 a e d)) none) none)) none)) (cond (A2 (p5 (B3 b))) (cond (not (J5 (B3 b))) (g ([]:List UInt8) 14) (g (B3 b) 0)) none)) none) none)) none)) none
theorem Ct9(d:Nat)(s0):evC (Oc L) (d+1) Z Y 110 [pS s0] [] s=ZX L s0 (λa b=>some (.tup [pS a,pI b],[],s)) (λa b c h e=>some (.tup [pS a,pI b],[.arr true 3 1 c,.iter h e],s)):=by refine(evE (fn:=ap8) (by kernel_rfl)).trans ?_;generalize evC (Oc L) d=Q;unfold ZX;exact(p4 (by kernel_rfl) (A0 (A0 rfl (A0 (A4 λf=>(A0 rfl (A0 (A0 (A4 λg=>(A0 ((Av4 L Q Y s (E6 1 (E5 (Oc L) Q Y (cd [1,1,1,0,1,0,1,1] Ap1) (E5 (Oc L) Q Y (cd [1,1,1,1] Ap1) (F7 (Oc L) ap8)))) L [] (B3 s0) 0).trans (by kernel_rfl)) (A0 (A0 rfl rfl) rfl))) rfl) rfl))) rfl)) rfl))
noncomputable abbrev Rx:Code:=C8 an2
noncomputable def Iv(L:Nat):Cfg:=B6 L [136] (A3 []) [] (A3 [(7,[2]),(2,[2]),(4,[2]),(6,[2]),(5,[0,23]),(3,[0,12]),(1,[0,2]),(0,[0])]) [] (A3 [(0,[])]) (some [2]) [] [] []
noncomputable def Vi{R:Type}(a:Int)(h:Bool)(f:Int->Option R)(g:Int->Bool->Option R):Option R:=cond h (vl (A1 (wu8 (a-97))) λb=>vl (A1 (b+10)) λc=>f c) (cond (not (ltI a 65)) (cond (not (ltI 70 a)) (vl (A1 (wu8 (a-65))) λd=>vl (A1 (d+10)) λe=>f e) (g a (not (ltI 70 a)))) (g a false))
abbrev NI(b:Code):Prop:=∀(k:Out->St Z->Option R) a c,A9 (Iv L) Q Y b ⟨gp [(0,p8 a),(12,pB c)] 21,[],s⟩ k=Vi a c (λn0=>k .ret ⟨gp [(2,pI n0)] 32,[],s⟩) (λa c=>k .normal ⟨gp [(0,p8 a),(23,pB c)] 10,[],s⟩)
theorem Au5:NI (R:=R) L Q Y s (cd [1,0,0,1,1,1] Rx):=by intro k a b;unfold Vi;kernel_rfl
noncomputable def Vj{R:Type}(b:Int)(l:Bool)(f:Int->Option R)(j:Int->Bool->Option R):Option R:=cond l (vl (A1 (wu8 (b-48))) λg=>f g) (cond (not (ltI b 97)) (Vi b (not (ltI 102 b)) (λh=>f h) (λc d=>j c d)) (Vi b false (λi=>f i) (λe a=>j e a)))
abbrev Zt(b:Code):Prop:=∀(k:Out->St Z->Option R) a c,A9 (Iv L) Q Y b ⟨gp [(0,p8 a),(2,pB c)] 31,[],s⟩ k=Vj a c (λn0=>k .ret ⟨gp [(2,pI n0)] 32,[],s⟩) (λa c=>k .normal ⟨gp [(0,p8 a),(23,pB c)] 10,[],s⟩)
theorem Au6(a:Code)(b:NI (R:=R) L Q Y s a):Zt (R:=R) L Q Y s (cd [1,0,0,1] (G3 [1,0,0,1,1,1] a Rx)):=by intro k c d;unfold Vj;simp only[<-b k];kernel_rfl
theorem Au7:Zt (R:=R) L Q Y s (cd [1,0,0,1] Rx):=by intro k a b;exact p4 (by kernel_rfl) (Au6 L Q Y s (cd [1,0,0,1,1,1] Rx) (Au5 L Q Y s) k a b)
noncomputable def B87{R:Type}(L:Nat)(c:Int)(d:Int->Option R):Option R:=cond (not (ltI c 48)) (Vj c (not (ltI 57 c)) (λa=>d a) (λe f=>d (-1))) (Vj c false (λb=>d b) (λg h=>d (-1)))
theorem Cs1(b:Code)(a:Zt (R:=PV × List Blk × Z) L Q Y s b)(c:Int):A9 (Iv L) Q Y (cd [] (G3 [1,0,0,1] b Rx)) ⟨[p8 c]++tps 34,[],s⟩ (F7 (Iv L) an2)=B87 L c (λe=>some (pI e,[],s)):=by unfold B87;exact let d:=(E6 0 (E5 (Iv L) Q Y (cd [1,1] Rx) (F7 (Iv L) an2)));(p4 (by kernel_rfl) (A0 ((a d c (not (ltI 57 c))).trans (by kernel_rfl)) ((a d c false).trans (by kernel_rfl))))
theorem Cs2(d:Nat)(b0):evC (Iv L) (d+1) Z Y 136 [p8 b0] [] s=B87 L b0 (λa=>some (pI a,[],s)):=
 (evE (fn:=an2) (by kernel_rfl)).trans (p4 (by kernel_rfl) (Cs1 L (evC (Iv L) d) Y s (cd [1,0,0,1] Rx) (Au7 L (evC (Iv L) d) Y s) b0))
noncomputable abbrev B46:Code:=C8 ap7
noncomputable def Se(L:Nat):Cfg:=B6 L [106] (A3 [(3,[0,1,0,0,0])]) [(136,B24)] (A3 [(14,[2,0]),(4,[0,3,0]),(13,[0,3,0]),(12,[0,3,0]),(11,[2,0]),(10,[0,3,0,0,0,39]),(9,[0,3,0,0,0]),(8,[2,0]),(7,[0,3,0,25]),(6,[0,3,0]),(5,[0,3,0,14]),(3,[0,3,0,8]),(2,[0,3,0]),(1,[0,3]),(0,[0])]) [136] (A3 [(0,[4]),(1,[0,3,0])]) (some [2,0]) [] [] []
noncomputable def T0{R:Type}(L n:Nat)(b:By)(a:Int)(c:LL)(f:LL->Option R)(g:LL->Option R):Option R:=match n with|0=>none|n+1=>cond (ltI a (b.length:Int)) (cond (inR a b.length) (cond ((bAt b a)!=37) (cond (inR a b.length) (cond (F6 (c.length+1)) (T0 L n b (A1 (a+1)) (c++[[(SV.int .u8 (bAt b a))]]) f g) none) none) (cond (not (ltI (A1 (a+2)) (b.length:Int))) (f c) (cond (inR (A1 (a+1)) b.length) (vl (bAt b (A1 (a+1))) λd=>cond (inR d 256) (cond (inR (A1 (a+2)) b.length) (vl (bAt b (A1 (a+2))) λe=>cond (inR e 256) (cond (ltI (Ex (u8n d)) (0:Int)) (f c) (cond (ltI (Ex (u8n e)) (0:Int)) (f c) (vl (A1 ((16:Int)*(Ex (u8n d)))) λh=>vl (A1 (h+(Ex (u8n e)))) λi=>cond (F6 (c.length+1)) (vl (A1 ((A1 (a+2))+1)) λj=>T0 L n b j (c++[[(SV.int .u8 (wu8 i))]]) f g) none))) none) none) none) none))) none) (g c)
theorem Au4(n s0 i1 l2):D0 1 ((Se L).keep 3) (bd (Se L) Q Y (cd [1,0,1,1,0,1,0,0] B46)) n ⟨gp [(0,pS s0),(3,.fl 0),(0,pI i1)] 54,[.arr false 5 1 l2],s⟩ k =
 T0 L n s0 i1 l2 (λa=>k .ret ⟨gp [(2,pS ([]:List UInt8)),(0,pB false)] 56,[.arr false 5 1 a],s⟩) (λa=>k (.exit 0) ⟨gp [(4,.fl 0)] 55,[.arr false 5 1 a],s⟩):=by
 induction n generalizing s0 i1 l2 with
 | zero=>rfl
 | succ n b=>rw[T0];simp only[<-b];kernel_rfl
noncomputable def B86{R:Type}(L:Nat)(c:By)(d:By->Bool->LL->Option R):Option R:=cond ((decide ((0:Int)<=(c.length:Int)))&&(F6 (j5 (c.length:Int)))) (T0 L L c 0 [] (λb=>d ([]:List UInt8) false b) (λa=>cond (ag6 a Nj) (d (ac3 Lh a) true a) none)) none
theorem Cr9(d:Nat)(s0):evC (Se L) (d+1) Z Y 106 [pS s0] [] s=B86 L s0 (λb c a=>some (.tup [pS b,pB c],[.arr false 5 1 a],s)):=by refine(evE (fn:=ap7) (by kernel_rfl)).trans ?_;generalize evC (Se L) d=Q;unfold B86;exact(p4 (by kernel_rfl) (A0 ((Au4 L Q Y s (E6 0 (E5 (Se L) Q Y (cd [1,0,1,1,1] B46) (F7 (Se L) ap7))) L s0 0 []).trans (by kernel_rfl)) rfl))
noncomputable def SN(L:Nat):Cfg:=B6 L [105] (A3 []) [(135,C67)] (A3 [(6,[2,0]),(5,[2,0]),(4,[2,2,15]),(3,[2,2,0]),(2,[0,1,1,8]),(1,[0,1,1]),(0,[0,1])]) [] (A3 []) (some [2,0]) [] [] []
noncomputable def Bg8{R:Type}(L:Nat)(b:By)(l:Int->Int->Int->Int->Int->Int->Int->Int->Int->Int->Int->LL->Option R)(m:Unit->Option R):Option R:=vl (A1 ((b.length:Int)-1)) λa=>cond (inR a b.length) (cond ((bAt b a)==93) (cond (I7 1 a b.length) (cond (A2 (p5 (cut b 1 a))) (vl (↑(v6c 0 (cut b 1 a)):Int) λc=>vl (↑(v6c 1 (cut b 1 a)):Int) λd=>vl (↑(v6c 2 (cut b 1 a)):Int) λe=>vl (↑(v6c 3 (cut b 1 a)):Int) λf=>vl (↑(v6c 4 (cut b 1 a)):Int) λg=>vl (↑(v6c 5 (cut b 1 a)):Int) λh=>vl (↑(v6c 6 (cut b 1 a)):Int) λi=>vl (↑(v6c 7 (cut b 1 a)):Int) λj=>cond (ai0 (v6B (cut b 1 a))) (l 3 c d e f g h i j 0 3 [[(SV.int .u16 c)],[(SV.int .u16 d)],[(SV.int .u16 e)],[(SV.int .u16 f)],[(SV.int .u16 g)],[(SV.int .u16 h)],[(SV.int .u16 i)],[(SV.int .u16 j)]]) (l 0 0 0 0 0 0 0 0 0 14 0 [[(SV.int .u16 c)],[(SV.int .u16 d)],[(SV.int .u16 e)],[(SV.int .u16 f)],[(SV.int .u16 g)],[(SV.int .u16 h)],[(SV.int .u16 i)],[(SV.int .u16 j)]])) none) none) (m ())) none
theorem B84(d:Nat)(s0):evC (SN L) (d+1) Z Y 105 [pS s0] [] s=Bg8 L s0 (λl c e f g h i j r8 m b a=>some (.tup [.agg [pI l,pS ([]:List UInt8),p32 (0:Int),p16 c,p16 e,p16 f,p16 g,p16 h,p16 i,p16 j,p16 r8],pI m],[.box [pI b,pS ([]:List UInt8),p32 (0:Int),p16 c,p16 e,p16 f,p16 g,p16 h,p16 i,p16 j,p16 r8],.arr false 25 1 a],s)) (λ_=>some (.tup [.agg [pI (0:Int),pS ([]:List UInt8),p32 (0:Int),p16 (0:Int),p16 (0:Int),p16 (0:Int),p16 (0:Int),p16 (0:Int),p16 (0:Int),p16 (0:Int),p16 (0:Int)],pI (14:Int)],[.box [pI (0:Int),pS ([]:List UInt8),p32 (0:Int),p16 (0:Int),p16 (0:Int),p16 (0:Int),p16 (0:Int),p16 (0:Int),p16 (0:Int),p16 (0:Int),p16 (0:Int)]],s)):=by refine(evE (fn:=Tryz.f105) (by kernel_rfl)).trans ?_;generalize evC (SN L) d=Q;unfold Bg8;kernel_rfl
noncomputable def Aq4(L:Nat):Cfg:=B6 L [46] (A3 []) [(64,B26)] (A3 [(9,[2]),(4,[2]),(6,[2]),(8,[2]),(7,[1,31]),(5,[1,1,1,16]),(3,[1,1,1,0]),(2,[1,1,1]),(1,[1,1]),(0,[1])]) [64] (A3 [(0,[])]) (some [2]) [] [] []
noncomputable def Ni{R:Type}(L:Nat)(c:Int)(b:By)(d e f g h i j l a:Int)(m:Bool->Int->By->Int->Int->Int->Int->Int->Int->Int->Int->Int->LL->Option R):Option R:=cond (c==1) (cond (A2 b.length) (cond (Cg b) (cond (d==0) (m ((e==0)&&((f==0)&&((g==0)&&((h==0)&&((i==0)&&((j==0)&&((l==0)&&((a==0)&&true)))))))) c b d e f g h i j l a (a8 8 [(SV.int .u16 (0:Int))])) (m false c b d e f g h i j l a (a8 8 [(SV.int .u16 (0:Int))]))) (m false c b d e f g h i j l a (a8 8 [(SV.int .u16 (0:Int))]))) none) (cond (c==2) (cond (b==[]) (m ((e==0)&&((f==0)&&((g==0)&&((h==0)&&((i==0)&&((j==0)&&((l==0)&&((a==0)&&true)))))))) c b d e f g h i j l a (a8 8 [(SV.int .u16 (0:Int))])) (m false c b d e f g h i j l a (a8 8 [(SV.int .u16 (0:Int))]))) (cond (c==3) (cond (b==[]) (m (d==0) c b d e f g h i j l a (a8 8 [(SV.int .u16 (0:Int))])) (m false c b d e f g h i j l a (a8 8 [(SV.int .u16 (0:Int))]))) (m false c b d e f g h i j l a (a8 8 [(SV.int .u16 (0:Int))]))))
theorem Ct1(d:Nat)(h0 h1 h2 h3 h4 h5 h6 h7 h8 h9 h10):evC (Aq4 L) (d+1) Z Y 46 [.agg [pI h0,pS h1,p32 h2,p16 h3,p16 h4,p16 h5,p16 h6,p16 h7,p16 h8,p16 h9,p16 h10]] [] s=Ni L h0 h1 h2 h3 h4 h5 h6 h7 h8 h9 h10 (λm e n f g h i j n8 l b c a=>some (pB m,[.box [pI e,pS n,p32 f,p16 g,p16 h,p16 i,p16 j,p16 n8,p16 l,p16 b,p16 c],.arr false 25 1 a],s)):=by refine(evE (fn:=Tryz.f46) (by kernel_rfl)).trans ?_;generalize evC (Aq4 L) d=Q;unfold Ni;kernel_rfl
noncomputable def Aq1(L:Nat):Cfg:=B6 L [50] (A3 []) [(46,PY),(67,C63),(68,C65)] (A3 [(7,[2]),(2,[2]),(4,[2]),(6,[2]),(5,[1,11]),(3,[1,5]),(1,[1,1]),(0,[1])]) [46,67,68] (A3 [(0,[1])]) (some [2]) [] [] []
noncomputable def Cs5{R:Type}(L:Nat)(j:Int)(l:By)(b c d e f g h i a:Int)(o:By->Int->By->Int->Int->Int->Int->Int->Int->Int->Int->Int->Option R):Option R:=cond (A2 l.length) (cond (ltN b 4294967296) (cond (ok8 c d e f g h i a) (cond (not (L7 (mkH j l b (n8 c d e f g h i a)))) (o ([]:List UInt8) j l b c d e f g h i a) (cond (j==1) (o l j l b c d e f g h i a) (cond (j==2) (cond (ltN b 4294967296) (o (Z6 (j5 b)) j l b c d e f g h i a) none) (cond (ok8 c d e f g h i a) (vl (Co (n8 c d e f g h i a)) λm=>cond (J6 1 m.length) (vl (([91]:List UInt8)++m) λn=>cond (J6 n.length 1) (vl (n++[93]) λp=>o p j l b c d e f g h i a) none) none) none)))) none) none) none
theorem Cs6(d:Nat)(h0 h1 h2 h3 h4 h5 h6 h7 h8 h9 h10):evC (Aq1 L) (d+1) Z Y 50 [.agg [pI h0,pS h1,p32 h2,p16 h3,p16 h4,p16 h5,p16 h6,p16 h7,p16 h8,p16 h9,p16 h10]] [] s=Cs5 L h0 h1 h2 h3 h4 h5 h6 h7 h8 h9 h10 (λl c m e f g h i n8 j a b=>some (pS l,[.box [pI c,pS m,p32 e,p16 f,p16 g,p16 h,p16 i,p16 n8,p16 j,p16 a,p16 b]],s)):=by refine(evE (fn:=Tryz.f50) (by kernel_rfl)).trans ?_;generalize evC (Aq1 L) d=Q;unfold Cs5;kernel_rfl
noncomputable def Ap9(L:Nat):Cfg:=B6 L [47] (A3 []) [(64,B26),(65,B25)] (A3 [(1,[4]),(0,[0,0])]) [64,65] (A3 []) (some [4]) [] [] []
noncomputable def Cr7{R:Type}(L:Nat)(a b:By)(c:Bool->Option R):Option R:=cond (A2 a.length) (cond (Cg a) (cond (A2 b.length) (cond (Cg b) (cond (a==b) (c true) (cond (J6 1 a.length) (vl (([46]:List UInt8)++a) λd=>cond (A2 b.length) (c (List.isSuffixOf d b)) none) none)) (c false)) none) (c false)) none
theorem Cr8(d:Nat)(super0 name1):evC (Ap9 L) (d+1) Z Y 47 [pS super0,pS name1] [] s=Cr7 L super0 name1 (λa=>some (pB a,[],s)):=by refine(evE (fn:=Tryz.f47) (by kernel_rfl)).trans ?_;generalize evC (Ap9 L) d=Q;unfold Cr7;kernel_rfl
end
section
variable {Z R : Type} (L : Nat) (Y : G0) (Q : Yh Z) (s : Z) (k : Out -> St Z -> Option R)
noncomputable def Aq9(L:Nat):Cfg:=B6 L [182] (A3 []) [] (A3 [(2,[2]),(1,[1,1]),(0,[1])]) [] (A3 []) (some [2]) [] [] []
noncomputable def Dc2{R:Type}(L:Nat)(b:Int)(a:Int->Option R):Option R:=a b
theorem Cx3(d:Nat)(b):evC (Aq9 L) (d+1) Z Q 182 [pI b] [] s=Dc2 L b (λn0=>some (.fnr (Fn.func 188) [] [.ptr 1 0 0,.ptr 0 0 0],[.box [pI n0],.box [pI (0:Int)]],s)):=by refine(evE (fn:=Tryz.f182) (by kernel_rfl)).trans ?_;generalize evC (Aq9 L) d=Y;unfold Dc2;kernel_rfl
noncomputable def TA(L:Nat):Cfg:=B6 L [188] (A3 []) [] (A3 [(2,[2]),(1,[0,0]),(0,[0,0])]) [] (A3 []) (some [2]) [] [] []
noncomputable def Bj3{R:Type}(L:Nat)(k b:Int)(d:Int->Int->Int->Option R):Option R:=vl (A1 ((A1 (k+36))-b)) λa=>vl (if ((26:Int)<(if ((1:Int) > a) then (1:Int) else a)) then (26:Int) else (if ((1:Int) > a) then (1:Int) else a)) λc=>d c (A1 (k+36)) b
theorem Cd1(d:Nat)(k b):evC (TA L) (d+1) Z Q 188 [.ptr 0 0 0,.ptr 1 0 0] [.box [pI k],.box [pI b]] s=Bj3 L k b (λe a c=>some (pI e,[.box [pI a],.box [pI c]],s)):=by refine(evE (fn:=Tryz.f188) (by kernel_rfl)).trans ?_;generalize evC (TA L) d=Y;unfold Bj3;kernel_rfl
noncomputable abbrev C90:Code:=C8 aq1
noncomputable def Za(L:Nat):Cfg:=B6 L [169] (A3 [(2,[0,0,4,0])]) [(182,FG),(183,Am8)] (A3 [(6,[0,0,5]),(5,[0,0,5,0]),(4,[6]),(3,[0,0,5,0,6]),(2,[0,0,5,0]),(1,[0,0,5]),(0,[0,0,0])]) [183] (A3 [(0,[6]),(1,[0,0,5])]) (some [6]) [(188,Pp)] [] [188]
noncomputable def Ig{R:Type}(L n:Nat)(f:Int)(p:Bool)(g:LL)(a b:Int)(o:Bool->LL->Int->Int->Option R):Option R:=match n with|0=>none|n+1=>cond (ltN b 1000000000000) (cond (ltN a 1000000) (cond (ltI f (K9 b a)) (cond (ltN f 36) (vl (↑(as7 (Aj (j5 f))):Int) λh=>cond (F6 (g.length+1)) (o p (g++[[(SV.int .u8 h)]]) a (af0 b (36:Int))) none) none) (vl (A1 (f-(K9 b a))) λi=>vl (A1 ((36:Int)-(K9 b a))) λc=>cond (c !=0) (vl (A1 ((K9 b a)+(al1 i c))) λd=>cond (ltN d 36) (vl (↑(as7 (Aj (j5 d))):Int) λj=>cond (F6 (g.length+1)) (vl (A1 (f-(K9 b a))) λl=>vl (A1 ((36:Int)-(K9 b a))) λe=>cond (e !=0) (vl (A1 (ae3 l e)) λm=>Ig L n m p (g++[[(SV.int .u8 j)]]) a (af0 b (36:Int)) o) none) none) none) none)) none) none
theorem Ay0(n q0 z1 l2 a n4):D0 3 ((Za L).keep 2) (bd (Za L) Y Q (cd [1,1,0,0] C90)) n ⟨gp [(0,.fl 0),(0,pI q0),(5,.fnr (Fn.func 188) [] [.ptr 2 0 0,.ptr 1 0 0])] 31,[.arr z1 5 1 l2,.box [pI a],.box [pI n4]],s⟩ k =
 Ig L n q0 z1 l2 a n4 (λe c d a=>k .ret ⟨gp [(6,.fl 0)] 32,[.arr e 5 1 c,.box [pI d],.box [pI a]],s⟩):=by
 induction n generalizing q0 z1 l2 a n4 with
 | zero=>rfl
 | succ n b=>rw[Ig];simp only[<-b];kernel_rfl
noncomputable def Db9{R:Type}(L:Nat)(q b:Int)(z:Bool)(l:LL)(f:Bool->LL->Int->Int->Option R):Option R:=Ig L L q z l b 0 (λe a c d=>f e a c d)
theorem Cw2(d:Nat)(q b z l):evC (Za L) (d+1) Z Q 169 [.fl 0,pI q,pI b] [.arr z 5 1 l] s=Db9 L q b z l (λf a c e=>some (.fl 0,[.arr f 5 1 a,.box [pI c],.box [pI e]],s)):=by refine(evE (fn:=aq1) (by kernel_rfl)).trans ?_;generalize evC (Za L) d=Y;unfold Db9;exact(p4 (by kernel_rfl) ((Ay0 L Y Q s (E6 0 (F7 (Za L) aq1)) L q z l b 0).trans (by kernel_rfl)))
noncomputable abbrev Ep:Code:=C8 an3
noncomputable def Q4(L:Nat):Cfg:=B6 L [141] (A3 [(29,[0,1,0,0,2,0,0,0,0,61,0,0]),(21,[0,1,0,0,2,0,0,0,0,0,38,0,0]),(17,[0,1,0,0,2,0,0,0,0]),(5,[0,1,0,0,15,0,0])]) [(168,Np),(170,No)] (A3 [(40,[2,0]),(18,[0,3,2,0,0,0,0]),(39,[0,3,2,0,0,0,0]),(38,[0,3,2,0,0,0,0,61,0,0]),(32,[0,3,2,0,0,0,0,61,0,0]),(37,[0,3,2,0,0,0,0,61,0,0]),(36,[0,3,2,0,0,0,0,61,0,0]),(35,[0,3,2,0,1,0,61,0,0]),(34,[0,3,2,0,0,1,61,0,0]),(33,[0,3,2,0,0,0,0,61,0,0,9]),(31,[0,3,2,0,0,0,0,4,56,0,0,3]),(30,[0,3,2,0,0,0,0,4,56,0,0]),(29,[0,3,2,0,0,0,0,61,0,0,0]),(28,[0,3,2,0,0,0,0,61,0,0]),(27,[0,3,2,0,0,0,0]),(26,[0,3,2,1,0,0,0]),(25,[0,3,2,0,0,0,0,0,38,0,0]),(24,[0,3,2,0,0,0,0,0,38,0,0]),(23,[0,3,2,0,0,0,0,0,1,36,0,0,5]),(22,[0,3,2,0,0,0,0,0,1,36,0,0]),(21,[0,3,2,0,0,0,0,0,38,0,0,0]),(20,[0,3,2,0,0,0,0,0,38,0,0]),(19,[0,3,2,0,0,0,0,0]),(17,[0,3,2,0,0,0,0,36]),(16,[0,3,2,0,0,0,0]),(15,[0,3,2,0,0,0]),(14,[0,3,2]),(13,[0,3,2,32]),(12,[0,3,2]),(11,[0,3,15,0,0]),(10,[0,3,15,0,0]),(9,[0,3,1,13,0,0,7]),(8,[2,0]),(7,[0,3,1,13,0,0,5]),(6,[0,3,1,13,0,0]),(5,[0,3,15,0,0,0]),(4,[0,3,15,0,0]),(3,[0,3]),(2,[2,0]),(1,[0,18]),(0,[0])]) [168,170] (A3 [(2,[4]),(3,[0,3,2,0,0,0,0]),(6,[0,3,2,0,0,0,0]),(7,[0,3,2,0,0,0,0,61,0,0]),(8,[0,3,2,0,0,0,0,61,0,0]),(4,[0,3,2,0,0,0,0,0]),(5,[0,3,2,0,0,0,0,0,38,0,0]),(0,[0,3]),(1,[0,3,15,0,0])]) (some [2,0]) [(169,QO)] [] [169]
noncomputable def U4{R:Type}(L n:Nat)(c b:Bool)(a:LL)(i e:Int)(f:LL)(g:LL->Option R)(h:Bool->Bool->LL->LL->Option R):Option R:=match n with|0=>none|n+1=>cond (ltI e i) (cond (inR e a.length) (cond (okE Kp a (j5 e) 0) (vl (gE a (j5 e) 0) λd=>cond (not (ptI d)) (g f) (cond (ltI d 128) (cond (F6 (f.length+1)) (U4 L n c b a i (A1 (e+1)) (f++[[(SV.int .u8 (wu8 d))]]) g h) none) (U4 L n c b a i (A1 (e+1)) f g h))) none) none) (h c b a f)
theorem Az1(n b a c n3 n4 l5):D0 1 ((Q4 L).keep 5) (bd (Q4 L) Y Q (cd [1,1,1,0,1,0,0] Ep)) n ⟨gp [(0,.s (.sl b a 1 c)),(3,.fl 0),(15,.s (.sl b a 1 c)),(0,pI n3),(0,pI n4)] 84,[.arr true 5 1 l5],s⟩ k =
 U4 L n b a c n3 n4 l5 (λe=>k .ret ⟨gp [(2,pS ([]:List UInt8)),(0,pI (2:Int))] 103,[.arr true 5 1 e],s⟩) (λb a c f=>k (.exit 0) ⟨gp [(0,.s (.sl b a 1 c)),(3,.fl 0)] 102,[.arr true 5 1 f],s⟩):=by
 induction n generalizing b a c n3 n4 l5 with
 | zero=>rfl
 | succ n d=>rw[U4];simp only[<-d];kernel_rfl
noncomputable def Ij{R:Type}(L n:Nat)(c b:Bool)(a:LL)(d o e f g m q h:Int)(i:LL)(p:Bool->Bool->LL->Int->Int->Int->Int->Int->Int->LL->Option R):Option R:=match n with|0=>none|n+1=>cond (ltI h q) (cond (inR h a.length) (cond (okE Kp a (j5 h) 0) (vl (gE a (j5 h) 0) λj=>cond (not (ltI j o)) (vl (if (j<m) then j else m) λl=>Ij L n c b a d o e f g l q (A1 (h+1)) i p) (Ij L n c b a d o e f g m q (A1 (h+1)) i p)) none) none) (p c b a d o e f g m i)
theorem Az2(n b a c d i e f g h n9 n10 l11):D0 1 ((Q4 L).keep 21) (bd (Q4 L) Y Q (cd [1,1,1,1,1,1,1,0,1,0,0,1,0,0,1,0,1,0,0] Ep)) n ⟨gp [(0,.s (.sl b a 1 c)),(3,.fl 0),(2,pI d),(0,pI i),(0,pI e),(0,pI f),(0,pI g),(0,pI h),(38,.s (.sl b a 1 c)),(0,pI n9),(0,pI n10)] 53,[.arr true 5 1 l11],s⟩ k =
 Ij L n b a c d i e f g h n9 n10 l11 (λb a c d i e f g h l=>k (.exit 4) ⟨gp [(0,.s (.sl b a 1 c)),(3,.fl 0),(2,pI d),(0,pI i),(0,pI e),(0,pI f),(0,pI g),(0,pI h)] 94,[.arr true 5 1 l],s⟩):=by
 induction n generalizing b a c d i e f g h n9 n10 l11 with
 | zero=>rfl
 | succ n j=>rw[Ij];simp only[<-j];kernel_rfl
noncomputable def Cb{R:Type}(L n:Nat)(d c:Bool)(a:LL)(e l b g f n8 j:Int)(l10:LL)(r:Bool->Bool->LL->Int->Int->Int->Int->Int->LL->Option R):Option R:=match n with|0=>none|n+1=>cond (ltI j n8) (cond (inR j a.length) (cond (okE Kp a (j5 j) 0) (vl (gE a (j5 j) 0) λi=>cond (ltI i l) (vl (A1 (b+1)) λo=>Cb L n d c a e l o g f n8 (A1 (j+1)) l10 r) (cond (i==l) (cond (ltN b 1152921504606846976) (cond (ltN g 1000000) (cond (x3 l10.length 100000) (vl (an7 l10 (ac3 D8 (P4 (j5 b) 0 (j5 g)))) λm=>vl (A1 (f+1)) λh=>cond (ltN b 1152921504606846976) (cond (ltN h 1000000) (cond (ltI 0 h) (vl (↑(Q3 (j5 b) (j5 h) (f==e)):Int) λp=>vl (A1 (f+1)) λq=>Cb L n d c a e l 0 p q n8 (A1 (j+1)) m r) none) none) none) none) none) none) (Cb L n d c a e l b g f n8 (A1 (j+1)) l10 r))) none) none) (r d c a e l b g f l10)
theorem Az3(n b a c d h e f g n8 n9 l10):D0 1 ((Q4 L).keep 29) (bd (Q4 L) Y Q (cd [1,1,1,1,1,1,1,0,1,0,0,1,0,0,1,1,1,1,0,1,0,0] Ep)) n ⟨gp [(0,.s (.sl b a 1 c)),(3,.fl 0),(2,pI d),(0,pI h),(0,pI e),(0,pI f),(0,pI g),(61,.s (.sl b a 1 c)),(0,pI n8),(0,pI n9)] 31,[.arr true 5 1 l10],s⟩ k =
 Cb L n b a c d h e f g n8 n9 l10 (λb a c d h e f g j=>k (.exit 6) ⟨gp [(0,.s (.sl b a 1 c)),(3,.fl 0),(2,pI d),(0,pI h),(0,pI e),(0,pI f),(0,pI g)] 95,[.arr true 5 1 j],s⟩):=by
 induction n generalizing b a c d h e f g n8 n9 l10 with
 | zero=>rfl
 | succ n i=>rw[Cb];simp only[<-i];kernel_rfl
noncomputable def Ff{R:Type}(L n:Nat)(j i:Bool)(b:LL)(v K w y u:Int)(J:LL)(I:LL->Option R):Option R:=match n with|0=>none|n+1=>cond (ltI u (b.length:Int)) (Ij L L j i b v K w y u 1114112 (b.length:Int) 0 J (λe c a l B o q g x z=>vl (A1 (g+1)) λC=>vl (A1 ((A1 (x-B))*C)) λD=>Cb L L e c a l x (A1 (o+D)) q g (a.length:Int) 0 z (λf d h m F p r t A=>vl (A1 (p+1)) λG=>vl (A1 (F+1)) λH=>Ff L n f d h m H G r t A I))) (I J)
theorem JG(n points_z0 points_t1 points2 basic3 n4 delta5 bias6 done7 l8):D0 1 ((Q4 L).keep 17) (bd (Q4 L) Y Q (cd [1,1,1,1,1,1,1,0,1,0,0] Ep)) n ⟨gp [(0,.s (.sl points_z0 points_t1 1 points2)),(3,.fl 0),(2,pI basic3),(0,pI n4),(0,pI delta5),(0,pI bias6),(0,pI done7)] 95,[.arr true 5 1 l8],s⟩ k =
 Ff L n points_z0 points_t1 points2 basic3 n4 delta5 bias6 done7 l8 (λB=>k (.exit 2) ⟨gp [(4,.fl 0)] 102,[.arr true 5 1 B],s⟩):=by
 induction n generalizing points_z0 points_t1 points2 basic3 n4 delta5 bias6 done7 l8 with
 | zero=>rfl
 | succ n A=>rw[Ff];exact(p4 (by kernel_rfl) (A0 ((Az2 L Y Q s (E6 4 (E5 (Q4 L) Y Q (cd [1,1,1,1,1,1,1,0,1,0,0,1,0,0,1,1] Ep) (E6 3 (E5 (Q4 L) Y Q (cd [1,1,1,1,1,1,1,0,1,0,0,1,1] Ep) (lpK 1 ((Q4 L).keep 17) (bd (Q4 L) Y Q (cd [1,1,1,1,1,1,1,0,1,0,0] Ep)) n k))))) L points_z0 points_t1 points2 basic3 n4 delta5 bias6 done7 1114112 (points2.length:Int) 0 l8).trans (congr rfl (Cr2 λd b a g x i j m t q=>(p4 (by kernel_rfl) (A4 λy=>(A4 λu=>((Az3 L Y Q s (E6 6 (E5 (Q4 L) Y Q (cd [1,1,1,1,1,1,1,0,1,0,0,1,0,0,1,1,1,1,1] Ep) (E6 3 (E5 (Q4 L) Y Q (cd [1,1,1,1,1,1,1,0,1,0,0,1,1] Ep) (lpK 1 ((Q4 L).keep 17) (bd (Q4 L) Y Q (cd [1,1,1,1,1,1,1,0,1,0,0] Ep)) n k))))) L d b a g t (A1 (i+u)) j m (a.length:Int) 0 q).trans (congr rfl (fx9 λe c f h z p l o r=>(p4 (by kernel_rfl) (A4 λv=>(A4 λw=>(A e c f h w v l o r))))))))))))) rfl))
noncomputable def Ab7{R:Type}(L:Nat)(l j:Bool)(p:LL)(m:Unit->Option R)(h:By->Int->LL->Option R):Option R:=cond (ltI 256 (p.length:Int)) (m ()) (U4 L L l j p (p.length:Int) 0 [] (λi=>h ([]:List UInt8) 2 i) (λb a c g=>vl (g.length:Int) λf=>cond (ltI 0 f) (cond (F6 (g.length+1)) (Ff L L b a c f 128 0 72 f (g++[[(SV.int .u8 (45:Int))]]) (λd=>cond (ag6 d Nj) (h (ac3 Lh d) 0 d) none)) none) (Ff L L b a c f 128 0 72 f g (λe=>cond (ag6 e Nj) (h (ac3 Lh e) 0 e) none))))
theorem Cw7(d:Nat)(p_z p_t p):evC (Q4 L) (d+1) Z Q 141 [.s (.sl p_z p_t 1 p)] [] s=Ab7 L p_z p_t p (λ_=>some (.tup [pS ([]:List UInt8),pI (3:Int)],[],s)) (λi j h=>some (.tup [pS i,pI j],[.arr true 5 1 h],s)):=by refine(evE (fn:=an3) (by kernel_rfl)).trans ?_;generalize evC (Q4 L) d=Y;unfold Ab7;exact let g:=(E6 2 (E5 (Q4 L) Y Q (cd [1,1,1,1,1,1,1,1] Ep) (F7 (Q4 L) an3)));(p4 (by kernel_rfl) (A0 rfl ((Az1 L Y Q s (E6 0 (E5 (Q4 L) Y Q (cd [1,1,1,1] Ep) (F7 (Q4 L) an3))) L p_z p_t p (p.length:Int) 0 []).trans (congr (congr rfl (by kernel_rfl)) (fx4 λb a c f=>(p4 (by kernel_rfl) (A4 λe=>(A0 (A0 ((JG L Y Q s g L b a c e 128 0 72 e (f++[[(SV.int .u8 (45:Int))]])).trans (by kernel_rfl)) rfl) ((JG L Y Q s g L b a c e 128 0 72 e f).trans (by kernel_rfl))))))))))
end
theorem Xi(k b:Nat):K9 ((36*k:Nat):Int) (b:Int)=(thr k b:Int):=by unfold K9 thr;omega
theorem Bt3{R:Type}{a:Int->Option R}(b:Int):Dc2 LF b a=a b:=rfl
theorem Az7{R:Type}{a:Int->Int->Int->Option R}(k b:Int)(e:ltN k 1000000000000=true)(f:ltN b 1000000=true):Bj3 LF k b a=a (K9 k b) (af0 k 36) b:=by
 obtain⟨g,h⟩:=E3.1 e;obtain⟨i,j⟩:=E3.1 f;unfold Bj3;have c:A1 (k+36)=k+36:=A7;have d:A1 (k+36-b)=k+36-b:=A7;simp only[vl,c,d];have:(if (26:Int)<(if (1:Int) > k+36-b then (1:Int) else k+36-b) then (26:Int) else (if (1:Int) > k+36-b then (1:Int) else k+36-b))=K9 k b:=by
  unfold K9;omega
 grind
theorem Pz{q k b:Nat}(h:q<thr k b):P4 q k b=[Aj q]:=by rw[P4,dif_pos h]
theorem Zk{q k b:Nat}(h:¬q<thr k b):P4 q k b=Aj (thr k b+(q-thr k b) % (36-thr k b))::P4 ((q-thr k b) / (36-thr k b)) (k+1) b:=by rw[P4,dif_neg h]
theorem TO{x y m:Nat}(a:10<=y)(h:x<10*m):x / y<m:=by have b:x / y<=x / 10:=Nat.div_le_div_left a (by omega);omega
theorem As7(b:Nat):∀(r q k:Nat),q<10 ^ r->(P4 q k b).length<=r+1:=by
 intro r
 induction r with
 | zero=>
  intro q k h;have c:=V8 k b;rw[Pz (by simp at h;omega)];simp
 | succ r d=>
  intro q k h;have c:=V8 k b;by_cases a:q<thr k b
  ·rw[Pz a];simp
  ·rw[Zk a,j6];have:=d ((q-thr k b) / (36-thr k b)) (k+1) (TO (by omega) (by rw[am1] at h;omega));omega
theorem Bs0(z:Bool)(b:Nat)(K:b<1000000):∀(r q k n:Nat) (l:LL),q<10 ^ r->q<1152921504606846976->k+r<=1000->r<n->l.length+r<=200000->
  ∃(d f:Int),∀(R:Type) (a:Bool->LL->Int->Int->Option R),Ig LF n (q:Int) z l (b:Int) ((36*k:Nat):Int) a=a z (l++(P4 q k b).map D8) d f:=by
 have c:∀(q k n:Nat) (l:LL),q<thr k b->k<=1000->l.length<=200000->∃(d f:Int),∀(R:Type) (a:Bool->LL->Int->Int->Option R),Ig LF (n+1) (q:Int) z l (b:Int) ((36*k:Nat):Int) a=a z (l++(P4 q k b).map D8) d f:=by
  intro q k n l g i j;have p:=V8 k b;refine⟨(b:Int),af0 ((36*k:Nat):Int) 36,λR a=>?_⟩;rw[Ig];rw[N9,N9,Xi,A8,N9,Pz g];simp only[vl,cond_true,b8];rw[F3 (by omega)];rfl
 intro r
 induction r with
 | zero=>
  intro q k n l h _ i H j;have p:=V8 k b;obtain⟨n,rfl⟩:∃m,n=m+1:=⟨n-1,by omega⟩
  exact c q k n l (by simp at h;omega) (by omega) (by omega)
 | succ r I=>
  intro q k n l h o i H j;have p:=V8 k b;obtain⟨n,rfl⟩:∃m,n=m+1:=⟨n-1,by omega⟩
  by_cases g:q<thr k b
  ·exact c q k n l g (by omega) (by omega)
  ·have D:(q-thr k b) / (36-thr k b)<10 ^ r:=TO (by omega) (by rw[am1] at h;omega);have F:(q-thr k b) / (36-thr k b)<=q:=ar0 (af2 _ _) (by omega);have G:(q-thr k b) % (36-thr k b)<36-thr k b:=ao6 _ (by omega);obtain⟨d,f,e⟩:=I ((q-thr k b) / (36-thr k b)) (k+1) n (l++[D8 (Aj (thr k b+(q-thr k b) % (36-thr k b)))]) D (by omega) (by omega) (by omega) (by rw[x4,ai8];omega);refine⟨d,f,λR a=>?_⟩;rw[Ig];have t:A1 ((q:Int)-(thr k b:Int))=((q-thr k b:Nat):Int):=by rw[A7];omega
   have u:A1 ((36:Int)-(thr k b:Int))=((36-thr k b:Nat):Int):=by rw[A7];omega
   have v:al1 ((q-thr k b:Nat):Int) ((36-thr k b:Nat):Int)=(((q-thr k b) % (36-thr k b):Nat):Int):=Hq _ _;have w:ae3 ((q-thr k b:Nat):Int) ((36-thr k b:Nat):Int)=(((q-thr k b) / (36-thr k b):Nat):Int):=M9 _ _;have C:((((36-thr k b:Nat):Int))!=0)=true:=by rw[bne_iff_ne];omega
   rw[N9,N9,Xi,A6];simp only[vl,t,u,v,w,C,cond_true,cond_false];rw[Zk g];generalize hA:(q-thr k b) / (36-thr k b)=A at *;generalize J:(q-thr k b) % (36-thr k b)=B at *;have x:A1 ((thr k b:Int)+(B:Int))=((thr k b+B:Nat):Int):=by rw[A7];rfl
   have y:A1 (A:Int)=(A:Int):=A7;rw[x,y,N9,F3 (by omega),b8,show af0 ((36*k:Nat):Int) 36=((36*(k+1):Nat):Int) from(by show((36*k:Nat):Int)+36=_;omega)];refine p4 (e R a) ?_;simp[s9]
theorem Bs1(q b:Int)(z:Bool)(l:LL)(h:ltN q 1152921504606846976=true)(i:ltN b 1000000=true)(j:x3 l.length 100000=true) :
  ∃(c d:Int),∀(R:Type) (a:Bool->LL->Int->Int->Option R),Db9 LF q b z l a=a z (an7 l ((P4 q.toNat 0 b.toNat).map D8)) c d:=by
 obtain⟨f,m⟩:=E3.1 h;obtain⟨g,n⟩:=E3.1 i;obtain⟨q,rfl⟩:=j8 f;obtain⟨b,rfl⟩:=j8 g;have o:=ac5 j;have k:=C6;obtain⟨c,d,e⟩:=Bs0 z b (by omega) 19 q 0 LF l (by omega) (by omega) (by omega) (by omega) (by omega);exact⟨c,d,λR a=>e R _⟩
def Ar(l:List Int):LL:=l.map λx=>[SV.int .i64 x]
def B4(l:List Nat):LL:=l.map λx:Nat=>[SV.int .i64 (x:Int)]
theorem Qd(l:List Nat):Ar (l.map λn:Nat=>(n:Int))=B4 l:=by simp[Ar,B4,ah2]
theorem U8(l:List Int):(Ar l).length=l.length:=by simp[Ar]
theorem C9(l:List Nat):(B4 l).length=l.length:=by simp[B4]
theorem Ka(a b:List Nat):B4 (a++b)=B4 a++B4 b:=by simp[B4]
theorem UP{l:List Int}{i:Nat}(h:i<l.length):okE Kp (Ar l) i 0=true:=by unfold okE Ar Kp;simp[b9,h,okS,SV.has]
theorem At4(l:List Int)(i:Nat)(h:i<l.length):gE (Ar l) i 0=l.getD i 0:=by unfold gE gC Ar;simp[b9,j7 h,SV.gI]
theorem Qe{l:List Nat}{i:Nat}(h:i<l.length):okE Kp (B4 l) i 0=true:=by rw[<-Qd];exact UP (by simpa using h)
theorem Zq(l:List Nat)(i:Nat)(h:i<l.length):gE (B4 l) i 0=(l.getD i 0:Int):=by rw[<-Qd,At4 _ _ (by simpa using h)];grind
theorem Bh1{l:LL}(h:l.all Na=true):∃P:List Int,l=Ar P:=by
 induction l with
 | nil=>exact⟨[],rfl⟩
 | cons x r b=>
  simp only[ab3,j4] at h;obtain⟨P,rfl⟩:=b h.2;have a:=h.1;unfold Na at a;split at a
  ·rename_i n;exact⟨n::P,rfl⟩
  ·cases a
theorem YV(P:List Int):(Ar P).map elI=P:=by
 unfold Ar;rw[af6]
 conv=>rhs;rw[<-ah5 P]
 apply aa5;intro x _;simp[elI,SV.gI]
theorem YU(l:List Int)(i:Nat)(h:i<l.length):l.drop i=l.getD i 0::l.drop (i+1):=by simp_all
theorem Uu(l:List Nat)(i:Nat)(h:i<l.length):l.drop i=l.getD i 0::l.drop (i+1):=by simp_all
theorem Co5:∀(r d k:Nat),d<456*35 ^ r->Yr d k<=k+36*r+36:=by
 intro r
 induction r with
 | zero=>
  intro d k h;rw[Rv (by simp at h;omega)];have:36*d / (d+38)<=36:=by
   apply Nat.div_le_of_le_mul;omega
  omega
 | succ r b=>
  intro d k h;by_cases a:455<d
  ·rw[GI a];grind
  grind
theorem Nu(d c:Nat)(f:Bool)(h:d<1152921504606846976):Q3 d c f<=500:=by
 unfold Q3;have a:∀x:Nat,x<=d->Yr (x+x / c) 0<=500:=by
  intro x a;have:=af2 x c;have:=Co5 11 (x+x / c) 0 (by omega);omega
 grind
theorem MZ{q k b:Nat}(h:q<1152921504606846976):(P4 q k b).length<=20:=As7 b 19 q k (by omega)
theorem Bj1(z t:Bool)(c:List Nat)(a m:Nat)(Q:m<=1114112)(P:c.length<=256):∀(r i n:Nat) (s:PH),i+r=c.length->r<n->s.delta+r<=1000000000000->s.bias<=500->s.out.length+20*r<=90000->s.done+r<=1000->a<=256->
  (∀(R:Type) (d:Bool->Bool->LL->Int->Int->Int->Int->Int->LL->Option R),Cb LF n z t (B4 c) (a:Int) (m:Int) (s.delta:Int) (s.bias:Int) (s.done:Int) (c.length:Int) (i:Int) (s.out.map D8) d =
   d z t (B4 c) (a:Int) (m:Int) ((H4 m a (c.drop i) s).delta:Int) ((H4 m a (c.drop i) s).bias:Int) ((H4 m a (c.drop i) s).done:Int) ((H4 m a (c.drop i) s).out.map D8))/\
  (H4 m a (c.drop i) s).bias<=500/\(H4 m a (c.drop i) s).out.length<=s.out.length+20*(c.drop i).countP (· == m)/\(H4 m a (c.drop i) s).done=s.done+(c.drop i).countP (· == m)/\
  (H4 m a (c.drop i) s).delta<=(if 0<(c.drop i).countP (· == m) then r else s.delta+r):=by
 intro r
 induction r with
 | zero=>
  intro i n s N O K x L M y;obtain⟨n,rfl⟩:∃m,n=m+1:=⟨n-1,by omega⟩
  rw[j1 (by omega)];refine⟨λR d=>?_,x,by simp[H4],by simp[H4],by simp[H4]⟩;rw[Cb];rw[A6];rfl
 | succ r F=>
  intro i n s N O K x L M y;obtain⟨n,rfl⟩:∃m,n=m+1:=⟨n-1,by omega⟩
  rw[Uu c i (by omega)];have C:=Zq c i (by omega);have ok:=Qe (l:=c) (i:=i) (by omega);generalize c.getD i 0=p at *;have A:A1 ((i:Int)+1)=((i+1:Nat):Int):=by rw[A7];rfl
  have I:A1 ((s.delta:Int)+1)=((s.delta+1:Nat):Int):=by rw[A7];rfl
  have J:A1 ((s.done:Int)+1)=((s.done+1:Nat):Int):=by rw[A7];rfl
  by_cases D:p<m
  ·have e:(p==m)=false:=by rw[beq_eq_false_iff_ne];omega
   have j:H4 m a (p::c.drop (i+1)) s=H4 m a (c.drop (i+1)) { s with delta:=s.delta+1 }:=by rw[H4,if_pos D]
   obtain⟨o,u,v,w,f⟩:=F (i+1) n { s with delta:=s.delta+1 } (by omega) (by omega) (by simp only;omega) x (by simp only;omega) (by simp only;omega) y;rw[j,ai2 (by rw[e];simp)];refine⟨λR d=>?_,u,v,w,?_⟩
   ·rw[Cb];rw[A8,C9,E9,b8,ok];simp only[cond_true,vl,C,A,I];rw[A8,cond_true];exact o R d
   ·simp only at f;split at f<;>split<;>omega
  ·by_cases H:p=m
   ·subst H;have G:=MZ (q:=s.delta) (k:=0) (b:=s.bias) (by omega);have B:=Nu s.delta (s.done+1) (s.done==a) (by omega);have j:H4 p a (p::c.drop (i+1)) s=H4 p a (c.drop (i+1)) { delta:=0,bias:=Q3 s.delta (s.done+1) (s.done==a),done:=s.done+1,out:=s.out++P4 s.delta 0 s.bias }:=by rw[H4,if_neg D,if_pos rfl]
    obtain⟨o,u,v,w,f⟩:=F (i+1) n { delta:=0,bias:=Q3 s.delta (s.done+1) (s.done==a),done:=s.done+1,out:=s.out++P4 s.delta 0 s.bias } (by omega) (by omega) (by simp only;omega) B (by simp only[x4];omega) (by simp only;omega) y;rw[j,List.countP_cons_of_pos (by simp)];refine⟨λR d=>?_,u,?_,?_,?_⟩
    ·rw[Cb];have g:((s.done:Int)==(a:Int))=(s.done==a):=by grind
     rw[A8,C9,E9,b8,ok];simp only[cond_true,vl,C,A,J];rw[A6,cond_false,beq_self_eq_true,cond_true,N9,N9,p7,aa9 (show s.out.length<=100000 by omega),N9,A8,g];simp only[cond_true,b8];have h:an7 (s.out.map D8) ((P4 s.delta 0 s.bias).map D8)=(s.out++P4 s.delta 0 s.bias).map D8:=by rw[af1];rfl
     rw[h];exact o R d
    ·simp only[x4] at v;omega
    ·simp only at w;omega
    ·simp only at f;rw[P9];split at f<;>omega
   ·have e:(p==m)=false:=by rw[beq_eq_false_iff_ne];omega
    have j:H4 m a (p::c.drop (i+1)) s=H4 m a (c.drop (i+1)) s:=by rw[H4,if_neg D,if_neg H]
    obtain⟨o,u,v,w,f⟩:=F (i+1) n s (by omega) (by omega) (by omega) x (by omega) (by omega) y;rw[j,ai2 (by rw[e];simp)];refine⟨λR d=>?_,u,v,w,?_⟩
    ·rw[Cb];rw[A8,C9,E9,b8,ok];simp only[cond_true,vl,C,A];rw[A6,cond_false,show((p:Int)==(m:Int))=false by rw[beq_eq_false_iff_ne];omega,cond_false];exact o R d
    ·split at f<;>split<;>omega
theorem Az4{R:Type}{k0:Bool->Bool->LL->Int->Int->Int->Int->Int->Int->LL->Option R}(z t:Bool)(a:List Nat)(k:a.length<=256)(n0:Nat)(b delta c done:Int)(l:LL):∀(r i n m:Nat),i+r=a.length->r<n->
  Ij LF n z t (B4 a) b (n0:Int) delta c done (m:Int) (a.length:Int) (i:Int) l k0=k0 z t (B4 a) b (n0:Int) delta c done ((G9 n0 (a.drop i) m:Nat):Int) l:=by
 intro r
 induction r with
 | zero=>
  intro i n m g j;obtain⟨n,rfl⟩:∃m,n=m+1:=⟨n-1,by omega⟩
  rw[Ij];rw[A6,j1 (by omega)];rfl
 | succ r d=>
  intro i n m g j;obtain⟨n,rfl⟩:∃m,n=m+1:=⟨n-1,by omega⟩
  have f:=Zq a i (by omega);have ok:=Qe (l:=a) (i:=i) (by omega);rw[Ij,Uu a i (by omega)];generalize a.getD i 0=p at *;have e:A1 ((i:Int)+1)=((i+1:Nat):Int):=by rw[A7];rfl
  rw[A8,C9,E9,b8,ok];simp only[cond_true,vl,f,e,G9];by_cases h:n0<=p
  ·rw[if_pos h,A6,j0,cond_true];have:(if (p:Int)<(m:Int) then (p:Int) else (m:Int))=((min m p:Nat):Int):=by split<;>omega
   rw[this];exact d (i+1) n (min m p) (by omega) (by omega)
  ·rw[if_neg h,A8,c9,cond_false];exact d (i+1) n m (by omega) (by omega)
theorem Ed(n:Nat):∀(l:List Nat) (m:Nat),(G9 n l m=m\/(G9 n l m∈l/\n<=G9 n l m))/\G9 n l m<=m/\∀p∈l,n<=p->G9 n l m<=p
 | [],m=>⟨.inl rfl,ad2 _,λp h=>by cases h⟩
 | q::r,m=>by
  obtain⟨a,b,c⟩:=Ed n r (if n<=q then min m q else m);simp only[G9];grind
theorem Um{n m:Nat}(a:n<=m):∀l:List Nat,(∀p∈l,n<=p->m<=p)->l.countP (λp=>decide (p<m+1))=l.countP (λp=>decide (p<n))+l.countP (· == m)
 | [],_=>rfl
 | p::l,h=>by
  have d:=Um a l (λq b=>h q (List.mem_cons_of_mem _ b));have c:=h p List.mem_cons_self;grind
theorem Ar5{n:Nat}{l:List Nat}(h:l.countP (λp=>decide (p<n))<l.length):∃p∈l,n<=p:=by
 apply ae8;intro a;have:l.countP (λp=>decide (p<n))=l.length:=by simp_all
 omega
theorem Cc8(z t:Bool)(a:List Nat)(b:Nat)(x:a.length<=256)(N:b<=256)(g:∀p∈a,p<=1114111):∀(f n d:Nat) (s:PH),s.done=a.countP (λp=>decide (p<n))->a.length<=s.done+f->f<d->s.delta<=300->s.bias<=500->s.out.length+20*(a.length-s.done)<=80000->n<=1114112->
  ∀(R:Type) (k0:LL->Option R),Ff LF d z t (B4 a) (b:Int) (n:Int) (s.delta:Int) (s.bias:Int) (s.done:Int) (s.out.map D8) k0=k0 ((R3 a b f n s).out.map D8):=by
 intro f;have M:=C6
 induction f with
 | zero=>
  intro n d s P S T I v J L R k0;obtain⟨d,rfl⟩:∃m,d=m+1:=⟨d-1,by omega⟩
  rw[Ff];rw[C9,A6];rfl
 | succ f U=>
  intro n d s P S T I v J L R k0;obtain⟨d,rfl⟩:∃m,d=m+1:=⟨d-1,by omega⟩
  rw[Ff];rw[C9];have O:a.countP (λp=>decide (p<n))<=a.length:=aa8;by_cases j:s.done<a.length
  ·obtain⟨A,k,q⟩:=Ar5 (n:=n) (l:=a) (by omega);obtain⟨g1,g2,u⟩:=Ed n a 1114112;have g4:=u A k q;have g5:=g A k;have e:G9 n a 1114112∈a/\n<=G9 n a 1114112:=by grind
   have Q:R3 a b (f+1) n s=R3 a b f (G9 n a 1114112+1) { H4 (G9 n a 1114112) b a { s with delta:=s.delta+(G9 n a 1114112-n)*(s.done+1) } with delta:=(H4 (G9 n a 1114112) b a { s with delta:=s.delta+(G9 n a 1114112-n)*(s.done+1) }).delta+1 }:=by
    rw[R3,if_pos j]
   rw[Q,A8,cond_true];have c:=λ(K:Bool->Bool->LL->Int->Int->Int->Int->Int->Int->LL->Option R)=>Az4 (k0:=K) z t a x n (b:Int) (s.delta:Int) (s.bias:Int) (s.done:Int) (s.out.map D8) a.length 0 LF 1114112 (by omega) (by omega)
   rw[v7] at c;refine p4 (c _) ?_;generalize G9 n a 1114112=m at *;have y:(m-n)*(s.done+1)<=1114112*256:=aj5 (by omega) (by omega);have B:A1 ((s.done:Int)+1)=((s.done+1:Nat):Int):=by rw[A7];rfl
   have C:A1 ((m:Int)-(n:Int))=((m-n:Nat):Int):=by rw[A7];omega
   have D:A1 (((m-n:Nat):Int)*((s.done+1:Nat):Int))=(((m-n)*(s.done+1):Nat):Int):=by
    rw[<-Int.natCast_mul];exact A7
   have F:A1 ((s.delta:Int)+(((m-n)*(s.done+1):Nat):Int))=((s.delta+(m-n)*(s.done+1):Nat):Int):=by
    rw[A7];rfl
   simp only[vl,B,C,D,F];have i:=Bj1 z t a b m (by omega) x a.length 0 LF { s with delta:=s.delta+(m-n)*(s.done+1) } (by omega) (by omega) (by simp only;omega) v (by simp only;omega) (by simp only;omega) N;rw[v7] at i;obtain⟨V,W,X,Y,Z⟩:=i;rw[C9];refine p4 (V R _) ?_;have h:0<a.countP (· == m):=ak0.2 ⟨m,e.1,by simp⟩;rw[if_pos h] at Z;have r:=Um e.2 a u;generalize H4 m b a { s with delta:=s.delta+(m-n)*(s.done+1) } = o at *;simp only at X Y;have G:A1 ((o.delta:Int)+1)=((o.delta+1:Nat):Int):=by rw[A7];rfl
   have H:A1 ((m:Int)+1)=((m+1:Nat):Int):=by rw[A7];rfl
   have w:a.countP (λp=>decide (p<m+1))<=a.length:=aa8;simp only[G,H];exact U (m+1) d { o with delta:=o.delta+1 } (by simp only;omega) (by simp only;omega) (by omega) (by simp only;omega) W (by simp only;omega) (by omega) R k0
  ·rw[A6];rw[R3,if_neg j];rfl
def W0(l:List Int):By:=(l.filter λx=>decide (x<128)).map λx=>s8 x.toNat
theorem Cj1(x:Int)(a:0<=x)(h:x<128):[SV.int .u8 (wu8 x)]=D8 (s8 x.toNat):=by
 unfold D8;have e:wu8 x=x:=by unfold wu8;exact Int.emod_eq_of_lt a (show x<256 by omega)
 rw[e];have:((s8 x.toNat).toNat:Int)=x:=by simp;omega
 rw[this]
theorem Sy{x:Int}(h:ptI x=true):0<=x/\x<=1114111:=by
 cases x with
 | negSucc m=>cases h
 | ofNat m=>
  have:V0 m=true:=h;unfold V0 at this;simp only[j4,x5] at this;grind
theorem Ay9(z t:Bool)(P:List Int)(A:P.length<=256):∀(r i n:Nat) (out:By),i+r=P.length->r<n->out.length+r<=1000->
  ((P.drop i).all ptI=true->∀(R:Type) (a:LL->Option R) (b:Bool->Bool->LL->LL->Option R),U4 LF n z t (Ar P) (P.length:Int) (i:Int) (out.map D8) a b=b z t (Ar P) ((out++W0 (P.drop i)).map D8))/\
  ((P.drop i).all ptI=false->∃l,∀(R:Type) (a:LL->Option R) (b:Bool->Bool->LL->LL->Option R),U4 LF n z t (Ar P) (P.length:Int) (i:Int) (out.map D8) a b=a l):=by
 intro r
 induction r with
 | zero=>
  intro i n out u v w;obtain⟨n,rfl⟩:∃m,n=m+1:=⟨n-1,by omega⟩
  rw[j1 (by omega)];refine⟨λ_ R a b=>?_,λh=>(by cases h)⟩;rw[U4];rw[A6];simp[W0]
 | succ r q=>
  intro i n out u v w;obtain⟨n,rfl⟩:∃m,n=m+1:=⟨n-1,by omega⟩
  have j:=At4 P i (by omega);have ok:=UP (l:=P) (i:=i) (by omega);rw[YU P i (by omega)];generalize P.getD i 0=x at *;have p:A1 ((i:Int)+1)=((i+1:Nat):Int):=by rw[A7];rfl
  cases f:ptI x with
  | false=>
   refine⟨λh=>?_,λ_=>⟨out.map D8,λR a b=>?_⟩⟩
   ·rw[ab3,f] at h;cases h
   ·rw[U4];rw[A8,U8,E9,b8,ok];simp only[cond_true,vl,j,f,j0]
  | true=>
   obtain⟨y,B⟩:=Sy f;rw[ab3,f,ad9];by_cases c:x<128
   ·have d:W0 (x::P.drop (i+1))=s8 x.toNat::W0 (P.drop (i+1)):=by
     unfold W0;rw[List.filter_cons_of_pos (by simpa using c)];rfl
    have g:out.map D8++[[SV.int .u8 (wu8 x)]]=(out++[s8 x.toNat]).map D8:=by rw[Cj1 x y c];simp
    obtain⟨k,o⟩:=q (i+1) n (out++[s8 x.toNat]) (by omega) (by omega) (by simp;omega);have step:∀(R:Type) (a:LL->Option R) (b:Bool->Bool->LL->LL->Option R),U4 LF (n+1) z t (Ar P) (P.length:Int) (i:Int) (out.map D8) a b=U4 LF n z t (Ar P) (P.length:Int) ((i+1:Nat):Int) ((out++[s8 x.toNat]).map D8) a b:=by
     intro R a b;rw[U4];rw[A8,U8,E9,b8,ok];simp only[cond_true,vl,j,f,c9,cond_false,p];rw[B7 c,p7,F3 (by omega),g];rfl
    refine⟨λh R a b=>?_,λh=>?_⟩
    ·rw[step,k h,d];simp
    ·obtain⟨l,e⟩:=o h;exact⟨l,λR a b=>by rw[step];exact e R a b⟩
   ·have d:W0 (x::P.drop (i+1))=W0 (P.drop (i+1)):=by
     unfold W0;rw[List.filter_cons_of_neg (by simpa using c)]
    obtain⟨k,o⟩:=q (i+1) n out (by omega) (by omega) (by omega);have step:∀(R:Type) (a:LL->Option R) (b:Bool->Bool->LL->LL->Option R),U4 LF (n+1) z t (Ar P) (P.length:Int) (i:Int) (out.map D8) a b=U4 LF n z t (Ar P) (P.length:Int) ((i+1:Nat):Int) (out.map D8) a b:=by
     intro R a b;rw[U4];rw[A8,U8,E9,b8,ok];simp only[cond_true,vl,j,f,c9,cond_false,p];rw[A6];rfl
    refine⟨λh R a b=>?_,λh=>?_⟩
    ·rw[step,k h,d]
    ·obtain⟨l,e⟩:=o h;exact⟨l,λR a b=>by rw[step];exact e R a b⟩
theorem Bj4{P:List Int}(h:P.all ptI=true):∃a:List Nat,P=a.map (λn:Nat=>(n:Int))/\a.all V0=true/\∀p∈a,p<=1114111:=by
 induction P with
 | nil=>exact⟨[],rfl,rfl,by simp⟩
 | cons x P c=>
  rw[ab3,j4] at h;obtain⟨a,rfl,b,e⟩:=c h.2;obtain⟨d,f⟩:=Sy h.1;obtain⟨m,rfl⟩:=j8 d;refine⟨m::a,rfl,?_,?_⟩
  ·rw[ab3,b,ad0];exact h.1
  grind
theorem GO(a:List Nat):W0 (a.map λn:Nat=>(n:Int))=H9 a:=by
 unfold W0 H9
 induction a with
 | nil=>rfl
 | cons p r b=>
  grind
theorem Sd(a:List Nat):(H9 a).length=a.countP (λp=>decide (p<128)):=by unfold H9;grind
theorem Az0(z t:Bool)(P:List Int):(W4 P=([],3)/\∀(R:Type) (b:Unit->Option R) (f:By->Int->LL->Option R),Ab7 LF z t (Ar P) b f=b ())\/
  (∃l,∀(R:Type) (b:Unit->Option R) (f:By->Int->LL->Option R),Ab7 LF z t (Ar P) b f=f (W4 P).1 ((W4 P).2:Nat) l):=by
 have x:=C6;by_cases j:256<P.length
 ·refine .inl ⟨by unfold W4;rw[if_pos j],λR b f=>?_⟩;unfold Ab7;rw[U8,A8];rfl
 ·right
  obtain⟨v,w⟩:=Ay9 z t P (by omega) P.length 0 LF [] (by omega) (by omega) (by simp;omega);rw[v7] at v w;cases g:P.all ptI with
  | false=>
   obtain⟨l,e⟩:=w g;refine⟨l,λR b f=>?_⟩;unfold Ab7;rw[U8,A6,cond_false];refine p4 (e R _ _) ?_;unfold W4;rw[if_neg j,g];rfl
  | true=>
   obtain⟨a,rfl,A,q⟩:=Bj4 g;rw[p7] at j;have m:W4 (a.map λn:Nat=>(n:Int))=Cx a:=by
    unfold W4;rw[p7,if_neg j,g];simp[ah2]
   have k:=Sd a;have y:a.countP (λp=>decide (p<128))<=a.length:=aa8;have main:∀(o:By),o.length<=300->∀(R:Type) (b:LL->Option R),Ff LF LF z t (B4 a) ((H9 a).length:Int) 128 0 72 ((H9 a).length:Int) (o.map D8) b=b ((R3 a (H9 a).length 256 128 { delta:=0,bias:=72,done:=(H9 a).length,out:=o }).out.map D8):=by
    intro o B R b;exact Cc8 z t a (H9 a).length (by omega) (by omega) q 256 128 LF { delta:=0,bias:=72,done:=(H9 a).length,out:=o } k (by simp only;omega) (by omega) (by simp) (by simp) (by simp only;omega) (by omega) R b
   have d:Cx a=((R3 a (H9 a).length 256 128 { delta:=0,bias:=72,done:=(H9 a).length,out:=if (H9 a).isEmpty then [] else H9 a++[45] }).out,0):=by
    unfold Cx;grind
   refine⟨(Cx a).1.map D8,λR b f=>?_⟩;unfold Ab7;rw[U8,p7,A6,cond_false,m];have i:=v g R;rw[p7] at i;refine p4 (i _ _) ?_;rw[x8,GO,Qd];simp only[vl,p7];by_cases c:H9 a=[]
   ·rw[c,aa0,A6,cond_false];have r:=main [] (by simp) R;rw[c,aa0] at r;rw[ai3] at r;refine p4 (r _) ?_;rw[c] at d;rw[d];simp only[List.isEmpty_nil,if_true,aa0];rw[W8,X6];rfl
   ·have u:0<(H9 a).length:=aa4.2 c;rw[A8,cond_true,F3 (by omega),cond_true];have h:(H9 a).map D8++[[SV.int .u8 (45:Int)]]=(H9 a++[45]).map D8:=by rw[af1];rfl
    rw[h];refine p4 (main (H9 a++[45]) (by simp;omega) R _) ?_;rw[d,if_neg (by simpa using c)];rw[W8,X6];rfl
theorem Cw8(z t:Bool)(p:LL)(b:p.all Na=true):∃r H,Ab7 LF z t p (λ_=>rv (.tup [.s (.str []),.s (.int .i64 3)]) []) (λd e l=>rv (.tup [.s (.str d),.s (.int .i64 e)]) [.arr true 5 1 l])=rv r H/\
  r.stab [0,0] H = .tup [.s (.str (W4 (p.map elI)).1),.s (.int .i64 ((W4 (p.map elI)).2:Nat))]:=by
 obtain⟨P,rfl⟩:=Bh1 b;rw[YV];rcases Az0 z t P with⟨c,a⟩|⟨l,a⟩
 ·exact⟨_,_,a _ _ _,by rw[c];rfl⟩
 ·exact⟨_,_,a _ _ _,rfl⟩
section
variable {Z R : Type} (L : Nat) (Y : G0) (Q : Yh Z) (s : Z) (k : Out -> St Z -> Option R)
noncomputable abbrev C89:Code:=C8 aq2
noncomputable def Yx(L:Nat):Cfg:=B6 L [186] (A3 [(3,[0,1,0,0])]) [(182,FG),(189,An0)] (A3 [(17,[2]),(16,[0,2,0,53]),(15,[0,2,0]),(14,[2]),(13,[0,2,0,1,45]),(12,[0,2,0,0,0]),(11,[2]),(10,[0,2,0,0,41]),(9,[0,2,0,0]),(8,[0,2,0,0]),(7,[2]),(6,[0,2,0,0,18]),(5,[0,2,0,0]),(4,[2]),(3,[0,2,0,11]),(2,[0,2,0]),(1,[0,2]),(0,[0])]) [189] (A3 [(0,[2]),(1,[0,2,0])]) (some [2]) [(188,Pp)] [] [188]
noncomputable def Ey{R:Type}(L n:Nat)(o:Int)(b:By)(i m c:Int)(f j:Bool)(h:LL)(n8:Int)(g:Int->By->Int->Int->Int->Bool->Bool->LL->Int->Option R):Option R:=match n with|0=>none|n+1=>cond (b==[]) (g 4 b i m c f j h n8) (cond (inR 0 b.length) (cond (inR (bAt b (0:Int)) 256) (vl (D9 (u8n (bAt b (0:Int)))) λe=>cond (ltI e 0) (g 4 b i m c f j h n8) (cond (I7 1 (b.length:Int) b.length) (vl (cut b 1 (b.length:Int)) λd=>vl (A1 (m+(A1 (e*o)))) λa=>cond (ltI 1099511627776 a) (g 19 d i a c f j h n8) (cond (ltN n8 1000000000000) (cond (ltN c 1000000) (cond (ltI e (K9 n8 c)) (g 0 d i a c f j h (af0 n8 (36:Int))) (vl (A1 ((36:Int)-(K9 n8 c))) λl=>cond (ltI 1099511627776 (A1 (o*l))) (g 19 d i a c f j h (af0 n8 (36:Int))) (Ey L n (A1 (o*l)) d i a c f j h (af0 n8 (36:Int)) g))) none) none)) none)) none) none)
theorem As5(n w0 f d e a b g c n8):D0 4 ((Yx L).keep 3) (bd (Yx L) Y Q (cd [1,1,1,0,0] C89)) n ⟨gp [(0,.ptr 0 0 0),(2,.fnr (Fn.func 188) [] [.ptr 3 0 0,.ptr 2 0 0]),(0,pI w0)] 54,[.box [pS f,.fl 1,pI d,pI e,pI a,pB b],.arr g 3 1 c,.box [pI a],.box [pI n8]],s⟩ k =
 Ey L n w0 f d e a b g c n8 (λn0 f d e a b g c n8=>k .ret ⟨gp [(2,pI n0)] 56,[.box [pS f,.fl 1,pI d,pI e,pI a,pB b],.arr g 3 1 c,.box [pI a],.box [pI n8]],s⟩):=by
 induction n generalizing w0 f d e a b g c n8 with
 | zero=>rfl
 | succ n h=>rw[Ey];simp only[<-h];kernel_rfl
noncomputable def C97{R:Type}(L:Nat)(g:By)(n i b:Int)(q z:Bool)(l:LL)(p:Int->By->Int->Int->Int->Bool->Bool->LL->Int->Option R):Option R:=Ey L L 1 g n i b q z l 0 (λj o m d e a h c f=>p j o m d e a h c f)
theorem Cq4(d:Nat)(rest n i b st z l):evC (Yx L) (d+1) Z Q 186 [.ptr 0 0 0] [.box [pS rest,.fl 1,pI n,pI i,pI b,pB st],.arr z 3 1 l] s=C97 L rest n i b st z l (λh j f g a c m e n8=>some (pI h,[.box [pS j,.fl 1,pI f,pI g,pI a,pB c],.arr m 3 1 e,.box [pI a],.box [pI n8]],s)):=by refine(evE (fn:=aq2) (by kernel_rfl)).trans ?_;generalize evC (Yx L) d=Y;unfold C97;exact(p4 (by kernel_rfl) ((As5 L Y Q s (E6 0 (F7 (Yx L) aq2)) L 1 rest n i b st z l 0).trans (by kernel_rfl)))
noncomputable def SM(L:Nat):Cfg:=B6 L [175] (A3 []) [(170,No),(168,Np)] (A3 [(16,[2]),(15,[]),(14,[0]),(13,[2]),(12,[0,67]),(11,[2]),(10,[0,4,60]),(9,[0,4]),(8,[0,4]),(7,[0,4]),(6,[0,4]),(5,[0,2,1]),(4,[2]),(3,[0,2,0,8]),(2,[0,2,0]),(1,[0,2]),(0,[0])]) [170,168] (A3 []) (some [2]) [(186,PL),(187,RP)] [] [186,187]
noncomputable def Bg3{R:Type}(L:Nat)(a:By)(n i b:Int)(m z:Bool)(l:LL)(j:Int->By->Int->Int->Int->Bool->Bool->LL->Option R):Option R:=cond (A2 a.length) (cond (ltN b 1000000) (cond (ltN i 1099511627777) (cond ((IV b a i)!=0) (j (IV b a i) (IX b a i) n (Sw b a i) b m z l) (vl (A1 ((l.length:Int)+1)) λc=>vl (A1 ((Sw b a i)-i)) λh=>cond (ltN h 1152921504606846976) (cond (ltN c 1000000) (cond (ltI 0 c) (vl (↑(Q3 (j5 h) (j5 c) (not m)):Int) λf=>cond (c !=0) (vl (A1 (ae3 (Sw b a i) c)) λd=>cond (c !=0) (vl (al1 (Sw b a i) c) λe=>cond (not (ptI (A1 (n+d)))) (j 2 (IX b a i) (A1 (n+d)) e f true z l) (cond (ltI 256 c) (j 3 (IX b a i) (A1 (n+d)) e f true z l) (cond (ltN e (Nat.add l.length 1)) (cond (x3 l.length 100000) (vl (Ln l (j5 e) (A1 (n+d))) λg=>j 0 (IX b a i) (A1 (n+d)) (A1 (e+1)) f true z g) none) none))) none) none) none) none) none)) none) none) none
theorem B70(d:Nat)(rest n i b st z l):evC (SM L) (d+1) Z Q 175 [.ptr 0 0 0] [.box [pS rest,.fl 1,pI n,pI i,pI b,pB st],.arr z 3 1 l] s=Bg3 L rest n i b st z l (λh j e f g a m c=>some (pI h,[.box [pS j,.fl 1,pI e,pI f,pI g,pB a],.arr m 3 1 c],s)):=by refine(evE (fn:=Tryz.f175) (by kernel_rfl)).trans ?_;generalize evC (SM L) d=Y;unfold Bg3;kernel_rfl
noncomputable abbrev Ry:Code:=C8 aj9
noncomputable def Aa(L:Nat):Cfg:=B6 L [155] (A3 [(20,[2,0,1]),(13,[0,1,0,1,0,22,0]),(4,[0,1,0,9,0])]) [(80,DK)] (A3 [(24,[2,0]),(23,[2,0]),(22,[5,2,59]),(21,[5,2]),(20,[5,58]),(19,[2,0]),(18,[5,53]),(17,[5]),(16,[0,4,0,22,0]),(15,[0,4,0,22,0]),(14,[0,4,0,0,21,0]),(13,[0,4,0,22,0,0]),(12,[0,4,0,22,0]),(11,[0,4,0,21]),(10,[0,4,0]),(9,[0,4]),(8,[0,12,0]),(7,[2,0]),(6,[0,12,0,5]),(5,[0,3,8,0]),(4,[0,12,0,0]),(3,[0,12,0]),(2,[2,0]),(1,[0,10]),(0,[0])]) [80] (A3 [(4,[5]),(5,[5]),(2,[0,4,0]),(3,[0,4,0,22,0]),(0,[0]),(1,[0,12,0])]) (some [2,0]) [(175,DJ)] [] [175] (nt:=[(152,1,3,1)])
noncomputable def Lv{R:Type}(L n:Nat)(b:By)(e a:Int)(c:Unit->Option R)(d:By->Option R):Option R:=match n with|0=>none|n+1=>cond (ltI a e) (cond (inR a b.length) (cond (not (ltI (bAt b a) (128:Int))) (c ()) (Lv L n b e (A1 (a+1)) c d)) none) (d b)
theorem Ay7(n a n1 n2):D0 0 ((Aa L).keep 4) (bd (Aa L) Y Q (cd [1,1,0,1,0,0] Ry)) n ⟨gp [(0,pS a),(12,pI n1),(0,pI n2)] 59,[],s⟩ k =
 Lv L n a n1 n2 (λ_=>k .ret ⟨gp [(2,.fl 0),(0,pI (4:Int))] 70,[.arr true 3 1 []],s⟩) (λa=>k (.exit 0) ⟨gp [(0,pS a)] 73,[],s⟩):=by
 induction n generalizing a n1 n2 with
 | zero=>rfl
 | succ n b=>rw[Lv];simp only[<-b];kernel_rfl
noncomputable def Ii{R:Type}(L n:Nat)(c:By)(a b:Int)(d:LL)(e:By->Int->LL->Option R):Option R:=match n with|0=>none|n+1=>cond (ltI b a) (cond (inR b c.length) (cond (F6 (d.length+1)) (Ii L n c a (A1 (b+1)) (d++[[(SV.int .i64 (A1 (bAt c b)))]]) e) none) none) (e c a d)
theorem Ay8(n b a n2 l3):D0 2 ((Aa L).keep 13) (bd (Aa L) Y Q (cd [1,1,1,1,0,1,1,0,0,1,0,0] Ry)) n ⟨gp [(0,pS b),(4,.ptr 1 0 0),(0,pI a),(22,pI a),(0,pI n2)] 43,[.arr true 3 1 l3,.box [pS b,.fl 0,pI (128:Int),pI (0:Int),pI (72:Int),pB false]],s⟩ k =
 Ii L n b a n2 l3 (λb a d=>k (.exit 2) ⟨gp [(0,pS b),(4,.ptr 1 0 0),(0,pI a)] 67,[.arr true 3 1 d,.box [pS b,.fl 0,pI (128:Int),pI (0:Int),pI (72:Int),pB false]],s⟩):=by
 induction n generalizing b a n2 l3 with
 | zero=>rfl
 | succ n c=>rw[Ii];simp only[<-c];kernel_rfl
noncomputable def T1{R:Type}(L n:Nat)(b:LL)(a:By)(c d e:Int)(f:Bool)(i:Int->LL->By->Int->Int->Int->Bool->Option R)(j:LL->By->Int->Int->Int->Bool->Option R):Option R:=match n with|0=>none|n+1=>cond (not (a==[])) (cond (A2 a.length) (cond (ltN e 1000000) (cond (ltN d 1099511627777) (cond (ltN c 1152921504606846976) (cond (x3 b.length 100000) (vl ((F2 (DS.mk a c d e f b))).1 λh=>vl (DS.l ((F2 (DS.mk a c d e f b))).2) λg=>cond (h !=0) (i h g (DS.rest ((F2 (DS.mk a c d e f b))).2) (DS.n ((F2 (DS.mk a c d e f b))).2) (DS.i ((F2 (DS.mk a c d e f b))).2) (DS.b ((F2 (DS.mk a c d e f b))).2) (DS.st ((F2 (DS.mk a c d e f b))).2)) (T1 L n g (DS.rest ((F2 (DS.mk a c d e f b))).2) (DS.n ((F2 (DS.mk a c d e f b))).2) (DS.i ((F2 (DS.mk a c d e f b))).2) (DS.b ((F2 (DS.mk a c d e f b))).2) (DS.st ((F2 (DS.mk a c d e f b))).2) i j)) none) none) none) none) none) (j b a c d e f)
theorem JF(n d f e a b c):D0 2 ((Aa L).keep 20) (bd (Aa L) Y Q (cd [1,1,1,1,1,1,0,0,0] Ry)) n ⟨gp [(5,.ptr 1 0 0)] 68,[.arr true 3 1 d,.box [pS f,.fl 0,pI e,pI a,pI b,pB c]],s⟩ k =
 T1 L n d f e a b c (λn0 i l a b j g=>k .ret ⟨gp [(2,.fl 2),(0,pI n0)] 70,[.arr true 3 1 i,.box [pS l,.fl 0,pI a,pI b,pI j,pB g],.arr true 3 1 []],s⟩) (λd f e a b c=>k (.exit 4) ⟨gp [(5,.ptr 1 0 0)] 68,[.arr true 3 1 d,.box [pS f,.fl 0,pI e,pI a,pI b,pB c]],s⟩):=by
 induction n generalizing d f e a b c with
 | zero=>rfl
 | succ n h=>rw[T1];simp only[<-h];kernel_rfl
noncomputable def Wd{R:Type}(L:Nat)(M:By)(N:Int->Option R)(K:Int->LL->By->Int->Int->Int->Bool->Option R)(O:LL->By->Int->Int->Int->Bool->Option R):Option R:=cond (ltI 1024 (M.length:Int)) (N 3) (Lv L L M (M.length:Int) 0 (λ_=>N 4) (λa=>cond (A2 a.length) (vl (K3 (u8n (45:Int)) a) λC=>cond (ltI 0 C) (Ii L L a C 0 [] (λb h c=>vl (A1 (h+1)) λD=>cond (I7 D (b.length:Int) b.length) (vl (cut b D (b.length:Int)) λJ=>cond (ltI 256 (c.length:Int)) (K 3 c J 128 0 72 false) (T1 L L c J 128 0 72 false (λn i F o p q d=>K n i F o p q d) (λj G r t u e=>O j G r t u e))) none)) (T1 L L [] a 128 0 72 false (λv l H w x y f=>K v l H w x y f) (λm I z A B g=>O m I z A B g))) none))
theorem Cw3(d:Nat)(s0):evC (Aa L) (d+1) Z Q 155 [pS s0] [] s=Wd L s0 (λg=>some (.tup [.fl 0,pI g],[.arr true 3 1 []],s)) (λg o v e f r m=>some (.tup [.fl 2,pI g],[.arr true 3 1 o,.box [pS v,.fl 0,pI e,pI f,pI r,pB m],.arr true 3 1 []],s)) (λn u q e f l=>some (.tup [.fl 0,pI (0:Int)],[.arr true 3 1 n,.box [pS u,.fl 0,pI q,pI e,pI f,pB l]],s)):=by refine(evE (fn:=aj9) (by kernel_rfl)).trans ?_;generalize evC (Aa L) d=Y;unfold Wd;exact let i:=(E6 4 (E5 (Aa L) Y Q (cd [1,1,1,1,1,1,1] Ry) (F7 (Aa L) aj9)));(p4 (by kernel_rfl) (A0 rfl ((Ay7 L Y Q s (E6 0 (E5 (Aa L) Y Q (cd [1,1,1] Ry) (F7 (Aa L) aj9))) L s0 (s0.length:Int) 0).trans (congr (congr rfl (by kernel_rfl)) (fx1 λa=>(p4 (by kernel_rfl) (A0 (A4 λc=>(A0 ((Ay8 L Y Q s (E6 2 (E5 (Aa L) Y Q (cd [1,1,1,1,0,1,1,0,1] Ry) (E5 (Aa L) Y Q (cd [1,1,1,1,1] Ry) (F7 (Aa L) aj9)))) L a c 0 []).trans (congr rfl (fx3 λt j b=>(p4 (by kernel_rfl) (A4 λp=>(A0 (A4 λh=>(A0 rfl ((JF L Y Q s i L b h 128 0 72 false).trans (by kernel_rfl)))) rfl)))))) ((JF L Y Q s i L [] a 128 0 72 false).trans (by kernel_rfl)))) rfl)))))))
noncomputable abbrev XZ:Code:=C8 ap6
noncomputable def Gh(L:Nat):Cfg:=B6 L [104] (A3 [(2,[0,0,2,0])]) [] (A3 [(6,[4]),(3,[0,0,3]),(5,[4]),(4,[0,0,3,11]),(2,[0,0,3,4]),(1,[0,0,3]),(0,[0,0])]) [] (A3 [(0,[]),(1,[0,0,3])]) (some [4]) [] [] []
noncomputable def Cz{R:Type}(L n:Nat)(b:By)(c a:Int)(d:Int->Option R)(e:Unit->Option R):Option R:=match n with|0=>none|n+1=>cond (not (ltI a 0)) (cond (inR a b.length) (cond ((bAt b a)==c) (d a) (Cz L n b c (A1 (a-1)) d e)) none) (e ())
theorem UA(n s0 c1 i2):D0 0 ((Gh L).keep 2) (bd (Gh L) Y Q (cd [1,0,1,0,0] XZ)) n ⟨gp [(0,pS s0),(0,p8 c1),(3,pI i2)] 13,[],s⟩ k =
 Cz L n s0 c1 i2 (λn0=>k .ret ⟨gp [(4,pI n0)] 14,[],s⟩) (λ_=>k (.exit 0) ⟨gp [] 19,[],s⟩):=by
 induction n generalizing s0 c1 i2 with
 | zero=>rfl
 | succ n a=>rw[Cz];simp only[<-a];kernel_rfl
noncomputable def TZ{R:Type}(L:Nat)(d:By)(e:Int)(c:Int->Option R):Option R:=vl (A1 ((d.length:Int)-1)) λa=>Cz L L d e a (λb=>c b) (λ_=>c (-1))
theorem Bp5(d:Nat)(s0 c1):evC (Gh L) (d+1) Z Q 104 [pS s0,p8 c1] [] s=TZ L s0 c1 (λb=>some (pI b,[],s)):=by refine(evE (fn:=ap6) (by kernel_rfl)).trans ?_;generalize evC (Gh L) d=Y;unfold TZ;exact(p4 (by kernel_rfl) (A4 λa=>((UA L Y Q s (E6 0 (E5 (Gh L) Y Q (cd [1,1] XZ) (F7 (Gh L) ap6))) L s0 c1 a).trans (by kernel_rfl))))
noncomputable def SQ(L:Nat):Cfg:=B6 L [80] (A3 []) [(104,XN)] (A3 [(1,[4]),(0,[0,0])]) [104] (A3 []) (some [4]) [] [] []
noncomputable def Bh5{R:Type}(L:Nat)(b:By)(a:Int)(c:Int->Option R):Option R:=cond (A2 b.length) (cond (inR a 256) (c (K3 (u8n a) b)) none) none
theorem B98(d:Nat)(s0 c1):evC (SQ L) (d+1) Z Q 80 [pS s0,p8 c1] [] s=Bh5 L s0 c1 (λa=>some (pI a,[],s)):=by refine(evE (fn:=Tryz.f80) (by kernel_rfl)).trans ?_;generalize evC (SQ L) d=Y;unfold Bh5;kernel_rfl
end
theorem Fp(c:UInt8):-1<=D9 c/\D9 c<=35:=by unfold D9 Ng;grind
theorem Mn(k b:Int):1<=K9 k b/\K9 k b<=26:=by unfold K9;omega
theorem De{x w:Int}(b:0<=x)(c:x<=35)(a:0<=w)(w1:w<=1099511627776):0<=x*w/\x*w<=38482906972160:=by refine⟨ao4 b a,?_⟩;have:=Int.mul_le_mul c w1 a (show(0:Int)<=35 by omega);omega
theorem Ur(b:Int):∀(s:By) (i w k:Int),0<=i->0<=w->w<=1099511627776->(T9 b s i w k).1=0->i<=(T9 b s i w k).2.2/\(T9 b s i w k).2.2<=1099511627776/\(T9 b s i w k).2.1.length<s.length
 | [],i,w,k,_,_,_,h=>by simp[T9] at h
 | c::r,i,w,k,m,d,a,h=>by
  have l:=Fp c;have o:=Mn k b;unfold T9 at h ⊢;split at h
  ·simp at h
  ·rename_i e;rw[if_neg e];have n:=De (by omega) l.2 d a;split at h
   ·simp at h
   ·rename_i f;rw[if_neg f];split at h
    ·grind
    ·rename_i g;rw[if_neg g];split at h
     ·omega
     ·rename_i j;rw[if_neg j];obtain⟨p,q,t⟩:=Ur b r (i+D9 c*w) (w*(36-K9 k b)) (k+36) (by omega) (ao4 d (by omega)) (by omega) h;grind
theorem Bn5(f:Int)(b:Int)(g z:Bool)(l:LL)(M:0<=b)(N:b<1000000):∀(s:By) (n:Nat) (i w k:Int),s.length<n->s.length<=1000000000->0<=i->i<=1099511627776->0<=w->w<=1099511627776->0<=k->k+36*s.length<=100000000000->
  ∃H,∀(R:Type) (a:Int->By->Int->Int->Int->Bool->Bool->LL->Int->Option R),Ey LF n w s f i b g z l k a=a (T9 b s i w k).1 (T9 b s i w k).2.1 f (T9 b s i w k).2.2 b g z l H:=by
 intro s
 induction s with
 | nil=>
  intro n i w k K L O B G h P o;obtain⟨n,rfl⟩:∃m,n=m+1:=⟨n-1,by omega⟩
  refine⟨k,λR a=>?_⟩;rw[Ey];rfl
 | cons c r T=>
  intro n i w k K L O B G h P o;obtain⟨n,rfl⟩:∃m,n=m+1:=⟨n-1,by omega⟩
  rw[j6] at K L o;have S:=Fp c;have V:=Mn k b;have Q:u8n (bAt (c::r) 0)=c:=by unfold u8n bAt;simp
  have C:inR (bAt (c::r) 0) 256=true:=by rw[Ah];have:=c.toNat_lt;exact M8 (by omega) (by simp;omega)
  have j:cut (c::r) 1 ((c::r).length:Int)=r:=by
   have:=Hy (c::r) 1 (c::r).length;grind
  have F:((c::r)==([]:By))=false:=rfl;have start:∀(R:Type) (a:Int->By->Int->Int->Int->Bool->Bool->LL->Int->Option R),Ey LF (n+1) w (c::r) f i b g z l k a =
    cond (ltI (D9 c) 0) (a 4 (c::r) f i b g z l k)
     (vl (A1 (i+(A1 (D9 c*w)))) λd=>cond (ltI 1099511627776 d) (a 19 r f d b g z l k)
      (cond (ltI (D9 c) (K9 k b)) (a 0 r f d b g z l (af0 k 36))
       (vl (A1 (36-(K9 k b))) λp=>cond (ltI 1099511627776 (A1 (w*p))) (a 19 r f d b g z l (af0 k 36)) (Ey LF n (A1 (w*p)) r f d b g z l (af0 k 36) a)))):=by
   intro R a;rw[Ey];rw[F,C,M8 (by omega) (by rw[j6];omega),Af (by omega) (by rw[j6];omega) (by omega),j,Q,N9,N9];rfl
  unfold T9;by_cases u:D9 c<0
  ·rw[if_pos u];refine⟨k,λR a=>?_⟩;rw[start,B7 u];rfl
  ·rw[if_neg u];have U:=De (by omega) S.2 G h;have q:A1 (D9 c*w)=D9 c*w:=A7;have t:A1 (i+D9 c*w)=i+D9 c*w:=A7;by_cases v:1099511627776<i+D9 c*w
   ·rw[if_pos v];refine⟨k,λR a=>?_⟩;rw[start,A6,q,t];simp only[vl,cond_false];rw[B7 v];rfl
   ·rw[if_neg v];by_cases y:D9 c<K9 k b
    ·rw[if_pos y];refine⟨af0 k 36,λR a=>?_⟩;rw[start,A6,q,t];simp only[vl,cond_false];rw[A6,B7 y];rfl
    ·rw[if_neg y];have I:A1 (36-K9 k b)=36-K9 k b:=A7;have D:=De (x:=36-K9 k b) (by omega) (by omega) G h;rw[Int.mul_comm] at D;have J:A1 (w*(36-K9 k b))=w*(36-K9 k b):=A7;by_cases A:1099511627776<w*(36-K9 k b)
     ·rw[if_pos A];refine⟨af0 k 36,λR a=>?_⟩;rw[start,A6,q,t];simp only[vl,cond_false];rw[A6,A6,I,J,B7 A];rfl
     ·rw[if_neg A];obtain⟨H,e⟩:=T n (i+D9 c*w) (w*(36-K9 k b)) (k+36) (by omega) (by omega) (by omega) (by omega) (by omega) (by omega) (by omega) (by omega);refine⟨H,λR a=>?_⟩;rw[start,A6,q,t];simp only[vl,cond_false];rw[A6,A6,I,J,A6];exact e R a
theorem Bn6(a:By)(n i b:Int)(f z:Bool)(l:LL)(h:A2 a.length=true)(j:ltN b 1000000=true)(k:ltN i 1099511627777=true) :
  ∃c,∀(R:Type) (d:Int->By->Int->Int->Int->Bool->Bool->LL->Int->Option R),C97 LF a n i b f z l d=d (IV b a i) (IX b a i) n (Sw b a i) b f z l c:=by
 have q:=M3 h;obtain⟨g,p⟩:=E3.1 j;obtain⟨o,r⟩:=E3.1 k;have m:=C6;obtain⟨c,e⟩:=Bn5 n b f z l g (by omega) a LF i 1 0 (by omega) (by omega) o (by omega) (by omega) (by omega) (by omega) (by omega);exact⟨c,λR d=>e R _⟩
theorem As6{R:Type}{j:Int->By->Int->Int->Int->Bool->Bool->LL->Option R}(a:By)(n i b:Int)(d z:Bool)(l:LL)(y:A2 a.length=true)(C:ltN b 1000000=true)(g:ltN i 1099511627777=true)(D:ltN n 1152921504606846976=true)(h:x3 l.length 100000=true) :
  Bg3 LF a n i b d z l j=j (F2 ⟨a,n,i,b,d,l⟩).1 (F2 ⟨a,n,i,b,d,l⟩).2.rest (F2 ⟨a,n,i,b,d,l⟩).2.n (F2 ⟨a,n,i,b,d,l⟩).2.i (F2 ⟨a,n,i,b,d,l⟩).2.b (F2 ⟨a,n,i,b,d,l⟩).2.st z (F2 ⟨a,n,i,b,d,l⟩).2.l:=by
 obtain⟨F,P⟩:=E3.1 g;obtain⟨n0,Q⟩:=E3.1 D;have M:=ac5 h;unfold Bg3 F2;rw[y,C,g];simp only[cond_true];by_cases e:IV b a i=0
 ·rw[if_pos e,e];obtain⟨G,I,S⟩:=Ur b a i 1 0 F (by omega) (by omega) e;have H:i<=Sw b a i:=G;have J:Sw b a i<=1099511627776:=I;have o:A1 ((l.length:Int)+1)=(l.length:Int)+1:=A7;simp only[vl];rw[o];generalize Sw b a i=x at *;have f:0<=x:=by omega
  obtain⟨X,rfl⟩:=j8 f;have p:A1 ((X:Int)-i)=(X:Int)-i:=A7;have u:((l.length:Int)+1)=((l.length+1:Nat):Int):=rfl;have v:ae3 (X:Int) ((l.length+1:Nat):Int)=((X / (l.length+1):Nat):Int):=M9 _ _;have w:al1 (X:Int) ((l.length+1:Nat):Int)=((X % (l.length+1):Nat):Int):=Hq _ _;have L:=af2 X (l.length+1);have N:=ao6 X (show 0<l.length+1 by omega);rw[p,u,v,w];generalize hA:X / (l.length+1)=A at *;generalize K:X % (l.length+1)=B at *;have q:A1 (A:Int)=(A:Int):=A7;have r:A1 (n+(A:Int))=n+(A:Int):=A7;have t:A1 ((B:Int)+1)=(B:Int)+1:=A7;have k:((0:Int)!=0)=false:=rfl;have m:((((l.length+1:Nat):Int))!=0)=true:=by rw[bne_iff_ne];omega
  rw[q,r,t,k,N9,N9,A8,m];simp only[cond_true,cond_false];cases O:ptI (n+(A:Int)) with
  | false=>simp
  | true=>
   simp only[c9,cond_false,if_true];by_cases c:(256:Int)<((l.length+1:Nat):Int)
   ·rw[if_pos c,B7 c];rfl
   ·rw[if_neg c,A6,cond_false,Vt (by omega) (by show(B:Int)<((l.length+1:Nat):Int);omega),h];rfl
 ·rw[if_neg e,show(IV b a i !=0)=true from bne_iff_ne.2 e];rfl
theorem II(c:UInt8):∀l:By,-1<=K3 c l
 | []=>by simp[K3]
 | b::r=>by
  have:=II c r;unfold K3;omega
theorem IJ(c b:UInt8):∀l:By,K3 c (l++[b])=if b=c then (l.length:Int) else K3 c l
 | []=>by
  by_cases h:b=c<;>simp[K3,h]
 | a::l=>by
  have d:=IJ c b l;rw[ae5,K3,d];by_cases h:b=c
  ·grind
  ·rw[if_neg h,if_neg h];rfl
theorem ZS{R:Type}{b:Int->Option R}{d:Unit->Option R}(s:By)(c:UInt8)(l:s.length<=1000000000):∀(m n:Nat),m<=s.length->m<n->
  Cz LF n s (c.toNat:Int) ((m:Int)-1) b d=if K3 c (s.take m)<0 then d () else b (K3 c (s.take m)):=by
 intro m
 induction m with
 | zero=>
  intro n g i;obtain⟨n,rfl⟩:∃m,n=m+1:=⟨n-1,by omega⟩
  rw[Cz];rw[A8];rfl
 | succ m k=>
  intro n g i;obtain⟨n,rfl⟩:∃m,n=m+1:=⟨n-1,by omega⟩
  rw[Cz];have e0:(((m+1:Nat):Int)-1)=(m:Int):=by omega
  have e:A1 ((m:Int)-1)=(m:Int)-1:=A7;have j:s.take (m+1)=s.take m++[s.getD m 0]:=by
   rw[al9,b9,j7 (by omega)];rfl
  rw[e0,e,A6,E9,D1,j,IJ];simp only[j0,cond_true];by_cases h:s.getD m 0=c
  ·rw[if_pos h,h,beq_self_eq_true,cond_true,y7,ao1 (by omega),F5]
  ·have a:(((s.getD m 0).toNat:Int)==(c.toNat:Int))=false:=by
    rw[beq_eq_false_iff_ne];intro f;exact h (UInt8.toNat.inj (Int.ofNat.inj f))
   rw[if_neg h,a,cond_false];exact k n (by omega) (by omega)
theorem Cj3{c:Int}(h:inR c 256=true):c=((u8n c).toNat:Int):=by simp only[inR,j4,decide_eq_true_eq] at h;unfold u8n;simp;omega
theorem ZT{R:Type}{a:Int->Option R}(s:By)(c:Int)(e:A2 s.length=true)(f:inR c 256=true):TZ LF s c a=a (K3 (u8n c) s):=by
 have j:=M3 e;have g:=C6;have i:=Cj3 f;generalize u8n c=d at *;subst i;unfold TZ;have b:A1 ((s.length:Int)-1)=(s.length:Int)-1:=A7;simp only[vl];rw[b];refine p4 (ZS s d (by omega) s.length LF (by omega) (by omega)) ?_;rw[an0];have:=II d s;by_cases h:K3 d s<0
 ·rw[if_pos h,show K3 d s=-1 by omega]
 ·rw[if_neg h]
theorem Av5{R:Type}{a:Int->Option R}(s:By)(c:Int)(b:A2 s.length=true)(d:inR c 256=true):Bh5 LF s c a=a (K3 (u8n c) s):=by unfold Bh5;grind
theorem Oq:∀s:By,(45∈s->K3 45 s=(G4 s:Int))/\(45∉s->K3 45 s=-1/\G4 s=0)
 | []=>⟨λh=>(by cases h),λ_=>⟨rfl,rfl⟩⟩
 | b::r=>by
  obtain⟨a,c⟩:=Oq r;unfold K3 G4;grind
theorem Ak3{c:UInt8}(h:Ng c=none):D9 c=-1:=by unfold D9;rw[h]
theorem Ak4{c:UInt8}{x:Nat}(h:Ng c=some x):D9 c=x:=by unfold D9;rw[h]
theorem Ut(b:Nat):∀(s:By) (i w k:Nat),T9 (b:Int) s (i:Int) (w:Int) ((36*k:Nat):Int)=((((D6 b s i w k).2.2:Nat):Int),(T9 (b:Int) s (i:Int) (w:Int) ((36*k:Nat):Int)).2)/\
  ((D6 b s i w k).2.2=0->(T9 (b:Int) s (i:Int) (w:Int) ((36*k:Nat):Int)).2=((D6 b s i w k).2.1,((D6 b s i w k).1:Int)))
 | [],i,w,k=>⟨rfl,λh=>by simp[D6] at h⟩
 | c::r,i,w,k=>by
  unfold T9 D6;cases d:Ng c with
  | none=>
   rw[Ak3 d,P9];grind
  | some x=>
   rw[Ak4 d,F5,Xi];have e:(i:Int)+(x:Int)*(w:Int)=((i+x*w:Nat):Int):=by push_cast;rfl
   have n:=V8 k b;have f:(w:Int)*(36-(thr k b:Int))=((w*(36-thr k b):Nat):Int):=by grind
   have g:((36*k:Nat):Int)+36=((36*(k+1):Nat):Int):=by omega
   have a:V5=1099511627776:=by decide
   rw[e,f,g,a];simp only;generalize i+x*w=I;generalize w*(36-thr k b)=W;by_cases j:1099511627776<I
   ·grind
   ·rw[F5,if_neg j];by_cases l:x<thr k b
    ·grind
    ·rw[F5,if_neg l];by_cases m:1099511627776<W
     ·grind
     ·rw[F5,if_neg m];exact Ut b r I W (k+1)
theorem B91(l:List Nat)(i n:Nat):Ln (B4 l) i (n:Int)=B4 (U9 l i n):=by unfold Ln U9 B4;simp_all
theorem UM(b:Nat)(s:By)(i:Nat):IV (b:Int) s (i:Int)=((D6 b s i 1 0).2.2:Int)/\((D6 b s i 1 0).2.2=0->IX (b:Int) s (i:Int)=(D6 b s i 1 0).2.1/\Sw (b:Int) s (i:Int)=((D6 b s i 1 0).1:Int)):=by obtain⟨a,c⟩:=Ut b s i 1 0;have e:T9 (b:Int) s (i:Int) 1 0=T9 (b:Int) s (i:Int) ((1:Nat):Int) ((36*0:Nat):Int):=rfl;unfold IV IX Sw;rw[e];refine⟨by rw[a],λh=>?_⟩;have:=c h;rw[this];exact⟨rfl,rfl⟩
theorem Di7(s:By)(a:List Nat)(n i b:Nat)(c:Bool)(h:(D6 b s i 1 0).2.2=0)(q:i<=(D6 b s i 1 0).1)(o:V0 (n+(D6 b s i 1 0).1 / (a.length+1))=true)(p:¬ 256<a.length+1) :
  F2 ⟨s,(n:Int),(i:Int),(b:Int),c,B4 a⟩=(0,⟨(D6 b s i 1 0).2.1,((n+(D6 b s i 1 0).1 / (a.length+1):Nat):Int),(((D6 b s i 1 0).1 % (a.length+1)+1:Nat):Int),((Q3 ((D6 b s i 1 0).1-i) (a.length+1) (!c):Nat):Int),true,B4 (U9 a ((D6 b s i 1 0).1 % (a.length+1)) (n+(D6 b s i 1 0).1 / (a.length+1)))⟩):=by
 obtain⟨j,k⟩:=UM b s i;obtain⟨l,m⟩:=k h;unfold F2;simp only;rw[j,h,if_pos (show((0:Nat):Int)=0 from rfl),l,m,C9];generalize (D6 b s i 1 0).1=X at *;have d:((a.length:Int)+1)=((a.length+1:Nat):Int):=rfl;have e:ae3 (X:Int) ((a.length+1:Nat):Int)=((X / (a.length+1):Nat):Int):=M9 _ _;have f:al1 (X:Int) ((a.length+1:Nat):Int)=((X % (a.length+1):Nat):Int):=Hq _ _;have g:(n:Int)+((X / (a.length+1):Nat):Int)=((n+X / (a.length+1):Nat):Int):=rfl;rw[d,e,f,g,Lw,o,if_pos rfl,F5,b8,B91,b8,show((X:Int)-(i:Int)).toNat=X-i by omega];rfl
theorem C98(s:By)(a:List Nat)(n i b:Nat)(f:Bool):((D6 b s i 1 0).2.2≠0->(F2 ⟨s,(n:Int),(i:Int),(b:Int),f,B4 a⟩).1=((D6 b s i 1 0).2.2:Int))/\
  ((D6 b s i 1 0).2.2=0->V0 (n+(D6 b s i 1 0).1 / (a.length+1))=false->(F2 ⟨s,(n:Int),(i:Int),(b:Int),f,B4 a⟩).1=2)/\
  ((D6 b s i 1 0).2.2=0->V0 (n+(D6 b s i 1 0).1 / (a.length+1))=true->256<a.length+1->(F2 ⟨s,(n:Int),(i:Int),(b:Int),f,B4 a⟩).1=3):=by
 obtain⟨c,l⟩:=UM b s i;have g:(((B4 a).length:Int)+1)=((a.length+1:Nat):Int):=by rw[C9];rfl
 have j:∀X:Nat,ae3 (X:Int) ((a.length+1:Nat):Int)=((X / (a.length+1):Nat):Int):=λX=>M9 _ _
 have k:∀A:Nat,(n:Int)+(A:Int)=((n+A:Nat):Int):=λA=>rfl
 refine⟨λh=>?_,λh e=>?_,λh e o=>?_⟩
 ·unfold F2;simp only;rw[c,F5]
 ·obtain⟨m,d⟩:=l h;unfold F2;simp only;rw[c,h,if_pos (show((0:Nat):Int)=0 from rfl),d,g,j,k,Lw,e,if_neg (by simp)]
 ·obtain⟨m,d⟩:=l h;unfold F2;simp only;rw[c,h,if_pos (show((0:Nat):Int)=0 from rfl),d,g,j,k,Lw,e,if_pos rfl,P9]
theorem Cv(a:List Nat)(n i b:Nat)(f:Bool):G8 [] a n i b f=(a,0):=by rw[G8];rfl
theorem Gq{s:By}(c:s≠[])(a:List Nat)(n i b:Nat)(f:Bool)(h:(D6 b s i 1 0).2.2≠0):G8 s a n i b f=([],(D6 b s i 1 0).2.2):=by rw[G8,dif_neg c];grind
theorem Dz{s:By}(c:s≠[])(a:List Nat)(n i b:Nat)(f:Bool)(h:(D6 b s i 1 0).2.2=0):G8 s a n i b f =
  if V0 (n+(D6 b s i 1 0).1 / (a.length+1)) then (if 256<a.length+1 then ([],3) else G8 (D6 b s i 1 0).2.1 (U9 a ((D6 b s i 1 0).1 % (a.length+1)) (n+(D6 b s i 1 0).1 / (a.length+1))) (n+(D6 b s i 1 0).1 / (a.length+1)) ((D6 b s i 1 0).1 % (a.length+1)+1) (Q3 ((D6 b s i 1 0).1-i) (a.length+1) f) false) else ([],2):=by
 rw[G8,dif_neg c];simp only;rw[dif_pos h]
theorem Be(l:List Nat)(i n:Nat):(U9 l i n).length=l.length+1:=by unfold U9;grind
theorem Bs7:∀(r:Nat) (s:By) (a:List Nat) (n i b f:Nat) (c:Bool),s.length<=r->r<f->s.length<=1000000->a.length<=256->n<=1114111->i<=1000->b<=500->
  ((G8 s a n i b (!c)).2=0->∃u t q p j,∀(R:Type) (d:Int->LL->By->Int->Int->Int->Bool->Option R) (g:LL->By->Int->Int->Int->Bool->Option R),T1 LF f (B4 a) s (n:Int) (i:Int) (b:Int) c d g=g (B4 (G8 s a n i b (!c)).1) u t q p j)/\
  ((G8 s a n i b (!c)).2≠0->(G8 s a n i b (!c)).1=[]/\∃l u t q p j,∀(R:Type) (d:Int->LL->By->Int->Int->Int->Bool->Option R) (g:LL->By->Int->Int->Int->Bool->Option R),T1 LF f (B4 a) s (n:Int) (i:Int) (b:Int) c d g=d ((G8 s a n i b (!c)).2:Nat) l u t q p j):=by
 intro r
 induction r with
 | zero=>
  intro s a n i b f c h K _ _ _ _ _;obtain⟨f,rfl⟩:∃m,f=m+1:=⟨f-1,by omega⟩
  have v:s=[]:=k9.1 (by omega);subst v;rw[Cv];refine⟨λ_=>⟨[],n,i,b,c,λR d g=>?_⟩,λh=>absurd rfl h⟩;rw[T1];rfl
 | succ r L=>
  intro s a n i b f c h K X Y Z h4 h5;obtain⟨f,rfl⟩:∃m,f=m+1:=⟨f-1,by omega⟩
  by_cases v:s=[]
  ·subst v;rw[Cv];refine⟨λ_=>⟨[],n,i,b,c,λR d g=>?_⟩,λh=>absurd rfl h⟩;rw[T1];rfl
  ·have start:∀(R:Type) (d:Int->LL->By->Int->Int->Int->Bool->Option R) (g:LL->By->Int->Int->Int->Bool->Option R),T1 LF (f+1) (B4 a) s (n:Int) (i:Int) (b:Int) c d g =
     cond ((F2 ⟨s,n,i,b,c,B4 a⟩).1 !=0) (d (F2 ⟨s,n,i,b,c,B4 a⟩).1 (F2 ⟨s,n,i,b,c,B4 a⟩).2.l (F2 ⟨s,n,i,b,c,B4 a⟩).2.rest (F2 ⟨s,n,i,b,c,B4 a⟩).2.n (F2 ⟨s,n,i,b,c,B4 a⟩).2.i (F2 ⟨s,n,i,b,c,B4 a⟩).2.b (F2 ⟨s,n,i,b,c,B4 a⟩).2.st)
      (T1 LF f (F2 ⟨s,n,i,b,c,B4 a⟩).2.l (F2 ⟨s,n,i,b,c,B4 a⟩).2.rest (F2 ⟨s,n,i,b,c,B4 a⟩).2.n (F2 ⟨s,n,i,b,c,B4 a⟩).2.i (F2 ⟨s,n,i,b,c,B4 a⟩).2.b (F2 ⟨s,n,i,b,c,B4 a⟩).2.st d g):=by
    intro R d g;rw[T1];rw[show(s==([]:By))=false from beq_eq_false_iff_ne.2 v,M5,N9,N9,N9,C9,aa9 (show a.length<=100000 by omega)];rfl
   obtain⟨G,H,I⟩:=C98 s a n i b c;have o:=Di7 s a n i b c;generalize F2 ⟨s,n,i,b,c,B4 a⟩=D at *;by_cases k:(D6 b s i 1 0).2.2=0
   ·rw[Dz v a n i b (!c) k];obtain⟨M,N⟩:=UM b s i;obtain⟨O,P⟩:=N k;have J:IV (b:Int) s (i:Int)=0:=by rw[M,k];rfl
    obtain⟨U,V,W⟩:=Ur b s i 1 0 (by omega) (by omega) (by omega) J;have A:(i:Int)<=Sw (b:Int) s (i:Int):=U;have B:Sw (b:Int) s (i:Int)<=1099511627776:=V;have C:(IX (b:Int) s (i:Int)).length<s.length:=W;rw[P] at A B;rw[O] at C;cases x:V0 (n+(D6 b s i 1 0).1 / (a.length+1)) with
    | false=>
     rw[if_neg (by simp)];refine⟨λh=>by simp at h,λ_=>⟨rfl,D.2.l,D.2.rest,D.2.n,D.2.i,D.2.b,D.2.st,λR d g=>?_⟩⟩
     ·rw[start,H k x];rfl
    | true=>
     rw[if_pos rfl];by_cases w:256<a.length+1
     ·rw[if_pos w];refine⟨λh=>by simp at h,λ_=>⟨rfl,D.2.l,D.2.rest,D.2.n,D.2.i,D.2.b,D.2.st,λR d g=>?_⟩⟩;rw[start,I k x w];rfl
     ·rw[if_neg w];have o:=o k (by omega) x w;have z:n+(D6 b s i 1 0).1 / (a.length+1)<=1114111:=by
       unfold V0 at x;simp_all
      have F:=ao6 (D6 b s i 1 0).1 (show 0<a.length+1 by omega);have y:=Nu ((D6 b s i 1 0).1-i) (a.length+1) (!c) (by omega);have:=L (D6 b s i 1 0).2.1 (U9 a ((D6 b s i 1 0).1 % (a.length+1)) (n+(D6 b s i 1 0).1 / (a.length+1))) (n+(D6 b s i 1 0).1 / (a.length+1)) ((D6 b s i 1 0).1 % (a.length+1)+1) (Q3 ((D6 b s i 1 0).1-i) (a.length+1) (!c)) f true (by omega) (by omega) (by omega) (by rw[Be];omega) z (by omega) y;obtain⟨Q,S⟩:=this;refine⟨λh=>?_,λh=>?_⟩
      ·obtain⟨u,t,q,p,j,e⟩:=Q h;refine⟨u,t,q,p,j,λR d g=>?_⟩;rw[start,o];exact e R d g
      ·obtain⟨T,l,u,t,q,p,j,e⟩:=S h;refine⟨T,l,u,t,q,p,j,λR d g=>?_⟩;rw[start,o];exact e R d g
   ·rw[Gq v a n i b (!c) k];refine⟨λh=>absurd h k,λ_=>⟨rfl,D.2.l,D.2.rest,D.2.n,D.2.i,D.2.b,D.2.st,λR d g=>?_⟩⟩;rw[start,G k,show(((D6 b s i 1 0).2.2:Int)!=0)=true by rw[bne_iff_ne];omega];rfl
theorem Df(l:List Nat):Lt l=B4 l:=rfl
theorem Ay5{R:Type}{k0:Unit->Option R}{k1:By->Option R}(s:By)(f:s.length<=1000000):∀(r i n:Nat),i+r=s.length->r<n->
  Lv LF n s (s.length:Int) (i:Int) k0 k1=if (s.drop i).any (λb=>x3 128 b.toNat) then k0 () else k1 s:=by
 intro r
 induction r with
 | zero=>
  intro i n c d;obtain⟨n,rfl⟩:∃m,n=m+1:=⟨n-1,by omega⟩
  rw[Lv];rw[A6,j1 (by omega)];rfl
 | succ r e=>
  intro i n c d;obtain⟨n,rfl⟩:∃m,n=m+1:=⟨n-1,by omega⟩
  rw[Lv];have a:A1 ((i:Int)+1)=((i+1:Nat):Int):=by rw[A7];rfl
  rw[A8,E9,D1,D2 s i (by omega),a,ak2];simp only[cond_true];generalize s.getD i 0=b;by_cases h:128<=b.toNat
  ·rw[A6,aa9 h];rfl
  ·have:x3 128 b.toNat=false:=by rw[z7,ne_eq,x5];exact h
   rw[A8,this,af8];exact e (i+1) n (by omega) (by omega)
theorem Bs6{R:Type}{k0:By->Int->LL->Option R}(s:By)(q:s.length<=1000000)(k:Nat)(p:k<=s.length):∀(r i n:Nat) (l:List Nat),i+r=k->r<n->l.length=i->
  Ii LF n s (k:Int) (i:Int) (B4 l) k0=k0 s (k:Int) (B4 (l++((s.take k).drop i).map (·.toNat))):=by
 intro r
 induction r with
 | zero=>
  intro i n l f h g;obtain⟨n,rfl⟩:∃m,n=m+1:=⟨n-1,by omega⟩
  rw[Ii];rw[A6,j1 (by rw[y7];omega)];simp
 | succ r j=>
  intro i n l f h g;obtain⟨n,rfl⟩:∃m,n=m+1:=⟨n-1,by omega⟩
  rw[Ii];have c:A1 ((i:Int)+1)=((i+1:Nat):Int):=by rw[A7];rfl
  have e:(s.take k).drop i=s.getD i 0::(s.take k).drop (i+1):=by
   rw[D2 (s.take k) i (by rw[y7];omega)]
   congr 1
   rw[b9,b9,List.getElem?_take_of_lt (by omega)]
  rw[A8,E9,D1,e,C9,F3 (by omega),c];simp only[cond_true];generalize s.getD i 0=b;have o:=b.toNat_lt;have d:A1 (b.toNat:Int)=(b.toNat:Int):=A7;have a:B4 l++[[SV.int .i64 (A1 (b.toNat:Int))]]=B4 (l++[b.toNat]):=by rw[d,Ka];rfl
  rw[a,j (i+1) n _ (by omega) (by omega) (by simp;omega)];simp
theorem Ot:∀s:By,G4 s<=s.length-1
 | []=>by simp[G4]
 | b::r=>by
  have:=Ot r;unfold G4;grind
theorem Ay6(s:By)(M:A2 s.length=true):(∃e,N6 s=([],e)/\∀(R:Type) (k0:Int->Option R) (k1:Int->LL->By->Int->Int->Int->Bool->Option R) (a:LL->By->Int->Int->Int->Bool->Option R),Wd LF s k0 k1 a=k0 (e:Nat))\/
  (∃e l k j i f c,N6 s=([],e)/\∀(R:Type) (k0:Int->Option R) (k1:Int->LL->By->Int->Int->Int->Bool->Option R) (a:LL->By->Int->Int->Int->Bool->Option R),Wd LF s k0 k1 a=k1 (e:Nat) l k j i f c)\/
  ((N6 s).2=0/\∃k j i f c,∀(R:Type) (k0:Int->Option R) (k1:Int->LL->By->Int->Int->Int->Bool->Option R) (a:LL->By->Int->Int->Int->Bool->Option R),Wd LF s k0 k1 a=a (B4 (N6 s).1) k j i f c):=by
 have N:=C6;unfold N6;by_cases C:1024<s.length
 ·rw[if_pos C];refine .inl ⟨3,rfl,λR k0 k1 a=>?_⟩;unfold Wd;rw[A8];rfl
 ·rw[if_neg C];have r:=λ(R:Type) (G:Unit->Option R) (H:By->Option R)=>Ay5 (k0:=G) (k1:=H) s (by omega) s.length 0 LF (by omega) (by omega)
  rw[v7] at r;cases A:s.any (λb=>x3 128 b.toNat) with
  | true=>
   rw[if_pos rfl];refine .inl ⟨4,rfl,λR k0 k1 a=>?_⟩;unfold Wd;rw[A6,cond_false];refine p4 (r R _ _) ?_;rw[A,if_pos rfl];rfl
  | false=>
   rw[if_neg (by simp)];obtain⟨I,J⟩:=Oq s;have O:=Ot s;have key:∀(d:List Nat) (t:By),d.length<=256->t.length<=1024->(∀(R:Type) (k0:Int->Option R) (k1:Int->LL->By->Int->Int->Int->Bool->Option R) (a:LL->By->Int->Int->Int->Bool->Option R),Wd LF s k0 k1 a=T1 LF LF (B4 d) t 128 0 72 false k1 a)->
     (∃e l k j i f c,G8 t d 128 0 72 true=([],e)/\∀(R:Type) (k0:Int->Option R) (k1:Int->LL->By->Int->Int->Int->Bool->Option R) (a:LL->By->Int->Int->Int->Bool->Option R),Wd LF s k0 k1 a=k1 (e:Nat) l k j i f c)\/
     ((G8 t d 128 0 72 true).2=0/\∃k j i f c,∀(R:Type) (k0:Int->Option R) (k1:Int->LL->By->Int->Int->Int->Bool->Option R) (a:LL->By->Int->Int->Int->Bool->Option R),Wd LF s k0 k1 a=a (B4 (G8 t d 128 0 72 true).1) k j i f c):=by
    intro d t P V B;obtain⟨D,F⟩:=Bs7 t.length t d 128 0 72 LF false (ad2 _) (by omega) (by omega) P (by omega) (by omega) (by omega);rw[j0] at D F;by_cases w:(G8 t d 128 0 72 true).2=0
    ·obtain⟨k,j,i,f,c,e⟩:=D w;exact .inr ⟨w,k,j,i,f,c,λR k0 k1 a=>by rw[B];exact e R k1 a⟩
    ·obtain⟨S,l,k,j,i,f,c,e⟩:=F w;exact .inl ⟨_,l,k,j,i,f,c,Prod.ext S rfl,λR k0 k1 a=>by rw[B];exact e R k1 a⟩
   have Q:u8n 45=45:=rfl;have top:∀(R:Type) (k0:Int->Option R) (k1:Int->LL->By->Int->Int->Int->Bool->Option R) (a:LL->By->Int->Int->Int->Bool->Option R),Wd LF s k0 k1 a =
     cond (ltI 0 (K3 45 s)) (Ii LF LF s (K3 45 s) 0 [] (λn x u=>cond (I7 (A1 (x+1)) (n.length:Int) n.length)
      (vl (cut n (A1 (x+1)) (n.length:Int)) λy=>cond (ltI 256 (u.length:Int)) (k1 3 u y 128 0 72 false) (T1 LF LF u y 128 0 72 false k1 a)) none))
      (T1 LF LF [] s 128 0 72 false k1 a):=by
    intro R k0 k1 a;unfold Wd;rw[A6,cond_false];refine p4 (r R _ _) ?_;rw[A,if_neg (by simp),M,Q];rfl
   by_cases T:0<G4 s
   ·have v:45∈s:=by
     apply ae8;intro h;have:=(J h).2;omega
    have z:=I v;generalize G4 s=m at *;have g:=λ(R:Type) (K:By->Int->LL->Option R)=>Bs6 (k0:=K) s (by omega) m (by omega) m 0 LF [] (by omega) (by omega) rfl
    rw[v7] at g;have L:A1 ((m:Int)+1)=((m+1:Nat):Int):=by rw[A7];rfl
    have p:((s.take m).map (·.toNat)).length=m:=by rw[p7,y7];omega
    have q:∀(R:Type) (k0:Int->Option R) (k1:Int->LL->By->Int->Int->Int->Bool->Option R) (a:LL->By->Int->Int->Int->Bool->Option R),Wd LF s k0 k1 a =
      cond (ltI 256 (m:Int)) (k1 3 (B4 ((s.take m).map (·.toNat))) (s.drop (m+1)) 128 0 72 false) (T1 LF LF (B4 ((s.take m).map (·.toNat))) (s.drop (m+1)) 128 0 72 false k1 a):=by
     intro R k0 k1 a;rw[top,z,A8,cond_true];refine p4 (g R _) ?_;rw[L,I2,Hy,an0,x8,C9,p];rfl
    by_cases o:256<m
    ·rw[if_pos o];refine .inr (.inl ⟨3,B4 ((s.take m).map (·.toNat)),s.drop (m+1),128,0,72,false,rfl,λR k0 k1 a=>?_⟩);rw[q,A8];rfl
    ·rw[if_neg o,if_neg (show ¬m=0 by omega)];exact .inr (key _ (s.drop (m+1)) (by rw[p];omega) (by rw[j9];omega) (λR k0 k1 a=>by rw[q,A6];rfl))
   ·have w:G4 s=0:=by omega
    have z:¬ 0<K3 45 s:=by
     by_cases U:45∈s;all_goals grind
    rw[w,F5,if_pos rfl];refine .inr (key [] s (by simp) (by omega) (λR k0 k1 a=>?_));rw[top,A6];rfl
theorem Vx(l:List Nat):(B4 l).isEmpty=l.isEmpty:=by cases l<;>rfl
theorem Cw4(s:By)(k:A2 s.length=true):∃r H,Wd LF s (λf=>rv (.tup [.fl 0,.s (.int .i64 f)]) [.arr true 3 1 []]) (λf o w c d t j=>rv (.tup [.fl 2,.s (.int .i64 f)]) [.arr true 3 1 o,.box [.s (.str w),.fl 0,.s (.int .i64 c),.s (.int .i64 d),.s (.int .i64 t),.s (.bool j)],.arr true 3 1 []]) (λn v q c d i=>rv (.tup [.fl 0,.s (.int .i64 (0:Int))]) [.arr true 3 1 n,.box [.s (.str v),.fl 0,.s (.int .i64 q),.s (.int .i64 c),.s (.int .i64 d),.s (.bool i)]])=rv r H/\
  r.stab [1,0] H = .tup [.s (.sl (N6 s).1.isEmpty (N6 s).1.isEmpty 1 (Lt (N6 s).1)),.s (.int .i64 ((N6 s).2:Nat))]:=by
 rcases Ay6 s k with⟨e,a,b⟩|⟨e,l,u,p,m,h,g,a,b⟩|⟨a,u,p,m,h,g,b⟩
 ·refine⟨_,_,b _ _ _ _,?_⟩;rw[a];rfl
 ·refine⟨_,_,b _ _ _ _,?_⟩;rw[a];rfl
 ·refine⟨_,_,b _ _ _ _,?_⟩;rw[a,Df];simp[PV.stab,Og,Qt,PV.snap,L8,Vx]
end
section
open Go
theorem U1(x y:By)(r:List By)(p:By):y9 (x::y::r) p=x++(p++y9 (y::r) p):=by simp[y9,List.intercalate]
theorem Oy(c:UInt8):∀l:List By,l≠[]->(∀x∈l,c∉x)->pcs c (y9 l [c])=l
 | [],h,_=>absurd rfl h
 | [x],_,h=>by rw[af5,Ke (h x (by simp))]
 | x::y::r,_,h=>by
  rw[U1,List.singleton_append,DZ (h x (by simp)),Oy c (y::r) (by simp) (λz a=>h z (by simp[a]))]
theorem ZV(c:UInt8):∀(n:Nat) (s:By),s.length<=n->y9 (pcs c s) [c]=s
 | n,s,a=>by
  rcases Q1 c s with h|⟨p,r,rfl,h⟩
  ·rw[Ke h,af5]
  ·rw[DZ h];cases n with
   | zero=>simp at a
   | succ n=>
    have d:=ZV c n r (by simp at a;omega);cases b:pcs c r with
    | nil=>exact absurd b (UW c r)
    | cons y q=>
     rw[U1,<-b,d];rfl
theorem AD(c:UInt8)(s:By):y9 (pcs c s) [c]=s:=ZV c _ s (ad2 _)
theorem Vv{c b:UInt8}:∀l:List By,b∈y9 l [c]->b=c\/∃x∈l,b∈x
 | [],h=>by simp[aq5] at h
 | [x],h=>by rw[af5] at h;exact .inr ⟨x,by simp,h⟩
 | x::y::r,h=>by
  rw[U1] at h;simp only[ai7,af3] at h;rcases h with h|h|h
  ·grind
  ·grind
  ·rcases Vv (y::r) h with h|⟨z,a,h⟩
   all_goals grind
theorem Cv3{c b:UInt8}{s:By}(h:b∈s):b=c\/∃x∈pcs c s,b∈x:=by rw[<-AD c s] at h;exact Vv _ h
theorem Bh9(b:UInt8):W5 b=46↔b=46:=by
 rcases J8 b with⟨h,e⟩|⟨h,e⟩|⟨h,c,e⟩
 ·rw[e]
 ·rw[e]
 ·constructor
  ·intro a;rw[a] at e;simp at e;omega
  ·intro a;subst a;simp at h
theorem Bq8(a b:By):B3 (a++b)=B3 a++B3 b:=af1
theorem Y7(s:By):(B3 s).length=s.length:=p7 _
theorem Jj:∀(s a:By),L5 46 (B3 a) (B3 s)=(L5 46 a s).map B3
 | [],a=>rfl
 | b::r,a=>by
  show(if W5 b=46 then _ else _)=_;simp only[L5];by_cases h:b=46
  ·rw[if_pos ((Bh9 b).2 h),if_pos h,ab9];have:=Jj r [];rw[<-this];rfl
  ·rw[if_neg (λe=>h ((Bh9 b).1 e)),if_neg h,<-Jj r (a++[b]),Bq8];rfl
theorem AK(s:By):pcs 46 (B3 s)=(pcs 46 s).map B3:=Jj s []
theorem Cq1(b:UInt8):dig (W5 b)=dig b:=by
 rcases J8 b with⟨h,e⟩|⟨h,e⟩|⟨h,a,e⟩
 ·rw[e]
 ·rw[e]
 ·unfold dig;grind
theorem Zi(base:Nat):∀(s:By) (n:Nat),E8 base n (B3 s)=E8 base n s
 | [],n=>rfl
 | b::r,n=>by
  show(if dig (W5 b)<base then _ else _)=_;simp only[E8,Cq1];split
  ·exact Zi base r _
  ·rfl
theorem Cu4(b:UInt8):W5 b=48↔b=48:=by
 rcases J8 b with⟨h,e⟩|⟨h,e⟩|⟨h,c,e⟩
 ·rw[e]
 ·rw[e]
 ·constructor
  ·intro a;rw[a] at e;simp at e;omega
  ·intro a;subst a;simp at h
theorem Da9(b:UInt8):(W5 b=120\/W5 b=88)↔(b=120\/b=88):=by
 rcases J8 b with⟨h,e⟩|⟨h,e⟩|⟨h,c,e⟩
 ·rw[e]
 ·rw[e]
 ·constructor
  ·rintro(a|a)
   ·rw[a] at e
    right
    apply ao2.1;grind
   simp_all
  ·rintro(a|a)
   ·simp_all
   ·subst a;left;apply ao2.1;rw[e];rfl
theorem Dc(s:By)(i:Nat):(B3 s).getD i 0=W5 (s.getD i 0):=by unfold B3;simp only[b9,al6];cases s[i]?<;>rfl
theorem Bp6(s:By):X4 (B3 s)=X4 s:=by rw[an9,Fv,Fv,Dc,Dc,Cu4,Da9]
theorem NS{s:By}:B3 s=[]↔s=[]:=by unfold B3;simp
theorem Vd(l:List By):(l.map B3).getLastD []=B3 (l.getLastD []):=by rw[ah1,ah1,List.getLast?_map];cases l.getLast?<;>rfl
theorem Ay3(s:By):C3 (B3 s)=(C3 s).map B3:=by unfold C3;rw[AK,Vd];simp only[p7,NS];grind
theorem Bq0(s:By):Cl (B3 s)=B3 (Cl s):=by unfold Cl;rw[Ay3,Vd]
theorem IR(s:By)(i:Nat):(B3 s).drop i=B3 (s.drop i):=by unfold B3;rw[ak3]
theorem KZ(s:By):(B3 s).isEmpty=s.isEmpty:=by cases s<;>rfl
theorem UN(s:By):E4 (B3 s)=E4 s:=by unfold E4;rw[Bq0,Bp6,IR,Zi,Zi,KZ]
theorem CD:∀(n:Nat) (s:By),s.length<=n->(∀b∈s,b.toNat<128)->V2 n s=some (s.map (·.toNat))
 | 0,s,h,_=>by
  have:s=[]:=k9.1 (by omega);subst this;rfl
 | n+1,[],_,_=>by simp[V2]
 | n+1,b::r,h,hs=>by
  simp only[V2];rw[if_neg (by simp),ah3 b r (hs b (by simp))];have d:=hs b (by simp);rw[if_neg (by simp;omega)];simp only[List.drop_succ_cons,v7];rw[CD n r (by simp at h;omega) (λc a=>hs c (by simp[a]))];rfl
theorem Az9(s:By)(h:∀b∈s,b.toNat<128):Ck s=some (s.map (·.toNat)):=CD _ s (ad2 _) h
theorem Bg(b:UInt8):K6 b=true↔(97<=b.toNat/\b.toNat<=122)\/(48<=b.toNat/\b.toNat<=57)\/b=45\/b=95:=by simp[K6,or_assoc]
theorem Ss{b:UInt8}(h:K6 b=true):b.toNat<128/\(b.toNat<65\/90<b.toNat)/\b≠46/\b≠37/\b≠91:=by
 rw[Bg] at h;have key:∀c:UInt8,b=c->b.toNat=c.toNat:=λc e=>by rw[e]
 rcases h with h|h|h|h
 ·refine⟨by omega,by omega,?_,?_,?_⟩<;>intro e<;>have:=key _ e<;>simp at this<;>omega
 ·refine⟨by omega,by omega,?_,?_,?_⟩<;>intro e<;>have:=key _ e<;>simp at this<;>omega
 all_goals simp_all
structure VL (s:By):Prop where
 ne:s≠[]
 le:s.length<=63
 byt:∀b∈s,K6 b=true
theorem Bn{s:By}(h:J5 s=true):VL s:=by unfold J5 at h;simp only[j4,al0,y5] at h;obtain⟨⟨⟨⟨⟨a,c⟩,g⟩,i⟩,d⟩,j⟩:=h;refine⟨by intro e;subst e;simp at a,ac5 c,λb f=>d b f⟩
theorem Db0{s:By}(h:∀b∈s,b.toNat<65\/90<b.toNat):B3 s=s:=by
 unfold B3
 conv=>rhs;rw[<-ah5 s]
 apply aa5;intro b d;rcases J8 b with⟨_,e⟩|⟨_,e⟩|⟨a,c,e⟩
 all_goals grind
theorem Bq5{s:By}(h:∀b∈B3 s,b.toNat<128):∀b∈s,b.toNat<128:=by
 intro b a;have:=h (W5 b) (List.mem_map_of_mem a);rcases J8 b with⟨_,e⟩|⟨_,e⟩|⟨c,d,e⟩
 all_goals grind
theorem By6{s:By}(h:J5 (B3 s)=true):H5 s=(B3 s,0):=by have v:=Bn h;have c:=Bq5 (λb d=>(Ss (v.byt b d)).1);have e:=Y7 s;have a:=v.le;unfold H5;rw[Az9 s c];grind
theorem GM:∀l:List By,(l.map B3).all J5=true->F1 l=(l.map B3,0)
 | [],_=>rfl
 | x::r,h=>by
  simp only[ab9,ab3,j4] at h;unfold F1;rw[By6 h.1,GM r h.2];rfl
structure VN (s:By):Prop where
 le:s.length<=253
 num:E4 s=false
 all:∀x∈pcs 46 s,J5 x=true
theorem Ht{s:By}:Cg s=true↔VN s:=by unfold Cg;simp only[j4,al0,y5];exact⟨λh=>⟨ac5 h.1.1,h.1.2,h.2⟩,λh=>⟨⟨aa9 h.le,h.num⟩,h.all⟩⟩
theorem VN.byt{s:By}(h:VN s):∀b∈s,b=46\/K6 b=true:=by
 intro b hb;rcases Cv3 (c:=46) hb with h1|⟨x,hx,h1⟩
 ·grind
 ·exact .inr ((Bn (h.all x hx)).byt b h1)
theorem VN.byt'{s:By}(h:VN s){b:UInt8}(hb:b∈s):b.toNat<128/\(b.toNat<65\/90<b.toNat)/\b≠37/\b≠91:=by
 rcases h.byt b hb with h1|h1
 ·simp_all
 ·have:=Ss h1;grind
theorem AC(c:UInt8):∀(l:List By),(∀x∈l,x≠[]/\c∉x)->(y9 l [c]).getLast?≠some c
 | [],_=>by simp[aq5]
 | [x],h=>by
  rw[af5];intro e;have:=List.mem_of_getLast? e;grind
 | x::y::r,h=>by
  have g:=AC c (y::r) (λz b=>h z (by simp[b]));have a:y9 (y::r) [c]≠[]:=by
   intro e;have:pcs c (y9 (y::r) [c])=y::r:=Oy c _ (by simp) (λz b=>(h z (by simp[b])).2);rw[e] at this;have f:pcs c []=[[]]:=rfl;grind
  rw[U1,aj3,aj3];cases d:(y9 (y::r) [c]).getLast? with
  | none=>rw[List.getLast?_eq_none_iff] at d;exact absurd d a
  | some z=>
   grind
theorem VN.last{s:By}(h:VN s):s.getLast?≠some 46:=by have:=AC 46 (pcs 46 s) (λx hx=>⟨(Bn (h.all x hx)).ne,(Ca hx).1⟩);rwa [AD] at this
theorem VN.ne{s:By}(h:VN s):s≠[]:=by intro e;subst e;exact(Bn (h.all [] (by simp[pcs,L5]))).ne rfl
theorem VN.head{s:By}(h:VN s):s.head?≠some 91:=by intro e;exact(h.byt' (al8 e)).2.2.2 rfl
theorem VN.low{s:By}(h:VN s):B3 s=s:=Db0 λb hb=>(h.byt' hb).2.1
theorem UX:∀s:By,(∀b∈s,b≠37)->Q5 s=some s
 | [],_=>by unfold Q5;rfl
 | b::r,h=>by
  unfold Q5;rw[if_neg (h b (by simp)),UX r (λc a=>h c (by simp[a]))];rfl
theorem LB{a e t name:By}(j:a.length<=1024)(f:a.head?≠some 91)(g:Q5 a=some e)(h:G2 e=t)(i:B3 t=name)(c:VN name):B9 a=(⟨1,name,0,z8⟩,0):=by
 subst i;have b:E4 t=false:=by rw[<-UN];exact c.num
 have d:((pcs 46 t).map B3).all J5=true:=by
  rw[<-AK,y5];exact c.all
 unfold B9;rw[F5,if_neg f,g];simp only[h,b];rw[GM _ d];simp only[w6,if_false,if_true];rw[<-AK,AD,if_neg (by have:=c.le;omega),c.num];simp
theorem Ay2{s:By}(h:VN s):B9 s=(⟨1,s,0,z8⟩,0):=
 LB (by have:=h.le;omega) h.head (UX s λb a=>(h.byt' a).2.2.1) (by unfold G2;rw[if_neg h.last]) h.low h
theorem C73{a b:By}:Lg a b=true↔VN a/\VN b/\(a=b\/∃p,b=p++46::a):=by
 unfold Lg;simp only[j4,ai6,Ht,and_assoc,beq_iff_eq,ag7];constructor
 ·rintro⟨d,e,c|⟨p,c⟩⟩;all_goals grind
 grind
theorem Ab5{s:By}(h:∀x∈pcs 46 s,x≠[]):C3 s=pcs 46 s:=by unfold C3;grind
def Dj0(n:Nat):UInt8:=if n<10 then s8 (48+n) else s8 (55+n)
theorem Di6(n:Nat)(h:n<16):dig (Dj0 n)=n:=by
 unfold Dj0 dig;split
 ·have:(s8 (48+n)).toNat=48+n:=by simp;omega
  grind
 ·have:(s8 (55+n)).toNat=55+n:=by simp;omega
  grind
theorem YT(n:Nat)(h:n<16):dig (Nh n)=n:=by
 unfold Nh dig;split
 ·have:(s8 (48+n)).toNat=48+n:=by simp;omega
  grind
 ·have:(s8 (87+n)).toNat=87+n:=by simp;omega
  grind
theorem Zg:∀u:Nat,∀b∈x6 u,48<=b.toNat/\b.toNat<=57:=by
 intro u
 induction u using ad8 with
 | _ u c=>
  intro b a;by_cases h:u<10
  ·rw[af4 h] at a;simp only[af3] at a;subst a;have:(s8 (48+u)).toNat=48+u:=by simp;omega
   omega
  ·rw[V6 u h] at a;rcases ai7.1 a with a|a
   ·grind
   ·simp only[af3] at a;subst a;have:(s8 (48+u % 10)).toNat=48+u % 10:=by simp;omega
    omega
theorem B68{u:Nat}{c:UInt8}(h:c.toNat<48\/57<c.toNat):c∉x6 u:=λa=>by
 have:=Zg u c a;omega
theorem YP:∀u:Nat,(x6 u).getD 0 0=48->u=0:=by
 intro u
 induction u using ad8 with
 | _ u d=>
  intro a;by_cases h:u<10
  ·rw[af4 h] at a;simp only[List.getD_cons_zero] at a;have b:(s8 (48+u)).toNat=48+u:=by simp;omega
   simp_all
  ·rw[V6 u h] at a;have c:=aa4.2 (Bu (u / 10));grind
theorem MT(u:Nat):X4 (x6 u)=false:=by
 cases h:X4 (x6 u) with
 | false=>rfl
 | true=>
  have b:=(Fv _).1 h;have a:=Jz h;rw[YP u b.1,af4 (by omega)] at a;simp at a
theorem Vz(u:Nat)(h:u<=V5):Y8 (x6 u)=some u:=by unfold Y8;rw[if_neg (Bu u),MT];simp only[w6,if_false];rw[if_neg,Zh u h];rintro⟨a,b⟩;rw[YP u b,af4 (by omega)] at a;simp at a
def v4P(v:Nat):List By:=[x6 (v / 16777216),x6 (v / 65536 % 256),x6 (v / 256 % 256),x6 (v % 256)]
theorem Tt(v:Nat):Z6 v=y9 (v4P v) [46]:=by unfold v4P;rw[U1,U1,U1,af5];rfl
theorem EN{v:Nat}{x:By}(h:x∈v4P v):∃u,x=x6 u:=by simp only[v4P,ae9,am9,or_false] at h;grind
theorem Cc7(v:Nat):pcs 46 (Z6 v)=v4P v:=by rw[Tt];refine Oy 46 _ (by simp[v4P]) (λx a=>?_);obtain⟨u,rfl⟩:=EN a;exact B68 (by decide)
theorem Ab6(v:Nat):C3 (Z6 v)=v4P v:=by rw[Ab5,Cc7];intro x a;rw[Cc7] at a;obtain⟨u,rfl⟩:=EN a;exact Bu u
theorem Aa4(v:Nat):E4 (Z6 v)=true:=by
 have e:Cl (Z6 v)=x6 (v % 256):=by
  unfold Cl;rw[Ab6];rfl
 unfold E4;rw[e,MT,Zh _ (by unfold V5;omega)];have:=Bu (v % 256);grind
theorem Dc0(v:Nat)(h:v<4294967296):pnB (Z6 v)=some v:=by unfold pnB;rw[Ab6];simp only[v4P,j6,aa0,Sx];simp only[Vz _ (show v / 16777216<=V5 by unfold V5;omega),Vz _ (show v / 65536 % 256<=V5 by unfold V5;omega),Vz _ (show v / 256 % 256<=V5 by unfold V5;omega),Vz _ (show v % 256<=V5 by unfold V5;omega)];grind
theorem Ak1{v:Nat}{b:UInt8}(h:b∈Z6 v):b=46\/(48<=b.toNat/\b.toNat<=57):=by
 rw[Tt] at h;rcases Vv _ h with h|⟨x,a,h⟩
 ·grind
 ·obtain⟨u,rfl⟩:=EN a;exact .inr (Zg u b h)
theorem Ck1(v:Nat)(h:v<4294967296):(Z6 v).length<=43:=by unfold Z6;have a:=I4 (v / 16777216) (by omega);have b:=I4 (v / 65536 % 256) (by omega);have c:=I4 (v / 256 % 256) (by omega);have d:=I4 (v % 256) (by omega);grind
theorem Ab4(v:Nat)(h:v<4294967296):B9 (Z6 v)=(⟨2,[],v,z8⟩,0):=by
 have a:∀b∈Z6 v,b≠37/\b≠91:=by
  intro b a;rcases Ak1 a with rfl|⟨c,d⟩
  ·decide
  ·constructor<;>intro e<;>subst e<;>simp at c d
 have i:=Ck1 v h;unfold B9;rw[F5,if_neg (λe=>(a _ (al8 e)).2 rfl),UX _ (λb h=>(a b h).1)];have f:G2 (Z6 v)=Z6 v:=by
  unfold G2;rw[if_neg];rw[Tt];refine AC 46 _ (λx g=>?_);obtain⟨u,rfl⟩:=EN g;exact⟨Bu u,B68 (by decide)⟩
 simp only[f,Aa4,Dc0 v h,if_true]
theorem Ab8(free:Nat):∀(l:List By) (v x:Nat),Sx free v l=some x->x<(v+1)*256 ^ (l.length-1)*2 ^ free
 | [],v,x,h=>by simp[Sx] at h
 | [p],v,x,h=>by
  simp only[Sx] at h;split at h
  ·cases h
  ·split at h
   ·rename_i n c b;simp only[j2] at h;subst h;simp only[j6,aa0,ar1,Nat.pow_zero,Nat.mul_one,Nat.add_mul];omega
   ·cases h
 | p::q::r,v,x,h=>by
  rw[Sx] at h;split at h
  ·cases h
  ·simp only at h;split at h
   ·rename_i n c a;have d:=Ab8 free (q::r) _ x h;refine Nat.lt_of_lt_of_le d (aj6 _ ?_);simp only[j6,Nat.add_sub_cancel];rw[am1,Nat.mul_comm (256 ^ r.length) 256,<-Nat.mul_assoc];exact aj6 _ (by omega)
   ·cases h
theorem Cw9{s:By}{v:Nat}(h:pnB s=some v):v<4294967296:=by
 unfold pnB at h;split at h
 ·cases h
 ·rename_i b;have a:=(Av s).1;have:=Ab8 _ _ _ _ h;generalize (C3 s).length=n at *;have:n=1\/n=2\/n=3\/n=4:=by omega
  grind
theorem NE:∀(a b:By) (v:Nat),Z4 v (a++b)=(Z4 v a).bind λw=>Z4 w b
 | [],b,v=>rfl
 | c::r,b,v=>by
  simp only[ae5,Z4];split
  ·exact NE r b _
  ·rfl
theorem Bo2:∀x:Nat,Z4 0 (U7 x)=some x:=by
 intro x
 induction x using ad8 with
 | _ x a=>
  by_cases h:x<16
  ·rw[Bw h];simp only[Z4,YT x h];grind
  ·rw[Bd h,NE,a (x / 16) (by omega)];simp only[an1,Z4,YT (x % 16) (by omega)];grind
theorem Cr4(x:Nat)(h:x<65536):grp (U7 x)=some x:=by have:=IB x h;unfold grp;rw[if_neg,Bo2];grind
theorem DR:∀x:Nat,(58:UInt8)∉U7 x:=by
 intro x
 induction x using ad8 with
 | _ x a=>
  by_cases h:x<16
  ·rw[Bw h];simpa using ar2 (Bg9 x h)
  ·rw[Bd h];simp only[ai7,af3,not_or];exact⟨a _ (by omega),ar2 (Bg9 _ (by omega))⟩
theorem Bh0(x:Nat):U7 x≠[]:=by
 by_cases h:x<16
 ·rw[Bw h];simp
 ·rw[Bd h];simp
theorem ZI(last:Bool):∀l:List Nat,(∀x∈l,x<65536)->Cj last (l.map U7)=some l
 | [],_=>rfl
 | x::r,h=>by
  simp only[ab9,Cj];rw[Cr4 x (h x (by simp)),ZI last r (λy a=>h y (by simp[a]))];rfl
theorem OA(l:List Nat)(h:l≠[]):pcs 58 (N8 l)=l.map U7:=by unfold N8;refine Oy 58 _ (by simpa using h) (λx a=>?_);obtain⟨y,_,rfl⟩:=al7.1 a;exact DR y
theorem B97(l:List Nat)(h:l≠[]):N8 l≠[]:=by
 intro e;have:=OA l h;rw[e] at this;have a:pcs 58 []=[[]]:=rfl;rw[a] at this;cases l with
 | nil=>exact h rfl
 | cons x r=>
  simp only[ab9,List.cons.injEq] at this;exact Bh0 x this.1.symm
theorem Oi(l:List Nat)(last:Bool)(h:∀x∈l,x<65536):O7 (N8 l) last=some l:=by
 unfold O7;by_cases a:l=[]
 ·subst a;rfl
 ·rw[if_neg (B97 l a),OA l a,ZI last l h]
def sh(n:Nat)(i:Int):Int:=if i=-1 then -1 else i+n
theorem IE(b:UInt8)(l:By):p9 (b::l) [58,58]=if b=58/\l.head? = some 58 then 0 else sh 1 (p9 l [58,58]):=by
 have a:([58,58]:By).isPrefixOf (b::l)=decide (b=58/\l.head? = some 58):=by
  cases l with
  | nil=>simp[ad7]
  | cons c r=>
   grind
 show(if _ then _ else _)=_;rw[a];by_cases h:b=58/\l.head? = some 58
 ·grind
 ·rw[if_neg (by simpa using h),if_neg h];unfold sh;grind
theorem Ch2(n m:Nat)(i:Int)(h:-1<=i):sh n (sh m i)=sh (n+m) i:=by unfold sh;omega
theorem Au9(s:By):-1<=p9 s [58,58]:=by rcases Lib.index_spec s [58,58] with h|⟨i,h,_⟩<;>omega
theorem TX:∀(p r:By),(58:UInt8)∉p->p9 (p++r) [58,58]=sh p.length (p9 r [58,58])
 | [],r,_=>by unfold sh;simp<;>(intro h;rw[h])
 | b::p,r,h=>by
  simp only[ae9,not_or] at h;rw[ae5,IE,if_neg (λe=>h.1 e.1.symm),TX p r h.2,Ch2 _ _ _ (Au9 r),Nat.add_comm];rfl
theorem BW(x y:Nat)(t:List Nat):N8 (x::y::t)=U7 x++58::N8 (y::t):=by unfold N8;rw[ab9,ab9,U1];rfl
theorem Av1(y:Nat)(t:List Nat)(r:By):(N8 (y::t)++r).head?≠some 58:=by
 have e:=Bh0 y;have c:=DR y;cases d:U7 y with
 | nil=>exact absurd d e
 | cons a b=>
  rw[d] at c;simp only[ae9,not_or] at c;cases t with
  | nil=>rw[AB,d];simpa using ar2 c.1
  | cons z t=>rw[BW,d];simpa using ar2 c.1
theorem Zv:∀(l:List Nat) (r:By),l≠[]->p9 (N8 l++r) [58,58]=sh (N8 l).length (p9 r [58,58])
 | [],r,h=>absurd rfl h
 | [x],r,_=>by rw[AB];exact TX _ _ (DR x)
 | x::y::t,r,_=>by
  rw[BW,s9,ae5,TX _ _ (DR x),IE,if_neg (λe=>Av1 y t r e.2),Zv (y::t) r (by simp),Ch2 _ _ _ (Au9 r),Ch2 _ _ _ (Au9 r)];grind
theorem Ct4:p9 [] [58,58]=-1:=rfl
theorem Bn0(l:List Nat):ab2 (N8 l) [58,58]=(N8 l,[],false):=by
 have h:p9 (N8 l) [58,58]=-1:=by
  by_cases a:l=[]
  ·subst a;rfl
  ·have:=Zv l [] a;rw[x7,Ct4] at this;rw[this];rfl
 unfold ab2;rw[h];rfl
theorem Cp6(l:List Nat)(r:By):ab2 (N8 l++58::58::r) [58,58]=(N8 l,r,true):=by
 have a:p9 (58::58::r) [58,58]=0:=by rw[IE,if_pos ⟨rfl,rfl⟩]
 have h:p9 (N8 l++58::58::r) [58,58]=((N8 l).length:Int):=by
  by_cases b:l=[]
  ·subst b;rw[NN,x8,a];rfl
  ·rw[Zv l _ b,a];unfold sh;simp
 unfold ab2;simp_all
theorem OQ:∀l:List Nat,l.take (Td l)=a8 (Td l) 0
 | []=>rfl
 | x::r=>by
  rw[Ae9];split
  ·rename_i h;subst h;rw[List.take_succ_cons,OQ r];rfl
  ·rfl
theorem Bc4(full:List Nat):∀(l:List Nat) (i z m:Nat),full.drop i=l->i<=full.length->(full.drop z).take m=a8 m 0->z+m<=full.length->
  (full.drop (zGo l i z m).1).take (zGo l i z m).2=a8 (zGo l i z m).2 0/\(zGo l i z m).1+(zGo l i z m).2<=full.length
 | [],i,z,m,_,_,b,c=>⟨b,c⟩
 | x::r,i,z,m,d,f,b,c=>by
  have e:full.length-i=r.length+1:=by
   have:=congrArg p5 d;grind
  have a:full.drop (i+1)=r:=by
   rw[<-aj2,d];rfl
  unfold zGo;split
  ·refine Bc4 full r (i+1) i _ a (by omega) ?_ ?_
   ·rw[d,OQ]
   ·have:=VT (x::r);grind
  ·exact Bc4 full r (i+1) z m a (by omega) b c
theorem C23(a:List Nat)(c:a.length=8)(h:∀x∈a,x<65536):v6B (Co a)=some a:=by
 obtain⟨f,g⟩:=Bc4 a a 0 0 0 rfl (by omega) (by simp) (by omega);unfold Co;generalize (zGo a 0 0 0).1=z at *;generalize (zGo a 0 0 0).2=m at *;by_cases d:m<2
 ·rw[if_pos d];unfold v6B;rw[Bn0];simp only[j0];rw[Oi a true h];show(if _ then _ else _)=_;simp[c]
 ·rw[if_neg d];unfold v6B;rw[Cp6];simp only[c9];rw[Oi _ false (λx b=>h x (ag1 b)),Oi _ true (λx b=>h x (ag0 b))];simp only[if_true,y7,j9,c];rw[P9]
  congr 1
  have e:8-min z 8-(8-(z+m))=m:=by omega
  rw[e,<-f,s9]
  conv=>rhs;rw[<-ai9 z a]
  congr 1
  conv=>rhs;rw[<-ai9 m (a.drop z)]
  simp_all
theorem Bb2(a:List Nat)(e:a.length=8)(h:∀x∈a,x<65536):(Co a).length<=90:=by
 unfold Co;split
 ·have:=Fw a h;omega
 ·have c:=Fw (a.take (zGo a 0 0 0).1) (λx b=>h x (ag1 b));have d:=Fw (a.drop ((zGo a 0 0 0).1+(zGo a 0 0 0).2)) (λx b=>h x (ag0 b));grind
theorem Cc5(a:List Nat)(d:a.length=8)(h:∀x∈a,x<65536):B9 (91::(Co a++[93]))=(⟨3,[],0,a⟩,0):=by
 have e:=Bb2 a d h;have b:(91::(Co a++[93])).getLast? = some (93:UInt8):=by grind
 have c:((91::(Co a++[93])).take ((91::(Co a++[93])).length-1)).drop 1=Co a:=by
  simp
 unfold B9;rw[if_neg (by simp;omega),if_pos (show(91::(Co a++[93])).head? = some (91:UInt8) from rfl),if_pos ⟨b,by simp⟩,c,C23 a d h]
theorem ZH{s:By}{last:Bool}{r:List Nat}(h:O7 s last=some r):∀x∈r,x<65536:=by
 unfold O7 at h;split at h
 ·grind
 ·exact Bg6 _ _ _ h
theorem Dd8{s:By}{a:List Nat}(h:v6B s=some a):a.length=8/\∀x∈a,x<65536:=by
 unfold v6B at h;split at h
 ·rename_i x y b c;have d:=ZH b;have e:=ZH c;grind
 ·cases h
theorem Ci4{s:By}(h:(H5 s).2=0):J5 (H5 s).1=true:=by unfold H5 at h ⊢;grind
theorem Jp:∀l:List By,(F1 l).2=0->(∀x∈(F1 l).1,J5 x=true)/\(F1 l).1.length=l.length
 | [],_=>⟨by simp[F1],rfl⟩
 | x::r,h=>by
  unfold F1 at h ⊢;by_cases a:(H5 x).2=0
  ·rw[if_pos a] at h ⊢;obtain⟨d,c⟩:=Jp r h;refine⟨λy b=>?_,by simp[c]⟩;rcases ae9.1 b with rfl|b
   ·exact Ci4 a
   grind
  grind
structure Cp (h:B2):Prop where
 v4:h.v4<4294967296
 v6:h.v6.length=8/\∀x∈h.v6,x<65536
 kd:h.kind<4
theorem Bm2:z8.length=8/\∀x∈z8,x<65536:=by decide
theorem Bs2(s:By):Cp (B9 s).1/\((B9 s).2=0->L7 (B9 s).1=true):=by
 have no:Cp K8:=⟨by decide,Bm2,by decide⟩
 unfold B9;split
 ·grind
 split
 ·split
  ·cases d:v6B ((s.take (s.length-1)).drop 1) with
   | none=>exact⟨no,by simp⟩
   | some a=>exact⟨⟨show 0<4294967296 by decide,Dd8 d,show 3<4 by decide⟩,λ_=>by simp[L7]⟩
  grind
 cases l:Q5 s with
 | none=>exact⟨no,by simp⟩
 | some t=>
  simp only;split
  ·cases d:pnB (G2 t) with
   | none=>exact⟨no,by simp⟩
   | some v=>exact⟨⟨Cw9 d,Bm2,show 2<4 by decide⟩,λ_=>by simp[L7]⟩
  split
  ·rename_i g;split
   ·grind
   split
   ·grind
   ·rename_i k h;refine⟨⟨show 0<4294967296 by decide,Bm2,show 1<4 by decide⟩,λ_=>?_⟩;obtain⟨f,i⟩:=Jp _ g;have b:(F1 (pcs 46 (G2 t))).1≠[]:=by
     intro e;rw[e] at i;have:=UW 46 (G2 t);grind
    have c:=Oy 46 (F1 (pcs 46 (G2 t))).1 b (λx j e=>(Ss ((Bn (f x j)).byt 46 e)).2.2.1 rfl);unfold L7;simp only[if_true,beq_self_eq_true,ad0];rw[Ht];exact⟨by omega,by simpa using h,by rw[c];exact f⟩
  grind
theorem IC{h:B2}(ok:Cp h)(a:L7 h=true):B9 (T5 h)=(h,0):=by
 obtain⟨b,g,v4,v6⟩:=h;unfold T5;rw[if_pos a];unfold L7 at a;simp only at a ⊢;by_cases c:b=1
 ·subst c;simp only[if_true,j4,beq_iff_eq] at a ⊢;obtain⟨⟨f,rfl⟩,rfl⟩:=a;exact Ay2 (Ht.1 f)
 rw[if_neg c] at a ⊢;by_cases d:b=2
 ·subst d;simp only[if_true,j4,beq_iff_eq,am8] at a ⊢;obtain⟨rfl,rfl⟩:=a;exact Ab4 v4 ok.v4
 rw[if_neg d] at a ⊢;by_cases e:b=3
 ·subst e;simp only[if_true,j4,beq_iff_eq,am8] at a;obtain⟨rfl,rfl⟩:=a;exact Cc5 v6 ok.v6.1 ok.v6.2
 grind
theorem HU{h:B2}(a:L7 h=false):T5 h=[]:=by unfold T5;rw[a];rfl
theorem CE:∀(f:Nat) (l:By),aq7 f l=(V2 f l).isSome
 | 0,_=>rfl
 | f+1,l=>by
  unfold aq7 V2;split
  ·rfl
  ·split
   ·rfl
   ·rw[CE f,ah6]
theorem Bb3(l:By):Lib.validD l=(Ck l).isSome:=CE _ l
theorem JH:∀(n m:Nat) (l:By),l.length<=n->l.length<=m->V2 n l=V2 m l
 | 0,m,l,b,_=>by
  have:l=[]:=k9.1 (by omega);subst this;cases m<;>simp[V2]
 | n+1,0,l,_,hm=>by
  have:l=[]:=k9.1 (by omega);subst this;simp[V2]
 | n+1,m+1,l,b,hm=>by
  unfold V2;split
  ·rfl
  ·rename_i a;have d:=ah4 l;have c:0<l.length:=aa4.2 a;rw[JH n m (l.drop (w9 l).2) (by rw[j9];omega) (by rw[j9];omega)]
theorem Bt4(l:By)(a:l≠[]):Ck l=if (w9 l).1=65533/\(w9 l).2=1 then none else (Ck (l.drop (w9 l).2)).map ((w9 l).1::·):=by
 have c:0<l.length:=aa4.2 a;have d:=ah4 l;obtain⟨n,b⟩:∃n,l.length=n+1:=⟨l.length-1,by omega⟩
 unfold Ck;rw[b]
 conv=>lhs;unfold V2
 rw[if_neg a,JH n (l.drop (w9 l).2).length _ (by rw[j9];omega) (ad2 _)]
theorem OR:∀(f:Nat) (s:ByteArray) (pos:Nat) (p:List Nat),pos<=s.size->V2 f (s.data.toList.drop pos)=some p->s.size-pos<=f->al4 s f pos=p.length
 | 0,s,pos,p,e,h,d=>by
  simp only[V2,j2] at h;subst h;rfl
 | f+1,s,pos,p,e,h,d=>by
  have g:s.data.toList.length=s.size:=by rw[Array.length_toList];rfl
  unfold V2 at h;rw[ai1] at h;by_cases a:pos<s.size
  ·rw[if_neg (by rw[<-k9,j9];omega)] at h;split at h
   ·cases h
   ·cases b:V2 f (ae0 (ah9 s pos).2 (ae0 pos s.data.toList)) with
    | none=>rw[b] at h;cases h
    | some q=>
     rw[b] at h;simp only[ab6,j2] at h;subst h;have i:=Lib.decode_width_pos s pos a;have c:pos+(ah9 s pos).2<=s.size:=by
      have:=ao5 (s.data.toList.drop pos) (by rw[ne_eq,<-k9,j9];omega);rw[ai1,j9] at this;omega
     rw[aj2] at b;unfold al4;rw[if_pos a,OR f s _ q c b (by omega)];grind
  ·rw[if_pos (by rw[<-k9,j9];omega)] at h;simp only[j2] at h;subst h;rw[Lib.runeCountFrom_end s _ _ a];rfl
theorem JS{l:By}{p:List Nat}(h:Ck l=some p):ag5 l=p.length:=by
 unfold ag5 Lib.runeCount;have a:(ByteArray.mk l.toArray).size=l.length:=by simp[ByteArray.size]
 refine OR _ _ 0 p (Nat.zero_le _) ?_ (by omega);rw[a,v7];simpa[Ck] using h
open Lib in theorem Dl8(n b a d e:Nat)(g:194<=b/\b<224)(f:a<256):decodeN n b a d e=if 2<=n/\128<=a/\a<=191 then ((b-192)*64+a-128,2) else (65533,1):=by
 unfold decodeN;rw[F5];by_cases c:2<=n/\128<=a/\a<=191
 ·rw[if_pos c,P9,P9];exact Prod.ext (by show b % 32*64+a % 64=(b-192)*64+a-128;omega) rfl
 ·rw[if_neg c,F5,F5,F5]
open Lib in theorem Dl9(n c a b f:Nat)(i:224<=c/\c<240)(g:a<256)(h:b<256):decodeN n c a b f=if 3<=n/\(128<=a/\a<=191)/\(128<=b/\b<=191) then
  (if 2048<=((c-224)*64+a-128)*64+b-128/\V0 (((c-224)*64+a-128)*64+b-128)=true then (((c-224)*64+a-128)*64+b-128,3) else (65533,1)) else (65533,1):=by
 unfold decodeN;rw[F5,F5];by_cases d:3<=n/\(128<=a/\a<=191)/\(128<=b/\b<=191)
 ·rw[if_pos d,P9];have e:c % 16*4096+a % 64*64+b % 64=((c-224)*64+a-128)*64+b-128:=by omega
  rw[e];generalize ((c-224)*64+a-128)*64+b-128=v
  congr 1
  simp only[V0,j4,ai6,x5,ak6];apply propext;omega
 ·rw[if_neg d,F5,F5]
open Lib in theorem Dm0(n d a b c:Nat)(j:240<=d/\d<245)(g:a<256)(h:b<256)(i:c<256):decodeN n d a b c=if 4<=n/\(128<=a/\a<=191)/\(128<=b/\b<=191)/\(128<=c/\c<=191) then
  (if 65536<=(((d-240)*64+a-128)*64+b-128)*64+c-128/\V0 ((((d-240)*64+a-128)*64+b-128)*64+c-128)=true then ((((d-240)*64+a-128)*64+b-128)*64+c-128,4) else (65533,1)) else (65533,1):=by
 unfold decodeN;rw[F5,F5,F5];by_cases f:4<=n/\(128<=a/\a<=191)/\(128<=b/\b<=191)/\(128<=c/\c<=191)
 ·rw[if_pos f,P9];have e:d % 8*262144+a % 64*4096+b % 64*64+c % 64=(((d-240)*64+a-128)*64+b-128)*64+c-128:=by omega
  rw[e];generalize (((d-240)*64+a-128)*64+b-128)*64+c-128=v
  congr 1
  simp only[V0,j4,ai6,x5,ak6];apply propext;omega
 ·rw[if_neg f,F5]
end
section
open Go Go.Proofs
theorem Ux(l:List Nat):W4 (l.map λn:Nat=>(n:Int))=Cx l:=by
 have b:(l.map λn:Nat=>(n:Int)).all ptI=l.all V0:=by
  rw[al5]
  congr 1
 have c:(l.map λn:Nat=>(n:Int)).map j5=l:=by
  rw[af6];exact(aa5 λa _=>by simp).trans (ah5 l)
 unfold W4;rw[p7,b,c];by_cases h:256<l.length
 ·rw[if_pos h];unfold Cx;rw[if_pos h]
 ·rw[if_neg h];cases d:l.all V0 with
  | true=>rw[if_pos rfl]
  | false=>
   rw[if_neg (by simp)];unfold Cx;grind
theorem Uv(l:List Nat):(B4 l).map elI=l.map λn:Nat=>(n:Int):=by unfold B4;rw[af6];exact aa5 λa _=>rfl
theorem Dq(l:List Nat):(B4 l).all Na=true:=by unfold B4;rw[al5,y5];intro x _;rfl
theorem Aw5{R:Type}{a:Unit->Option R}{d:By->Bool->LL->Bool->Option R}(s:By)(z:Bool)(p:List Nat)(t:p.length<=1000000000):∀(r i n:Nat) (b:Bool),i+r=p.length->r<n->
  X5 LF n s z (B4 p) b (p.length:Int) (i:Int) a d=if (p.drop i).any (λp=>x3 65 p&&x3 p 90) then a () else d s z (B4 p) (b&&!((p.drop i).any λp=>x3 128 p)):=by
 intro r
 induction r with
 | zero=>
  intro i n b h j;obtain⟨n,rfl⟩:∃m,n=m+1:=⟨n-1,by omega⟩
  rw[X5];rw[A6,j1 (by omega)];simp
 | succ r k=>
  intro i n b h j;obtain⟨n,rfl⟩:∃m,n=m+1:=⟨n-1,by omega⟩
  rw[X5];have f:A1 ((i:Int)+1)=((i+1:Nat):Int):=by rw[A7];rfl
  have g:p.drop i=p.getD i 0::p.drop (i+1):=by
   rw[b9,j7 (by omega),ac1,ad5]
  rw[A8,C9,E9,b8,Qe (by omega),Zq _ _ (by omega),g,ak2,ak2,f];simp only[cond_true,vl];generalize p.getD i 0=q;have go:∀c:Bool,X5 LF n s z (B4 p) c (p.length:Int) ((i+1:Nat):Int) a d=_:=λc=>k (i+1) n c (by omega) (by omega)
  by_cases l:q<65
  ·rw[A8,show x3 65 q=false by rw[z7,ne_eq,x5];omega];have e:x3 128 q=false:=by rw[z7,ne_eq,x5];omega
   rw[show ltI (q:Int) (128:Int)=true from A8,e];simp only[c9,cond_false,aj0,af8];cases b<;>simp only[cond_true,cond_false]<;>rw[go]
  ·rw[A6,show x3 65 q=true by rw[x5];omega];simp only[j0,cond_true,ad9];by_cases e:90<q
   ·rw[A8,show x3 q 90=false by rw[z7,ne_eq,x5];omega];simp only[c9,cond_false,af8];by_cases o:q<128
    ·rw[show ltI (q:Int) (128:Int)=true from A8,show x3 128 q=false by rw[z7,ne_eq,x5];omega];cases b<;>simp only[cond_true,cond_false,af8]<;>rw[go]
    ·rw[show ltI (q:Int) (128:Int)=false from A6,show x3 128 q=true by rw[x5];omega];cases b<;>simp only[cond_true,cond_false,Bool.true_or,c9,ao3]<;>rw[go]<;>simp
   ·rw[A6,show x3 q 90=true by rw[x5];omega];simp
theorem Ar9:∀(m:Nat) (s:By) (a:List Nat) (n i b:Nat) (f:Bool),s.length<=m->a.length<=256->(G8 s a n i b f).1.length<=256:=by
 intro m
 induction m with
 | zero=>
  intro s a n i b f e d;obtain rfl:=k9.1 (Nat.le_zero.1 e);rw[Cv];exact d
 | succ m j=>
  intro s a n i b f e d;by_cases h:s=[]
  ·grind
  ·by_cases c:(D6 b s i 1 0).2.2=0
   ·rw[Dz h _ _ _ _ _ c];have g:=Px b s i 1 0 c;split
    ·split
     ·grind
     ·rename_i k;exact j _ _ _ _ _ _ (by omega) (by rw[Be];omega)
    grind
   ·rw[Gq h _ _ _ _ _ c];grind
theorem YO(s:By):(N6 s).1.length<=256:=by
 unfold N6;split
 ·grind
 ·split
  ·grind
  ·split
   ·grind
   ·rename_i h;exact Ar9 _ _ _ _ _ _ _ (ad2 _) (by rw[p7,y7];omega)
theorem Aw6{R:Type}{a:Bool->Option R}(s:By)(b:A2 s.length=true):Bi0 LF s a=a (Dt s):=by
 have c:=C6;unfold Bi0 Dt;rw[b,cond_true];by_cases h:(N6 s).2=0
 ·have e:(((N6 s).2:Int)!=(0:Int))=false:=by rw[h];rfl
  rw[e,cond_false,Df,C9,h];have i:=YO s;refine p4 (Aw5 s _ (N6 s).1 (by omega) (N6 s).1.length 0 LF true (by omega) (by omega)) ?_;rw[v7];cases d:(N6 s).1.any (λp=>x3 65 p&&x3 p 90) with
  | true=>simp
  | false=>
   rw[if_neg (by simp),Dq,Uv,Ux];simp only[cond_true,vl,ad9,j0];cases f:(N6 s).1.any (λp=>x3 128 p) with
   | false=>simp
   | true=>
    simp only[c9,j0,cond_true,ad0,beq_self_eq_true,ad9];by_cases g:(Cx (N6 s).1).2=0;all_goals grind
 grind
theorem Br1{R:Type}{d:Unit->Option R}{e:By->Option R}(s:By)(w:s.length<=1000000000):∀(r i n:Nat),i+r=s.length->r<n->
  R8 LF n s (s.length:Int) (i:Int) d e=if (s.drop i).all K6 then e s else d ():=by
 intro r
 induction r with
 | zero=>
  intro i n l c;obtain⟨n,rfl⟩:∃m,n=m+1:=⟨n-1,by omega⟩
  rw[R8];rw[A6,j1 (by omega)];rfl
 | succ r o=>
  intro i n l c;obtain⟨n,rfl⟩:∃m,n=m+1:=⟨n-1,by omega⟩
  rw[R8];have k:A1 ((i:Int)+1)=((i+1:Nat):Int):=by rw[A7];rfl
  rw[A8,E9,D1,D2 s i (by omega),k,ab3];simp only[cond_true];rw[o (i+1) n (by omega) (by omega)];generalize s.getD i 0=b;have j:=Bg b;have u:((b.toNat:Int)!=45) = !(b==45):=congrArg _ (Q7 b 45 (by omega));have v:((b.toNat:Int)!=95) = !(b==95):=congrArg _ (Q7 b 95 (by omega));rw[u,v];have t:∀{x:Bool},K6 b=x->(if (K6 b&&(s.drop (i+1)).all K6)=true then e s else d ())=if (x&&(s.drop (i+1)).all K6)=true then e s else d ():=λh=>by rw[h]
  cases a:K6 b with
  | true=>
   rw[j] at a;simp only[ad9];by_cases f:b=45
   ·subst f;simp (disch:=decide) [ltI]
   ·by_cases g:b=95
    ·subst g;simp (disch:=decide) [ltI]
    ·rcases a with a|a|a|a
     ·rw[show ltI (b.toNat:Int) 97=false from A6,show ltI (122:Int) b.toNat=false from A6];rfl
     ·rw[show ltI (b.toNat:Int) 97=true from A8,show ltI (b.toNat:Int) 48=false from A6,show ltI (57:Int) b.toNat=false from A6];rfl
     ·exact absurd a f
     ·exact absurd a g
  | false=>
   have c:¬((97<=b.toNat/\b.toNat<=122)\/(48<=b.toNat/\b.toNat<=57)\/b=45\/b=95):=λh=>by rw[j.2 h] at a;cases a
   have p:(b==45)=false:=by simpa using λh=>c (.inr (.inr (.inl h)))
   have q:(b==95)=false:=by simpa using λh=>c (.inr (.inr (.inr h)))
   rw[p,q];simp only[j0,cond_true,aj0,w6,if_false];by_cases f:b.toNat<48
   ·rw[show ltI (b.toNat:Int) 97=true from A8,show ltI (b.toNat:Int) 48=true from A8];rfl
   ·by_cases g:b.toNat<97
    ·rw[show ltI (b.toNat:Int) 97=true from A8,show ltI (b.toNat:Int) 48=false from A6,show ltI (57:Int) b.toNat=true from A8];rfl
    ·rw[show ltI (b.toNat:Int) 97=false from A6,show ltI (122:Int) b.toNat=true from A8,show ltI (b.toNat:Int) 48=false from A6,show ltI (57:Int) b.toNat=true from A8];rfl
theorem Br2{R:Type}{a:Bool->Option R}(s:By)(b:A2 s.length=true):Cv1 LF s a=a (J5 s):=by
 have k:=M3 b;have h:=C6;unfold Cv1 J5;by_cases c:s=[]
 ·simp_all
 ·have o:0<s.length:=aa4.2 c;have j:s.isEmpty=false:=by simpa using c
  rw[A6,cond_false,j];by_cases m:63<s.length
  ·rw[A8,show x3 s.length 63=false by rw[z7,ne_eq,x5];omega];rfl
  ·rw[A6,cond_false,show x3 s.length 63=true by rw[x5];omega,E9];have l:(bAt s 0==(45:Int))=(s.getD 0 0==45):=by rw[Ah];exact Q7 _ 45 (by omega)
   have d:A1 ((s.length:Int)-1)=((s.length-1:Nat):Int):=by rw[A7];omega
   rw[l,d];simp only[cond_true,vl];rw[E9,D1,show((((s.getD (s.length-1) 0).toNat:Nat):Int)==45)=(s.getD (s.length-1) 0==45) from Q7 _ 45 (by omega)];cases e:(s.getD 0 0==45) with
   | true=>
    grind
   | false=>
    rw[show(s.getD 0 0 !=45)=true by unfold bne;rw[e];rfl];simp only[cond_true,cond_false];cases f:(s.getD (s.length-1) 0==45) with
    | true=>
     grind
    | false=>
     rw[show(s.getD (s.length-1) 0 !=45)=true by unfold bne;rw[f];rfl];simp only[cond_false];refine p4 (Br1 s k s.length 0 LF (by omega) (by omega)) ?_;rw[v7];cases n:s.all K6 with
     | false=>simp
     | true=>
      rw[if_pos rfl,b,cond_true];simp only[j0,ad9,ad0];show cond (!(xnB.isPrefixOf s)) _ _=_;cases g:xnB.isPrefixOf s with
      | false=>rfl
      | true=>
       have i:Gp s xnB=s.drop 4:=by unfold Gp;rw[g];rfl
       show cond (A2 (Gp s xnB).length) (a (Dt (Gp s xnB))) none=_;rw[i,E0 (by rw[j9];omega)];rfl
theorem As8(a:List Nat)(b:Nat)(F:a.length<=256)(A:b<=256)(d:∀p∈a,p<=1114111):∀(f n:Nat) (s:PH),s.done=a.countP (λp=>decide (p<n))->s.delta<=300->s.bias<=500->s.out.length+20*(a.length-s.done)<=80000->n<=1114112->
  (R3 a b f n s).out.length<=80000:=by
 intro f;have z:=C6
 induction f with
 | zero=>intro n s C w q x y;unfold R3;omega
 | succ f G=>
  intro n s C w q x y;have B:a.countP (λp=>decide (p<n))<=a.length:=aa8;by_cases h:s.done<a.length
  ·obtain⟨u,i,j⟩:=Ar5 (n:=n) (l:=a) (by omega);obtain⟨L,M,o⟩:=Ed n a 1114112;have N:=o u i j;have O:=d u i;have c:G9 n a 1114112∈a/\n<=G9 n a 1114112:=by grind
   have D:R3 a b (f+1) n s=R3 a b f (G9 n a 1114112+1) { H4 (G9 n a 1114112) b a { s with delta:=s.delta+(G9 n a 1114112-n)*(s.done+1) } with delta:=(H4 (G9 n a 1114112) b a { s with delta:=s.delta+(G9 n a 1114112-n)*(s.done+1) }).delta+1 }:=by
    rw[R3,if_pos h]
   rw[D];generalize G9 n a 1114112=m at *;have t:(m-n)*(s.done+1)<=1114112*256:=aj5 (by omega) (by omega);have g:=Bj1 false false a b m (by omega) F a.length 0 LF { s with delta:=s.delta+(m-n)*(s.done+1) } (by omega) (by omega) (by simp only;omega) q (by simp only;omega) (by simp only;omega) A;rw[v7] at g;obtain⟨_,H,I,J,K⟩:=g;have e:0<a.countP (· == m):=ak0.2 ⟨m,c.1,by simp⟩;rw[if_pos e] at K;have k:=Um c.2 a o;generalize H4 m b a { s with delta:=s.delta+(m-n)*(s.done+1) } = v at *;simp only at I J;have r:a.countP (λp=>decide (p<m+1))<=a.length:=aa8;exact G (m+1) { v with delta:=v.delta+1 } (by simp only;omega) (by simp only;omega) H (by simp only;omega) (by omega)
  ·rw[R3,if_neg h];omega
theorem YX(p:List Nat):(Cx p).1.length<=80000:=by
 unfold Cx;split
 ·grind
 ·rename_i h;split
  ·grind
  ·rename_i a;have d:∀q∈p,q<=1114111:=λq e=>by
    have a:p.all V0=true:=by simpa using a
    have:=y5.1 a q e;simp only[V0,j4,x5] at this;omega
   have b:=Sd p;have c:p.countP (λq=>decide (q<128))<=p.length:=aa8;refine As8 p _ (by omega) (by omega) d 256 128 _ b (by simp) (by simp) ?_ (by omega);grind
theorem UG{b:UInt8}(h:128<=b.toNat):W5 b=b:=by
 rcases J8 b with⟨_,e⟩|⟨_,e⟩|⟨_,a,_⟩
 all_goals omega
theorem UH{b:UInt8}(h:b.toNat<128):(W5 b).toNat<128:=by
 rcases J8 b with⟨_,e⟩|⟨_,e⟩|⟨_,a,e⟩
 all_goals grind
theorem Bn2(n:Nat)(a c d e:UInt8)(h:128<=a.toNat):an6 n a.toNat (W5 c).toNat (W5 d).toNat (W5 e).toNat=an6 n a.toNat c.toNat d.toNat e.toNat:=by
 have i:∀b:UInt8,b.toNat / 64=2->W5 b=b:=λb f=>UG (by omega)
 have j:∀b:UInt8,¬b.toNat / 64=2->¬(W5 b).toNat / 64=2:=λb f h=>by
  by_cases g:128<=b.toNat
  ·rw[UG g] at h;exact f h
  ·have:=UH (b:=b) (by omega);omega
 unfold an6;grind
theorem Cp8(l:By)(c:l≠[]):(w9 (B3 l)).2=(w9 l).2/\(¬((w9 l).1=65533/\(w9 l).2=1)->¬((w9 (B3 l)).1=65533/\(w9 (B3 l)).2=1)):=by
 cases l with
 | nil=>exact absurd rfl c
 | cons b t=>
  by_cases a:b.toNat<128
  ·have d:=ah3 b t a;have f:w9 (B3 (b::t))=((W5 b).toNat,1):=ah3 (W5 b) (B3 t) (UH a);rw[d,f];refine⟨rfl,λ_ h=>?_⟩;have:=UH a;omega
  ·have e:w9 (B3 (b::t))=w9 (b::t):=by
    rw[ao9,ao9,Y7,Dc,Dc,Dc,Dc];have e0:W5 ((b::t).getD 0 0)=b:=UG (b:=b) (show 128<=b.toNat by omega);rw[e0];exact Bn2 (b::t).length b ((b::t).getD 1 0) ((b::t).getD 2 0) ((b::t).getD 3 0) (show 128<=b.toNat by omega)
   grind
theorem OB:∀(f:Nat) (l:By),(V2 f l).isSome=true->(V2 f (B3 l)).isSome=true
 | 0,_,_=>rfl
 | f+1,l,h=>by
  unfold V2 at h ⊢;by_cases a:l=[]
  ·subst a;rfl
  ·rw[if_neg a] at h;rw[if_neg (by rw[NS];exact a)];obtain⟨b,c⟩:=Cp8 l a;split at h
   ·cases h
   ·rename_i d;rw[if_neg (c d),ah6,b,IR];rw[ah6] at h;exact OB f _ h
theorem Ac0{l:By}(h:(Ck l).isSome=true):(Ck (B3 l)).isSome=true:=by unfold Ck at h ⊢;rw[Y7];exact OB _ _ h
theorem Bp9(t:By)(C:t.length<=1000000000):∀(f pos:Nat) (P q:List Nat) (n:Nat),pos<=t.length->t.length-pos<=f->f<n->P.length<=pos->V2 f (t.drop pos)=some q->
  ∃m,∀(R:Type) (h:LL->By->Nat->Option R),Fa LF n (B4 P) t pos h=h (B4 (P++q)) t m:=by
 intro f
 induction f with
 | zero=>
  intro pos P q n u v w x a;obtain⟨n,rfl⟩:∃m,n=m+1:=⟨n-1,by omega⟩
  simp only[V2,j2] at a;subst a;refine⟨pos,λR h=>?_⟩;rw[Fa];rw[decide_eq_false (by omega),cond_false,x7]
 | succ f z=>
  intro pos P q n u v w x a;obtain⟨n,rfl⟩:∃m,n=m+1:=⟨n-1,by omega⟩
  by_cases l:pos<t.length
  ·have b:t.drop pos≠[]:=by rw[ne_eq,<-k9,j9];omega
   have y:=ai1 ⟨t.toArray⟩ pos;have i:ah9 ⟨am0 t⟩ pos=w9 (t.drop pos):=by rw[<-y]
   unfold V2 at a;rw[if_neg b] at a;split at a
   ·cases a
   ·have D:=ah4 (t.drop pos);have j:=ao5 (t.drop pos) b;have B:=Lib.decodeL_rune (t.drop pos);rw[j9] at j;rw[aj2] at a;generalize w9 (t.drop pos)=p at *;obtain⟨c,o⟩:=p;simp only at *;cases k:V2 f (t.drop (pos+o)) with
    | none=>rw[k] at a;cases a
    | some A=>
     rw[k] at a;simp only[ab6,j2] at a;subst a;obtain⟨m,e⟩:=z (pos+o) (P++[c]) A n (by omega) (by omega) (by omega) (by simp;omega) k;refine⟨m,λR h=>?_⟩;rw[Fa];rw[decide_eq_true l,cond_true,i,C9,F3 (by omega)];simp only[vl,cond_true];have r:A1 (c:Int)=(c:Int):=A7;have g:B4 P++[[SV.int .i64 (A1 (c:Int))]]=B4 (P++[c]):=by rw[r,Ka];rfl
     rw[g,e,s9];rfl
  ·have d:t.drop pos=[]:=by rw[<-k9,j9];omega
   unfold V2 at a;rw[d,if_pos rfl] at a;simp only[j2] at a;subst a;refine⟨pos,λR h=>?_⟩;rw[Fa];rw[decide_eq_false l,cond_false,x7]
theorem Av3(s:By)(i:A2 s.length=true):(∀(R:Type) (b:By->Int->Option R) (c:By->Int->LL->By->Nat->Option R),ZX LF s b c=b (H5 s).1 ((H5 s).2:Nat))\/
  (∃l t m,∀(R:Type) (b:By->Int->Option R) (c:By->Int->LL->By->Nat->Option R),ZX LF s b c=c (H5 s).1 ((H5 s).2:Nat) l t m):=by
 have x:=M3 i;have u:=C6;unfold H5;cases h:Ck s with
 | none=>
  refine .inl λR b c=>?_
  unfold ZX;rw[i,h];rfl
 | some p=>
  have k:=JS h;have top:∀(R:Type) (b:By->Int->Option R) (c:By->Int->LL->By->Nat->Option R),ZX LF s b c=cond (ltI 256 (p.length:Int)) (b [] 3) (cond (ltI (p.length:Int) (s.length:Int)) (Fa LF LF [] (B3 s) 0 (λa g f=>cond (ag6 a Na)
      (cond (((W4 (ac3 elI a)).2:Int)!=(0:Int))
       (c ([]:List UInt8) 14 a g f)
       (cond (J6 4 (p5 ((W4 (ac3 elI a))).1))
        (cond (A2 (p5 (xnB++((W4 (ac3 elI a))).1)))
         (cond (not (J5 (xnB++((W4 (ac3 elI a))).1)))
         (c ([]:List UInt8) 14 a g f)
         (c (xnB++((W4 (ac3 elI a))).1) 0 a g f))
         (none))
        (none)))
      (none)))
     (cond (A2 (p5 (B3 s)))
      (cond (not (J5 (B3 s)))
      (b ([]:List UInt8) 14)
      (b (B3 s) 0))
      (none))):=by
   intro R b c;unfold ZX;rw[i,h,k];rfl
  simp only;by_cases n:256<p.length
  ·rw[if_pos n];refine .inl λR b c=>?_
   rw[top,A8];rfl
  ·rw[if_neg n];by_cases o:p.length<s.length
   ·rw[if_pos o];have d:=Ac0 (l:=s) (by rw[h];rfl);cases r:Ck (B3 s) with
    | none=>rw[r] at d;cases d
    | some q=>
     have w:=Y7 s;obtain⟨m,e⟩:=Bp9 (B3 s) (by omega) (B3 s).length 0 [] q LF (by omega) (by omega) (by omega) (by simp) (by rw[v7];exact r);refine .inr ⟨B4 q,B3 s,m,λR b c=>?_⟩;rw[top,A6,cond_false,A8,cond_true];refine p4 (e R _) ?_;have v:=YX q;rw[x8,Dq,Uv,Ux,cond_true,J7 (by omega),cond_true,E0 (by rw[x4];simp only[xnB,j6,aa0];omega),cond_true];simp only;by_cases j:(Cx q).2=0
     ·rw[j,if_pos rfl];cases y:J5 (xnB++(Cx q).1) with
      | true=>rfl
      | false=>rfl
     ·rw[if_neg j];have:(((Cx q).2:Int)!=(0:Int))=true:=by simpa using j
      rw[this];rfl
   ·rw[if_neg o];refine .inl λR b c=>?_
    rw[top,A6,cond_false,A6,cond_false,E0 (by rw[Y7];exact x),cond_true];cases J5 (B3 s)<;>rfl
theorem Cu0(s:By)(c:A2 s.length=true):∃r H,ZX LF s (λa b=>rv (.tup [.s (.str a),.s (.int .i64 b)]) []) (λa b d f e=>rv (.tup [.s (.str a),.s (.int .i64 b)]) [.arr true 3 1 d,.iter f e])=rv r H/\
  r.stab [0,0] H = .tup [.s (.str (H5 s).1),.s (.int .i64 ((H5 s).2:Nat))]:=by
 rcases Av3 s c with h|⟨l,t,m,h⟩
 ·exact⟨_,_,h _ _ _,rfl⟩
 ·exact⟨_,_,h _ _ _,rfl⟩
theorem Bo6{R:Type}{g:Int->Option R}(b:Int)(h:inR b 256=true):B87 LF b g=g (Ex (u8n b)):=by
 simp only[inR,j4,decide_eq_true_eq] at h;have j:b=((u8n b).toNat:Int):=by
  unfold u8n;simp;omega
 generalize u8n b=c at *;subst j;have i:=c.toNat_lt;unfold B87;simp only[Vj,Vi,vl,Ex];rcases Cw c with⟨d,f,e⟩|⟨d,f,e⟩|⟨d,f,e⟩|⟨d,f,o,e⟩
 ·have a:A1 (wu8 ((c.toNat:Int)-48))=((dig c:Nat):Int):=by
   rw[L9,A7];omega
  rw[P9];simp (disch:=omega) only[B7,E2,c9,j0,cond_false,cond_true,a]
 ·have a:A1 (A1 (wu8 ((c.toNat:Int)-97))+10)=((dig c:Nat):Int):=by
   rw[L9,C7 (n:=(c.toNat:Int)-97) (by omega) (by omega),A7];omega
  rw[P9];simp (disch:=omega) only[B7,E2,c9,j0,cond_false,cond_true,a]
 ·have a:A1 (A1 (wu8 ((c.toNat:Int)-65))+10)=((dig c:Nat):Int):=by
   rw[L9,C7 (n:=(c.toNat:Int)-65) (by omega) (by omega),A7];omega
  rw[P9];simp (disch:=omega) only[B7,E2,c9,j0,cond_false,cond_true,a]
 ·rw[e,if_neg (by decide)];by_cases k:c.toNat<48
  ·simp (disch:=omega) only[B7,E2,c9,j0,cond_false,cond_true]
  ·by_cases l:c.toNat<65
   ·simp (disch:=omega) only[B7,E2,c9,j0,cond_false,cond_true]
   ·by_cases m:c.toNat<97
    ·simp (disch:=omega) only[B7,E2,c9,j0,cond_false,cond_true]
    ·simp (disch:=omega) only[B7,E2,c9,j0,cond_false,cond_true]
theorem UY{b:UInt8}(r:By)(h:b≠37):Q5 (b::r)=(Q5 r).map (b::·):=by
 conv=>lhs;unfold Q5
 grind
theorem JE(x y:UInt8)(r:By):Q5 (37::x::y::r)=if dig x<16/\dig y<16 then (Q5 r).map (s8 (16*dig x+dig y)::·) else none:=by
 conv=>lhs;unfold Q5
 grind
theorem YS(x:UInt8):ltI (Ex x) 0 = !(decide (dig x<16)):=by
 unfold Ex;by_cases h:dig x<16
 ·simp_all
 ·rw[if_neg h,A8,decide_eq_false h];rfl
theorem EA:∀(s t:By),Q5 s=some t->t.length<=s.length
 | [],t,h=>by simp only[Q5,j2] at h;subst h;exact ad2 _
 | b::r,t,h=>by
  by_cases c:b=37
  ·subst c
   match r,h with
   | [],h=>cases h
   | [x],h=>cases h
   | x::y::d,h=>
    rw[JE] at h;split at h
    ·cases a:Q5 d with
     | none=>rw[a] at h;cases h
     | some q=>
      rw[a] at h;simp only[ab6,j2] at h;subst h;have:=EA d q a;simp only[j6];omega
    ·cases h
  ·rw[UY _ c] at h;cases a:Q5 r with
   | none=>rw[a] at h;cases h
   | some q=>
    rw[a] at h;simp only[ab6,j2] at h;subst h;have:=EA r q a;grind
theorem Bo5(s:By)(P:s.length<=1000000000):∀(m i n:Nat) (a:By),i<=s.length->s.length-i<=m->m<n->a.length<=i->
  (∀t,Q5 (s.drop i)=some t->∀(R:Type) (c:LL->Option R) (d:LL->Option R),T0 LF n s (i:Int) (a.map D8) c d=d ((a++t).map D8))/\
  (Q5 (s.drop i)=none->∃l,∀(R:Type) (c:LL->Option R) (d:LL->Option R),T0 LF n s (i:Int) (a.map D8) c d=c l):=by
 intro m
 induction m with
 | zero=>
  intro i n a J K L I;obtain⟨n,rfl⟩:∃m,n=m+1:=⟨n-1,by omega⟩
  rw[j1 (by omega)];refine⟨λt f R c d=>?_,λh=>(by cases h)⟩;simp only[Q5,j2] at f;subst f;rw[T0];rw[A6,x7];rfl
 | succ m G=>
  intro i n a J K L I;obtain⟨n,rfl⟩:∃m,n=m+1:=⟨n-1,by omega⟩
  by_cases z:i<s.length
  ·have D:A1 ((i:Int)+1)=((i+1:Nat):Int):=by rw[A7];rfl
   have F:A1 ((i:Int)+2)=((i+2:Nat):Int):=by rw[A7];rfl
   have H:A1 (((i+2:Nat):Int)+1)=((i+3:Nat):Int):=by rw[A7];omega
   have p:(a.map D8).length=a.length:=p7 _;have v:∀b:UInt8,a.map D8++[[SV.int .u8 (b.toNat:Int)]]=(a++[b]).map D8:=λb=>by rw[af1];rfl
   have C:(((s.getD i 0).toNat:Int)!=37) = !(s.getD i 0==37):=congrArg _ (Q7 _ 37 (by omega));rw[D2 s i z];by_cases g:s.getD i 0=37
   ·by_cases O:i+2<s.length
    ·rw[D2 s (i+1) (by omega),D2 s (i+1+1) (by omega),g,JE];obtain⟨A,B⟩:=G (i+3) n (a++[s8 (16*dig (s.getD (i+1) 0)+dig (s.getD (i+2) 0))]) (by omega) (by omega) (by omega) (by simp;omega);have top:∀(R:Type) (c:LL->Option R) (d:LL->Option R),T0 LF (n+1) s (i:Int) (a.map D8) c d=cond (decide (dig (s.getD (i+1) 0)<16)&&decide (dig (s.getD (i+2) 0)<16)) (T0 LF n s ((i+3:Nat):Int) ((a++[s8 (16*dig (s.getD (i+1) 0)+dig (s.getD (i+2) 0))]).map D8) c d) (c (a.map D8)):=by
      intro R c d;rw[T0];rw[A8,E9,D1,C,g,p,F,A8,D,E9,E9,D1,D1];simp only[cond_true,vl,c9,cond_false,beq_self_eq_true,WQ,It,YS,F3 (show a.length+1<=68719476736 by omega),H];generalize s.getD (i+1) 0=x at *;generalize s.getD (i+2) 0=y at *;by_cases M:dig x<16
      ·by_cases N:dig y<16
       ·have w1:Ex x=(dig x:Int):=by unfold Ex;rw[if_pos M]
        have S:Ex y=(dig y:Int):=by unfold Ex;rw[if_pos N]
        have T:A1 ((16:Int)*(dig x:Int))=((16*dig x:Nat):Int):=by rw[A7];omega
        have U:A1 (((16*dig x:Nat):Int)+(dig y:Int))=((16*dig x+dig y:Nat):Int):=by rw[A7];omega
        have V:wu8 ((16*dig x+dig y:Nat):Int)=((s8 (16*dig x+dig y)).toNat:Int):=by
         rw[L9];simp;omega
        grind
       grind
      grind
     by_cases o:dig (s.getD (i+1) 0)<16/\dig (s.getD (i+2) 0)<16
     ·rw[if_pos o];have w:(decide (dig (s.getD (i+1) 0)<16)&&decide (dig (s.getD (i+2) 0)<16))=true:=by rw[decide_eq_true o.1,decide_eq_true o.2];rfl
      refine⟨λt f R c d=>?_,λh=>?_⟩
      ·cases j:Q5 (s.drop (i+3)) with
       | none=>rw[show i+1+1+1=i+3 from rfl,j] at f;cases f
       | some q=>
        rw[show i+1+1+1=i+3 from rfl,j] at f;simp only[ab6,j2] at f;subst f;rw[top,w,cond_true,A q j,s9];rfl
      ·cases j:Q5 (s.drop (i+3)) with
       | some q=>rw[show i+1+1+1=i+3 from rfl,j] at h;cases h
       | none=>
        obtain⟨l,e⟩:=B j;exact⟨l,λR c d=>by rw[top,w,cond_true,e]⟩
     ·rw[if_neg o];have w:(decide (dig (s.getD (i+1) 0)<16)&&decide (dig (s.getD (i+2) 0)<16))=false:=by grind
      exact⟨λt h=>(by cases h),λ_=>⟨_,λR c d=>by rw[top,w,cond_false]⟩⟩
    ·have k:Q5 (s.getD i 0::s.drop (i+1))=none:=by
      rw[g];cases o:s.drop (i+1) with
      | nil=>rfl
      | cons x r=>
       cases r with
       | nil=>rfl
       | cons y Q=>
        exfalso;have:=congrArg p5 o;rw[j9,j6,j6] at this;omega
     rw[k];refine⟨λt h=>(by cases h),λ_=>⟨a.map D8,λR c d=>?_⟩⟩;rw[T0];rw[A8,E9,D1,C,g,F,A6];rfl
   ·rw[UY _ g];obtain⟨A,B⟩:=G (i+1) n (a++[s.getD i 0]) (by omega) (by omega) (by omega) (by simp;omega);have u:(s.getD i 0==37)=false:=by simpa using g
    have top:∀(R:Type) (c:LL->Option R) (d:LL->Option R),T0 LF (n+1) s (i:Int) (a.map D8) c d=T0 LF n s ((i+1:Nat):Int) ((a++[s.getD i 0]).map D8) c d:=by
     intro R c d;rw[T0];rw[A8,E9,D1,C,u,p,F3 (by omega),D,v];rfl
    refine⟨λt f R c d=>?_,λh=>?_⟩
    ·cases j:Q5 (s.drop (i+1)) with
     | none=>rw[j] at f;cases f
     | some q=>
      rw[j] at f;simp only[ab6,j2] at f;subst f;rw[top,A q j,s9];rfl
    ·cases j:Q5 (s.drop (i+1)) with
     | some q=>rw[j] at h;cases h
     | none=>
      obtain⟨l,e⟩:=B j;exact⟨l,λR c d=>by rw[top,e]⟩
  ·rw[j1 (by omega)];refine⟨λt f R c d=>?_,λh=>(by cases h)⟩;simp only[Q5,j2] at f;subst f;rw[T0];rw[A6,x7];rfl
theorem Cs0(s:By)(f:A2 s.length=true):∃r H,B86 LF s (λj k i=>rv (.tup [.s (.str j),.s (.bool k)]) [.arr false 5 1 i])=rv r H/\
  r.stab [0,0] H = .tup [.s (.str (Fe s)),.s (.bool (Q5 s).isSome)]:=by
 have h:=M3 f;have g:=C6;have a:((decide ((0:Int)<=(s.length:Int)))&&(F6 (j5 (s.length:Int))))=true:=by
  rw[b8,F3 (by omega),decide_eq_true (by omega)];rfl
 obtain⟨c,d⟩:=Bo5 s h s.length 0 LF [] (by omega) (by omega) (by omega) (by simp);rw[v7] at c d;unfold Fe;cases b:Q5 s with
 | none=>
  obtain⟨l,e⟩:=d b;refine⟨.tup [.s (.str []),.s (.bool false)],[.arr false 5 1 l],?_,rfl⟩;unfold B86;rw[a,cond_true];exact e _ _ _
 | some t=>
  refine⟨.tup [.s (.str t),.s (.bool true)],[.arr false 5 1 (t.map D8)],?_,rfl⟩;unfold B86;rw[a,cond_true];refine p4 (c t b _ _ _) ?_;rw[x8,W8,X6];rfl
abbrev Ug(i:Int)(j:By)(v4 a b c d e f g h:Int):List PV:=[.s (.int .i64 i),.s (.str j),.s (.int .u32 v4),.s (.int .u16 a),.s (.int .u16 b),.s (.int .u16 c),.s (.int .u16 d),.s (.int .u16 e),.s (.int .u16 f),.s (.int .u16 g),.s (.int .u16 h)]
def BT(h:B2):PV:=.agg [.s (.int .i64 (h.kind:Nat)),.s (.str h.name),.s (.int .u32 (h.v4:Nat)),.s (.int .u16 (h.v6.getD 0 0:Nat)),.s (.int .u16 (h.v6.getD 1 0:Nat)),.s (.int .u16 (h.v6.getD 2 0:Nat)),.s (.int .u16 (h.v6.getD 3 0:Nat)),.s (.int .u16 (h.v6.getD 4 0:Nat)),.s (.int .u16 (h.v6.getD 5 0:Nat)),.s (.int .u16 (h.v6.getD 6 0:Nat)),.s (.int .u16 (h.v6.getD 7 0:Nat))]
abbrev Dm1:Int->Int->Int->Int->Int->Int->Int->Int->Int->Int->Int->LL->Option (PV × List Blk × Unit):=λj c d e f g h i r8 k b a=>rv (.tup [.agg (Ug j [] 0 c d e f g h i r8),.s (.int .i64 k)]) [.box (Ug b [] 0 c d e f g h i r8),.arr false 25 1 a]
abbrev Di9:Unit->Option (PV × List Blk × Unit):=λ_=>rv (.tup [.agg (Ug 0 [] 0 0 0 0 0 0 0 0 0),.s (.int .i64 14)]) [.box (Ug 0 [] 0 0 0 0 0 0 0 0 0)]
theorem DU(s:By)(c:UInt8)(h:s≠[]):(s.getLast? = some c)↔s.getD (s.length-1) 0=c:=by have:0<s.length:=aa4.2 h;grind
theorem B85(s:By)(g:A2 s.length=true)(e:B93 s=true):∃r H,Bg8 LF s Dm1 Di9=rv r H/\r.stab [0,0] H = .tup [BT (P8 s).1,.s (.int .i64 ((P8 s).2:Nat))]:=by
 have m:=M3 g;have c:s≠[]:=by rintro rfl;cases e
 have l:0<s.length:=aa4.2 c;have i:s.getD 0 0=91:=by
  cases s with
  | nil=>exact absurd rfl c
  | cons b t=>
   simp only[B93,ad7,ad0,beq_iff_eq] at e;grind
 have f:A1 ((s.length:Int)-1)=((s.length-1:Nat):Int):=by rw[A7];omega
 have k:(((s.getD (s.length-1) 0).toNat:Int)==93)=(s.getD (s.length-1) 0==93):=Q7 _ 93 (by omega);have bad:∃r H,Di9 ()=rv r H/\r.stab [0,0] H = .tup [BT K8,.s (.int .i64 14)]:=⟨_,_,rfl,rfl⟩
 unfold Bg8 P8;simp only[vl,f];rw[E9,D1,k,cond_true];by_cases d:s.getD (s.length-1) 0=93
 ·have h:2<=s.length:=by grind
  rw[if_pos ⟨(DU s 93 c).2 d,h⟩,d,beq_self_eq_true,cond_true,show(1:Int)=((1:Nat):Int) from rfl,I2,cond_true,Hy];have j:((s.take (s.length-1)).drop 1).length<=s.length:=by rw[j9,y7];omega
  rw[M5,cond_true];unfold v6c;cases n:v6B ((s.take (s.length-1)).drop 1) with
  | none=>exact⟨_,_,rfl,rfl⟩
  | some a=>exact⟨_,_,rfl,rfl⟩
 grind
theorem Ch8(l:List By)(i:Nat)(y:By)(h:i<l.length):aj4 (D5 l) i (F8 ((D5 l).getD i []) 0 [SV.str y])=D5 (l.set i y):=by
 have e:(D5 l).getD i []=[SV.str (l.getD i [])]:=by
  unfold D5;grind
 rw[e];unfold D5;rw[List.map_set];rfl
theorem ZO(N:Nat)(hN:N<=1000000001):∀(a:List By) (done:List By) (n:Nat),done.length+a.length=N->a.length<n->(∀x∈a,x.length<=1000000000)->
  ((F1 a).2=0->∀(R:Type) (b:Int->LL->Option R) (c:Nat->LL->Option R),T6 LF n N (N:Int) (done.length:Int) (D5 (done++a)) b c=c N (D5 (done++(F1 a).1)))/\
  ((F1 a).2≠0->∃l,∀(R:Type) (b:Int->LL->Option R) (c:Nat->LL->Option R),T6 LF n N (N:Int) (done.length:Int) (D5 (done++a)) b c=b ((F1 a).2:Nat) l):=by
 intro a
 induction a with
 | nil=>
  intro done n i o p;obtain⟨n,rfl⟩:∃m,n=m+1:=⟨n-1,by simp at o;omega⟩
  simp only[aa0] at i;refine⟨λ_ R b c=>?_,λh=>absurd rfl h⟩;rw[T6];rw[A6];rfl
 | cons x r z=>
  intro done n i o p;simp only[j6] at i o;obtain⟨n,rfl⟩:∃m,n=m+1:=⟨n-1,by omega⟩
  have v:A1 ((done.length:Int)+1)=((done.length+1:Nat):Int):=by rw[A7];rfl
  have q:(done++x::r).length=N:=by rw[x4,j6];omega
  have k:(done++x::r).getD done.length []=x:=by grind
  have f:∀y,(done++x::r).set done.length y=(done++[y])++r:=λy=>by grind
  have top:∀(R:Type) (b:Int->LL->Option R) (c:Nat->LL->Option R),T6 LF (n+1) N (N:Int) (done.length:Int) (D5 (done++x::r)) b c=cond (((H5 x).2:Int)!=0) (b ((H5 x).2:Nat) (D5 (done++x::r))) (T6 LF n N (N:Int) ((done.length+1:Nat):Int) (D5 ((done++[(H5 x).1])++r)) b c):=by
   intro R b c;rw[T6];rw[A8,E9,b8,am2,T7 (by omega),Y5,k];simp only[vl,cond_true];rw[E0 (p x (by simp)),G6,decide_eq_true (show done.length<(done++x::r).length by omega),Ch8 _ _ _ (by omega),f,v];rfl
  unfold F1;obtain⟨t,u⟩:=z (done++[(H5 x).1]) n (by simp;omega) (by omega) (λy w=>p y (by simp[w]));have j:(done++[(H5 x).1]).length=done.length+1:=by simp
  rw[j] at t u;by_cases h:(H5 x).2=0
  ·rw[if_pos h];have g:(((H5 x).2:Int)!=0)=false:=by rw[h];rfl
   refine⟨λd R b c=>?_,λd=>?_⟩
   ·rw[top,g,cond_false,t d,s9];rfl
   ·obtain⟨l,e⟩:=u d;exact⟨l,λR b c=>by rw[top,g,cond_false,e]⟩
  ·rw[if_neg h];have g:(((H5 x).2:Int)!=0)=true:=by simpa using h
   exact⟨λd=>absurd d h,λ_=>⟨_,λR b c=>by rw[top,g,cond_true]⟩⟩
theorem UD(p:By)(m:Nat):∀l:List By,(∀x∈l,x.length<=m)->(y9 l p).length<=(m+p.length)*l.length
 | [],_=>by simp[y9]
 | [x],h=>by
  have:=h x (by simp);rw[show y9 [x] p=x by simp[y9,aq4]];grind
 | x::y::r,h=>by
  have b:=h x (by simp);have c:=UD p m (y::r) (λz a=>h z (by simp[a]));rw[U1,x4,x4,j6,Nat.mul_add,Nat.mul_one];omega
theorem SC(l:List By):(D5 l).all isS=true:=by unfold D5;rw[al5,y5];intro x _;rfl
theorem Ci7(s:By):WM s [46]=G2 s:=by
 unfold WM G2;by_cases h:s.getLast? = some 46
 ·obtain⟨t,rfl⟩:=List.getLast?_eq_some_iff.1 h;grind
 ·rw[if_neg h,if_neg];rw[ag7];rintro⟨t,a⟩;grind
abbrev Dj1:Int->By->Int->Int->Int->Int->Int->Int->Int->Int->Int->Int->Int->By->Int->Int->Int->Int->Int->Int->Int->Int->Int->Option (PV × List Blk × Unit):=λn o p q r t u v r8 w k l a m b c d e f g h i j=>rv (.tup [.agg (Ug n o p q r t u v r8 w k),.s (.int .i64 l)]) [.box (Ug a m b c d e f g h i j)]
abbrev Dj2:Int->By->Int->Int->By->LL->Option (PV × List Blk × Unit):=λc d e b f a=>rv (.tup [.agg (Ug c d 0 0 0 0 0 0 0 0 0),.s (.int .i64 e)]) [.box (Ug b f 0 0 0 0 0 0 0 0 0),.arr false 9 1 a]
theorem Bo9(s:By)(n:A2 s.length=true):∃r H,Zu LF s Dj1 Dj2=rv r H/\r.stab [0,0] H = .tup [BT (B9 s).1,.s (.int .i64 ((B9 s).2:Nat))]:=by
 have Q:=M3 n;have A:=C6;have bad:∀e:Nat,∃r H,Dj1 0 [] 0 0 0 0 0 0 0 0 0 (e:Int) 0 [] 0 0 0 0 0 0 0 0 0=rv r H/\r.stab [0,0] H = .tup [BT K8,.s (.int .i64 (e:Nat))]:=λe=>⟨_,_,rfl,rfl⟩
 have a:∀(e:Nat) (l:LL),∃r H,Dj2 0 [] (e:Int) 0 [] l=rv r H/\r.stab [0,0] H = .tup [BT K8,.s (.int .i64 (e:Nat))]:=λe l=>⟨_,_,rfl,rfl⟩
 by_cases i:1024<s.length
 ·have e:B9 s=(K8,3):=by unfold B9;rw[if_pos i]
  rw[e];unfold Zu;rw[A8,cond_true];exact bad 3
 ·have f:([91]:By).isPrefixOf s=decide (s.head? = some 91):=by
   cases s with
   | nil=>rfl
   | cons b t=>
    grind
  by_cases d:s.head? = some 91
  ·have j:([91]:By).isPrefixOf s=true:=by rw[f,decide_eq_true d]
   have e:B9 s=P8 s:=by unfold B9 P8;rw[if_neg i,if_pos d]<;>rfl
   rw[e];unfold Zu;rw[A6,cond_false,n,cond_true,j,cond_true,cond_true,show B93 s=true from j,cond_true];exact⟨_,_,rfl,rfl⟩
  ·have j:([91]:By).isPrefixOf s=false:=by rw[f,decide_eq_false d]
   unfold Zu;rw[A6,cond_false,n,cond_true,j,cond_false,cond_true];cases k:Q5 s with
   | none=>
    have e:B9 s=(K8,14):=by unfold B9;rw[if_neg i,if_neg d,k]
    rw[e];exact bad 14
   | some t=>
    have L:t.length<=s.length:=EA s t k;have M:Fe s=t:=by unfold Fe;rw[k];rfl
    rw[M,M5];simp only[ac4,c9,cond_false,cond_true,vl];rw[Ci7];have K:(G2 t).length<=t.length:=by unfold G2;split<;>simp
    have B:B9 s=if E4 (G2 t) then (match pnB (G2 t) with
      | some v=>(⟨2,[],v,z8⟩,0)
      | none=>(K8,14))
     else if (F1 (pcs 46 (G2 t))).2=0 then (
      let name:=y9 (F1 (pcs 46 (G2 t))).1 [46]
      if 253<name.length then (K8,3) else if E4 name then (K8,14) else (⟨1,name,0,z8⟩,0))
     else (K8,(F1 (pcs 46 (G2 t))).2):=by
     unfold B9;rw[if_neg i,if_neg d,k];rfl
    rw[B];generalize G2 t=u at *;rw[M5,cond_true];cases O:E4 u with
    | true=>
     rw[if_pos rfl,cond_true,cond_true];cases P:pnB u with
     | none=>exact bad 14
     | some v=>exact⟨_,_,rfl,rfl⟩
    | false=>
     rw[if_neg (by simp),cond_false,cond_true,show((1:Nat)==1)=true from rfl,cond_true];have C:([46]:By).getD 0 0=46:=rfl;rw[C];have J:=Ih 46 u;have D:=Gn 46 u;obtain⟨w,y⟩:=ZO (pcs 46 u).length (by omega) (pcs 46 u) [] LF (by simp) (by omega) (λx p=>by have:=(Ca p).2;omega);rw[x8,aa0] at w y;by_cases g:(F1 (pcs 46 u)).2=0
     ·rw[if_pos g];obtain⟨z,N⟩:=Jp _ g;have G:=UD [46] 63 (F1 (pcs 46 u)).1 (λx p=>(Bn (z x p)).le);have F:∀{R:Type} (m:Int->LL->Option R) (h:Nat->LL->Option R),T6 LF LF (pcs 46 u).length ((pcs 46 u).length:Int) 0 (D5 (pcs 46 u)) m h=h (pcs 46 u).length (D5 (F1 (pcs 46 u)).1):=λm h=>w g _ m h
      rw[F];have hA:(F1 (pcs 46 u)).1.length<=1025:=by omega
      have o:ad1 (pcs 46 u).length (ae0 0 (D5 (F1 (pcs 46 u)).1))=D5 (F1 (pcs 46 u)).1:=by
       rw[v7,v8 (by rw[G6];omega)]
      have q:(63+([46]:By).length)*(F1 (pcs 46 u)).1.length<=64*1025:=aj5 (by simp) hA;rw[o,SC,YW,G6,M5,M5];simp only[cond_true];generalize y9 (F1 (pcs 46 u)).1 [46]=name at *;by_cases c:253<name.length
      ·rw[if_pos c,A8,cond_true];exact a 3 _
      ·rw[if_neg c,A6,cond_false];cases I:E4 name with
       | true=>exact a 14 _
       | false=>exact⟨_,_,rfl,rfl⟩
     ·rw[if_neg g];obtain⟨l,e⟩:=y g;simp_all
theorem ZR{R:Type}{k0 k1:Unit->Option R}:∀l:List By,(∀x∈l,x.length<=1000000000)->ID LF l k0 k1=if l.all J5 then k0 () else k1 ()
 | [],_=>rfl
 | x::r,h=>by
  rw[ZQ];unfold DT;rw[E0 (h x (by simp)),cond_true,ab3];have b:=ZR (k0:=k0) (k1:=k1) r (λy a=>h y (by simp[a]));grind
theorem Da3(s:By)(a:A2 s.length=true):∃r H,hvn LF s (λ_=>rv (.s (.bool false)) [.box [.s (.bool false)]]) (λd b=>rv (.s (.bool d)) [.box [.s (.bool b)],.box [.bad],.box [.bad],.box [.bad]])=rv r H/\r.stab [] H = .s (.bool (Cg s)):=by
 have h:=M3 a;unfold hvn TW Cg;by_cases e:253<s.length
 ·rw[A8,show x3 s.length 253=false by rw[z7,ne_eq,x5];omega];exact⟨_,_,rfl,rfl⟩
 ·rw[A6,cond_false,a,cond_true,show x3 s.length 253=true by rw[x5];omega];cases f:E4 s with
  | true=>exact⟨_,_,rfl,rfl⟩
  | false=>
   rw[cond_false,show((1:Nat)==1&&(0:Int)==(0:Int))=true from rfl,show([46]:By).getD 0 0=46 from rfl,ad0,cond_true,ZR _ (λx c=>by have:=(Ca c).2;omega)];cases g:(pcs 46 s).all J5 with
   | true=>exact⟨_,_,rfl,rfl⟩
   | false=>exact⟨_,_,rfl,rfl⟩
theorem Dj5(a c d f g h i j:Nat):(n8 (a:Int) c d f g h i j==z8)=(((a:Int)==0)&&(((c:Int)==0)&&(((d:Int)==0)&&(((f:Int)==0)&&(((g:Int)==0)&&(((h:Int)==0)&&(((i:Int)==0)&&(((j:Int)==0)&&true)))))))):=by
 have e:n8 (a:Int) c d f g h i j=[a,c,d,f,g,h,i,j]:=rfl;have q:∀b:Nat,((b:Int)==0)=(b==0):=λb=>by grind
 rw[e];simp only[q,z8];rfl
theorem Ct2(a:Int)(b:By)(v4 l m n o p q t u:Int)(D:A2 b.length=true)(F:ltN v4 4294967296=true)(G:ok8 l m n o p q t u=true) :
  ∃r H,Ni LF a b v4 l m n o p q t u (λV M W N O P Q R n8 S y z x=>rv (.s (.bool V)) [.box (Ug M W N O P Q R n8 S y z),.arr false 25 1 x])=rv r H/\
   r.stab [] H = .s (.bool (L7 (mkH a b v4 (n8 l m n o p q t u)))):=by
 obtain⟨c,d,e,f,g,i,j,k,rfl,rfl,rfl,rfl,rfl,rfl,rfl,rfl,X⟩:=Wb G;obtain⟨v0,v1⟩:=E3.1 F;obtain⟨v,rfl⟩:=j8 v0;have U:((v:Int)==0)=(v==0):=by
  rw[an9,beq_iff_eq,beq_iff_eq];omega
 have T:(b==([]:By))=b.isEmpty:=by cases b<;>rfl
 have J:(mkH a b (v:Int) (n8 (c:Int) d e f g i j k)).kind=if ltN a 4 then a.toNat else 0:=rfl
 have K:(mkH a b (v:Int) (n8 (c:Int) d e f g i j k)).name=b:=rfl;have L:(mkH a b (v:Int) (n8 (c:Int) d e f g i j k)).v4=v:=b8 v;have I:(mkH a b (v:Int) (n8 (c:Int) d e f g i j k)).v6=n8 (c:Int) d e f g i j k:=rfl;unfold Ni L7;rw[J,K,L,I,Dj5,U,T];by_cases A:a=1
 ·subst A;rw[show((1:Int)==1)=true from rfl,cond_true,D,cond_true,if_pos (by decide)];cases Cg b with
  | false=>exact⟨_,_,rfl,rfl⟩
  | true=>
   cases (v==0) with
   | false=>exact⟨_,_,rfl,rfl⟩
   | true=>exact⟨_,_,rfl,rfl⟩
 ·rw[show(a==(1:Int))=false by simpa using A,cond_false];by_cases B:a=2
  ·subst B;rw[show((2:Int)==2)=true from rfl,cond_true,if_neg (by decide),if_pos (by decide)];cases b.isEmpty with
   | false=>exact⟨_,_,rfl,rfl⟩
   | true=>exact⟨_,_,rfl,rfl⟩
  ·rw[show(a==(2:Int))=false by simpa using B,cond_false];by_cases C:a=3
   ·subst C;rw[show((3:Int)==3)=true from rfl,cond_true,if_neg (by decide),if_neg (by decide),if_pos (by decide)];cases b.isEmpty with
    | false=>exact⟨_,_,rfl,rfl⟩
    | true=>exact⟨_,_,rfl,rfl⟩
   ·rw[show(a==(3:Int))=false by simpa using C,cond_false];have w:(if ltN a 4 then a.toNat else 0)=0:=by
     split
     ·rename_i h;have:=E3.1 h;omega
     ·rfl
    rw[w];exact⟨_,_,rfl,rfl⟩
theorem C78{a b c d e f g i:Int}(h:ok8 a b c d e f g i=true):(n8 a b c d e f g i).length=8/\∀x∈n8 a b c d e f g i,x<65536:=by obtain⟨k,l,m,n,o,p,q,r,rfl,rfl,rfl,rfl,rfl,rfl,rfl,rfl,t⟩:=Wb h;refine⟨rfl,λx j=>?_⟩;simp only[n8,b8,ae9,am9,or_false] at j;omega
theorem Cs7(a:Int)(j:By)(v4 b c d e f g h i:Int)(q:A2 j.length=true)(t:ltN v4 4294967296=true)(n:ok8 b c d e f g h i=true) :
  ∃r H,Cs5 LF a j v4 b c d e f g h i (λI k J y z A B C n8 D l m=>rv (.s (.str I)) [.box (Ug k J y z A B C n8 D l m)])=rv r H/\
   r.stab [] H = .s (.str (T5 (mkH a j v4 (n8 b c d e f g h i)))):=by
 obtain⟨F,G⟩:=C78 n;have v:=Bb2 _ F G;unfold Cs5 T5;rw[q,t,n];simp only[cond_true,vl];have u:(mkH a j v4 (n8 b c d e f g h i)).kind=if ltN a 4 then a.toNat else 0:=rfl
 cases w:L7 (mkH a j v4 (n8 b c d e f g h i)) with
 | false=>exact⟨_,_,rfl,rfl⟩
 | true=>
  rw[if_pos rfl,c9,cond_false,u];by_cases o:a=1
  ·subst o;rw[if_pos (by decide)];exact⟨_,_,rfl,rfl⟩
  ·rw[show(a==(1:Int))=false by simpa using o,cond_false];have k:¬(if ltN a 4 then a.toNat else 0)=1:=by grind
   rw[if_neg k];by_cases p:a=2
   ·subst p;rw[if_pos (by decide)];exact⟨_,_,rfl,rfl⟩
   ·rw[show(a==(2:Int))=false by simpa using p,cond_false];have x:¬(if ltN a 4 then a.toNat else 0)=2:=by grind
    rw[if_neg x,J7 (by omega),cond_true,J7 (by rw[x4,ai8];omega),cond_true];exact⟨_,_,rfl,rfl⟩
theorem Bo4{R:Type}{b:Bool->Option R}(p s:By)(a:A2 p.length=true)(c:A2 s.length=true):Cr7 LF p s b=b (Lg p s):=by have d:=M3 a;unfold Cr7 Lg;rw[a,c,J7 (by omega)];grind
theorem Aw7{R:Type}{a:By->By->Int->Option R}(t p:By)(n:Int):Ca2 LF t p n a=a t p n:=rfl
theorem By1{R:Type}{a:By->By->Option R}(t p:By):Dc9 LF t p a=a t p:=rfl
theorem A89{Z R:Type}(g:Yh Z)(c:UInt8):∀(m:Nat) (t:By) (n:Nat) (s i:Z),t.length<=m->t.length<=1000000000->m<n->Dk g ((pcs c t).map λx=>([.s (.str x)]:List PV)) s=some i->
  ∃o , (∃v:Z,∃b:Bool,g [.s (.str o)] v=some (b,i)/\∀(a d:By->By->Int->Z->Option R),T8 g LF n [c] t 0 s a d=a [c] o 0 v)\/(∀(a d:By->By->Int->Z->Option R),T8 g LF n [c] t 0 s a d=d [c] o 0 i):=by
 intro m
 induction m with
 | zero=>
  intro t n s i y l D h;obtain rfl:=k9.1 (Nat.le_zero.1 y);obtain⟨n,rfl⟩:∃m,n=m+1:=⟨n-1,by omega⟩
  rw[Ke (by simp)] at h;simp only[ab9,ai3,Dk] at h;refine⟨[],.inl ⟨s,?_⟩⟩;have e:∀(a d:By->By->Int->Z->Option R),T8 g LF (n+1) [c] [] 0 s a d=a [c] [] 0 s:=λa d=>by
   rw[T8];rw[Sr (by simp)];rfl
  cases k:g [.s (.str [])] s with
  | none=>rw[k] at h;cases h
  | some q=>
   obtain⟨b,j⟩:=q;rw[k] at h;have:j=i:=by cases b<;>simpa using h
   subst this;exact⟨b,rfl,e⟩
 | succ m F=>
  intro t n s i y l D h;obtain⟨n,rfl⟩:∃m,n=m+1:=⟨n-1,by omega⟩
  rcases Q1 c t with u|⟨p,r,rfl,u⟩
  ·rw[Ke u] at h;simp only[ab9,ai3,Dk] at h;refine⟨t,.inl ⟨s,?_⟩⟩;have e:∀(a d:By->By->Int->Z->Option R),T8 g LF (n+1) [c] t 0 s a d=a [c] t 0 s:=λa d=>by
    rw[T8];rw[Sr u,E0 l];rfl
   cases k:g [.s (.str t)] s with
   | none=>rw[k] at h;cases h
   | some q=>
    obtain⟨b,j⟩:=q;rw[k] at h;have:j=i:=by cases b<;>simpa using h
    subst this;exact⟨b,rfl,e⟩
  ·rw[DZ u] at h;simp only[ab9,Dk] at h;have w:(p++c::r).length=p.length+r.length+1:=by rw[x4,j6];omega
   have z:A1 ((p.length:Int)+0)=((p.length:Nat):Int):=by rw[A7];omega
   have A:A1 ((p.length:Int)+(([c]:By).length:Int))=((p.length+1:Nat):Int):=by
    rw[C7 (by simp;omega) (by simp;omega)];simp
   have B:cut (p++c::r) 0 (p.length:Int)=p:=by rw[K2,b8,List.take_left]
   have C:cut (p++c::r) ((p.length+1:Nat):Int) ((p++c::r).length:Int)=r:=by
    rw[Q8,b8,show p++c::r=(p++[c])++r by simp,ao0 (by simp)]
   have top:∀(a d:By->By->Int->Z->Option R),T8 g LF (n+1) [c] (p++c::r) 0 s a d=ydK (g [.s (.str p)] s) λb j=>cond (not b) (d [c] (p++c::r) 0 j) (T8 g LF n [c] r 0 j a d):=λa d=>by
    rw[T8];rw[Zy u,E0 l,cond_true,A6,cond_false];simp only[vl,z,A,B,C];rw[I2,cond_true,I2];rfl
   cases k:g [.s (.str p)] s with
   | none=>rw[k] at h;cases h
   | some q=>
    obtain⟨b,j⟩:=q;rw[k] at h top;cases b with
    | false=>
     have:j=i:=by simpa using h
     subst this;exact⟨p++c::r,.inr λa d=>by rw[top];rfl⟩
    | true=>
     simp only at h;obtain⟨o,⟨v,b,e,f⟩|f⟩:=F r n j i (by omega) (by omega) (by omega) h
     ·exact⟨o,.inl ⟨v,b,e,λa d=>by rw[top];exact f a d⟩⟩
     ·exact⟨o,.inr λa d=>by rw[top];exact f a d⟩
theorem A90{Z R:Type}(i:Yh Z)(p t:By)(n:Int)(s g:Z)(h:(A2 t.length&&(p.length==1&&n==0))=true)(m:Dk i ((pcs (p.getD 0 0) t).map λx=>([.s (.str x)]:List PV)) s=some g) :
  ∃d,∀(a:By->By->Int->Z->Option R),Ai8 i LF p t n s a=a p d n g:=by
 have l:=C6;simp only[j4,beq_iff_eq] at h;obtain⟨j,k,rfl⟩:=h;obtain⟨c,rfl⟩:=List.length_eq_one_iff.1 k;have o:=M3 j;obtain⟨d,⟨q,b,e,f⟩|f⟩:=A89 (R:=R) i c t.length t LF s g (ad2 _) o (by omega) m
 ·refine⟨d,λa=>?_⟩;unfold Ai8;rw[show(((([c]:By).length:Nat):Int)==0)=false from rfl,cond_false];refine p4 (f _ _) ?_;rw[e];rfl
 ·refine⟨d,λa=>?_⟩;unfold Ai8;rw[show(((([c]:By).length:Nat):Int)==0)=false from rfl,cond_false];exact f _ _
end
end Go.Proofs.YtcfingekgbbclaaGreatDoor.E
