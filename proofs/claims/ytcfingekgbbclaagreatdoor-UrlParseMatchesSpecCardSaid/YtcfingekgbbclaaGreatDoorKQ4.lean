/-
  Parts of the proof, merged by a program of the prover's own; no condition.
-/
import Derived.Test.YtcfingekgbbclaaGreatDoorKQ3
import Derived.LaidMore
import Derived.LaidSub
import Derived.Lay
import Derived.Lib.IndexAny
import Derived.Lib.JoinLaws
import Derived.Lib.TrimAscii
import Derived.Lib.TrimUEq
import Derived.Lib.ValidLaws
import Derived.OpenShut
import Derived.ProofKit
import Derived.Shelf.LaysM
import Derived.Shelf.Small.Strs
import Derived.Shelf.Spec.SlicesInsert
import Derived.Shelf.Spec.SlicesInsertGrow
import Derived.Shelf.Spec.TrailingZeros
import Derived.Shelf.Strconv.Itoa3
import Derived.Shelf.Strings.Count
import Derived.Shelf.Strings.Cut
import Derived.Shelf.Strings.IndexAnyAll
import Derived.Shelf.Strings.OnBuilder
import Derived.Shelf.Strings.Search3
import Derived.Shelf.Unicode.ValidAny
import Derived.Shelf.Utf8.RuneCount
import Derived.Shelf.Vars
import Derived.Test.YtcfingekgbbclaaGreatDoorChecked
import Derived.Test.YtcfingekgbbclaaGreatDoorProg
import Derived.Test.YtcfingekgbbclaaGreatDoorRows
open Go.Proofs.Tryz renaming prog->a8,underlying3->k9,zeroValue3->m9,underlying4->o0,zeroValue4->o7,underlying5->p5,underlying9->p6,zeroValue5->s7,zeroValue9->s8,underlying0->v7,sizeOf3->w6,underlying53->w9,zeroValue0->x3,sizeOf4->x7,isAgg3->y4,zeroValue53->y6,isAgg4->aa2,sizeOf5->aa3,sizeOf9->aa4,isAgg5->aa7,isAgg9->aa8,sizeOf0->ab0,sizeOf53->ab3,underlying23->ab4,isAgg0->ab6,isAgg53->ab8,zeroValue23->ab9,sizeOf23->ad5,func100->ad8,func134->ad9,isAgg23->ae0,underlying112->ae5,underlying140->ae6,zeroValue112->af1,zeroValue140->af2,func102->af9,func103->ag0,sizeOf112->ah2,sizeOf140->ah3,f155->ah4,isAgg112->ai2,isAgg140->ai3,underlying161->ai6,underlying162->ai7,checked->aj7,func133->aj8,func163->aj9,underlying20->ak0,underlying38->ak1,zeroValue161->ak2,f136->ak5,f141->ak6,zeroValue20->ak7,zeroValue38->ak8,func99->al1,sizeOf161->am1,sizeOf162->am2,isAgg161->am7,isAgg162->am8,sizeOf20->am9,sizeOf38->an0,f104->an1,f106->an2,f110->an3,f126->an4,f132->an5,f169->an6,f186->an7,func140->ap0,func154->ap1,func162->ap2,func177->ap3,func178->ap4,isAgg20->ap5,isAgg38->ap6,f81->aq1,f92->aq2,func73->aq3
open List renaming replicate->b8,getD_eq_getElem?_getD->c9,drop_of_length_le->d8,length_cons->f7,getElem?_eq_getElem->f8,length_drop->g7,length_eq_zero_iff->g8,length->j0,getD->j1,length_map->j2,take_of_length_le->j4,drop_zero->j6,nil_append->j9,append_assoc->m6,length_append->m7,append_nil->o6,all_eq_true->o9,length_take->p4,length_nil->p7,countP_le_length->s9,length_pos_iff->x4,map->x5,map_congr_left->x6,all_cons->x8,mem_cons->x9,flatten->aa1,take->aa6,getElem_cons_drop->aa9,drop->ab2,map_map->ab7,isPrefixOf->ac4,getElem?_map->ad1,cons_append->ad3,map_append->ad6,all->ae3,take_zero->ae4,countP_cons_of_neg->af6,map_nil->af8,getElem?_eq_none->ag1,length_singleton->ag2,map_id->ag6,mem_of_mem_drop->ag7,mem_of_mem_take->ag8,set->ag9,countP_pos_iff->ah5,getElem?_range->ah6,replicate_succ->ah7,any_cons->ah9,map_cons->ai0,map_drop->ai1,all_map->aj2,take_add_one->aj3,toArray->aj4,take_length->ak3,append->al0,drop_left'->al2,drop_drop->al9,map_take->am6,isEmpty->ao2,mem_map->ao3
open Int renaming toNat_natCast->b9,toNat->f6,eq_ofNat_of_zero_le->f9,tdiv->ab5,add->ac3,tmod->ai9,mul_nonneg->al7
open Bool renaming not_true->d7,not_false->d9,and_eq_true->g9,eq_false_iff->o5,false_eq_true->o8,and_true->aa5,true_and->ab1,or_eq_true->ac2,false_or->ad4,false_and->ag3,not_eq_true'->ai8,and_false->al5
open Option.some renaming injEq->f0,inj->j5
open Eq renaming trans->g6
open Nat renaming ble->i6,ble_eq->j7,ble_eq_true_of_le->t7,eq_of_beq_eq_true->y8,le_of_ble_eq_true->y9,div_le_self->ac5,le_refl->ac7,mul_le_mul->ah0,mul_le_mul_right->ah1,blt_eq->ai4,pow_succ->aj5,zero_add->aj6,min_eq_left->al3,strongRecOn->al4,mod_lt->am0,add_zero->ao4,beq->ao5,le_trans->ao6,sub_self->ao7
open Go.Lib renaming cut->j8,decodeL->m5,index->t8,join->aa0,tabData->ac6,VarReads->ac8,deBruijn64tab->ac9,firstTab->ad7,runeCountL->ae2,decodeL_width->ae9,decodeL_drop->af5,pow10Tab->af7,acceptData->ag5,decDigits->ah8,decodeL_ascii->aj0,runeCountFrom->aj1,decodeN->ak9,decodeL_le->al8,decodeL_N->am4,join_cons->am5,index_ge->an8,joinTail->an9,join_one->ao0,validGoD->ao1
open Option renaming map_some->p9,getD_some->y5,isSome_some->y7,isSome_map->af0,isSome->af4,isSome_none->ai5,bind_some->ak4
open Go.Shelf renaming Ren->v8
open UInt8 renaming ofNat->w8,toNat->aq4
open Classical renaming byContradiction->z7
open Go.Value renaming int->ac0
open Go.World renaming laidAll->ac1,cell?->aq5,var?->ar7
open Go.Lib.laidMet renaming reads->ad0
open Go.RowKit.Below renaming refl->ad2
open Array renaming getElem?_eq_some_iff->ae1
open Go.MakeChecks renaming laidMetH_plain->ae7
open Function renaming comp_def->ae8
open Go.Utf8 renaming decode->af3
open Go.IntKind renaming u16->ag4
open Go.DataW renaming trod->al6
open Ne renaming symm->ao8
open Go.RowKit renaming Below->ao9
open Go.Proofs.LaysM renaming n171->ap8
open Go.Proofs.Lays renaming n137->aq7,n138->aq8,n143->aq9,n145->ar0,n153->ar1,n156->ar2,n195->ar3,n196->ar4
open Go.Proofs.Lays2 renaming n21->ar5
open Go.Proofs.Lays7 renaming n27->ar6
namespace Go.Proofs.YtcfingekgbbclaaGreatDoor.E
set_option linter.all false
section
open Go Go.Proofs
theorem FP:∀(s:By) (v:Nat) (b:UInt8),b∈s->16<=dig b->Fr v s=none
 | c::r,v,b,h,a=>by
  simp only[Fr];rcases x9.1 h with rfl|h
  ·grind
  ·split
   ·exact FP r _ b h a
   ·rfl
theorem A03{s:By}{v:Nat}(h:v4B s=some v):grp s=none:=by
 unfold v4B at h;split at h
 ·rename_i a;have b:(46:UInt8)∈s:=by
   apply z7;intro c;rw[Nm c] at a;simp at a
  unfold grp;split
  ·rfl
  ·exact FP s 0 46 b (by decide)
 ·cases h
theorem As0{R:Type}{k0:LL->Option R}{k1:LL->Option R}(last:Bool)(l:List By)(I:l.length<=1000000001)(D:∀x∈l,x.length<=1000000000):∀(r i n:Nat) (d:List Nat),i+r=l.length->r<n->d.length<=2*i->
  (∀q,Db last (l.drop i)=some q->P6 LF n last (D4 l) (i:Int) (D6 d) k0 k1=k1 (D6 (d++q)))/\
  (Db last (l.drop i)=none->∃k,P6 LF n last (D4 l) (i:Int) (D6 d) k0 k1=k0 k):=by
 intro r
 induction r with
 | zero=>
  intro i n d C F B;obtain⟨n,rfl⟩:∃m,n=m+1:=⟨n-1,by omega⟩
  rw[P6,d8 (by omega)];rw[G1,A6];refine⟨λq a=>?_,λh=>(by cases h)⟩;simp only[Db,f0] at a;subst a;simp
 | succ r y=>
  intro i n d C F B;obtain⟨n,rfl⟩:∃m,n=m+1:=⟨n-1,by omega⟩
  rw[P6,Ib l i (by omega)];have L:=D _ (LC (show i<l.length by omega));have t:((i:Int)+1)=((i+1:Nat):Int):=by omega
  have w:A1 ((l.length:Int)-1)=((l.length-1:Nat):Int):=by rw[A7];omega
  simp (disch:=omega) only[B4,G1,L5,cond_true,b9,R8,X1,D9,vl,Jc,Jd,G9,E9,C4,cond_false];rw[t];simp only[Db];have e:∀(f:v4B (l.getD i [])=none\/(last=false\/l.drop (i+1)≠[])),
    (∀q,(match grp (l.getD i []) with|some v=>(Db last (l.drop (i+1))).map (v::·)|none=>match v4B (l.getD i []) with|some v=>if last=true/\l.drop (i+1)=[] then some [v / 65536,v % 65536] else none|none=>none)=some q->
     (cond (!(grp (l.getD i [])).isSome) (k0 (D6 d)) (P6 LF n last (D4 l) ((i+1:Nat):Int) (D6 d++[[SV.int .u16 (L9 (grp (l.getD i [])):Int)]]) k0 k1))=k1 (D6 (d++q)))/\
    ((match grp (l.getD i []) with|some v=>(Db last (l.drop (i+1))).map (v::·)|none=>match v4B (l.getD i []) with|some v=>if last=true/\l.drop (i+1)=[] then some [v / 65536,v % 65536] else none|none=>none)=none->
     ∃k,(cond (!(grp (l.getD i [])).isSome) (k0 (D6 d)) (P6 LF n last (D4 l) ((i+1:Nat):Int) (D6 d++[[SV.int .u16 (L9 (grp (l.getD i [])):Int)]]) k0 k1))=k0 k):=by
   intro f;cases J:grp (l.getD i []) with
   | some v=>
    simp only[y7,d7,cond_false,L9,y5];have c:D6 d++[[SV.int .u16 (v:Int)]]=D6 (d++[v]):=by rw[Jo];rfl
    rw[c];have:=y (i+1) n (d++[v]) (by omega) (by omega) (by simp<;>omega);refine⟨λq a=>?_,λh=>?_⟩
    ·cases b:Db last (l.drop (i+1)) with
     | none=>simp[b] at a
     | some z=>
      simp only[b,p9,f0] at a;subst a;rw[this.1 z b];simp
    ·cases b:Db last (l.drop (i+1)) with
     | none=>exact this.2 b
     | some z=>simp[b] at h
   | none=>
    simp only[ai5,d9,cond_true];refine⟨λq a=>?_,λ_=>⟨_,rfl⟩⟩;exfalso;cases g:v4B (l.getD i []) with
    | none=>rw[g] at a;cases a
    | some v=>
     rw[g] at a;rcases f with h|h|h
     ·rw[g] at h;cases h
     ·simp only[h,o8,false_and,if_false] at a;cases a
     ·simp only[if_neg (λhc:last=true/\l.drop (i+1)=[]=>h hc.2)] at a;cases a
  cases f:v4B (l.getD i []) with
  | none=>
   simp only[ai5,cond_false];have:=e (.inl f);simp only[f] at this;exact this
  | some v=>
   have H:=A02 f;have p:=A03 f;simp only[y7,cond_true,L9,y5];cases last with
   | false=>
    simp only[cond_false];have:=e (.inr (.inl rfl));simp only[f,L9] at this;exact this
   | true=>
    simp only[cond_true];by_cases K:r=0
    ·have j:l.drop (i+1)=[]:=d8 (by omega);have o:((i:Int)==(l.length:Int)-1)=true:=by rw[beq_iff_eq];omega
     rw[o,p,j];simp only[cond_true,and_self,if_true,f0];refine⟨λq a=>?_,λh=>(by cases h)⟩;subst a;rw[show(16:Int)=((16:Nat):Int) from rfl,SJ .u32 v 16 (by decide)];have w:Ll ((v / 2 ^ 16:Nat):Int)=((v / 65536:Nat):Int):=Oa;have A:Ll (v:Int)=((v % 65536:Nat):Int):=Aa9 v;rw[w,A];have c:D6 d++[[SV.int .u16 ((v / 65536:Nat):Int)],[SV.int .u16 ((v % 65536:Nat):Int)]]=D6 (d++[v / 65536,v % 65536]):=by rw[Jo];rfl
     rw[c];have G:0<n:=by omega
     exact(y (i+1) n (d++[v / 65536,v % 65536]) (by omega) (by omega) (by simp<;>omega)).1 [] (by rw[j];rfl) |>.trans (by simp)
    ·have u:l.drop (i+1)≠[]:=by
      rw[Ib l (i+1) (by omega)];simp
     have o:((i:Int)==(l.length:Int)-1)=false:=by rw[beq_eq_false_iff_ne];omega
     rw[o];simp only[cond_false];have:=e (.inr (.inr u));simp only[f,L9] at this;exact this
theorem As1(s:By)(last:Bool)(f:A3 s.length=true):∃r H,XL LF s last (λl=>rv (.tup [.fl 0,.s (.bool true)]) [.arr true 24 1 l]) (λl=>rv (.tup [.fl 1,.s (.bool false)]) [.arr true 24 1 l,.arr true 24 1 []])=rv r H/\
  r.stab [1,0] H = .tup [.s (.sl (gvs s last).isEmpty (gvs s last).isEmpty 1 (D6 (gvs s last))),.s (.bool (P0 s last).isSome)]:=by
 have d:=L6 f;have:=C1;unfold XL gvs P0;by_cases c:s=[]
 ·subst c;exact⟨_,_,rfl,rfl⟩
 ·rw[show(s==([]:By))=false from beq_eq_false_iff_ne.2 c,f,if_neg c];simp only[cond_false,cond_true,vl,show u8n 58=58 from rfl];obtain⟨a,b⟩:=As0 (k0:=λl=>rv (.tup [.fl 1,.s (.bool false)]) [.arr true 24 1 l,.arr true 24 1 []]) (k1:=λl=>rv (.tup [.fl 0,.s (.bool true)]) [.arr true 24 1 l]) last (pcs 58 s) (X3 58 d) (λx h=>ao6 (Cs h).2 d) (pcs 58 s).length 0 LF [] (by omega) (by have:=X3 58 d;omega) (by simp);rw[j6] at a b;cases g:Db last (pcs 58 s) with
  | some q=>
   refine⟨_,_,a q g,?_⟩;simp[PV.stab,Mz,Pm,PV.snap,K9,Vx]
  | none=>
   obtain⟨i,e⟩:=b g;refine⟨_,_,e,?_⟩;simp[PV.stab,Mz,Pm,PV.snap,K9,D6]
theorem Cf6{j:Type}{W:List j}(h:W.length=8):∃a b c d e f g i,W=[a,b,c,d,e,f,g,i]:=by
 match W,h with
 | [a,b,c,d,e,f,g,i],_=>exact⟨a,b,c,d,e,f,g,i,rfl⟩
def r8(n:Nat):LL:=b8 n [SV.int .u16 0]
theorem Ap4(n:Nat):r8 n=D6 (b8 n 0):=by simp[r8,D6]
theorem FS{s:By}{last:Bool}{q:List Nat}(h:P0 s last=some q):gvs s last=q:=by unfold gvs;rw[h];rfl
theorem Cb7(s:By):(j8 s [58,58]).1.length<=s.length/\(j8 s [58,58]).2.1.length<=s.length:=by unfold j8;grind
theorem A95{R:Type}{K:LL->LL->Option R}(X Y:List Nat)(h:X.length+Y.length<=8) :
  Ny (D6 X) (D6 Y) (r8 8) K=K (D6 (X++b8 (8-X.length-Y.length) 0++Y)) (D6 (X++b8 (8-X.length-Y.length) 0++Y)):=by
 unfold Ny;have n:(aa6 0 (r8 8)++(aa6 8 (D6 X)++ab2 (0+min (D6 X).length 8) (r8 8)))=D6 (X++b8 (8-X.length) 0):=by
  rw[G9,al3 (show X.length<=8 by omega),j4 (l:=D6 X) (i:=8) (by rw[G9];omega),Jo,aj6,Ap4,ae4,j9];unfold D6;rw[<-ai1,List.drop_replicate]
 have m:A1 (8-(Y.length:Int))=((8-Y.length:Nat):Int):=by rw[A7];omega
 have o:(D6 (X++b8 (8-X.length) 0)).length=8:=by simp[G9]<;>omega
 have j:(aa6 (8-Y.length) (D6 (X++b8 (8-X.length) 0))++(aa6 (8-(8-Y.length)) (D6 Y)++ab2 (8-Y.length+min Y.length (8-(8-Y.length))) (D6 (X++b8 (8-X.length) 0))))=D6 (X++b8 (8-X.length-Y.length) 0++Y):=by
  rw[d8 (by rw[o];omega),j4 (l:=D6 Y) (by rw[G9];omega),Jo (X++_) Y,o6]
  congr 1
  unfold D6;rw[<-am6,List.take_append,j4 (by omega),List.take_replicate];grind
 have k:(X++b8 (8-X.length-Y.length) 0++Y).length=8:=by simp<;>omega
 simp only[vl];rw[n];simp only[G9,m,b9];rw[j];simp only[G9];rw[show(r8 8).length=8 from rfl,show j0 (X++b8 (8-X.length) (0:Nat))=8 by simp<;>omega,H9,decide_eq_true (show 8-Y.length+(8-(8-Y.length))<=8 by omega)];simp only[decide_true,cond_true,ac7,k];generalize (X++b8 (8-X.length-Y.length) 0++Y)=W at *;obtain⟨a,b,c,d,e,f,g,i,rfl⟩:=Cf6 k;rfl
theorem B69{R:Type}{k0:Int->Int->Int->Int->Int->Int->Int->Int->Bool->LL->LL->Option R}(s:By)(r:A3 s.length=true) :
  ∃l q,v6p LF s k0=k0 (v6c 0 s) (v6c 1 s) (v6c 2 s) (v6c 3 s) (v6c 4 s) (v6c 5 s) (v6c 6 s) (v6c 7 s) (v6B s).isSome l q:=by
 have C:=L6 r;have w:=Cb7 s;unfold v6p v6c;rw[r];have bad:∀(h:v6B s=none),k0 0 0 0 0 0 0 0 0 false (r8 8) (r8 8)=k0 ((((v6B s).getD z8).getD 0 0:Nat):Int) ((((v6B s).getD z8).getD 1 0:Nat):Int) ((((v6B s).getD z8).getD 2 0:Nat):Int) ((((v6B s).getD z8).getD 3 0:Nat):Int) ((((v6B s).getD z8).getD 4 0:Nat):Int) ((((v6B s).getD z8).getD 5 0:Nat):Int) ((((v6B s).getD z8).getD 6 0:Nat):Int) ((((v6B s).getD z8).getD 7 0:Nat):Int) (v6B s).isSome (r8 8) (r8 8):=by
  intro h;rw[h];rfl
 simp (disch:=omega) only[cond_true,vl,D9];have j:v6B s=match P0 (j8 s [58,58]).1 (!(j8 s [58,58]).2.2),P0 (j8 s [58,58]).2.1 true with
  | some x,some y=>if (j8 s [58,58]).2.2 then (if x.length+y.length<=7 then some (x++b8 (8-x.length-y.length) 0++y) else none)
   else if x.length+y.length=8 then some (x++y) else none
  | _,_=>none:=rfl
 generalize (j8 s [58,58]).1=A at *;generalize (j8 s [58,58]).2.1=B at *;generalize (j8 s [58,58]).2.2=o at *;cases k:P0 A (!o) with
 | none=>exact⟨_,_,bad (by rw[j,k])⟩
 | some X=>
  cases m:P0 B true with
  | none=>exact⟨_,_,bad (by rw[j,k,m])⟩
  | some Y=>
   have u:X.length<=2000000002:=by
    unfold P0 at k;split at k
    ·grind
    ·have:=Iw _ _ _ k;have:=X3 58 (s:=A) (by omega);omega
   have v:Y.length<=2000000002:=by
    unfold P0 at m;split at m
    ·grind
    ·have:=Iw _ _ _ m;have:=X3 58 (s:=B) (by omega);omega
   rw[k,m] at j;simp only[FS k,FS m,G9,y7,d7,cond_false];rw[A7];have n:∀(W:List Nat),W.length=8->v6B s=some W->∃l q,(cond ((decide (8=(D6 W).length*1))&&(okS ⟨true,true,[.int .u16,.int .u16,.int .u16,.int .u16,.int .u16,.int .u16,.int .u16,.int .u16]⟩ (aa1 (D6 W)) 0))
     (k0 (SV.gI (j1 (aa1 (D6 W)) 0 SV.nilp)) (SV.gI (j1 (aa1 (D6 W)) 1 SV.nilp)) (SV.gI (j1 (aa1 (D6 W)) 2 SV.nilp)) (SV.gI (j1 (aa1 (D6 W)) 3 SV.nilp)) (SV.gI (j1 (aa1 (D6 W)) 4 SV.nilp)) (SV.gI (j1 (aa1 (D6 W)) 5 SV.nilp)) (SV.gI (j1 (aa1 (D6 W)) 6 SV.nilp)) (SV.gI (j1 (aa1 (D6 W)) 7 SV.nilp)) true (D6 W) (D6 W)) none) =
     k0 ((((v6B s).getD z8).getD 0 0:Nat):Int) ((((v6B s).getD z8).getD 1 0:Nat):Int) ((((v6B s).getD z8).getD 2 0:Nat):Int) ((((v6B s).getD z8).getD 3 0:Nat):Int) ((((v6B s).getD z8).getD 4 0:Nat):Int) ((((v6B s).getD z8).getD 5 0:Nat):Int) ((((v6B s).getD z8).getD 6 0:Nat):Int) ((((v6B s).getD z8).getD 7 0:Nat):Int) (v6B s).isSome l q:=by
    intro W t h;rw[h];obtain⟨a,b,c,d,e,f,g,i,rfl⟩:=Cf6 t;exact⟨_,_,rfl⟩
   cases o with
   | false=>
    simp only[d9,cond_true,o8,if_false] at j ⊢;by_cases p:X.length+Y.length=8
    ·rw[if_pos p] at j;rw[show((X.length:Int)+(Y.length:Int)!=8)=false by simp;omega];simp only[cond_false];rw[show(b8 8 [SV.int ag4 0])=r8 8 from rfl,A95 X Y (by omega)];have z:8-X.length-Y.length=0:=by omega
     rw[z];simp only[List.replicate_zero,o6];exact n (X++Y) (by simp<;>omega) j
    ·rw[if_neg p] at j;rw[show((X.length:Int)+(Y.length:Int)!=8)=true by simp;omega];exact⟨_,_,bad j⟩
   | true=>
    simp only[d7,cond_false,cond_true,if_true] at j ⊢;by_cases p:X.length+Y.length<=7
    ·rw[if_pos p] at j;rw[A6];simp only[cond_false];rw[show(b8 8 [SV.int ag4 0])=r8 8 from rfl,A95 X Y (by omega)];exact n _ (by simp<;>omega) j
    ·rw[if_neg p] at j;rw[A8];exact⟨_,_,bad j⟩
theorem SE(P T:List Nat)(t v:Nat):ag9 (D6 (P++t::T)) P.length (F3 (j1 (D6 (P++t::T)) P.length []) 0 [SV.int .u16 (v:Int)])=D6 (P++v::T):=by
 have a:j1 (D6 (P++t::T)) P.length []=[SV.int .u16 (t:Int)]:=by
  simp[D6,c9]
 rw[a];simp only[F3,List.set_cons_zero];simp[D6]
theorem B43(X T:List Nat)(i:Nat)(h:i<X.length):X.take (i+1)++T=X.take i++X.getD i 0::T:=by rw[aj3,f8 h,c9,f8 h,m6];rfl
theorem Cx2{R:Type}{k0:LL->LL->Option R}(z:Bool)(X:List Nat)(h:X.length=8)(c:LL):∀(r i n:Nat),i+r=8->r<n->Lb LF n z (D6 X) (i:Int) c (D6 (X.take i++b8 r 0)) k0=k0 c (D6 X):=by
 intro r
 induction r with
 | zero=>
  intro i n d f;obtain⟨n,rfl⟩:∃m,n=m+1:=⟨n-1,by omega⟩
  rw[Lb];rw[A6,j4 (by omega)];simp
 | succ r g=>
  intro i n d f;obtain⟨n,rfl⟩:∃m,n=m+1:=⟨n-1,by omega⟩
  rw[Lb];have a:((i:Int)+1)=((i+1:Nat):Int):=by omega
  have e:(X.take i).length=i:=by rw[p4];omega
  have b:=SE (X.take i) (b8 r 0) 0 (X.getD i 0);rw[e] at b;simp (disch:=first|omega|(simp[G9];omega)) only[B4,G9,L5,cond_true,b9,Uk,FO,vl,C4,ah7,b];rw[decide_eq_true (show i<j0 (X.take i++(0:Nat)::b8 r (0:Nat)) by simp<;>omega),a];simp only[cond_true];have:=g (i+1) n (by omega) (by omega);rw[B43 X _ i (by omega)] at this;exact this
theorem Cx3{R:Type}{k0:Bool->LL->LL->LL->Option R}(z:Bool)(X:List Nat)(k:X.length<=8)(e:Bool)(d c:LL):∀(r i n:Nat),i+r=X.length->r<n->Lc LF n z (D6 X) e d (i:Int) c (D6 (X.take i++b8 (8-i) 0)) k0=k0 e d c (D6 (X++b8 (8-X.length) 0)):=by
 intro r
 induction r with
 | zero=>
  intro i n f h;obtain⟨n,rfl⟩:∃m,n=m+1:=⟨n-1,by omega⟩
  rw[Lc];rw[G9,A6,j4 (by omega),show i=X.length by omega];rfl
 | succ r j=>
  intro i n f h;obtain⟨n,rfl⟩:∃m,n=m+1:=⟨n-1,by omega⟩
  rw[Lc];have a:((i:Int)+1)=((i+1:Nat):Int):=by omega
  have g:(X.take i).length=i:=by rw[p4];omega
  have b:=SE (X.take i) (b8 (7-i) 0) 0 (X.getD i 0);rw[g] at b;rw[show 8-i=7-i+1 by omega,ah7];simp (disch:=first|omega|(simp[G9];omega)) only[B4,G9,L5,cond_true,b9,Uk,FO,vl,C4,b];rw[decide_eq_true (show i<j0 (X.take i++(0:Nat)::b8 (7-i) (0:Nat)) by simp<;>omega),a];simp only[cond_true];have:=j (i+1) n (by omega) (by omega);rw[B43 X _ i (by omega),show 8-(i+1)=7-i by omega] at this;exact this
theorem Cx4{R:Type}{k0:LL->LL->Option R}(z:Bool)(Y P:List Nat)(o:P.length+Y.length=8)(e:LL):∀(r i n:Nat) (T:List Nat),i+r=Y.length->r<n->T.length=r->Ld LF n z (D6 Y) (i:Int) e (D6 (P++Y.take i++T)) k0=k0 e (D6 (P++Y)):=by
 intro r
 induction r with
 | zero=>
  intro i n T h k a;obtain⟨n,rfl⟩:∃m,n=m+1:=⟨n-1,by omega⟩
  rw[Ld];rw[G9,A6,j4 (by omega),g8.1 a];simp
 | succ r l=>
  intro i n T h k a;obtain⟨n,rfl⟩:∃m,n=m+1:=⟨n-1,by omega⟩
  obtain⟨t,T,rfl⟩:∃t b,T=t::b:=by
   match T,a with
   | t::b,_=>exact⟨t,b,rfl⟩
  rw[Ld];have c:((i:Int)+1)=((i+1:Nat):Int):=by omega
  have j:(P++Y.take i).length=P.length+i:=by simp<;>omega
  have d:=SE (P++Y.take i) T t (Y.getD i 0);rw[j] at d;have f:A1 (8-(Y.length:Int))=(P.length:Int):=by rw[A7];omega
  have g:A1 ((P.length:Int)+(i:Int))=((P.length+i:Nat):Int):=by rw[A7];rfl
  simp (disch:=first|omega|(simp[G9];omega)) only[B4,G9,L5,cond_true,b9,Uk,FO,vl,f,g,C4,d];rw[decide_eq_true (show P.length+i<j0 (P++Y.take i++t::T) by simp<;>omega),c];simp only[cond_true];have:=l (i+1) n T (by omega) (by omega) (by simpa using a);rw[m6,B43 Y _ i (by omega),<-m6] at this;exact this
theorem Bk5{R:Type}{k0:Int->Int->Int->Int->Int->Int->Int->Int->Bool->LL->LL->Option R}(s:By)(B:A3 s.length=true) :
  ∃l L,B31 LF s k0=k0 (v6c 0 s) (v6c 1 s) (v6c 2 s) (v6c 3 s) (v6c 4 s) (v6c 5 s) (v6c 6 s) (v6c 7 s) (v6B s).isSome l L:=by
 have M:=L6 B;have F:=C1;unfold B31 v6c;rw[B];have bad:∀(h:v6B s=none),k0 0 0 0 0 0 0 0 0 false (r8 8) (r8 8)=k0 ((((v6B s).getD z8).getD 0 0:Nat):Int) ((((v6B s).getD z8).getD 1 0:Nat):Int) ((((v6B s).getD z8).getD 2 0:Nat):Int) ((((v6B s).getD z8).getD 3 0:Nat):Int) ((((v6B s).getD z8).getD 4 0:Nat):Int) ((((v6B s).getD z8).getD 5 0:Nat):Int) ((((v6B s).getD z8).getD 6 0:Nat):Int) ((((v6B s).getD z8).getD 7 0:Nat):Int) (v6B s).isSome (r8 8) (r8 8):=by
  intro h;rw[h];rfl
 have j:v6B s=match P0 (j8 s [58,58]).1 (!(j8 s [58,58]).2.2),P0 (j8 s [58,58]).2.1 true with
  | some x,some y=>if (j8 s [58,58]).2.2 then (if x.length+y.length<=7 then some (x++b8 (8-x.length-y.length) 0++y) else none)
   else if x.length+y.length=8 then some (x++y) else none
  | _,_=>none:=rfl
 have J:=Lib.index_room s [58,58];have I:=an8 s [58,58];simp only[cond_true];by_cases C:FD s<0
 ·have n:j8 s [58,58]=(s,[],false):=by
   unfold j8;rw[if_neg (by unfold FD at C;omega)]
  rw[n] at j;simp only[d9,o8,if_false] at j;rw[B4 C];simp only[cond_true];cases m:P0 s true with
  | none=>
   rw[m] at j;exact⟨_,_,bad j⟩
  | some X=>
   have o:P0 [] true=some []:=rfl;have A:X.length<=2000000002:=by
    unfold P0 at m;split at m
    ·cases m;simp
    ·have:=Iw _ _ _ m;have:=X3 58 (s:=s) (by omega);omega
   rw[m,o] at j;simp only[p7,ao4,o6] at j;simp only[y7,d7,cond_false,FS m,G9];by_cases p:X.length=8
   ·rw[if_pos p] at j;rw[show((X.length:Int)!=8)=false by simp;omega];simp only[cond_false];rw[show(b8 8 [SV.int ag4 0])=r8 8 from rfl];have h:=λK=>Cx2 (R:=R) (k0:=K) X.isEmpty X p (r8 8) 8 0 LF (by omega) (by omega)
    simp only[ae4,j9] at h;rw[<-Ap4] at h;rw[show((0:Nat):Int)=0 from rfl] at h;rw[h];rw[j];clear h j m bad;obtain⟨a,b,c,d,e,f,g,i,rfl⟩:=Cf6 p;exact⟨_,_,rfl⟩
   ·rw[if_neg p] at j;rw[show((X.length:Int)!=8)=true by simp;omega];exact⟨_,_,bad j⟩
 ·have r:0<=FD s:=by omega
  have q:=J r;obtain⟨k,t⟩:=f9 r;have w:k+2<=s.length:=by
   have:FD s+2<=(s.length:Int):=q;omega
  have n:j8 s [58,58]=(s.take k,s.drop (k+2),true):=by
   unfold j8;have:t8 s [58,58]=(k:Int):=t;rw[R7,this];rfl
  rw[n] at j;simp only[d7,if_true] at j;have D:A1 ((k:Int)+2)=((k+2:Nat):Int):=by rw[A7];rfl
  rw[t,A6,H9];simp only[cond_false,cond_true,vl,D,J5,P8,b9];rw[D9 (by simp<;>omega),H9,D9 (by simp<;>omega)];simp only[cond_true];cases m:P0 (s.take k) false with
  | none=>
   rw[m] at j;exact⟨_,_,bad j⟩
  | some X=>
   cases o:P0 (s.drop (k+2)) true with
   | none=>
    rw[m,o] at j;exact⟨_,_,bad j⟩
   | some Y=>
    have A:X.length<=2000000002:=by
     unfold P0 at m;split at m
     ·cases m;simp
     ·have:=Iw _ _ _ m;have:=X3 58 (s:=s.take k) (by simp<;>omega);omega
    have H:Y.length<=2000000002:=by
     unfold P0 at o;split at o
     ·cases o;simp
     ·have:=Iw _ _ _ o;have:=X3 58 (s:=s.drop (k+2)) (by simp<;>omega);omega
    rw[m,o] at j;simp only[y7,d7,cond_false,FS m,FS o,G9];rw[A7];by_cases p:X.length+Y.length<=7
    ·simp only[if_pos p] at j;rw[A6];simp only[cond_false];rw[show(b8 8 [SV.int ag4 0])=r8 8 from rfl];have v:=λK=>Cx3 (R:=R) (k0:=K) X.isEmpty X (by omega) Y.isEmpty (D6 Y) (r8 8) X.length 0 LF (by omega) (by omega)
     simp only[ae4,j9] at v;rw[show(8-0:Nat)=8 from rfl,<-Ap4,show((0:Nat):Int)=0 from rfl] at v;rw[v];have u:X++b8 (8-X.length) 0=(X++b8 (8-X.length-Y.length) 0)++aa6 0 Y++b8 Y.length 0:=by
      simp only[ae4,o6,m6];rw[List.replicate_append_replicate]
      congr 2
      omega
     have z:=λK=>Cx4 (R:=R) (k0:=K) Y.isEmpty Y (X++b8 (8-X.length-Y.length) 0) (by simp<;>omega) (r8 8) Y.length 0 LF (b8 Y.length 0) (by omega) (by omega) (by simp)
     rw[<-u,show((0:Nat):Int)=0 from rfl] at z;rw[z];rw[j];have G:j0 (X++b8 (8-X.length-Y.length) 0++Y)=8:=by simp<;>omega
     clear v z u j m o bad;generalize (X++b8 (8-X.length-Y.length) 0++Y)=W at *;obtain⟨a,b,c,d,e,f,g,i,rfl⟩:=Cf6 G;exact⟨_,_,rfl⟩
    ·simp only[if_neg p] at j;rw[A8];exact⟨_,_,bad j⟩
theorem B24{x:Nat}{r:List Nat}:Yx (x::r)=if x=0 then Yx r+1 else 0:=by unfold Yx;by_cases h:x=0<;>simp[h]
theorem A86(l:List Nat):Yx l<=l.length:=by unfold Yx;exact(List.takeWhile_sublist _).length_le
theorem Ca0{R:Type}{k0:Int->Int->Int->Int->LL->Option R}(W:List Nat)(l:W.length=8)(b a:Int)(i:Nat):∀(r j n:Nat),i+j+r=8->r<n->
  Gr LF n b a (i:Int) (j:Int) (D6 W) k0=k0 b a (i:Int) ((j+Yx (W.drop (i+j)):Nat):Int) (D6 W):=by
 intro r
 induction r with
 | zero=>
  intro j n f g;obtain⟨n,rfl⟩:∃m,n=m+1:=⟨n-1,by omega⟩
  rw[Gr];rw[A7,A6,d8 (by omega)];rfl
 | succ r k=>
  intro j n f g;obtain⟨n,rfl⟩:∃m,n=m+1:=⟨n-1,by omega⟩
  rw[Gr];have c:A1 ((i:Int)+(j:Int))=((i+j:Nat):Int):=by rw[A7];rfl
  have d:A1 ((j:Int)+1)=((j+1:Nat):Int):=by rw[A7];rfl
  have e:W.drop (i+j)=W.getD (i+j) 0::W.drop (i+(j+1)):=by
   rw[c9,f8 (by omega),y5,<-Nat.add_assoc,aa9]
  simp (disch:=first|omega|(simp[G9];omega)) only[c,d,B4,L5,cond_true,b9,Uk,FO,vl];rw[e,B24];by_cases h:W.getD (i+j) 0=0
  ·rw[h,if_pos rfl,show(((0:Nat):Int)==0)=true from rfl,cond_true,k (j+1) n (by omega) (by omega)]
   congr 2
   omega
  ·rw[if_neg h,show(((W.getD (i+j) 0:Nat):Int)==0)=false by rw[beq_eq_false_iff_ne];omega];rfl
theorem Bp1{R:Type}{k0:Int->Int->LL->Option R}(W:List Nat)(f:W.length=8):∀(r i n z m:Nat),i+r=8->r<n->z<=8->m<=8->
  Dl LF n (z:Int) (m:Int) (i:Int) (D6 W) k0=k0 ((zGo (W.drop i) i z m).1:Nat) ((zGo (W.drop i) i z m).2:Nat) (D6 W):=by
 intro r
 induction r with
 | zero=>
  intro i n z m j o c l;obtain⟨n,rfl⟩:∃m,n=m+1:=⟨n-1,by omega⟩
  rw[Dl];rw[A6,d8 (by omega)];rfl
 | succ r d=>
  intro i n z m j o c l;obtain⟨n,rfl⟩:∃m,n=m+1:=⟨n-1,by omega⟩
  have e:=C1;rw[Dl];have a:=λK=>Ca0 (R:=R) (k0:=K) W f (z:Int) (m:Int) i r.succ 0 LF (by omega) (by omega)
  rw[show((0:Nat):Int)=0 from rfl] at a;simp only[aj6,ao4] at a;rw[A8,cond_true,a];have g:W.drop i=W.getD i 0::W.drop (i+1):=by
   rw[c9,f8 (by omega),y5,aa9]
  have k:=A86 (W.drop i);rw[g7] at k;have b:A1 ((i:Int)+1)=((i+1:Nat):Int):=by rw[A7];rfl
  rw[b];have c:zGo (W.drop i) i z m=if m<Yx (W.drop i) then zGo (W.drop (i+1)) (i+1) i (Yx (W.drop i)) else zGo (W.drop (i+1)) (i+1) z m:=by
   rw[g];rfl
  rw[c];by_cases h:m<Yx (W.drop i)
  ·rw[if_pos h,A8,cond_true];exact d (i+1) n i (Yx (W.drop i)) (by omega) (by omega) (by omega) (by omega)
  ·rw[if_neg h,A6,cond_false];exact d (i+1) n z m (by omega) (by omega) (by omega) (by omega)
theorem Uj{a b c d e f g i:Int}(h:ok8 a b c d e f g i=true):∃j k l m n o p q:Nat,a=j/\b=k/\c=l/\d=m/\e=n/\f=o/\g=p/\i=q/\j<65536/\k<65536/\l<65536/\m<65536/\n<65536/\o<65536/\p<65536/\q<65536:=by simp only[ok8,x8,List.all_nil,aa5,g9,E6] at h;exact⟨a.toNat,b.toNat,c.toNat,d.toNat,e.toNat,f.toNat,g.toNat,i.toNat,by omega,by omega,by omega,by omega,by omega,by omega,by omega,by omega,by omega,by omega,by omega,by omega,by omega,by omega,by omega,by omega⟩
theorem A15{R:Type}{j:Int->Int->LL->Option R}(a b c d e f g i:Int)(t:ok8 a b c d e f g i=true):Ba6 LF a b c d e f g i j=j ((zGo (n8 a b c d e f g i) 0 0 0).1:Nat) ((zGo (n8 a b c d e f g i) 0 0 0).2:Nat) (D6 (n8 a b c d e f g i)):=by obtain⟨k,l,m,n,o,p,q,r,rfl,rfl,rfl,rfl,rfl,rfl,rfl,rfl,h⟩:=Uj t;have:=C1;unfold Ba6;exact Bp1 [k,l,m,n,o,p,q,r] rfl 8 0 LF 0 0 rfl (by omega) (by omega) (by omega)
theorem Nb{n:Nat}(h:n<16):Ba n=[BD n]:=by rw[Ba,dif_pos h]
theorem Ot{n:Nat}(h:¬n<16):Ba n=Ba (n / 16)++[BD (n % 16)]:=by rw[Ba,dif_neg h]
theorem WA:∀n:Nat,n<65536->1<=(Ba n).length/\(Ba n).length<=4:=by
 intro n d;by_cases a:n<16
 ·rw[Nb a];simp
 rw[Ot a];by_cases b:n / 16<16
 ·rw[Nb b];simp
 rw[Ot b];by_cases c:n / 16 / 16<16
 ·rw[Nb c];simp
 rw[Ot c,Nb (show n / 16 / 16 / 16<16 by omega)];simp
theorem RQ{R:Type}{c:Int->Option R}{d:Unit->Option R}(s:By)(x:s.length<=1000000000):∀(r i n:Nat),i+r=s.length->r<n->
  T4 LF n s (i:Int) c d=if t8 (s.drop i) [58,58]=-1 then d () else c ((i:Int)+t8 (s.drop i) [58,58]):=by
 intro r
 induction r with
 | zero=>
  intro i n q u;obtain⟨n,rfl⟩:∃m,n=m+1:=⟨n-1,by omega⟩
  rw[T4];rw[A7,A6,d8 (by omega)];rfl
 | succ r h=>
  intro i n q u;obtain⟨n,rfl⟩:∃m,n=m+1:=⟨n-1,by omega⟩
  rw[T4];have f:A1 ((i:Int)+1)=((i+1:Nat):Int):=by rw[A7];rfl
  rw[f];by_cases t:i+1<s.length
  ·have h:=h (i+1) n (by omega) (by omega);rw[D1 s i (by omega)];have e:=D1 s (i+1) t;have p:=an8 (s.drop (i+1)) [58,58];have l:t8 (s.getD i 0::s.drop (i+1)) [58,58]=if ([58,58]:By).isPrefixOf (s.getD i 0::s.drop (i+1)) then 0 else if t8 (s.drop (i+1)) [58,58]==-1 then -1 else t8 (s.drop (i+1)) [58,58]+1:=by
    rw[t8]
   have o:([58,58]:By).isPrefixOf (s.getD i 0::s.drop (i+1))=(s.getD i 0==58&&s.getD (i+1) 0==58):=by
    rw[e];simp only[ac4,aa5];rw[BEq.comm (a:=(58:UInt8)),BEq.comm (a:=(58:UInt8)) (b:=s.getD (i+1) 0)]
   have j:=P7 (s.getD i 0) 58 (by omega);have k:=P7 (s.getD (i+1) 0) 58 (by omega);rw[show((58:Nat):Int)=58 from rfl,show w8 58=(58:UInt8) from rfl] at j k;have next:T4 LF n s ((i+1:Nat):Int) c d=if (if t8 (s.drop (i+1)) [58,58]==-1 then (-1:Int) else t8 (s.drop (i+1)) [58,58]+1)=-1 then d () else c ((i:Int)+(if t8 (s.drop (i+1)) [58,58]==-1 then -1 else t8 (s.drop (i+1)) [58,58]+1)):=by
    rw[h];by_cases g:t8 (s.drop (i+1)) [58,58]=-1
    ·rw[g];rfl
    ·rw[if_neg g,show(t8 (s.drop (i+1)) [58,58]==-1)=false from beq_eq_false_iff_ne.2 g];simp only[o8,if_false];rw[F8]
     congr 1
     omega
   rw[l,o,A8,E4,E4];simp only[cond_true,D0,vl,j,k];cases v:(s.getD i 0==58) with
   | false=>
    simp only[cond_false,ag3,o8,if_false];exact next
   | true=>
    cases w:(s.getD (i+1) 0==58) with
    | false=>
     simp only[cond_true,cond_false,al5,o8,if_false];exact next
    | true=>
     simp
  ·rw[A6,D1 s i (by omega),d8 (show s.length<=i+1 by omega)];have:t8 [s.getD i 0] [58,58]=-1:=by
    rw[t8];simp[ac4,t8]
   rw[this];rfl
theorem RR{R:Type}{a:Int->Option R}(s:By)(b:A3 s.length=true):BY LF s a=a (FD s):=by have c:=L6 b;have:=C1;unfold BY FD;refine g6 (RQ s c s.length 0 LF (by omega) (by omega)) ?_;grind
theorem Kr(n:Nat):ptI (n:Int)=T9 n:=rfl
theorem XD{R:Type}{a:Bool->Option R}(n:Int):RL LF n a=a (ptI n):=by
 unfold RL;by_cases h:n<0
 ·rw[B4 h];have:ptI n=false:=by
   cases n with
   | ofNat m=>exact absurd h (by simp)
   | negSucc m=>rfl
  grind
 ·obtain⟨m,rfl⟩:=f9 (show 0<=n by omega);rw[A6,Kr];unfold T9;by_cases b:1114111<m
  ·rw[A8];have:i6 m 1114111=false:=by rw[o5,ne_eq,j7];omega
   grind
  ·rw[A6];have:i6 m 1114111=true:=by rw[j7];omega
   rw[this];by_cases c:m<55296
   ·rw[A8];have:Nat.blt m 55296=true:=by rw[ai4];omega
    grind
   ·rw[A6];have e:Nat.blt m 55296=false:=by rw[o5,ne_eq,ai4];omega
    rw[e];simp only[d9,cond_true,cond_false,ad4,ab1]
    congr 1
theorem ED{d k:Nat}(h:455<d):Xc d k=Xc (d / 35) (k+36):=by rw[Xc,dif_pos h]
theorem Qo{d k:Nat}(h:¬ 455<d):Xc d k=k+36*d / (d+38):=by rw[Xc,dif_neg h]
theorem WY{R:Type}{k0:Int->Int->Option R}:∀(d n k:Nat),d<2305843009213693952->d<n->k+d<=4611686018427387904->
  ∃a b,a<=455/\b<=k+d/\Xc d k=b+36*a / (a+38)/\Ex LF n (d:Int) (k:Int) k0=k0 (a:Int) (b:Int):=by
 intro d
 induction d using al4 with
 | _ d l=>
  intro n k p r q;obtain⟨n,rfl⟩:∃m,n=m+1:=⟨n-1,by omega⟩
  rw[Ex];by_cases h:455<d
  ·obtain⟨a,b,g,o,i,j⟩:=l (d / 35) (by omega) n (k+36) (by omega) (by omega) (by omega);refine⟨a,b,g,by omega,by rw[ED h];exact i,?_⟩;have e:ab5 (d:Int) 35=((d / 35:Nat):Int):=L7 d 35;have c:A1 ((d / 35:Nat):Int)=((d / 35:Nat):Int):=A7;have f:A1 ((k:Int)+36)=((k+36:Nat):Int):=by rw[A7];rfl
   rw[A8];simp only[cond_true,vl,e,c,f];exact j
  ·refine⟨d,k,by omega,by omega,Qo h,?_⟩;rw[A6];rfl
theorem WZ{R:Type}{k0:Int->Option R}(d c:Int)(f:Bool)(z:ltN d 1152921504606846976=true)(A:ltN c 1000000=true)(B:ltI 0 c=true):GQ LF d c f k0=k0 (P4 d.toNat c.toNat f:Nat):=by
 obtain⟨k,F⟩:=E6.1 z;obtain⟨j,D⟩:=E6.1 A;obtain⟨d,rfl⟩:=f9 k;obtain⟨c,rfl⟩:=f9 j;have J:=Km.1 B;have C:=C1;have key:∀x:Nat,x<1152921504606846976->Ew LF (x:Int) (c:Int) k0=k0 ((Xc (x+x / c) 0:Nat):Int):=by
  intro x L;have G:x / c<=x:=ac5 _ _;unfold Ew;have g:ab5 (x:Int) (c:Int)=((x / c:Nat):Int):=L7 x c;generalize x / c=q at *;have h:A1 (q:Int)=(q:Int):=A7;have o:A1 ((x:Int)+(q:Int))=((x+q:Nat):Int):=by rw[A7];rfl
  rw[show((c:Int)!=0)=true by simp;omega];simp only[cond_true,vl,g,h,o];obtain⟨a,n,H,I,w,y⟩:=WY (R:=R) (k0:=λb l=>vl (A1 ((36)*b)) λm=>vl (A1 (b+(38))) λe=>cond (e !=(0)) (vl (A1 (ab5 m e)) λi=>k0 (A1 (l+i))) none) (x+q) LF 0 (by omega) (by omega) (by omega);refine g6 y ?_;have K:36*a / (a+38)<=36*a:=ac5 _ _;have p:A1 (36*(a:Int))=((36*a:Nat):Int):=by rw[A7];rfl
  have r:A1 ((a:Int)+38)=((a+38:Nat):Int):=by rw[A7];rfl
  have t:ab5 ((36*a:Nat):Int) ((a+38:Nat):Int)=((36*a / (a+38):Nat):Int):=L7 _ _;have u:A1 ((36*a / (a+38):Nat):Int)=((36*a / (a+38):Nat):Int):=A7;have v:A1 ((n:Int)+((36*a / (a+38):Nat):Int))=((n+36*a / (a+38):Nat):Int):=by rw[A7];rfl
  simp only[vl,p,r,t,u,v];rw[show(((a+38:Nat):Int)!=0)=true by simp;omega,w];rfl
 unfold GQ P4;rw[b9,b9];cases f with
 | true=>
  have g:ab5 (d:Int) 700=((d / 700:Nat):Int):=L7 d 700;have h:A1 ((d / 700:Nat):Int)=((d / 700:Nat):Int):=A7;simp only[cond_true,vl,g,h,if_true];exact key _ (by omega)
 | false=>
  have g:ab5 (d:Int) 2=((d / 2:Nat):Int):=L7 d 2;have h:A1 ((d / 2:Nat):Int)=((d / 2:Nat):Int):=A7;simp only[cond_false,vl,g,h,o8,if_false];exact key _ (by omega)
theorem KC{d:Nat}(h:d<36):(Z3 d).toNat=if d<26 then 97+d else 22+d:=by unfold Z3;split<;>simp<;>omega
theorem Bg4{R:Type}{b:Int->Option R}(d:Int)(c:ltN d 36=true):Ch5 LF d b=b ((Z3 d.toNat).toNat:Nat):=by
 obtain⟨a,e⟩:=E6.1 c;obtain⟨d,rfl⟩:=f9 a;unfold Ch5;rw[b9,KC (by omega)];by_cases h:d<26
 ·rw[A8,if_pos h];simp only[cond_true,vl]
  congr 1
  rw[A7,L0];rfl
 ·rw[A6,if_neg h];simp only[cond_false,vl]
  congr 1
  rw[C4 (n:=48+(d:Int)) (by omega) (by omega),A7,L0];omega
theorem BA(b:UInt8):(97<=b.toNat/\b.toNat<=122/\Lz b=some (b.toNat-97))\/(65<=b.toNat/\b.toNat<=90/\Lz b=some (b.toNat-65))\/(48<=b.toNat/\b.toNat<=57/\Lz b=some (b.toNat-22))\/(¬(97<=b.toNat/\b.toNat<=122)/\¬(65<=b.toNat/\b.toNat<=90)/\¬(48<=b.toNat/\b.toNat<=57)/\Lz b=none):=by unfold Lz;grind
theorem Bh2{R:Type}{g:Int->Option R}(b:Int)(h:inR b 256=true):Bz8 LF b g=g (D8 (u8n b)):=by
 simp only[inR,g9,decide_eq_true_eq] at h;have j:b=((u8n b).toNat:Int):=by
  unfold u8n;simp;omega
 generalize u8n b=c at *;subst j;have i:=c.toNat_lt;unfold Bz8 D8;simp only[Uo,Un,vl];rcases BA c with⟨d,f,e⟩|⟨d,f,e⟩|⟨d,f,e⟩|⟨d,f,o,e⟩
 ·have a:A1 (wu8 ((c.toNat:Int)-97))=((c.toNat-97:Nat):Int):=by
   rw[L0,A7];omega
  simp (disch:=omega) only[B4,E1,d7,d9,cond_false,cond_true,a,e]
 ·have a:A1 (wu8 ((c.toNat:Int)-65))=((c.toNat-65:Nat):Int):=by
   rw[L0,A7];omega
  simp (disch:=omega) only[B4,E1,d7,d9,cond_false,cond_true,a,e]
 ·have a:A1 (A1 (wu8 ((c.toNat:Int)-48))+26)=((c.toNat-22:Nat):Int):=by
   rw[L0,C4 (n:=(c.toNat:Int)-48) (by omega) (by omega),A7];omega
  simp (disch:=omega) only[B4,E1,d7,d9,cond_false,cond_true,a,e]
 ·rw[e];by_cases k:c.toNat<48
  ·simp (disch:=omega) only[B4,E1,d7,d9,cond_false,cond_true]
  ·by_cases l:c.toNat<65
   ·simp (disch:=omega) only[B4,E1,d7,d9,cond_false,cond_true]
   ·by_cases m:c.toNat<97
    ·simp (disch:=omega) only[B4,E1,d7,d9,cond_false,cond_true]
    ·simp (disch:=omega) only[B4,E1,d7,d9,cond_false,cond_true]
theorem Cm2{l:LL}(h:l.all Tx=true):∃W:List Nat,l=D6 W/\(∀x∈W,x<65536):=by
 induction l with
 | nil=>exact⟨[],rfl,by simp⟩
 | cons x r c=>
  simp only[x8,g9] at h;obtain⟨W,rfl,e⟩:=c h.2;have a:=h.1;unfold Tx at a;split at a
  ·rename_i n;obtain⟨b,d⟩:=E6.1 a;obtain⟨m,rfl⟩:=f9 b;refine⟨m::W,rfl,?_⟩;grind
  ·cases a
theorem TC{W:List Nat}(h:∀x∈W,x<65536):(D6 W).all Tx=true:=by rw[o9];intro x a;simp only[D6,ao3] at a;obtain⟨n,b,rfl⟩:=a;have:=h n b;exact Uc (v:=(n:Int)) (n:=65536) (by omega) (by omega)
theorem Th(W:List Nat):(D6 W).map elN=W:=by
 unfold D6;rw[ab7]
 conv=>rhs;rw[<-ag6 W]
 apply x6;intro x _;simp[elN,SV.gI]
theorem VF(l:List By):(D4 l).map elS=l:=by
 unfold D4;rw[ab7]
 conv=>rhs;rw[<-ag6 l]
 apply x6;intro x _;simp[elS,SV.gS]
theorem B39(l:List By):(D4 l).all isS=true:=by rw[o9];intro x a;simp only[D4,ao3] at a;obtain⟨n,b,rfl⟩:=a;rfl
theorem B36{P:List Nat->Prop}(a:P [])(b:∀l x,P l->P (l++[x]))(l:List Nat):P l:=by
 have:∀r:List Nat,P r.reverse:=by
  intro r
  induction r with
  | nil=>exact a
  | cons x r c=>rw[List.reverse_cons];exact b _ _ c
 have:=this l.reverse;grind
theorem Be1(l:List By)(x p:By)(h:l≠[]):aa0 (l++[x]) p=aa0 l p++p++x:=by
 cases l with
 | nil=>exact absurd rfl h
 | cons y r=>
  rw[ad3,am5,am5];unfold an9;simp
theorem Bd9:Dd []=[]:=rfl
theorem Be0(n:Nat):Dd [n]=Ba n:=by unfold Dd;exact ao0 _ _
theorem Ak5(l:List Nat)(n:Nat)(h:l≠[]):Dd (l++[n])=Dd l++[58]++Ba n:=by unfold Dd;rw[ad6,List.map_singleton,Be1 _ _ _ (by simpa using h)]
theorem Eu:∀l:List Nat,(∀x∈l,x<65536)->(Dd l).length<=5*l.length:=by
 refine B36 ?_ ?_
 ·intro _;simp[Bd9]
 ·intro l n c h;have d:=c (λx b=>h x (by simp[b]));have e:=WA n (h n (by simp));by_cases a:l=[]
  ·subst a;rw[j9,Be0];simp;omega
  ·rw[Ak5 l n a];simp;omega
theorem B67{R:Type}{c:LL->Option R}(z t:Bool)(W:List Nat)(l:∀x∈W,x<65536)(p:W.length<=8):∀(r i n:Nat) (d:List By),i+r=W.length->r<n->d.length=i->
  Sk LF n z t (D6 W) (W.length:Int) (i:Int) (D4 d) c=c (D4 (d++(W.drop i).map Ba)):=by
 intro r
 induction r with
 | zero=>
  intro i n d h j f;obtain⟨n,rfl⟩:∃m,n=m+1:=⟨n-1,by omega⟩
  rw[Sk];rw[A6,d8 (by omega)];simp
 | succ r k=>
  intro i n d h j f;obtain⟨n,rfl⟩:∃m,n=m+1:=⟨n-1,by omega⟩
  rw[Sk];have b:W.drop i=W.getD i 0::W.drop (i+1):=by
   rw[c9,f8 (by omega),y5,aa9]
  have o:W.getD i 0<65536:=by
   rw[c9,f8 (by omega),y5];simp_all
  have e:A1 ((i:Int)+1)=((i+1:Nat):Int):=by rw[A7];rfl
  rw[b];generalize g:W.getD i 0=x at *;simp (disch:=omega) only[B4,L5,cond_true,G9,b9,Uk,FO,vl,e,g,TM,Uc,G1,E9,show((16:Int)==16)=true from rfl];have a:D4 d++[[SV.str (Ba x)]]=D4 (d++[Ba x]):=by rw[Vu];rfl
  rw[a,k (i+1) n _ (by omega) (by omega) (by simp;omega)];simp
theorem B68{R:Type}{k0:By->LL->Option R}(z t:Bool)(l:LL)(c:l.all Tx=true)(a:i6 l.length 8=true):∃g,v6j LF z t l k0=k0 (Dd (l.map elN)) g:=by
 obtain⟨W,rfl,b⟩:=Cm2 c;have f:W.length<=8:=by rw[G9] at a;exact y9 a
 have d:=C1;refine⟨D4 (W.map Ba),?_⟩;unfold v6j;rw[G9];refine g6 (B67 z t W b f W.length 0 LF [] (by omega) (by omega) rfl) ?_;have e:=Eu W b;unfold Dd at e;rw[j9,j6,B39,VF,Th,G1,N6,D9 (by simp;omega)];rfl
theorem A13:∀(l:List Nat) (i z m:Nat),z+m<=i+l.length->(zGo l i z m).1+(zGo l i z m).2<=i+l.length
 | [],i,z,m,h=>by simpa[zGo] using h
 | x::r,i,z,m,h=>by
  have a:=A86 (x::r);simp only[zGo];simp only[f7] at h a ⊢;split
  ·have:=A13 r (i+1) i (Yx (x::r)) (by omega);omega
  ·have:=A13 r (i+1) z m (by omega);omega
theorem B66{R:Type}{k0:By->LL->Option R}(p r t u v w y A:Int)(G:ok8 p r t u v w y A=true):∃l,v6f LF p r t u v w y A k0=k0 (AZ (n8 p r t u v w y A)) l:=by
 obtain⟨a,b,c,d,e,f,g,j,rfl,rfl,rfl,rfl,rfl,rfl,rfl,rfl,h⟩:=Uj G;have C:n8 a b c d e f g j=[a,b,c,d,e,f,g,j]:=rfl;refine⟨D6 [a,b,c,d,e,f,g,j],?_⟩;unfold v6f;rw[G,C,cond_true];have o:([[SV.int .u16 (a:Int)],[SV.int .u16 (b:Int)],[SV.int .u16 (c:Int)],[SV.int .u16 (d:Int)],[SV.int .u16 (e:Int)],[SV.int .u16 (f:Int)],[SV.int .u16 (g:Int)],[SV.int .u16 (j:Int)]]:LL)=D6 [a,b,c,d,e,f,g,j]:=rfl;rw[o];have B:∀x∈[a,b,c,d,e,f,g,j],x<65536:=by simp_all
 have n:[a,b,c,d,e,f,g,j].length=8:=rfl;have k:=A13 [a,b,c,d,e,f,g,j] 0 0 0 (by simp);unfold AZ;generalize [a,b,c,d,e,f,g,j]=W at *;generalize zGo W 0 0 0=q at *;obtain⟨z,m⟩:=q;rw[n] at k;simp only[vl] at k ⊢;have N:∀i,(D6 W).take i=D6 (W.take i):=λi=>by unfold D6;rw[am6]
 have J:∀i,(D6 W).drop i=D6 (W.drop i):=λi=>by unfold D6;rw[ai1]
 by_cases I:m<2
 ·rw[if_pos I,A8,cond_true,TC B,Th];rfl
 ·have K:A1 ((z:Int)+(m:Int))=((z+m:Nat):Int):=by rw[A7];rfl
  have hA:∀x∈W.take z,x<65536:=λx D=>B x (ag8 D)
  have H:∀x∈W.drop (z+m),x<65536:=λx D=>B x (ag7 D)
  have O:=Eu _ hA;have P:=Eu _ H;have L:(W.take z).length<=8:=by rw[p4];omega
  have M:(W.drop (z+m)).length<=8:=by rw[g7];omega
  rw[if_neg I,A6,cond_false,H9,K];simp only[b9,Nat.sub_zero];rw[N,J,TC hA,Th,G9,t7 L,N3 (by omega),H9];have F:(D6 (W.drop (z+m))).take (8-(z+m))=D6 (W.drop (z+m)):=j4 (by rw[G9,g7];omega);rw[F,TC H,Th,G9,t7 M,N3 (by simp;omega)];simp
set_option maxRecDepth 100000
section
variable {Z R : Type} (L : Nat) (Q : F6) (Y : Yh Z) (s : Z) (k : Out -> St Z -> Option R)
noncomputable def PG(L:Nat):Cfg:=B7 L [161] (A4 []) [] (A4 [(1,[2]),(0,[0])]) [] (A4 []) (some [2]) [] [] []
noncomputable def Cs7{R:Type}(L:Nat)(a:Unit->Option R):Option R:=a ()
theorem Bw8(d:Nat):evC (PG L) (d+1) Z Y 161 [pI (16:Int)] [] s=Cs7 L  (λ_=>some (pB true,[],s)):=by refine(evE (fn:=Tryz.f161) (by kernel_rfl)).trans ?_;generalize evC (PG L) d=Q;unfold Cs7;kernel_rfl
noncomputable abbrev OW:Code:=C8 an5
noncomputable def Gu(L:Nat):Cfg:=B7 L [132] (A4 [(11,[0,0,1,0,5,0,0,0,0,0,0]),(18,[0,0,1,0,5,0,0,0,3])]) [(161,MW),(162,Ct5)] (A4 [(30,[10,0]),(29,[10,0]),(28,[0,9,0,0,0,80]),(27,[0,3,5,0,0,0]),(26,[0,3,5,0,0,0]),(25,[0,3,5,0,0,0,75]),(16,[0,2,0,5,0,0,0]),(15,[0,0,1,0,5,0,0,0]),(14,[0,0,1,0,5,0,0,0,0,0,0]),(13,[0,0,1,0,5,0,0,0,0,0,0]),(12,[0,0,1,0,5,0,0,0,0,0,0]),(11,[0,0,1,0,5,0,0,0,0,0,0,29]),(10,[0,0,1,0,5,0,0,0,0,0,0]),(9,[0,0,0,0,0,5,0,0,0,0,0]),(8,[0,0,0,0,0,5,0,0,0,0]),(24,[0,2,0,5,0,0,0]),(23,[0,0,1,0,5,0,0,0]),(22,[0,0,1,0,5,0,0,0,3]),(21,[0,2,0,5,0,0,0,3,0]),(20,[0,0,1,0,5,0,0,0,3,0]),(19,[0,0,1,0,5,0,0,0,3]),(18,[0,0,1,0,5,0,0,0,3,50]),(17,[0,0,1,0,5,0,0,0,3]),(7,[0,0,0,0,0,5,0,0,0,20]),(6,[0,0,0,0,0,5,0,0,0]),(5,[0,0,0,0,0,5,0,0,0,16]),(4,[0,0,0,0,0,5,0,0,0]),(3,[0,0,0,0,0,5,0,0]),(2,[0,0,0,0,0,5,0]),(1,[0,0,0,0,0,5,0,16]),(0,[0,0,0,0,0,5,0])]) [161,162] (A4 [(0,[0,0,1,0,5,0,0,0]),(1,[0,0,1,0,5,0,0,0,0,0,0]),(2,[0,0,1,0,5,0,0,0]),(3,[0,0,1,0,5,0,0,0,3])]) (some [10,0]) [] [] []
noncomputable def Iv{R:Type}(L n:Nat)(b a:Bool)(c:LL)(g d:Int)(f:LL)(j:Bool->Bool->LL->Int->Int->LL->Option R):Option R:=match n with|0=>none|n+1=>cond (not (ltI g 16)) (vl (Ae7 .u64 g (15:Int)) λe=>cond (inR e 36) (vl (bAt (([48,49,50,51,52,53,54,55,56,57,97,98,99,100,101,102,103,104,105,106,107,108,109,110,111,112,113,114,115,116]:List UInt8)++[117,118,119,120,121,122]) e) λi=>cond (inR (A1 (d-1)) 65) (cond (decide ((f6 (A1 (d-1)))<f.length)) (vl (ag9 f (f6 (A1 (d-1))) (F3 (j1 f (f6 (A1 (d-1))) []) 0 [(SV.int .u8 i)])) λh=>Iv L n b a c (SH .u64 g (4:Int)) (A1 (d-1)) h j) none) none) none) (j b a c g d f)
theorem VI(n b a c f d e):C9 2 ((Gu L).keep 11) (bd (Gu L) Q Y (cd [1,1,1,1,1,0,1,0,1,1,1,0,0,0] OW)) n ⟨gp [(0,.s (.sl b a 0 c)),(0,p64 f),(1,pB false),(0,pB false),(5,.fl 0),(0,pS ([]:List UInt8)),(0,.ptr 1 0 0),(0,pI d),(0,p64 (4:Int)),(0,p64 (16:Int)),(0,p64 (15:Int))] 85,[.arr true 5 1 [],.arr false 138 1 e],s⟩ k =
 Iv L n b a c f d e (λb a c f d e=>k (.exit 0) ⟨gp [(0,.s (.sl b a 0 c)),(0,p64 f),(1,pB false),(0,pB false),(5,.fl 0),(0,pS ([]:List UInt8)),(0,.ptr 1 0 0),(0,pI d)] 88,[.arr true 5 1 [],.arr false 138 1 e],s⟩):=by
 induction n generalizing b a c f d e with
 | zero=>rfl
 | succ n g=>rw[Iv];simp only[<-g];kernel_rfl
noncomputable def VH{R:Type}(L:Nat)(e d:Bool)(ds:LL)(v:Int)(m:By->LL->Option R):Option R:=cond ((16:Int)==16) (cond ((16:Int)==16) (Iv L L e d ds v 65 (b8 65 [(SV.int .u8 (0:Int))]) (λg f j i a c=>cond (inR i 36) (vl (bAt (([48,49,50,51,52,53,54,55,56,57,97,98,99,100,101,102,103,104,105,106,107,108,109,110,111,112,113,114,115,116]:List UInt8)++[117,118,119,120,121,122]) i) λl=>cond (inR (A1 (a-1)) 65) (cond (decide ((f6 (A1 (a-1)))<c.length)) (vl (ag9 c (f6 (A1 (a-1))) (F3 (j1 c (f6 (A1 (a-1))) []) 0 [(SV.int .u8 l)])) λb=>cond (decide (b.length=65)) (cond (I5 (A1 (a-1)) (65:Int) 65) (cond (ae3 (aa6 (65-(f6 (A1 (a-1)))) (ab2 (f6 (A1 (a-1))) b)) Mb) (vl (x5 Kd (aa6 (65-(f6 (A1 (a-1)))) (ab2 (f6 (A1 (a-1))) b))) λh=>m h b) none) none) none) none) none) none)) none) none
theorem Bu9(d:Nat)(ds_z ds_t ds v):evC (Gu L) (d+1) Z Y 132 [.s (.sl ds_z ds_t 0 ds),p64 v,pI (16:Int),pB false,pB false] [] s=VH L ds_z ds_t ds v (λb a=>some (.tup [.fl 0,pS b],[.arr true 5 1 [],.arr false 138 1 a],s)):=by refine(evE (fn:=an5) (by kernel_rfl)).trans ?_;generalize evC (Gu L) d=Q;unfold VH;exact(g6 (by kernel_rfl) (A0 (A0 ((VI L Q Y s (E3 0 (E2 (Gu L) Q Y (cd [1,1,1,1,1,0,1,0,1,1,1,1] OW) (E2 (Gu L) Q Y (cd [1,1,1,1,1,1] OW) (F5 (Gu L) an5)))) L ds_z ds_t ds v 65 (b8 65 [(SV.int .u8 (0:Int))])).trans (by kernel_rfl)) rfl) rfl))
noncomputable def PE(L:Nat):Cfg:=B7 L [157] (A4 []) [(132,MM)] (A4 [(9,[4]),(8,[8]),(7,[4]),(6,[5,0]),(5,[0,4,0]),(4,[0,4]),(3,[4]),(2,[0,11]),(1,[0,0,8]),(0,[0,0])]) [] (A4 []) (some [4]) [] [] []
noncomputable def A58{R:Type}(L:Nat)(v:Int)(a:By->Option R):Option R:=cond (ltN v 65536) (cond ((16:Int)==16) (a (Ba (f6 v))) none) none
theorem Bw2(d:Nat)(v):evC (PE L) (d+1) Z Y 157 [p64 v,pI (16:Int)] [] s=A58 L v (λa=>some (pS a,[],s)):=by refine(evE (fn:=Tryz.f157) (by kernel_rfl)).trans ?_;generalize evC (PE L) d=Q;unfold A58;kernel_rfl
noncomputable def Af5(L:Nat):Cfg:=B7 L [128] (A4 []) [(157,MV)] (A4 [(1,[4]),(0,[0,0])]) [157] (A4 []) (some [4]) [] [] []
noncomputable def Cd1{R:Type}(L:Nat)(v:Int)(a:By->Option R):Option R:=cond (ltN v 65536) (cond ((16:Int)==16) (a (Ba (f6 v))) none) none
theorem Cd2(d:Nat)(v):evC (Af5 L) (d+1) Z Y 128 [p64 v,pI (16:Int)] [] s=Cd1 L v (λa=>some (pS a,[],s)):=by refine(evE (fn:=Tryz.f128) (by kernel_rfl)).trans ?_;generalize evC (Af5 L) d=Q;unfold Cd1;kernel_rfl
end
end
end Go.Proofs.YtcfingekgbbclaaGreatDoor.E
namespace Go.Proofs
open Go.Shelf
def Tryz.lays156_ren:v8:=⟨fun|156=>111|165=>142|166=>143|169=>144|240=>171|241=>172|276=>184|277=>185|n=>n,fun|31=>54|9=>9|3=>3|4=>4|0=>0|20=>20|72=>121|76=>125|70=>119|37=>38|75=>124|127=>149|164=>157|5=>5|80=>127|n=>n,fun|n=>n⟩
theorem Tryz.lays156:ar2 a8 Tryz.lays156_ren:={
 mixed:=by kernel_rfl
 f156:=Tryz.func111.trans (congrArg some (by kernel_rfl))
 f165:=Tryz.func142.trans (congrArg some (by kernel_rfl))
 f166:=Tryz.func143.trans (congrArg some (by kernel_rfl))
 f169:=Tryz.func144.trans (congrArg some (by kernel_rfl))
 f240:=Tryz.func171.trans (congrArg some (by kernel_rfl))
 f241:=Tryz.func172.trans (congrArg some (by kernel_rfl))
 f276:=Tryz.func184.trans (congrArg some (by kernel_rfl))
 f277:=Tryz.func185.trans (congrArg some (by kernel_rfl))
 t0:=v7
 a0:=ab6
 z0:=ab0
 v0:=x3
 t3:=k9
 a3:=y4
 z3:=w6
 v3:=m9
 t4:=o0
 a4:=aa2
 z4:=x7
 v4:=o7
 t9:=p6
 a9:=aa8
 z9:=aa4
 v9:=s8
 t20:=ak0
 a20:=ap5
 z20:=am9
 v20:=ak7
 t31:=Tryz.underlying54
 a31:=Tryz.isAgg54
 z31:=Tryz.sizeOf54
 v31:=Tryz.zeroValue54
 t37:=ak1
 a37:=ap6
 z37:=an0
 v37:=ak8
 t70:=Tryz.underlying119
 a70:=Tryz.isAgg119
 z70:=Tryz.sizeOf119
 v70:=Tryz.zeroValue119
 t72:=Tryz.underlying121
 a72:=Tryz.isAgg121
 z72:=Tryz.sizeOf121
 v72:=Tryz.zeroValue121
 t75:=Tryz.underlying124
 a75:=Tryz.isAgg124
 z75:=Tryz.sizeOf124
 v75:=Tryz.zeroValue124
 t76:=Tryz.underlying125
 a76:=Tryz.isAgg125
 z76:=Tryz.sizeOf125
 v76:=Tryz.zeroValue125
 t127:=Tryz.underlying149
 a127:=Tryz.isAgg149
 z127:=Tryz.sizeOf149
 v127:=Tryz.zeroValue149
 t164:=Tryz.underlying157
 a164:=Tryz.isAgg157
 z164:=Tryz.sizeOf157
 v164:=Tryz.zeroValue157 }
theorem Tryz.Builder_Extra_156:Builder.Extra a8 Tryz.lays156_ren:={
 sizeBuilder:=by kernel_rfl
 liesBuilder:=by kernel_rfl
 t5:=p5
 a5:=aa7
 z5:=aa3
 v5:=s7
 infoByte:=by kernel_rfl
 cellsByte:=by kernel_rfl
 sizeByte:=by kernel_rfl
 neB5:=by decide }
def Tryz.lays195_ren:v8:=⟨fun|195=>140|n=>n,fun|9=>9|3=>3|0=>0|4=>4|n=>n,fun|n=>n⟩
theorem Tryz.lays195:ar3 a8 Tryz.lays195_ren:={
 mixed:=by kernel_rfl
 f195:=ap0.trans (congrArg some (by kernel_rfl))
 t0:=v7
 a0:=ab6
 z0:=ab0
 v0:=x3
 t3:=k9
 a3:=y4
 z3:=w6
 v3:=m9
 t4:=o0
 a4:=aa2
 z4:=x7
 v4:=o7
 t9:=p6
 a9:=aa8
 z9:=aa4
 v9:=s8 }
def Tryz.laysM171_ren:v8:=⟨fun|171=>51|243=>69|246=>97|283=>129|284=>130|285=>131|286=>132|129=>159|317=>158|318=>160|319=>161|320=>162|337=>177|338=>178|n=>n,fun|3=>3|9=>9|2=>2|4=>4|171=>113|0=>0|53=>112|37=>38|5=>5|173=>116|212=>137|51=>23|20=>20|213=>138|46=>53|232=>161|233=>162|n=>n,fun|17=>1|18=>4|19=>5|n=>n⟩
theorem Tryz.laysM171:ap8 a8 Tryz.laysM171_ren:={
 mixed:=by kernel_rfl
 f129:=Tryz.func159.trans (congrArg some (by kernel_rfl))
 f171:=Tryz.func51.trans (congrArg some (by kernel_rfl))
 f243:=Tryz.func69.trans (congrArg some (by kernel_rfl))
 f246:=Tryz.func97.trans (congrArg some (by kernel_rfl))
 f283:=Tryz.func129.trans (congrArg some (by kernel_rfl))
 f284:=Tryz.func130.trans (congrArg some (by kernel_rfl))
 f285:=Tryz.func131.trans (congrArg some (by kernel_rfl))
 f286:=Tryz.func132.trans (congrArg some (by kernel_rfl))
 f317:=Tryz.func158.trans (congrArg some (by kernel_rfl))
 f318:=Tryz.func160.trans (congrArg some (by kernel_rfl))
 f319:=Tryz.func161.trans (congrArg some (by kernel_rfl))
 f320:=ap2.trans (congrArg some (by kernel_rfl))
 f337:=ap3.trans (congrArg some (by kernel_rfl))
 f338:=ap4.trans (congrArg some (by kernel_rfl))
 t0:=v7
 a0:=ab6
 z0:=ab0
 v0:=x3
 t2:=Tryz.underlying2
 a2:=Tryz.isAgg2
 z2:=Tryz.sizeOf2
 v2:=Tryz.zeroValue2
 t3:=k9
 a3:=y4
 z3:=w6
 v3:=m9
 t4:=o0
 a4:=aa2
 z4:=x7
 v4:=o7
 t5:=p5
 a5:=aa7
 z5:=aa3
 v5:=s7
 t9:=p6
 a9:=aa8
 z9:=aa4
 v9:=s8
 t20:=ak0
 a20:=ap5
 z20:=am9
 v20:=ak7
 t37:=ak1
 a37:=ap6
 z37:=an0
 v37:=ak8
 t46:=w9
 a46:=ab8
 z46:=ab3
 v46:=y6
 t51:=ab4
 a51:=ae0
 z51:=ad5
 v51:=ab9
 t53:=ae5
 a53:=ai2
 z53:=ah2
 v53:=af1
 t171:=Tryz.underlying113
 a171:=Tryz.isAgg113
 z171:=Tryz.sizeOf113
 v171:=Tryz.zeroValue113
 t173:=Tryz.underlying116
 a173:=Tryz.isAgg116
 z173:=Tryz.sizeOf116
 v173:=Tryz.zeroValue116
 t212:=Tryz.underlying137
 a212:=Tryz.isAgg137
 z212:=Tryz.sizeOf137
 v212:=Tryz.zeroValue137
 t213:=Tryz.underlying138
 a213:=Tryz.isAgg138
 z213:=Tryz.sizeOf138
 t232:=ai6
 a232:=am7
 z232:=am1
 v232:=ak2
 t233:=ai7
 a233:=am8
 z233:=am2
 v233:=Tryz.zeroValue162
 g17:=by kernel_rfl
 g18:=by kernel_rfl
 g19:=by kernel_rfl
 i0:=by kernel_rfl
 i2:=by kernel_rfl
 i3:=by kernel_rfl
 i4:=by kernel_rfl
 i5:=by kernel_rfl
 i9:=by kernel_rfl
 i20:=by kernel_rfl
 i37:=by kernel_rfl
 i46:=by kernel_rfl
 i51:=by kernel_rfl
 i53:=by kernel_rfl
 i171:=by kernel_rfl
 i173:=by kernel_rfl
 i212:=by kernel_rfl
 i232:=by kernel_rfl
 i233:=by kernel_rfl
 m17:=by kernel_rfl
 m18:=by kernel_rfl
 m19:=by kernel_rfl }
def Tryz.lays143_ren:v8:=⟨fun|143=>154|219=>99|217=>100|225=>103|224=>102|267=>133|266=>134|314=>163|n=>n,fun|9=>9|3=>3|4=>4|5=>5|46=>53|146=>140|51=>23|n=>n,fun|1=>0|n=>n⟩
theorem Tryz.lays143:aq9 a8 Tryz.lays143_ren:={
 mixed:=by kernel_rfl
 f143:=ap1.trans (congrArg some (by kernel_rfl))
 f217:=ad8.trans (congrArg some (by kernel_rfl))
 f219:=al1.trans (congrArg some (by kernel_rfl))
 f224:=af9.trans (congrArg some (by kernel_rfl))
 f225:=ag0.trans (congrArg some (by kernel_rfl))
 f266:=ad9.trans (congrArg some (by kernel_rfl))
 f267:=aj8.trans (congrArg some (by kernel_rfl))
 f314:=aj9.trans (congrArg some (by kernel_rfl))
 t3:=k9
 a3:=y4
 z3:=w6
 v3:=m9
 t4:=o0
 a4:=aa2
 z4:=x7
 v4:=o7
 t5:=p5
 a5:=aa7
 z5:=aa3
 v5:=s7
 t9:=p6
 a9:=aa8
 z9:=aa4
 v9:=s8
 t46:=w9
 a46:=ab8
 z46:=ab3
 v46:=y6
 t51:=ab4
 a51:=ae0
 z51:=ad5
 v51:=ab9
 t146:=ae6
 a146:=ai3
 z146:=ah3
 v146:=af2
 g1:=by kernel_rfl }
def Tryz.lays145_ren:v8:=⟨fun|145=>54|220=>72|219=>99|217=>100|225=>103|224=>102|267=>133|266=>134|314=>163|n=>n,fun|9=>9|4=>4|59=>57|3=>3|5=>5|46=>53|146=>140|51=>23|n=>n,fun|1=>0|n=>n⟩
theorem Tryz.lays145:ar0 a8 Tryz.lays145_ren:={
 mixed:=by kernel_rfl
 f145:=Tryz.func54.trans (congrArg some (by kernel_rfl))
 f217:=ad8.trans (congrArg some (by kernel_rfl))
 f219:=al1.trans (congrArg some (by kernel_rfl))
 f220:=Tryz.func72.trans (congrArg some (by kernel_rfl))
 f224:=af9.trans (congrArg some (by kernel_rfl))
 f225:=ag0.trans (congrArg some (by kernel_rfl))
 f266:=ad9.trans (congrArg some (by kernel_rfl))
 f267:=aj8.trans (congrArg some (by kernel_rfl))
 f314:=aj9.trans (congrArg some (by kernel_rfl))
 t3:=k9
 a3:=y4
 z3:=w6
 v3:=m9
 t4:=o0
 a4:=aa2
 z4:=x7
 v4:=o7
 t5:=p5
 a5:=aa7
 z5:=aa3
 v5:=s7
 t9:=p6
 a9:=aa8
 z9:=aa4
 v9:=s8
 t46:=w9
 a46:=ab8
 z46:=ab3
 v46:=y6
 t51:=ab4
 a51:=ae0
 z51:=ad5
 v51:=ab9
 t59:=Tryz.underlying57
 a59:=Tryz.isAgg57
 z59:=Tryz.sizeOf57
 v59:=Tryz.zeroValue57
 t146:=ae6
 a146:=ai3
 z146:=ah3
 v146:=af2
 g1:=by kernel_rfl }
def Tryz.lays138_ren:v8:=⟨fun|138=>166|195=>140|218=>181|143=>154|219=>99|217=>100|225=>103|224=>102|267=>133|266=>134|314=>163|n=>n,fun|9=>9|3=>3|4=>4|5=>5|0=>0|46=>53|146=>140|51=>23|n=>n,fun|1=>0|n=>n⟩
theorem Tryz.lays138:aq8 a8 Tryz.lays138_ren:={
 mixed:=by kernel_rfl
 f138:=Tryz.func166.trans (congrArg some (by kernel_rfl))
 f143:=ap1.trans (congrArg some (by kernel_rfl))
 f195:=ap0.trans (congrArg some (by kernel_rfl))
 f217:=ad8.trans (congrArg some (by kernel_rfl))
 f218:=Tryz.func181.trans (congrArg some (by kernel_rfl))
 f219:=al1.trans (congrArg some (by kernel_rfl))
 f224:=af9.trans (congrArg some (by kernel_rfl))
 f225:=ag0.trans (congrArg some (by kernel_rfl))
 f266:=ad9.trans (congrArg some (by kernel_rfl))
 f267:=aj8.trans (congrArg some (by kernel_rfl))
 f314:=aj9.trans (congrArg some (by kernel_rfl))
 t0:=v7
 a0:=ab6
 z0:=ab0
 v0:=x3
 t3:=k9
 a3:=y4
 z3:=w6
 v3:=m9
 t4:=o0
 a4:=aa2
 z4:=x7
 v4:=o7
 t5:=p5
 a5:=aa7
 z5:=aa3
 v5:=s7
 t9:=p6
 a9:=aa8
 z9:=aa4
 v9:=s8
 t46:=w9
 a46:=ab8
 z46:=ab3
 v46:=y6
 t51:=ab4
 a51:=ae0
 z51:=ad5
 v51:=ab9
 t146:=ae6
 a146:=ai3
 z146:=ah3
 v146:=af2
 g1:=by kernel_rfl }
def Tryz.lays196_ren:v8:=⟨fun|196=>139|259=>167|n=>n,fun|9=>9|4=>4|3=>3|5=>5|12=>12|119=>144|0=>0|46=>53|139=>147|138=>146|53=>112|n=>n,fun|3=>2|4=>3|n=>n⟩
theorem Tryz.lays196:ar4 a8 Tryz.lays196_ren:={
 mixed:=by kernel_rfl
 f196:=Tryz.func139.trans (congrArg some (by kernel_rfl))
 f259:=Tryz.func167.trans (congrArg some (by kernel_rfl))
 t0:=v7
 a0:=ab6
 z0:=ab0
 v0:=x3
 t3:=k9
 a3:=y4
 z3:=w6
 v3:=m9
 t4:=o0
 a4:=aa2
 z4:=x7
 v4:=o7
 t5:=p5
 a5:=aa7
 z5:=aa3
 v5:=s7
 t9:=p6
 a9:=aa8
 z9:=aa4
 v9:=s8
 t12:=Tryz.underlying12
 a12:=Tryz.isAgg12
 z12:=Tryz.sizeOf12
 v12:=Tryz.zeroValue12
 t46:=w9
 a46:=ab8
 z46:=ab3
 v46:=y6
 t53:=ae5
 a53:=ai2
 z53:=ah2
 v53:=af1
 t119:=Tryz.underlying144
 a119:=Tryz.isAgg144
 z119:=Tryz.sizeOf144
 t138:=Tryz.underlying146
 a138:=Tryz.isAgg146
 z138:=Tryz.sizeOf146
 v138:=Tryz.zeroValue146
 t139:=Tryz.underlying147
 a139:=Tryz.isAgg147
 z139:=Tryz.sizeOf147
 v139:=Tryz.zeroValue147
 g3:=by kernel_rfl
 g4:=by kernel_rfl }
def Tryz.lays2_21_ren:v8:=⟨fun|21=>187|27=>190|28=>191|35=>192|39=>193|n=>n,fun|22=>105|3=>3|4=>4|0=>0|n=>n,fun|n=>n⟩
theorem Tryz.lays2_21:ar5 a8 Tryz.lays2_21_ren:={
 mixed:=by kernel_rfl
 f21:=Tryz.func187.trans (congrArg some (by kernel_rfl))
 f27:=Tryz.func190.trans (congrArg some (by kernel_rfl))
 f28:=Tryz.func191.trans (congrArg some (by kernel_rfl))
 f35:=Tryz.func192.trans (congrArg some (by kernel_rfl))
 f39:=Tryz.func193.trans (congrArg some (by kernel_rfl))
 t0:=v7
 a0:=ab6
 z0:=ab0
 v0:=x3
 t3:=k9
 a3:=y4
 z3:=w6
 v3:=m9
 t4:=o0
 a4:=aa2
 z4:=x7
 v4:=o7
 t22:=Tryz.underlying105
 a22:=Tryz.isAgg105
 z22:=Tryz.sizeOf105
 v22:=Tryz.zeroValue105
 i3:=by kernel_rfl }
def Tryz.lays7_27_ren:v8:=⟨fun|27=>162|28=>177|29=>178|n=>n,fun|25=>53|3=>3|27=>23|22=>112|4=>4|53=>161|0=>0|5=>5|54=>162|n=>n,fun|0=>4|1=>5|n=>n⟩
theorem Tryz.lays7_27:ar6 a8 Tryz.lays7_27_ren:={
 mixed:=by kernel_rfl
 f27:=ap2.trans (congrArg some (by kernel_rfl))
 f28:=ap3.trans (congrArg some (by kernel_rfl))
 f29:=ap4.trans (congrArg some (by kernel_rfl))
 t0:=v7
 a0:=ab6
 z0:=ab0
 v0:=x3
 i0:=by kernel_rfl
 t3:=k9
 a3:=y4
 z3:=w6
 v3:=m9
 i3:=by kernel_rfl
 t4:=o0
 a4:=aa2
 z4:=x7
 v4:=o7
 i4:=by kernel_rfl
 t5:=p5
 a5:=aa7
 z5:=aa3
 v5:=s7
 i5:=by kernel_rfl
 t22:=ae5
 a22:=ai2
 z22:=ah2
 v22:=af1
 i22:=by kernel_rfl
 t25:=w9
 a25:=ab8
 z25:=ab3
 v25:=y6
 i25:=by kernel_rfl
 t27:=ab4
 a27:=ae0
 z27:=ad5
 v27:=ab9
 i27:=by kernel_rfl
 t53:=ai6
 a53:=am7
 z53:=am1
 v53:=ak2
 i53:=by kernel_rfl
 t54:=ai7
 a54:=am8
 z54:=am2
 g0:=by kernel_rfl
 g1:=by kernel_rfl }
def Tryz.lays137_ren:v8:=⟨fun|137=>73|217=>100|266=>134|n=>n,fun|9=>9|5=>5|3=>3|n=>n,fun|n=>n⟩
theorem Tryz.lays137:aq7 a8 Tryz.lays137_ren:={
 mixed:=by kernel_rfl
 f137:=aq3.trans (congrArg some (by kernel_rfl))
 f217:=ad8.trans (congrArg some (by kernel_rfl))
 f266:=ad9.trans (congrArg some (by kernel_rfl))
 t3:=k9
 a3:=y4
 z3:=w6
 v3:=m9
 t5:=p5
 a5:=aa7
 z5:=aa3
 v5:=s7
 t9:=p6
 a9:=aa8
 z9:=aa4
 v9:=s8 }
def Tryz.lays153_ren:v8:=⟨fun|153=>58|152=>75|226=>76|227=>77|228=>78|137=>73|119=>101|224=>102|225=>103|217=>100|266=>134|n=>n,fun|9=>9|3=>3|4=>4|5=>5|21=>21|117=>73|116=>72|0=>0|46=>53|124=>98|n=>n,fun|n=>n⟩
theorem Tryz.lays153:ar1 a8 Tryz.lays153_ren:={
 mixed:=by kernel_rfl
 f119:=Tryz.func101.trans (congrArg some (by kernel_rfl))
 f137:=aq3.trans (congrArg some (by kernel_rfl))
 f152:=Tryz.func75.trans (congrArg some (by kernel_rfl))
 f153:=Tryz.func58.trans (congrArg some (by kernel_rfl))
 f217:=ad8.trans (congrArg some (by kernel_rfl))
 f224:=af9.trans (congrArg some (by kernel_rfl))
 f225:=ag0.trans (congrArg some (by kernel_rfl))
 f226:=Tryz.func76.trans (congrArg some (by kernel_rfl))
 f227:=Tryz.func77.trans (congrArg some (by kernel_rfl))
 f228:=Tryz.func78.trans (congrArg some (by kernel_rfl))
 f266:=ad9.trans (congrArg some (by kernel_rfl))
 t0:=v7
 a0:=ab6
 z0:=ab0
 v0:=x3
 t3:=k9
 a3:=y4
 z3:=w6
 v3:=m9
 t4:=o0
 a4:=aa2
 z4:=x7
 v4:=o7
 t5:=p5
 a5:=aa7
 z5:=aa3
 v5:=s7
 t9:=p6
 a9:=aa8
 z9:=aa4
 v9:=s8
 t21:=Tryz.underlying21
 a21:=Tryz.isAgg21
 z21:=Tryz.sizeOf21
 v21:=Tryz.zeroValue21
 t46:=w9
 a46:=ab8
 z46:=ab3
 v46:=y6
 t116:=Tryz.underlying72
 a116:=Tryz.isAgg72
 z116:=Tryz.sizeOf72
 t117:=Tryz.underlying73
 a117:=Tryz.isAgg73
 z117:=Tryz.sizeOf73
 v117:=Tryz.zeroValue73
 t124:=Tryz.underlying98
 a124:=Tryz.isAgg98
 z124:=Tryz.sizeOf98
 v124:=Tryz.zeroValue98 }
end Go.Proofs
namespace Go.Proofs.YtcfingekgbbclaaGreatDoor.E
set_option linter.all false
section
open Go Go.Proofs Go.Sort
set_option maxRecDepth 100000
theorem QG{C:Cfg}{St:Nat->Prop}{w:World}{g:Nat}{k:IntKind}{zs:List Int}(a:GOK C St w)(b:C.G=GX)(h:GX.tab g=some (k,zs)):∃e x,w.heap[g]? = some (.cells (zs.map λz=>ac0 k z).toArray e x):=(a.1 g k zs (by rw[b];exact h)).2
theorem Bv2{C:Cfg}{St:Nat->Prop}{w:World}(a:GOK C St w)(b:C.G=GX):∃m,w.cell? ⟨0,0,none⟩=some (.int .i64 m):=(a.2 _ (by rw[b];rfl)).2
theorem BO{w:World}{g:Nat}{a:List Int}{k:IntKind}{e:TypeId}{x}(h:w.heap[g]? = some (.cells (a.map λz=>ac0 k z).toArray e x))(i:Nat)(b:i<a.length):w.cell? ⟨g,i,none⟩=some (.int k (a.getD i 0)):=by simp[aq5,h,c9,f8 b]
theorem Cd4{C:Cfg}{St:Nat->Prop}{w:World}(f:GOK C St w)(a:C.G=GX):Lib.Utf8Tabs 2 3 w:=by
 obtain⟨j,m,h⟩:=QG (g:=2) (k:=.u8) (zs:=ad7) f a rfl;obtain⟨b,n,d⟩:=QG (g:=3) (k:=.u8) (zs:=Fc) f a rfl;refine⟨λc a=>?_,λi l=>⟨?_,?_⟩⟩
 ·rw[BO h c (by simp[ad7];omega)];simp[ad7,c9,f8,a]
 ·rw[BO d (2*i) (by simp[Fc];omega)];have:2*i<32:=by omega
  simp[Fc,c9,this]
 ·rw[BO d (2*i+1) (by simp[Fc];omega)];have:2*i+1<32:=by omega
  have e:(2*i+1) / 2=i:=by omega
  have b:¬(2*i+1) % 2=0:=by omega
  simp[Fc,c9,this,e,b]
theorem Bv3{C:Cfg}{St:Nat->Prop}{w:World}(b:GOK C St w)(c:C.G=GX):Lib.TabIs a8 w "internal/strconv.uint64pow10" .u64 af7:=by
 obtain⟨d,e,a⟩:=QG (g:=1) (k:=.u64) (zs:=af7) b c rfl;unfold Lib.TabIs ar7
 rw [show a8.globalNamed "internal/strconv.uint64pow10" = some 1 by kernel_rfl]
 simp only[ak4,a]
theorem A11:B0 a8 GX 154 DT:=by
 refine B0.fix (pf:=OC) _ (I2 (fn:=Tryz.f154) (by kernel_rfl) (by kernel_rfl) (by kernel_rfl) ?_);intro args ret o h;unfold OC at h;split at h
 ·rename_i s p;obtain⟨b,h⟩:=B8 h;obtain⟨rfl,rfl⟩:=I7 h;refine⟨rfl,rfl,λC r a t w q c f d=>?_⟩;obtain⟨U,V,rfl,j,k⟩:=d.arr2;obtain⟨n,rfl,rfl⟩:=j.inv_str;obtain⟨l,rfl,rfl⟩:=k.inv_str;obtain⟨m,g⟩:=Bv2 c a;have i:=L6 b;refine(Any.strings_Index Tryz.lays143 n l m w (by simp at i;omega) g).mono ?_;rintro e w' ⟨rfl,rfl⟩;exact⟨_,rfl,ad2 _ _,VP.mk_int _ _⟩
 ·cases h
theorem B88:B0 a8 GX 54 Ad4:=by
 refine B0.fix (pf:=OB) _ (I2 (fn:=Tryz.f54) (by kernel_rfl) (by kernel_rfl) (by kernel_rfl) ?_);intro args ret q h;unfold OB at h;split at h
 ·rename_i s p;obtain⟨b,h⟩:=B8 h;obtain⟨rfl,rfl⟩:=I7 h;refine⟨rfl,rfl,λC t a u w r c f d=>?_⟩;obtain⟨U,V,rfl,j,k⟩:=d.arr2;obtain⟨o,rfl,rfl⟩:=j.inv_str;obtain⟨l,rfl,rfl⟩:=k.inv_str;obtain⟨m,g⟩:=Bv2 c a;have i:=L6 b;refine(Any.strings_Cut Tryz.lays145 o l m w (by simp at i;omega) g).mono ?_;rintro e w' ⟨rfl,n,rfl⟩;exact⟨_,rfl,Mt _ _,VP.mk_tup3 (VP.mk_str _) (VP.mk_str _) (VP.mk_bool _)⟩
 ·cases h
theorem B87:B0 a8 GX 166 Ad3:=by
 refine B0.fix (pf:=OA) _ (I2 (fn:=Tryz.f166) (by kernel_rfl) (by kernel_rfl) (by kernel_rfl) ?_);intro args ret o h;unfold OA at h;split at h
 ·rename_i s p;obtain⟨f,h⟩:=B8 h;obtain⟨rfl,rfl⟩:=I7 h;refine⟨rfl,rfl,λC t g u w q r j i=>?_⟩;obtain⟨U,V,rfl,l,m⟩:=i.arr2;obtain⟨n,rfl,rfl⟩:=l.inv_str;obtain⟨b,rfl,k⟩:=m.inv_str;obtain⟨c,rfl⟩:∃c,p=[c]:=by
   match p,f with
   | [c],_=>exact⟨c,rfl⟩
  have a:b=⟨#[c]⟩:=by
   cases b with
   | mk d=>congr 1;exact Array.toList_inj.1 k
  subst a;refine(Any.strings_Count_one Tryz.lays138 n c w).mono ?_;rintro e w' ⟨rfl,rfl⟩;exact⟨_,rfl,ad2 _ _,VP.mk_int _ _⟩
 ·cases h
theorem B77:B0 a8 GX 51 Ac2:=by
 refine B0.fix (pf:=MY) _ (I2 (fn:=Tryz.f51) (by kernel_rfl) (by kernel_rfl) (by kernel_rfl) ?_);intro args ret l h;unfold MY at h;split at h
 ·rename_i n;obtain⟨b,h⟩:=B8 h;obtain⟨rfl,rfl⟩:=I7 h;refine⟨rfl,rfl,λC o a p w m c i g=>?_⟩;obtain⟨U,rfl,j⟩:=g.arr1;obtain rfl:=j.inv_int;obtain⟨d,f⟩:=E6.1 b;refine(Any.strconv_Itoa Tryz.laysM171 n (by omega) (by omega) w (Bv3 c a)).mono ?_;rintro e w' ⟨rfl,k,os,rfl⟩;refine⟨_,rfl,(Mt w k).trans (show ao9 w.heap.size _ _ from EJ (w.drewN k) os),?_⟩;have:Lib.itoa n=ah8 n.toNat:=by unfold Lib.itoa;rw[F8]
  rw[this];exact VP.mk_str _
 ·cases h
theorem Cl8{l:LL}(h:l.all isS=true):l=D4 (l.map elS):=by
 unfold D4;rw[ab7]
 symm
 rw[x6 (g:=id)]
 ·simp
 ·intro x a;have:=o9.1 h x a;unfold isS at this;split at this
  ·rfl
  grind
theorem Ba1:B0 a8 GX 111 OF:=by
 refine B0.fix (pf:=DW) _ (I2 (fn:=Tryz.f111) (by kernel_rfl) (by kernel_rfl) (by kernel_rfl) ?_);intro args ret Hc h;unfold DW at h;split at h
 ·rename_i z t l p;obtain⟨L,h⟩:=B8 h;obtain⟨O,h⟩:=B8 h;obtain⟨P,h⟩:=B8 h;obtain⟨rfl,rfl⟩:=I7 h;refine⟨rfl,rfl,λC hP Q Γ w Vs hG H R=>?_⟩;obtain⟨U,V,rfl,Z,hv⟩:=R.arr2;obtain⟨u,rfl,rfl⟩:=hv.inv_str;have m:=L6 O;have hn:=L6 P;have Y:=Z.inv_s;have c:∀(a:Option Addr) (cap:Nat),l=[]->Calls a8 111 #[.slice a 0 cap,.string u] w λe w'=>∃V,e = .returned V/\ao9 w.heap.size w w'/\VP Γ (A5 []) w' (.s (.str (aa0 (l.map elS) u.data.toList))) V:=by
   intro a cap T;subst T;refine(Any.strings_Join_none Tryz.lays156 Tryz.Builder_Extra_156 a cap u w).mono ?_;rintro e w' ⟨rfl,rfl⟩;exact⟨_,rfl,ad2 _ _,VP.mk_str _⟩
  cases Y with
  | nil=>exact c _ _ rfl
  | emp=>exact c _ _ rfl
  | sl _ _ g off n cap sz Vc I M hm ht S W y K=>
   subst I;have N:=Cl8 L;have J:∀i (h:i<l.length),∃b:ByteArray,(l[i])=[SV.str b.data.toList]/\w.cell? ⟨g,off+i,none⟩=some (.string b):=by
    intro i B;have d:=o9.1 L (l[i]) (List.getElem_mem B);unfold isS at d;split at d
    ·rename_i x r;have k:=y i B 0 (by rw[r];simp);have o:=K i B 0 (by rw[r];simp);simp only[r,List.getElem_cons_zero] at o;obtain⟨b,f,rfl⟩:=o.inv_str;rw[f] at k;exact⟨b,r,by simpa using k⟩
    ·cases d
   obtain⟨xs,q,A⟩:∃xs:List ByteArray,xs.map (·.data.toList)=l.map elS/\∀(j:Nat) x,xs[j]? = some x->w.cell? ⟨g,off+j,none⟩=some (.string x):=by
    refine⟨(l.map elS).map λs=>⟨s.toArray⟩,by simp[ae8],?_⟩;intro j x d;simp only[ad1] at d;cases D:l[j]? with
    | none=>simp[D] at d
    | some el=>
     obtain⟨F,rfl⟩:=List.getElem?_eq_some_iff.1 D;obtain⟨b,f,v⟩:=J j F;simp only[D,p9,f0] at d;rw[f] at d;simp[elS,SV.gS] at d;rw[<-d];exact v
   have G:xs.length=l.length:=by
    have:=congrArg j0 q;simpa using this
   rw[<-q] at m ⊢;have f:g<w.heap.size:=H g S;have X:l.length<=140737488355328:=by omega
   refine(G▸Any.strings_Join Tryz.lays156 Tryz.Builder_Extra_156 g off cap xs u w A f (by omega) (by omega) (by omega)).mono ?_;rintro e w' ⟨rfl,hw⟩;exact⟨_,rfl,hw,VP.mk_str _⟩
 ·cases h
theorem A08(b:Nat)(f:b<=9223372036854775808):B0 a8 GX 53 (Jr b):=by
 induction b with
 | zero=>
  intro args ret c h;exfalso;unfold Jr Gs at h;split at h
  ·rename_i n g;obtain⟨a,h⟩:=B8 h;have:=E6.1 a;omega
  ·cases h
 | succ b d=>
  refine B0.fix (pf:=Gs (b+1)) _ (I4 [] (C₀:=Xj b) (L1.ok (l:=[(53,Jr b)]) rfl ⟨d (by omega),trivial⟩) (H7 rfl (by kernel_rfl)) follows ?_);intro args ret c h;unfold Gs at h;split at h
  ·rename_i n;obtain⟨a,h⟩:=B8 h;obtain⟨rfl,rfl⟩:=I7 h;have e:=(Ai9 b noY () 0 n).trans (QE b (by omega) n a);exact⟨rfl,rfl,rfl,1,_,_,e,rfl⟩
  ·cases h
theorem Bo2:B0 a8 GX 53 JE:=A08 4294967296 (by omega)
theorem C29(x:Nat)(h:x<65536):Ae7 .u64 (x:Int) 15=((x % 16:Nat):Int):=by unfold Ae7;rw[show IntKind.bits .u64=64 from rfl,show(15:Int)=((15:Nat):Int) from rfl,Cs5 64 x 15 (by omega) (by omega),show x &&& 15=x % 16 from Nat.and_two_pow_sub_one_eq_mod x 4];exact TM (by omega) (by omega)
theorem C67(x:Nat):SH .u64 (x:Int) 4=((x / 16:Nat):Int):=by unfold SH;show Int.fdiv (x:Int) 16=_;grind
theorem A48(d:Nat)(h:d<16):bAt (([48,49,50,51,52,53,54,55,56,57,97,98,99,100,101,102,103,104,105,106,107,108,109,110,111,112,113,114,115,116]:List UInt8)++([117,118,119,120,121,122]:List UInt8)) (d:Int)=((BD d).toNat:Int):=by
 have:∀d:Fin 16,bAt (([48,49,50,51,52,53,54,55,56,57,97,98,99,100,101,102,103,104,105,106,107,108,109,110,111,112,113,114,115,116]:List UInt8)++([117,118,119,120,121,122]:List UInt8)) (d.val:Int)=((BD d.val).toNat:Int):=by decide
 exact this ⟨d,h⟩
def Ri(i:Nat)(s:By):LL:=b8 i [SV.int .u8 0]++s.map D7
theorem FC(i:Nat)(s:By):(Ri i s).length=i+s.length:=by simp[Ri]
theorem UY(i:Nat)(s:By)(c:UInt8):ag9 (Ri (i+1) s) i (F3 (j1 (Ri (i+1) s) i []) 0 [SV.int .u8 (c.toNat:Int)])=Ri i (c::s):=by
 have a:j1 (Ri (i+1) s) i []=[SV.int .u8 0]:=by
  unfold Ri;grind
 rw[a];unfold Ri;rw[List.replicate_succ',m6,List.set_append_right _ _ (by simp),List.length_replicate,ao7];rfl
theorem Ai6{R:Type}(z t:Bool)(l:LL){e:Bool->Bool->LL->Int->Int->LL->Option R}:∀(v i n:Nat) (s:By),v<65536->v<n->i+s.length=65->(Ba v).length+s.length<=60->
  ∃(u a:Nat) (b:By),u<16/\BD u::b=Ba v++s/\a+b.length=65/\Iv LF n z t l (v:Int) (i:Int) (Ri i s) e=e z t l (u:Int) (a:Int) (Ri a b):=by
 intro v
 induction v using al4 with
 | _ v w=>
  intro i n s r y q x;obtain⟨n,rfl⟩:∃m,n=m+1:=⟨n-1,by omega⟩
  rw[Iv];by_cases h:v<16
  ·refine⟨v,i,s,h,by rw[Nb h];rfl,q,?_⟩;rw[A8];rfl
  ·have d:=Ot h;have c:(Ba v).length=(Ba (v / 16)).length+1:=by rw[d];simp
   obtain⟨j,rfl⟩:∃j,i=j+1:=⟨i-1,by omega⟩
   have f:A1 (((j+1:Nat):Int)-1)=(j:Int):=by rw[A7];omega
   obtain⟨u,a,b,g,k,o,p⟩:=w (v / 16) (by omega) j n (BD (v % 16)::s) (by omega) (by omega) (by rw[f7];omega) (by rw[f7];omega);refine⟨u,a,b,g,by rw[k,d];simp,o,?_⟩;rw[A6,d9,cond_true,C29 v r];simp only[vl];rw[C67,f,b9,E4,A48 _ (by omega),E4];simp only[cond_true];rw[UY,FC,show(decide (j<j+1+s.length))=true from decide_eq_true (by omega)];exact p
theorem Bc4{R:Type}{k0:By->LL->Option R}(z t:Bool)(l:LL)(v:Int)(f:ltN v 65536=true):∃p,VH LF z t l v k0=k0 (Ba v.toNat) p:=by
 obtain⟨d,m⟩:=E6.1 f;obtain⟨v,rfl⟩:=f9 d;have k:=C1;have r:=WA v (by omega);rw[b9];unfold VH;have o:(b8 65 [SV.int .u8 (0:Int)])=Ri 65 []:=by unfold Ri;rw[af8,o6]
 rw[o];obtain⟨u,i,s,g,c,q,h⟩:=Ai6 (R:=R) z t l v 65 LF [] (by omega) (by omega) rfl (by rw[p7];omega);rw[o6] at c;have n:s.length<=3:=by have:=congrArg j0 c;rw[f7] at this;omega
 obtain⟨j,rfl⟩:∃j,i=j+1:=⟨i-1,by omega⟩
 refine⟨Ri j (BD u::s),?_⟩;rw[show((16:Int)==16)=true from rfl,cond_true,cond_true];refine g6 h ?_;have e:A1 (((j+1:Nat):Int)-1)=(j:Int):=by rw[A7];omega
 simp only[vl];rw[e,b9,E4,A48 u g,E4];simp only[cond_true];have a:(BD u::s).length=s.length+1:=rfl;have b:((Ri j (BD u::s)).drop j).take (65-j)=(BD u::s).map D7:=by
  unfold Ri;rw[al2 (by simp),j4 (by rw[j2,a];omega)]
 rw[UY,FC,FC,show(decide (j<j+1+s.length))=true from decide_eq_true (by omega),a,show(decide (j+(s.length+1)=65))=true from decide_eq_true (by omega),H9,b,V4,V9,c];rfl
theorem Ai7(z t:Bool)(l:LL)(v:Int)(c:ltN v 65536=true):∃r H,VH LF z t l v (λb a=>rv (.tup [.fl 0,.s (.str b)]) [.arr true 5 1 [],.arr false 138 1 a])=rv r H/\r.stab [1,0] H = .tup [.s (.sl true true 1 []),.s (.str (Ba v.toNat))]:=by obtain⟨d,e⟩:=Bc4 (k0:=(λb a=>rv (.tup [.fl 0,.s (.str b)]) [.arr true 5 1 [],.arr false 138 1 a])) z t l v c;exact⟨_,_,e,rfl⟩
theorem Bc5{C:Cfg}{St:Nat->Prop}{w:World}(c:GOK C St w)(d:C.G=GX):TabAt 5 ac9 w:=by obtain⟨e,f,b⟩:=QG (g:=5) (k:=.u8) (zs:=ac9.map λn:Nat=>(n:Int)) c d rfl;intro j a;rw[BO b j (by rw[j2];exact a)];simp[c9,f8 a]
theorem C68:B0 a8 GX 162 Ct5:=by
 refine B0.fix (pf:=Br4) _ (I2 (fn:=Tryz.f162) (by kernel_rfl) (by kernel_rfl) (by kernel_rfl) ?_);intro args ret i h;unfold Br4 at h;split at h
 ·rename_i x;obtain⟨b,h⟩:=B8 h;obtain⟨rfl,rfl⟩:=I7 h;obtain rfl:x=16:=eq_of_beq b;refine⟨rfl,rfl,λC k a l w j c f d=>?_⟩;obtain⟨U,rfl,g⟩:=d.arr1;obtain rfl:=g.inv_int;refine(Any7.bits_TrailingZeros Tryz.lays7_27 16 (by omega) w (λ_=>Bc5 c a)).mono ?_;rintro e w' ⟨rfl,rfl⟩;exact⟨_,rfl,ad2 _ _,VP.mk_int _ _⟩
 ·cases h
theorem Co8:B0 a8 GX 161 MW:=by
 refine B0.fix (pf:=CQ) _ (I4 [] (C₀:=PG LF) (L1.ok (l:=[]) rfl trivial) (H7 rfl (by kernel_rfl)) follows ?_);intro args ret b h;unfold CQ at h;split at h
 ·rename_i x;obtain⟨a,h⟩:=B8 h;obtain⟨rfl,rfl⟩:=I7 h;obtain rfl:x=16:=eq_of_beq a;exact⟨rfl,rfl,rfl,1,_,_,Bw8 LF noY () 0,rfl⟩
 ·cases h
theorem Co4:B0 a8 GX 132 MM:=by
 refine B0.fix (pf:=CL) _ (I4 [1,0] (C₀:=Gu LF) (L1.ok (l:=[(161,MW),(162,Ct5)]) rfl ⟨Co8,C68,trivial⟩) (H7 rfl (by kernel_rfl)) follows ?_);intro args ret k h;unfold CL at h;split at h
 ·rename_i c a ds v b neg app;obtain⟨d,h⟩:=B8 h;obtain⟨f,h⟩:=B8 h;obtain⟨g,h⟩:=B8 h;obtain⟨i,h⟩:=B8 h;obtain⟨rfl,rfl⟩:=I7 h;obtain rfl:b=16:=eq_of_beq f;obtain rfl:neg=false:=by simpa using g
  obtain rfl:app=false:=by simpa using i
  obtain⟨r,H,e,j⟩:=Ai7 c a ds v d;exact⟨rfl,rfl,rfl,1,r,H,(Bu9 LF noY () 0 c a ds v).trans e,j⟩
 ·cases h
theorem Co7:B0 a8 GX 157 MV:=by
 refine B0.fix (pf:=CP) _ (I4 [] (C₀:=PE LF) (L1.ok (l:=[(132,MM)]) rfl ⟨Co4,trivial⟩) (H7 rfl (by kernel_rfl)) follows ?_);intro args ret f h;unfold CP at h;split at h
 ·rename_i v b;obtain⟨a,h⟩:=B8 h;obtain⟨c,h⟩:=B8 h;obtain⟨rfl,rfl⟩:=I7 h;obtain rfl:b=16:=eq_of_beq c;have e:A58 LF v (λd=>rv (.s (.str d)) [])=rv (.s (.str (Ba v.toNat))) []:=by
   unfold A58;rw[a];rfl
  exact⟨rfl,rfl,rfl,1,_,_,(Bw2 LF noY () 0 v).trans e,rfl⟩
 ·cases h
theorem Cz4:B0 a8 GX 128 Bp5:=by
 refine B0.fix (pf:=MN) _ (I4 [] (C₀:=Af5 LF) (L1.ok (l:=[(157,MV)]) rfl ⟨Co7,trivial⟩) (H7 rfl (by kernel_rfl)) follows ?_);intro args ret f h;unfold MN at h;split at h
 ·rename_i v b;obtain⟨a,h⟩:=B8 h;obtain⟨c,h⟩:=B8 h;obtain⟨rfl,rfl⟩:=I7 h;obtain rfl:b=16:=eq_of_beq c;have e:Cd1 LF v (λd=>rv (.s (.str d)) [])=rv (.s (.str (Ba v.toNat))) []:=by
   unfold Cd1;rw[a];rfl
  exact⟨rfl,rfl,rfl,1,_,_,(Cd2 LF noY () 0 v).trans e,rfl⟩
 ·cases h
end
section
open Go Go.Proofs
theorem Cy8(z t:Bool)(l:LL)(c:l.all Tx=true)(d:i6 l.length 8=true):∃r H,v6j LF z t l (λb a=>rv (.s (.str b)) [.arr true 9 1 a])=rv r H/\r.stab [] H = .s (.str (Dd (l.map elN))):=by obtain⟨f,e⟩:=B68 (k0:=(λb a=>rv (.s (.str b)) [.arr true 9 1 a])) z t l c d;exact⟨_,_,e,rfl⟩
theorem Cy6(a b c d f g h i:Int)(l:ok8 a b c d f g h i=true):∃r H,v6f LF a b c d f g h i (λk j=>rv (.s (.str k)) [.arr false 25 1 j])=rv r H/\r.stab [] H = .s (.str (AZ (n8 a b c d f g h i))):=by obtain⟨m,e⟩:=B66 (k0:=(λk j=>rv (.s (.str k)) [.arr false 25 1 j])) a b c d f g h i l;exact⟨_,_,e,rfl⟩
def v6V(s:By):PV:=.tup [.agg [.s (.int .u16 (v6c 0 s)),.s (.int .u16 (v6c 1 s)),.s (.int .u16 (v6c 2 s)),.s (.int .u16 (v6c 3 s)),.s (.int .u16 (v6c 4 s)),.s (.int .u16 (v6c 5 s)),.s (.int .u16 (v6c 6 s)),.s (.int .u16 (v6c 7 s))],.s (.bool (v6B s).isSome)]
theorem Cz1(s:By)(k:A3 s.length=true):∃r H,v6p LF s (λb c d f g h i j r8 a l10=>rv (.tup [.agg [.s (.int .u16 b),.s (.int .u16 c),.s (.int .u16 d),.s (.int .u16 f),.s (.int .u16 g),.s (.int .u16 h),.s (.int .u16 i),.s (.int .u16 j)],.s (.bool r8)]) [.arr false 25 1 a,.arr false 25 1 l10])=rv r H/\r.stab [0,0] H=v6V s:=by obtain⟨l,m,e⟩:=B69 (k0:=(λb c d f g h i j r8 a l10=>rv (.tup [.agg [.s (.int .u16 b),.s (.int .u16 c),.s (.int .u16 d),.s (.int .u16 f),.s (.int .u16 g),.s (.int .u16 h),.s (.int .u16 i),.s (.int .u16 j)],.s (.bool r8)]) [.arr false 25 1 a,.arr false 25 1 l10])) s k;exact⟨_,_,e,rfl⟩
theorem Cl2(s:By)(k:A3 s.length=true):∃r H,B31 LF s (λb c d f g h i j r8 a l10=>rv (.tup [.agg [.s (.int .u16 b),.s (.int .u16 c),.s (.int .u16 d),.s (.int .u16 f),.s (.int .u16 g),.s (.int .u16 h),.s (.int .u16 i),.s (.int .u16 j)],.s (.bool r8)]) [.arr false 25 1 a,.arr false 25 1 l10])=rv r H/\r.stab [0,0] H=v6V s:=by obtain⟨l,m,e⟩:=Bk5 (k0:=(λb c d f g h i j r8 a l10=>rv (.tup [.agg [.s (.int .u16 b),.s (.int .u16 c),.s (.int .u16 d),.s (.int .u16 f),.s (.int .u16 g),.s (.int .u16 h),.s (.int .u16 i),.s (.int .u16 j)],.s (.bool r8)]) [.arr false 25 1 a,.arr false 25 1 l10])) s k;exact⟨_,_,e,rfl⟩
set_option maxRecDepth 100000
section
variable {Z R : Type} (L : Nat) (Q : F6) (Y : Yh Z) (s : Z) (k : Out -> St Z -> Option R)
noncomputable abbrev UJ:Code:=C8 aq1
noncomputable def Fd(L:Nat):Cfg:=B7 L [81] (A4 [(16,[2,0,4,41,0,0])]) [(59,CO),(105,A18),(106,Bp7),(107,A36),(90,Od),(108,Bq5),(109,JJ),(110,Bq1),(111,OF)] (A4 [(28,[2,0]),(25,[2,0]),(27,[2,0]),(26,[2,10,64]),(24,[2,10,59]),(23,[2,10]),(22,[2,5,41,0,0]),(21,[2,5,41,0,0]),(20,[2,0]),(19,[2,5,0,1,0,37,0,0,10]),(18,[2,5,0,1,0,37,0,0]),(17,[2,5,0,0,39,0,0]),(16,[2,5,41,0,0,0]),(15,[2,5,41,0,0]),(14,[2,5]),(13,[2,0]),(12,[2,0]),(11,[2,3,37]),(10,[2,3,0]),(9,[2,1,32]),(8,[2,1]),(7,[2,0]),(6,[2,1,27]),(5,[2,1,0]),(2,[2,0]),(4,[2,0]),(3,[0,1,16]),(1,[0,1,11]),(0,[0,1])]) [59,106,107,90,108,110,111] (A4 [(3,[2,10]),(1,[2,5]),(2,[2,5,41,0,0]),(0,[0,1])]) (some [2,0]) [] [] []
noncomputable def R6{R:Type}(L n:Nat)(a:Nat)(i c:Int)(e:LL)(g:Int->LL->Option R)(h:Nat->LL->Option R):Option R:=match n with|0=>none|n+1=>cond (ltI c i) (cond (inR c a) (cond (okE Ps e (0+(f6 c)) 0) (vl (gX e (0+(f6 c)) 0) λb=>cond (A3 b.length) (vl (↑((I1 b)).2:Int) λd=>cond (d !=0) (g d e) (cond (inR c a) (cond (decide ((0+(f6 c))<e.length)) (vl (ag9 e (0+(f6 c)) (F3 (j1 e (0+(f6 c)) []) 0 [(SV.str ((I1 b)).1)])) λf=>R6 L n a i (A1 (c+1)) f g h) none) none)) none) none) none) (h a e)
theorem QH(n:Nat)(a:Nat)(d e:Int)(c:LL):C9 2 ((Fd L).keep 16) (bd (Fd L) Q Y (cd [1,1,1,1,1,1,1,0,1,0,0] UJ)) n ⟨gp [(2,.ptr 0 0 0),(5,.vw 1 0 a),(41,.vw 1 0 a),(0,pI d),(0,pI e)] 31,[.box [pI (0:Int),pS ([]:List UInt8),p32 (0:Int),p16 (0:Int),p16 (0:Int),p16 (0:Int),p16 (0:Int),p16 (0:Int),p16 (0:Int),p16 (0:Int),p16 (0:Int)],.arr false 9 1 c],s⟩ k =
 R6 L n a d e c (λn0 b=>k .ret ⟨gp [(2,.ptr 0 0 0),(0,pI n0)] 80,[.box [pI (0:Int),pS ([]:List UInt8),p32 (0:Int),p16 (0:Int),p16 (0:Int),p16 (0:Int),p16 (0:Int),p16 (0:Int),p16 (0:Int),p16 (0:Int),p16 (0:Int)],.arr false 9 1 b],s⟩) (λa b=>k (.exit 1) ⟨gp [(2,.ptr 0 0 0),(5,.vw 1 0 a)] 75,[.box [pI (0:Int),pS ([]:List UInt8),p32 (0:Int),p16 (0:Int),p16 (0:Int),p16 (0:Int),p16 (0:Int),p16 (0:Int),p16 (0:Int),p16 (0:Int),p16 (0:Int)],.arr false 9 1 b],s⟩):=by
 induction n generalizing a d e c with
 | zero=>rfl
 | succ n f=>rw[R6];simp only[<-f];kernel_rfl
noncomputable def Yc{R:Type}(L:Nat)(a:By)(t:Int->By->Int->Int->Int->Int->Int->Int->Int->Int->Int->Int->Int->By->Int->Int->Int->Int->Int->Int->Int->Int->Int->Option R)(y:Int->By->Int->Int->By->LL->Option R):Option R:=cond (ltI 1024 (a.length:Int)) (t 0 ([]:List UInt8) 0 0 0 0 0 0 0 0 0 3 0 ([]:List UInt8) 0 0 0 0 0 0 0 0 0) (cond (A3 a.length) (cond (ac4 ([91]:List UInt8) a) (cond (A3 a.length) (cond (Bw6 a) (vl (↑(B2.kind ((O9 a)).1):Int) λf=>vl (B2.name ((O9 a)).1) λr=>vl (↑(B2.v4 ((O9 a)).1):Int) λg=>vl (↑(j1 (B2.v6 ((O9 a)).1) 0 0):Int) λh=>vl (↑(j1 (B2.v6 ((O9 a)).1) 1 0):Int) λi=>vl (↑(j1 (B2.v6 ((O9 a)).1) 2 0):Int) λj=>vl (↑(j1 (B2.v6 ((O9 a)).1) 3 0):Int) λl=>vl (↑(j1 (B2.v6 ((O9 a)).1) 4 0):Int) λm=>vl (↑(j1 (B2.v6 ((O9 a)).1) 5 0):Int) λn=>vl (↑(j1 (B2.v6 ((O9 a)).1) 6 0):Int) λo=>vl (↑(j1 (B2.v6 ((O9 a)).1) 7 0):Int) λp=>vl (↑((O9 a)).2:Int) λw=>t f r g h i j l m n o p w f r g h i j l m n o p) none) none) (cond (A3 a.length) (cond (not (af4 (R1 a))) (t 0 ([]:List UInt8) 0 0 0 0 0 0 0 0 0 14 0 ([]:List UInt8) 0 0 0 0 0 0 0 0 0) (cond (A3 (j0 (Ed a))) (vl (TA (Ed a) ([46]:List UInt8)) λb=>cond (A3 b.length) (cond (F4 b) (cond (A3 b.length) (vl (↑(L9 (pnB b)):Int) λq=>cond (not (af4 (pnB b))) (t 0 ([]:List UInt8) 0 0 0 0 0 0 0 0 0 14 0 ([]:List UInt8) 0 0 0 0 0 0 0 0 0) (t 2 ([]:List UInt8) q 0 0 0 0 0 0 0 0 0 2 ([]:List UInt8) q 0 0 0 0 0 0 0 0)) none) (cond (A3 b.length) (cond (1==1) (vl (D4 (pcs (j1 ([46]:List UInt8) 0 0) b)) λu=>R6 L L (j0 (pcs (j1 ([46]:List UInt8) 0 0) b)) (↑(j0 (pcs (j1 ([46]:List UInt8) 0 0) b)):Int) 0 u (λx v=>y 0 ([]:List UInt8) x 0 ([]:List UInt8) v) (λc d=>cond (ae3 (aa6 c (ab2 0 d)) isS) (cond (A3 (j0 (aa0 (x5 elS (aa6 c (ab2 0 d))) ([46]:List UInt8)))) (cond (A3 (j0 (aa6 c (ab2 0 d)))) (vl (aa0 (x5 elS (aa6 c (ab2 0 d))) ([46]:List UInt8)) λe=>cond (ltI 253 (e.length:Int)) (y 0 ([]:List UInt8) 3 0 ([]:List UInt8) d) (cond (A3 e.length) (cond (F4 e) (y 0 ([]:List UInt8) 14 0 ([]:List UInt8) d) (y 1 e 0 1 e d)) none)) none) none) none)) none) none)) none) none)) none)) none)
theorem Bd0(d:Nat)(raw0):evC (Fd L) (d+1) Z Y 81 [pS raw0] [] s=Yc L raw0 (λo p t M N O P S r8 T q r c u e f g h i j l m n=>some (.tup [.agg [pI o,pS p,p32 t,p16 M,p16 N,p16 O,p16 P,p16 S,p16 r8,p16 T,p16 q],pI r],[.box [pI c,pS u,p32 e,p16 f,p16 g,p16 h,p16 i,p16 j,p16 l,p16 m,p16 n]],s)) (λo p t K U J=>some (.tup [.agg [pI o,pS p,p32 (0:Int),p16 (0:Int),p16 (0:Int),p16 (0:Int),p16 (0:Int),p16 (0:Int),p16 (0:Int),p16 (0:Int),p16 (0:Int)],pI t],[.box [pI K,pS U,p32 (0:Int),p16 (0:Int),p16 (0:Int),p16 (0:Int),p16 (0:Int),p16 (0:Int),p16 (0:Int),p16 (0:Int),p16 (0:Int)],.arr false 9 1 J],s)):=by refine(evE (fn:=aq1) (by kernel_rfl)).trans ?_;generalize evC (Fd L) d=Q;unfold Yc;exact(g6 (by kernel_rfl) (A0 rfl (A0 (A0 (A0 (A0 (A2 λv=>(A2 λI=>(A2 λw=>(A2 λx=>(A2 λy=>(A2 λz=>(A2 λA=>(A2 λB=>(A2 λC=>(A2 λD=>(A2 λF=>(A2 λG=>rfl)))))))))))) rfl) rfl) (A0 (A0 rfl (A0 (A2 λa=>(A0 (A0 (A0 (A2 λH=>(A0 rfl rfl)) rfl) (A0 (A0 (A2 λb=>((QH L Q Y s (E3 1 (E2 (Fd L) Q Y (cd [1,1,1,1,1,1,1,1] UJ) (F5 (Fd L) aq1))) L (j0 (pcs (j1 ([46]:List UInt8) 0 0) a)) (↑(j0 (pcs (j1 ([46]:List UInt8) 0 0) a)):Int) 0 b).trans (by kernel_rfl))) rfl) rfl)) rfl)) rfl)) rfl)) rfl)))
noncomputable abbrev A41:Code:=C8 an4
noncomputable def Jy(L:Nat):Cfg:=B7 L [126] (A4 [(6,[0,1,0,1,10,0,0])]) [(155,Bq4),(141,Ac6)] (A4 [(13,[2]),(12,[0,3,0,2]),(11,[0,2,1,10,0,0]),(10,[0,2,1,10,0,0]),(9,[2]),(8,[0,2,1,1,8,0,0,8]),(7,[0,2,1,1,8,0,0]),(6,[0,2,1,10,0,0,0]),(5,[0,2,1,10,0,0]),(4,[0,2,1]),(3,[2]),(2,[0,2,11]),(1,[0,2,0]),(0,[0])]) [141] (A4 [(0,[0,2,1]),(1,[0,2,1,10,0,0])]) (some [2]) [] [] []
noncomputable def V8{R:Type}(L n:Nat)(i:By)(b:Bool)(a:LL)(c:Bool)(h e:Int)(f:Unit->Option R)(g:By->Bool->LL->Bool->Option R):Option R:=match n with|0=>none|n+1=>cond (ltI e h) (cond (inR e a.length) (cond (okE Jm a (f6 e) 0) (vl (gE a (f6 e) 0) λd=>cond (not (ltI d 65)) (cond (not (ltI 90 d)) (f ()) (cond c (V8 L n i b a (ltI d 128) h (A1 (e+1)) f g) (V8 L n i b a false h (A1 (e+1)) f g))) (cond c (V8 L n i b a (ltI d 128) h (A1 (e+1)) f g) (V8 L n i b a false h (A1 (e+1)) f g))) none) none) (g i b a c)
theorem WQ(n d a b c n4 n5):C9 0 ((Jy L).keep 6) (bd (Jy L) Q Y (cd [1,1,1,1,0,1,0,0] A41)) n ⟨gp [(0,pS d),(2,.s (.sl a a 1 b)),(1,pB c),(10,.s (.sl a a 1 b)),(0,pI n4),(0,pI n5)] 31,[],s⟩ k =
 V8 L n d a b c n4 n5 (λ_=>k .ret ⟨gp [(2,pB false)] 47,[],s⟩) (λd a b c=>k (.exit 0) ⟨gp [(0,pS d),(2,.s (.sl a a 1 b)),(1,pB c)] 44,[],s⟩):=by
 induction n generalizing d a b c n4 n5 with
 | zero=>rfl
 | succ n e=>rw[V8];simp only[<-e];kernel_rfl
noncomputable def A64{R:Type}(L:Nat)(d:By)(e:Bool->Option R):Option R:=cond (A3 d.length) (cond ((↑((M6 d)).2:Int)!=0) (e false) (V8 L L d (ao2 ((M6 d)).1) (Ko ((M6 d)).1) true (↑(j0 (Ko ((M6 d)).1)):Int) 0 (λ_=>e false) (λg c a b=>cond (ae3 a Lt) (vl ((U7 (x5 elI a))).1 λh=>vl (↑((U7 (x5 elI a))).2:Int) λf=>cond (not b) (cond (f==0) (e (h==g)) (e false)) (e false)) none))) none
theorem Bx2(d:Nat)(s0):evC (Jy L) (d+1) Z Y 126 [pS s0] [] s=A64 L s0 (λa=>some (pB a,[],s)):=by refine(evE (fn:=an4) (by kernel_rfl)).trans ?_;generalize evC (Jy L) d=Q;unfold A64;exact(g6 (by kernel_rfl) (A0 (A0 rfl ((WQ L Q Y s (E3 0 (E2 (Jy L) Q Y (cd [1,1,1,1,1] A41) (F5 (Jy L) an4))) L s0 (ao2 ((M6 s0)).1) (Ko ((M6 s0)).1) true (↑(j0 (Ko ((M6 s0)).1)):Int) 0).trans (by kernel_rfl))) rfl))
noncomputable abbrev Bs5:Code:=C8 aq2
noncomputable def Qz(L:Nat):Cfg:=B7 L [92] (A4 [(4,[0,1,26,0])]) [(57,Ab8),(126,A21)] (A4 [(11,[2]),(10,[5,0]),(9,[0,28,0]),(8,[2]),(7,[0,28,0,28]),(6,[0,3,24,0]),(5,[0,2,25,0]),(4,[0,28,0,0]),(3,[0,28,0]),(2,[2]),(1,[0,26]),(0,[0])]) [57,126] (A4 [(0,[0]),(1,[0,28,0])]) (some [2]) [] [] []
noncomputable def Q7{R:Type}(L n:Nat)(b:By)(e a:Int)(c:Unit->Option R)(d:By->Option R):Option R:=match n with|0=>none|n+1=>cond (ltI a e) (cond (inR a b.length) (cond (not (ltI (bAt b a) (97:Int))) (cond (not (not (ltI 122 (bAt b a)))) (cond (not (ltI (bAt b a) (48:Int))) (cond (not (not (ltI 57 (bAt b a)))) (cond ((bAt b a)!=45) (cond ((bAt b a)!=95) (c ()) (Q7 L n b e (A1 (a+1)) c d)) (Q7 L n b e (A1 (a+1)) c d)) (Q7 L n b e (A1 (a+1)) c d)) (cond ((bAt b a)!=45) (cond ((bAt b a)!=95) (c ()) (Q7 L n b e (A1 (a+1)) c d)) (Q7 L n b e (A1 (a+1)) c d))) (Q7 L n b e (A1 (a+1)) c d)) (cond (not (ltI (bAt b a) (48:Int))) (cond (not (not (ltI 57 (bAt b a)))) (cond ((bAt b a)!=45) (cond ((bAt b a)!=95) (c ()) (Q7 L n b e (A1 (a+1)) c d)) (Q7 L n b e (A1 (a+1)) c d)) (Q7 L n b e (A1 (a+1)) c d)) (cond ((bAt b a)!=45) (cond ((bAt b a)!=95) (c ()) (Q7 L n b e (A1 (a+1)) c d)) (Q7 L n b e (A1 (a+1)) c d)))) none) (d b)
theorem Am4(n a n1 n2):C9 0 ((Qz L).keep 4) (bd (Qz L) Q Y (cd [1,1,0,1,0,0] Bs5)) n ⟨gp [(0,pS a),(28,pI n1),(0,pI n2)] 41,[],s⟩ k =
 Q7 L n a n1 n2 (λ_=>k .ret ⟨gp [(2,pB false)] 69,[],s⟩) (λa=>k (.exit 0) ⟨gp [(0,pS a)] 71,[],s⟩):=by
 induction n generalizing a n1 n2 with
 | zero=>rfl
 | succ n b=>rw[Q7];simp only[<-b];kernel_rfl
noncomputable def Cg5{R:Type}(L:Nat)(a:By)(b:Bool->Option R):Option R:=cond (ltI (a.length:Int) (1:Int)) (b false) (cond (ltI 63 (a.length:Int)) (b false) (cond (inR 0 a.length) (cond ((bAt a (0:Int))==45) (b false) (vl (A1 ((a.length:Int)-1)) λd=>cond (inR d a.length) (cond ((bAt a d)==45) (b false) (Q7 L L a (a.length:Int) 0 (λ_=>b false) (λc=>cond (A3 c.length) (vl (Fl c ([120,110,45,45]:List UInt8)) λe=>cond (not (ac4 ([120,110,45,45]:List UInt8) c)) (b true) (cond (A3 e.length) (b (Ct e)) none)) none))) none)) none))
theorem Cg6(d:Nat)(s0):evC (Qz L) (d+1) Z Y 92 [pS s0] [] s=Cg5 L s0 (λb=>some (pB b,[],s)):=by refine(evE (fn:=aq2) (by kernel_rfl)).trans ?_;generalize evC (Qz L) d=Q;unfold Cg5;exact(g6 (by kernel_rfl) (A0 rfl (A0 rfl (A0 (A0 rfl (A2 λa=>(A0 (A0 rfl ((Am4 L Q Y s (E3 0 (E2 (Qz L) Q Y (cd [1,1,1] Bs5) (F5 (Qz L) aq2))) L s0 (s0.length:Int) 0).trans (by kernel_rfl))) rfl))) rfl))))
noncomputable abbrev Ae8:Code:=C8 an3
noncomputable def Mv(L:Nat):Cfg:=B7 L [110] (A4 [(9,[2,0,1,20])]) [(139,UE),(140,UC),(56,Ac3),(141,Ac6),(92,NF)] (A4 [(18,[2,0]),(17,[2,0]),(16,[4,41]),(15,[4]),(14,[2,0]),(13,[8,32]),(12,[8,0]),(11,[5,20]),(10,[5,1,18]),(9,[5,20,0,0]),(8,[5,20]),(7,[4,0]),(6,[4,19]),(5,[0,3]),(2,[2,0]),(4,[2,0]),(3,[0,13]),(1,[0,9]),(0,[0])]) [139,140,56,141,92] (A4 [(1,[5]),(2,[5,20]),(0,[0])]) (some [2,0]) [] [] []
noncomputable def Dz{R:Type}(L n:Nat)(c:LL)(b:By)(a:Nat)(e:LL->By->Nat->Option R):Option R:=match n with|0=>none|n+1=>cond (decide (a<b.length)) (vl ((af3 ⟨aj4 b⟩ a)).1 λd=>cond (F2 (c.length+1)) (Dz L n (c++[[(SV.int .i64 (A1 d))]]) b (a+((af3 ⟨aj4 b⟩ a)).2) e) none) (e c b a)
theorem Ak7(n:Nat)(a:LL)(c:By)(b:Nat):C9 2 ((Mv L).keep 9) (bd (Mv L) Q Y (cd [1,1,1,0,1,0,1,0,1,0,0] Ae8)) n ⟨gp [(5,.fl 0),(20,.it 1)] 21,[.arr true 3 1 a,.iter c b],s⟩ k =
 Dz L n a c b (λa c b=>k (.exit 1) ⟨gp [(5,.fl 0)] 42,[.arr true 3 1 a,.iter c b],s⟩):=by
 induction n generalizing a c b with
 | zero=>rfl
 | succ n d=>rw[Dz];simp only[<-d];kernel_rfl
noncomputable def WM{R:Type}(L:Nat)(b:By)(g:By->Int->Option R)(h:By->Int->LL->By->Nat->Option R):Option R:=cond (A3 b.length) (cond (not (af4 (Ci b))) (g ([]:List UInt8) 4) (cond (A3 b.length) (vl (↑(ae2 b):Int) λi=>cond (ltI 256 i) (g ([]:List UInt8) 3) (cond (A3 b.length) (cond (A3 b.length) (vl (↑(ae2 b):Int) λj=>cond (ltI j (b.length:Int)) (Dz L L [] (B5 b) 0 (λa e d=>cond (ae3 a Lt) (vl ((U7 (x5 elI a))).1 λf=>vl (↑((U7 (x5 elI a))).2:Int) λl=>cond (l !=0) (h ([]:List UInt8) 14 a e d) (cond (K8 4 f.length) (vl (([120,110,45,45]:List UInt8)++f) λc=>cond (A3 c.length) (cond (not (K2 c)) (h ([]:List UInt8) 14 a e d) (h c 0 a e d)) none) none)) none)) (cond (A3 (j0 (B5 b))) (cond (not (K2 (B5 b))) (g ([]:List UInt8) 14) (g (B5 b) 0)) none)) none) none)) none)) none
theorem Cf4(d:Nat)(s0):evC (Mv L) (d+1) Z Y 110 [pS s0] [] s=WM L s0 (λa b=>some (.tup [pS a,pI b],[],s)) (λa b c h e=>some (.tup [pS a,pI b],[.arr true 3 1 c,.iter h e],s)):=by refine(evE (fn:=an3) (by kernel_rfl)).trans ?_;generalize evC (Mv L) d=Q;unfold WM;exact(g6 (by kernel_rfl) (A0 (A0 rfl (A0 (A2 λf=>(A0 rfl (A0 (A0 (A2 λg=>(A0 ((Ak7 L Q Y s (E3 1 (E2 (Mv L) Q Y (cd [1,1,1,0,1,0,1,1] Ae8) (E2 (Mv L) Q Y (cd [1,1,1,1] Ae8) (F5 (Mv L) an3)))) L [] (B5 s0) 0).trans (by kernel_rfl)) (A0 (A0 rfl rfl) rfl))) rfl) rfl))) rfl)) rfl))
noncomputable abbrev Qq:Code:=C8 ak5
noncomputable def Hq(L:Nat):Cfg:=B7 L [136] (A4 []) [] (A4 [(7,[2]),(2,[2]),(4,[2]),(6,[2]),(5,[0,23]),(3,[0,12]),(1,[0,2]),(0,[0])]) [] (A4 [(0,[])]) (some [2]) [] [] []
noncomputable def Ts{R:Type}(a:Int)(h:Bool)(f:Int->Option R)(g:Int->Bool->Option R):Option R:=cond h (vl (A1 (wu8 (a-97))) λb=>vl (A1 (b+10)) λc=>f c) (cond (not (ltI a 65)) (cond (not (ltI 70 a)) (vl (A1 (wu8 (a-65))) λd=>vl (A1 (d+10)) λe=>f e) (g a (not (ltI 70 a)))) (g a false))
abbrev KN(b:Code):Prop:=∀(k:Out->St Z->Option R) a c,A9 (Hq L) Q Y b ⟨gp [(0,p8 a),(12,pB c)] 21,[],s⟩ k=Ts a c (λn0=>k .ret ⟨gp [(2,pI n0)] 32,[],s⟩) (λa c=>k .normal ⟨gp [(0,p8 a),(23,pB c)] 10,[],s⟩)
theorem Ak1:KN (R:=R) L Q Y s (cd [1,0,0,1,1,1] Qq):=by intro k a b;unfold Ts;kernel_rfl
noncomputable def Tt{R:Type}(b:Int)(l:Bool)(f:Int->Option R)(j:Int->Bool->Option R):Option R:=cond l (vl (A1 (wu8 (b-48))) λg=>f g) (cond (not (ltI b 97)) (Ts b (not (ltI 102 b)) (λh=>f h) (λc d=>j c d)) (Ts b false (λi=>f i) (λe a=>j e a)))
abbrev Yb(b:Code):Prop:=∀(k:Out->St Z->Option R) a c,A9 (Hq L) Q Y b ⟨gp [(0,p8 a),(2,pB c)] 31,[],s⟩ k=Tt a c (λn0=>k .ret ⟨gp [(2,pI n0)] 32,[],s⟩) (λa c=>k .normal ⟨gp [(0,p8 a),(23,pB c)] 10,[],s⟩)
theorem Ak2(a:Code)(b:KN (R:=R) L Q Y s a):Yb (R:=R) L Q Y s (cd [1,0,0,1] (G2 [1,0,0,1,1,1] a Qq)):=by intro k c d;unfold Tt;simp only[<-b k];kernel_rfl
theorem Ak3:Yb (R:=R) L Q Y s (cd [1,0,0,1] Qq):=by intro k a b;exact g6 (by kernel_rfl) (Ak2 L Q Y s (cd [1,0,0,1,1,1] Qq) (Ak1 L Q Y s) k a b)
noncomputable def Bw1{R:Type}(L:Nat)(c:Int)(d:Int->Option R):Option R:=cond (not (ltI c 48)) (Tt c (not (ltI 57 c)) (λa=>d a) (λe f=>d (-1))) (Tt c false (λb=>d b) (λg h=>d (-1)))
theorem Cd9(b:Code)(a:Yb (R:=PV × List Blk × Z) L Q Y s b)(c:Int):A9 (Hq L) Q Y (cd [] (G2 [1,0,0,1] b Qq)) ⟨[p8 c]++tps 34,[],s⟩ (F5 (Hq L) ak5)=Bw1 L c (λe=>some (pI e,[],s)):=by unfold Bw1;exact let d:=(E3 0 (E2 (Hq L) Q Y (cd [1,1] Qq) (F5 (Hq L) ak5)));(g6 (by kernel_rfl) (A0 ((a d c (not (ltI 57 c))).trans (by kernel_rfl)) ((a d c false).trans (by kernel_rfl))))
theorem Ce0(d:Nat)(b0):evC (Hq L) (d+1) Z Y 136 [p8 b0] [] s=Bw1 L b0 (λa=>some (pI a,[],s)):=
 (evE (fn:=ak5) (by kernel_rfl)).trans (g6 (by kernel_rfl) (Cd9 L (evC (Hq L) d) Y s (cd [1,0,0,1] Qq) (Ak3 L (evC (Hq L) d) Y s) b0))
noncomputable abbrev Bs3:Code:=C8 an2
noncomputable def Qx(L:Nat):Cfg:=B7 L [106] (A4 [(3,[0,1,0,0,0])]) [(136,Bp8)] (A4 [(14,[2,0]),(4,[0,3,0]),(13,[0,3,0]),(12,[0,3,0]),(11,[2,0]),(10,[0,3,0,0,0,39]),(9,[0,3,0,0,0]),(8,[2,0]),(7,[0,3,0,25]),(6,[0,3,0]),(5,[0,3,0,14]),(3,[0,3,0,8]),(2,[0,3,0]),(1,[0,3]),(0,[0])]) [136] (A4 [(0,[4]),(1,[0,3,0])]) (some [2,0]) [] [] []
noncomputable def R2{R:Type}(L n:Nat)(b:By)(a:Int)(c:LL)(f:LL->Option R)(g:LL->Option R):Option R:=match n with|0=>none|n+1=>cond (ltI a (b.length:Int)) (cond (inR a b.length) (cond ((bAt b a)!=37) (cond (inR a b.length) (cond (F2 (c.length+1)) (R2 L n b (A1 (a+1)) (c++[[(SV.int .u8 (bAt b a))]]) f g) none) none) (cond (not (ltI (A1 (a+2)) (b.length:Int))) (f c) (cond (inR (A1 (a+1)) b.length) (vl (bAt b (A1 (a+1))) λd=>cond (inR d 256) (cond (inR (A1 (a+2)) b.length) (vl (bAt b (A1 (a+2))) λe=>cond (inR e 256) (cond (ltI (Dw (u8n d)) (0:Int)) (f c) (cond (ltI (Dw (u8n e)) (0:Int)) (f c) (vl (A1 ((16:Int)*(Dw (u8n d)))) λh=>vl (A1 (h+(Dw (u8n e)))) λi=>cond (F2 (c.length+1)) (vl (A1 ((A1 (a+2))+1)) λj=>R2 L n b j (c++[[(SV.int .u8 (wu8 i))]]) f g) none))) none) none) none) none))) none) (g c)
theorem Ak0(n s0 i1 l2):C9 1 ((Qx L).keep 3) (bd (Qx L) Q Y (cd [1,0,1,1,0,1,0,0] Bs3)) n ⟨gp [(0,pS s0),(3,.fl 0),(0,pI i1)] 54,[.arr false 5 1 l2],s⟩ k =
 R2 L n s0 i1 l2 (λa=>k .ret ⟨gp [(2,pS ([]:List UInt8)),(0,pB false)] 56,[.arr false 5 1 a],s⟩) (λa=>k (.exit 0) ⟨gp [(4,.fl 0)] 55,[.arr false 5 1 a],s⟩):=by
 induction n generalizing s0 i1 l2 with
 | zero=>rfl
 | succ n b=>rw[R2];simp only[<-b];kernel_rfl
noncomputable def Bw0{R:Type}(L:Nat)(c:By)(d:By->Bool->LL->Option R):Option R:=cond ((decide ((0:Int)<=(c.length:Int)))&&(F2 (f6 (c.length:Int)))) (R2 L L c 0 [] (λb=>d ([]:List UInt8) false b) (λa=>cond (ae3 a Mb) (d (x5 Kd a) true a) none)) none
theorem Cd7(d:Nat)(s0):evC (Qx L) (d+1) Z Y 106 [pS s0] [] s=Bw0 L s0 (λb c a=>some (.tup [pS b,pB c],[.arr false 5 1 a],s)):=by refine(evE (fn:=an2) (by kernel_rfl)).trans ?_;generalize evC (Qx L) d=Q;unfold Bw0;exact(g6 (by kernel_rfl) (A0 ((Ak0 L Q Y s (E3 0 (E2 (Qx L) Q Y (cd [1,0,1,1,1] Bs3) (F5 (Qx L) an2))) L s0 0 []).trans (by kernel_rfl)) rfl))
noncomputable def PD(L:Nat):Cfg:=B7 L [105] (A4 []) [(135,Cs0)] (A4 [(6,[2,0]),(5,[2,0]),(4,[2,2,15]),(3,[2,2,0]),(2,[0,1,1,8]),(1,[0,1,1]),(0,[0,1])]) [] (A4 []) (some [2,0]) [] [] []
noncomputable def A54{R:Type}(L:Nat)(b:By)(l:Int->Int->Int->Int->Int->Int->Int->Int->Int->Int->Int->LL->Option R)(m:Unit->Option R):Option R:=vl (A1 ((b.length:Int)-1)) λa=>cond (inR a b.length) (cond ((bAt b a)==93) (cond (I5 1 a b.length) (cond (A3 (j0 (cut b 1 a))) (vl (↑(v6c 0 (cut b 1 a)):Int) λc=>vl (↑(v6c 1 (cut b 1 a)):Int) λd=>vl (↑(v6c 2 (cut b 1 a)):Int) λe=>vl (↑(v6c 3 (cut b 1 a)):Int) λf=>vl (↑(v6c 4 (cut b 1 a)):Int) λg=>vl (↑(v6c 5 (cut b 1 a)):Int) λh=>vl (↑(v6c 6 (cut b 1 a)):Int) λi=>vl (↑(v6c 7 (cut b 1 a)):Int) λj=>cond (af4 (v6B (cut b 1 a))) (l 3 c d e f g h i j 0 3 [[(SV.int .u16 c)],[(SV.int .u16 d)],[(SV.int .u16 e)],[(SV.int .u16 f)],[(SV.int .u16 g)],[(SV.int .u16 h)],[(SV.int .u16 i)],[(SV.int .u16 j)]]) (l 0 0 0 0 0 0 0 0 0 14 0 [[(SV.int .u16 c)],[(SV.int .u16 d)],[(SV.int .u16 e)],[(SV.int .u16 f)],[(SV.int .u16 g)],[(SV.int .u16 h)],[(SV.int .u16 i)],[(SV.int .u16 j)]])) none) none) (m ())) none
theorem Bv8(d:Nat)(s0):evC (PD L) (d+1) Z Y 105 [pS s0] [] s=A54 L s0 (λl c e f g h i j r8 m b a=>some (.tup [.agg [pI l,pS ([]:List UInt8),p32 (0:Int),p16 c,p16 e,p16 f,p16 g,p16 h,p16 i,p16 j,p16 r8],pI m],[.box [pI b,pS ([]:List UInt8),p32 (0:Int),p16 c,p16 e,p16 f,p16 g,p16 h,p16 i,p16 j,p16 r8],.arr false 25 1 a],s)) (λ_=>some (.tup [.agg [pI (0:Int),pS ([]:List UInt8),p32 (0:Int),p16 (0:Int),p16 (0:Int),p16 (0:Int),p16 (0:Int),p16 (0:Int),p16 (0:Int),p16 (0:Int),p16 (0:Int)],pI (14:Int)],[.box [pI (0:Int),pS ([]:List UInt8),p32 (0:Int),p16 (0:Int),p16 (0:Int),p16 (0:Int),p16 (0:Int),p16 (0:Int),p16 (0:Int),p16 (0:Int),p16 (0:Int)]],s)):=by refine(evE (fn:=Tryz.f105) (by kernel_rfl)).trans ?_;generalize evC (PD L) d=Q;unfold A54;kernel_rfl
noncomputable def Af9(L:Nat):Cfg:=B7 L [46] (A4 []) [(64,Cr4)] (A4 [(9,[2]),(4,[2]),(6,[2]),(8,[2]),(7,[1,31]),(5,[1,1,1,16]),(3,[1,1,1,0]),(2,[1,1,1]),(1,[1,1]),(0,[1])]) [64] (A4 [(0,[])]) (some [2]) [] [] []
noncomputable def Ma{R:Type}(L:Nat)(c:Int)(b:By)(d e f g h i j l a:Int)(m:Bool->Int->By->Int->Int->Int->Int->Int->Int->Int->Int->Int->LL->Option R):Option R:=cond (c==1) (cond (A3 b.length) (cond (Ij b) (cond (d==0) (m ((e==0)&&((f==0)&&((g==0)&&((h==0)&&((i==0)&&((j==0)&&((l==0)&&((a==0)&&true)))))))) c b d e f g h i j l a (b8 8 [(SV.int .u16 (0:Int))])) (m false c b d e f g h i j l a (b8 8 [(SV.int .u16 (0:Int))]))) (m false c b d e f g h i j l a (b8 8 [(SV.int .u16 (0:Int))]))) none) (cond (c==2) (cond (b==[]) (m ((e==0)&&((f==0)&&((g==0)&&((h==0)&&((i==0)&&((j==0)&&((l==0)&&((a==0)&&true)))))))) c b d e f g h i j l a (b8 8 [(SV.int .u16 (0:Int))])) (m false c b d e f g h i j l a (b8 8 [(SV.int .u16 (0:Int))]))) (cond (c==3) (cond (b==[]) (m (d==0) c b d e f g h i j l a (b8 8 [(SV.int .u16 (0:Int))])) (m false c b d e f g h i j l a (b8 8 [(SV.int .u16 (0:Int))]))) (m false c b d e f g h i j l a (b8 8 [(SV.int .u16 (0:Int))]))))
theorem Ce7(d:Nat)(h0 h1 h2 h3 h4 h5 h6 h7 h8 h9 h10):evC (Af9 L) (d+1) Z Y 46 [.agg [pI h0,pS h1,p32 h2,p16 h3,p16 h4,p16 h5,p16 h6,p16 h7,p16 h8,p16 h9,p16 h10]] [] s=Ma L h0 h1 h2 h3 h4 h5 h6 h7 h8 h9 h10 (λm e n f g h i j n8 l b c a=>some (pB m,[.box [pI e,pS n,p32 f,p16 g,p16 h,p16 i,p16 j,p16 n8,p16 l,p16 b,p16 c],.arr false 25 1 a],s)):=by refine(evE (fn:=Tryz.f46) (by kernel_rfl)).trans ?_;generalize evC (Af9 L) d=Q;unfold Ma;kernel_rfl
noncomputable def Af7(L:Nat):Cfg:=B7 L [50] (A4 []) [(46,Bq0),(67,Cr6),(68,Cr8)] (A4 [(7,[2]),(2,[2]),(4,[2]),(6,[2]),(5,[1,11]),(3,[1,5]),(1,[1,1]),(0,[1])]) [46,67,68] (A4 [(0,[1])]) (some [2]) [] [] []
noncomputable def Ce3{R:Type}(L:Nat)(j:Int)(l:By)(b c d e f g h i a:Int)(o:By->Int->By->Int->Int->Int->Int->Int->Int->Int->Int->Int->Option R):Option R:=cond (A3 l.length) (cond (ltN b 4294967296) (cond (ok8 c d e f g h i a) (cond (not (Y7 (mkH j l b (n8 c d e f g h i a)))) (o ([]:List UInt8) j l b c d e f g h i a) (cond (j==1) (o l j l b c d e f g h i a) (cond (j==2) (cond (ltN b 4294967296) (o (Nx (f6 b)) j l b c d e f g h i a) none) (cond (ok8 c d e f g h i a) (vl (AZ (n8 c d e f g h i a)) λm=>cond (K8 1 m.length) (vl (([91]:List UInt8)++m) λn=>cond (K8 n.length 1) (vl (n++[93]) λp=>o p j l b c d e f g h i a) none) none) none)))) none) none) none
theorem Ce4(d:Nat)(h0 h1 h2 h3 h4 h5 h6 h7 h8 h9 h10):evC (Af7 L) (d+1) Z Y 50 [.agg [pI h0,pS h1,p32 h2,p16 h3,p16 h4,p16 h5,p16 h6,p16 h7,p16 h8,p16 h9,p16 h10]] [] s=Ce3 L h0 h1 h2 h3 h4 h5 h6 h7 h8 h9 h10 (λl c m e f g h i n8 j a b=>some (pS l,[.box [pI c,pS m,p32 e,p16 f,p16 g,p16 h,p16 i,p16 n8,p16 j,p16 a,p16 b]],s)):=by refine(evE (fn:=Tryz.f50) (by kernel_rfl)).trans ?_;generalize evC (Af7 L) d=Q;unfold Ce3;kernel_rfl
end
section
variable {Z R : Type} (L : Nat) (Q : F6) (Y : Yh Z) (s : Z) (k : Out -> St Z -> Option R)
noncomputable def Ag3(L:Nat):Cfg:=B7 L [182] (A4 []) [] (A4 [(2,[2]),(1,[1,1]),(0,[1])]) [] (A4 []) (some [2]) [] [] []
noncomputable def Cw8{R:Type}(L:Nat)(b:Int)(a:Int->Option R):Option R:=a b
theorem Ci4(d:Nat)(b):evC (Ag3 L) (d+1) Z Y 182 [pI b] [] s=Cw8 L b (λn0=>some (.fnr (Fn.func 188) [] [.ptr 1 0 0,.ptr 0 0 0],[.box [pI n0],.box [pI (0:Int)]],s)):=by refine(evE (fn:=Tryz.f182) (by kernel_rfl)).trans ?_;generalize evC (Ag3 L) d=Q;unfold Cw8;kernel_rfl
noncomputable def PN(L:Nat):Cfg:=B7 L [188] (A4 []) [] (A4 [(2,[2]),(1,[0,0]),(0,[0,0])]) [] (A4 []) (some [2]) [] [] []
noncomputable def A76{R:Type}(L:Nat)(k b:Int)(d:Int->Int->Int->Option R):Option R:=vl (A1 ((A1 (k+36))-b)) λa=>vl (if ((26:Int)<(if ((1:Int) > a) then (1:Int) else a)) then (26:Int) else (if ((1:Int) > a) then (1:Int) else a)) λc=>d c (A1 (k+36)) b
theorem Bz6(d:Nat)(k b):evC (PN L) (d+1) Z Y 188 [.ptr 0 0 0,.ptr 1 0 0] [.box [pI k],.box [pI b]] s=A76 L k b (λe a c=>some (pI e,[.box [pI a],.box [pI c]],s)):=by refine(evE (fn:=Tryz.f188) (by kernel_rfl)).trans ?_;generalize evC (PN L) d=Q;unfold A76;kernel_rfl
noncomputable abbrev Cu1:Code:=C8 an6
noncomputable def Xl(L:Nat):Cfg:=B7 L [169] (A4 [(2,[0,0,4,0])]) [(182,DB),(183,Ac5)] (A4 [(6,[0,0,5]),(5,[0,0,5,0]),(4,[6]),(3,[0,0,5,0,6]),(2,[0,0,5,0]),(1,[0,0,5]),(0,[0,0,0])]) [183] (A4 [(0,[6]),(1,[0,0,5])]) (some [6]) [(188,Oe)] [] [188]
noncomputable def Hb{R:Type}(L n:Nat)(f:Int)(p:Bool)(g:LL)(a b:Int)(o:Bool->LL->Int->Int->Option R):Option R:=match n with|0=>none|n+1=>cond (ltN b 1000000000000) (cond (ltN a 1000000) (cond (ltI f (J9 b a)) (cond (ltN f 36) (vl (↑(aq4 (Z3 (f6 f))):Int) λh=>cond (F2 (g.length+1)) (o p (g++[[(SV.int .u8 h)]]) a (ac3 b (36:Int))) none) none) (vl (A1 (f-(J9 b a))) λi=>vl (A1 ((36:Int)-(J9 b a))) λc=>cond (c !=0) (vl (A1 ((J9 b a)+(ai9 i c))) λd=>cond (ltN d 36) (vl (↑(aq4 (Z3 (f6 d))):Int) λj=>cond (F2 (g.length+1)) (vl (A1 (f-(J9 b a))) λl=>vl (A1 ((36:Int)-(J9 b a))) λe=>cond (e !=0) (vl (A1 (ab5 l e)) λm=>Hb L n m p (g++[[(SV.int .u8 j)]]) a (ac3 b (36:Int)) o) none) none) none) none)) none) none
theorem An4(n q0 z1 l2 a n4):C9 3 ((Xl L).keep 2) (bd (Xl L) Q Y (cd [1,1,0,0] Cu1)) n ⟨gp [(0,.fl 0),(0,pI q0),(5,.fnr (Fn.func 188) [] [.ptr 2 0 0,.ptr 1 0 0])] 31,[.arr z1 5 1 l2,.box [pI a],.box [pI n4]],s⟩ k =
 Hb L n q0 z1 l2 a n4 (λe c d a=>k .ret ⟨gp [(6,.fl 0)] 32,[.arr e 5 1 c,.box [pI d],.box [pI a]],s⟩):=by
 induction n generalizing q0 z1 l2 a n4 with
 | zero=>rfl
 | succ n b=>rw[Hb];simp only[<-b];kernel_rfl
noncomputable def Cw6{R:Type}(L:Nat)(q b:Int)(z:Bool)(l:LL)(f:Bool->LL->Int->Int->Option R):Option R:=Hb L L q z l b 0 (λe a c d=>f e a c d)
theorem Ch2(d:Nat)(q b z l):evC (Xl L) (d+1) Z Y 169 [.fl 0,pI q,pI b] [.arr z 5 1 l] s=Cw6 L q b z l (λf a c e=>some (.fl 0,[.arr f 5 1 a,.box [pI c],.box [pI e]],s)):=by refine(evE (fn:=an6) (by kernel_rfl)).trans ?_;generalize evC (Xl L) d=Q;unfold Cw6;exact(g6 (by kernel_rfl) ((An4 L Q Y s (E3 0 (F5 (Xl L) an6)) L q z l b 0).trans (by kernel_rfl)))
noncomputable abbrev Dp:Code:=C8 ak6
noncomputable def P5(L:Nat):Cfg:=B7 L [141] (A4 [(29,[0,1,0,0,2,0,0,0,0,61,0,0]),(21,[0,1,0,0,2,0,0,0,0,0,38,0,0]),(17,[0,1,0,0,2,0,0,0,0]),(5,[0,1,0,0,15,0,0])]) [(168,Mi),(170,Mh)] (A4 [(40,[2,0]),(18,[0,3,2,0,0,0,0]),(39,[0,3,2,0,0,0,0]),(38,[0,3,2,0,0,0,0,61,0,0]),(32,[0,3,2,0,0,0,0,61,0,0]),(37,[0,3,2,0,0,0,0,61,0,0]),(36,[0,3,2,0,0,0,0,61,0,0]),(35,[0,3,2,0,1,0,61,0,0]),(34,[0,3,2,0,0,1,61,0,0]),(33,[0,3,2,0,0,0,0,61,0,0,9]),(31,[0,3,2,0,0,0,0,4,56,0,0,3]),(30,[0,3,2,0,0,0,0,4,56,0,0]),(29,[0,3,2,0,0,0,0,61,0,0,0]),(28,[0,3,2,0,0,0,0,61,0,0]),(27,[0,3,2,0,0,0,0]),(26,[0,3,2,1,0,0,0]),(25,[0,3,2,0,0,0,0,0,38,0,0]),(24,[0,3,2,0,0,0,0,0,38,0,0]),(23,[0,3,2,0,0,0,0,0,1,36,0,0,5]),(22,[0,3,2,0,0,0,0,0,1,36,0,0]),(21,[0,3,2,0,0,0,0,0,38,0,0,0]),(20,[0,3,2,0,0,0,0,0,38,0,0]),(19,[0,3,2,0,0,0,0,0]),(17,[0,3,2,0,0,0,0,36]),(16,[0,3,2,0,0,0,0]),(15,[0,3,2,0,0,0]),(14,[0,3,2]),(13,[0,3,2,32]),(12,[0,3,2]),(11,[0,3,15,0,0]),(10,[0,3,15,0,0]),(9,[0,3,1,13,0,0,7]),(8,[2,0]),(7,[0,3,1,13,0,0,5]),(6,[0,3,1,13,0,0]),(5,[0,3,15,0,0,0]),(4,[0,3,15,0,0]),(3,[0,3]),(2,[2,0]),(1,[0,18]),(0,[0])]) [168,170] (A4 [(2,[4]),(3,[0,3,2,0,0,0,0]),(6,[0,3,2,0,0,0,0]),(7,[0,3,2,0,0,0,0,61,0,0]),(8,[0,3,2,0,0,0,0,61,0,0]),(4,[0,3,2,0,0,0,0,0]),(5,[0,3,2,0,0,0,0,0,38,0,0]),(0,[0,3]),(1,[0,3,15,0,0])]) (some [2,0]) [(169,NH)] [] [169]
noncomputable def T3{R:Type}(L n:Nat)(c b:Bool)(a:LL)(i e:Int)(f:LL)(g:LL->Option R)(h:Bool->Bool->LL->LL->Option R):Option R:=match n with|0=>none|n+1=>cond (ltI e i) (cond (inR e a.length) (cond (okE Jm a (f6 e) 0) (vl (gE a (f6 e) 0) λd=>cond (not (ptI d)) (g f) (cond (ltI d 128) (cond (F2 (f.length+1)) (T3 L n c b a i (A1 (e+1)) (f++[[(SV.int .u8 (wu8 d))]]) g h) none) (T3 L n c b a i (A1 (e+1)) f g h))) none) none) (h c b a f)
theorem Ao3(n b a c n3 n4 l5):C9 1 ((P5 L).keep 5) (bd (P5 L) Q Y (cd [1,1,1,0,1,0,0] Dp)) n ⟨gp [(0,.s (.sl b a 1 c)),(3,.fl 0),(15,.s (.sl b a 1 c)),(0,pI n3),(0,pI n4)] 84,[.arr true 5 1 l5],s⟩ k =
 T3 L n b a c n3 n4 l5 (λe=>k .ret ⟨gp [(2,pS ([]:List UInt8)),(0,pI (2:Int))] 103,[.arr true 5 1 e],s⟩) (λb a c f=>k (.exit 0) ⟨gp [(0,.s (.sl b a 1 c)),(3,.fl 0)] 102,[.arr true 5 1 f],s⟩):=by
 induction n generalizing b a c n3 n4 l5 with
 | zero=>rfl
 | succ n d=>rw[T3];simp only[<-d];kernel_rfl
noncomputable def Hf{R:Type}(L n:Nat)(c b:Bool)(a:LL)(d o e f g m q h:Int)(i:LL)(p:Bool->Bool->LL->Int->Int->Int->Int->Int->Int->LL->Option R):Option R:=match n with|0=>none|n+1=>cond (ltI h q) (cond (inR h a.length) (cond (okE Jm a (f6 h) 0) (vl (gE a (f6 h) 0) λj=>cond (not (ltI j o)) (vl (if (j<m) then j else m) λl=>Hf L n c b a d o e f g l q (A1 (h+1)) i p) (Hf L n c b a d o e f g m q (A1 (h+1)) i p)) none) none) (p c b a d o e f g m i)
theorem Ao4(n b a c d i e f g h n9 n10 l11):C9 1 ((P5 L).keep 21) (bd (P5 L) Q Y (cd [1,1,1,1,1,1,1,0,1,0,0,1,0,0,1,0,1,0,0] Dp)) n ⟨gp [(0,.s (.sl b a 1 c)),(3,.fl 0),(2,pI d),(0,pI i),(0,pI e),(0,pI f),(0,pI g),(0,pI h),(38,.s (.sl b a 1 c)),(0,pI n9),(0,pI n10)] 53,[.arr true 5 1 l11],s⟩ k =
 Hf L n b a c d i e f g h n9 n10 l11 (λb a c d i e f g h l=>k (.exit 4) ⟨gp [(0,.s (.sl b a 1 c)),(3,.fl 0),(2,pI d),(0,pI i),(0,pI e),(0,pI f),(0,pI g),(0,pI h)] 94,[.arr true 5 1 l],s⟩):=by
 induction n generalizing b a c d i e f g h n9 n10 l11 with
 | zero=>rfl
 | succ n j=>rw[Hf];simp only[<-j];kernel_rfl
noncomputable def Bf{R:Type}(L n:Nat)(d c:Bool)(a:LL)(e l b g f n8 j:Int)(l10:LL)(r:Bool->Bool->LL->Int->Int->Int->Int->Int->LL->Option R):Option R:=match n with|0=>none|n+1=>cond (ltI j n8) (cond (inR j a.length) (cond (okE Jm a (f6 j) 0) (vl (gE a (f6 j) 0) λi=>cond (ltI i l) (vl (A1 (b+1)) λo=>Bf L n d c a e l o g f n8 (A1 (j+1)) l10 r) (cond (i==l) (cond (ltN b 1152921504606846976) (cond (ltN g 1000000) (cond (i6 l10.length 100000) (vl (al0 l10 (x5 D7 (O4 (f6 b) 0 (f6 g)))) λm=>vl (A1 (f+1)) λh=>cond (ltN b 1152921504606846976) (cond (ltN h 1000000) (cond (ltI 0 h) (vl (↑(P4 (f6 b) (f6 h) (f==e)):Int) λp=>vl (A1 (f+1)) λq=>Bf L n d c a e l 0 p q n8 (A1 (j+1)) m r) none) none) none) none) none) none) (Bf L n d c a e l b g f n8 (A1 (j+1)) l10 r))) none) none) (r d c a e l b g f l10)
theorem Ao5(n b a c d h e f g n8 n9 l10):C9 1 ((P5 L).keep 29) (bd (P5 L) Q Y (cd [1,1,1,1,1,1,1,0,1,0,0,1,0,0,1,1,1,1,0,1,0,0] Dp)) n ⟨gp [(0,.s (.sl b a 1 c)),(3,.fl 0),(2,pI d),(0,pI h),(0,pI e),(0,pI f),(0,pI g),(61,.s (.sl b a 1 c)),(0,pI n8),(0,pI n9)] 31,[.arr true 5 1 l10],s⟩ k =
 Bf L n b a c d h e f g n8 n9 l10 (λb a c d h e f g j=>k (.exit 6) ⟨gp [(0,.s (.sl b a 1 c)),(3,.fl 0),(2,pI d),(0,pI h),(0,pI e),(0,pI f),(0,pI g)] 95,[.arr true 5 1 j],s⟩):=by
 induction n generalizing b a c d h e f g n8 n9 l10 with
 | zero=>rfl
 | succ n i=>rw[Bf];simp only[<-i];kernel_rfl
noncomputable def Ee{R:Type}(L n:Nat)(j i:Bool)(b:LL)(v K w y u:Int)(J:LL)(I:LL->Option R):Option R:=match n with|0=>none|n+1=>cond (ltI u (b.length:Int)) (Hf L L j i b v K w y u 1114112 (b.length:Int) 0 J (λe c a l B o q g x z=>vl (A1 (g+1)) λC=>vl (A1 ((A1 (x-B))*C)) λD=>Bf L L e c a l x (A1 (o+D)) q g (a.length:Int) 0 z (λf d h m F p r t A=>vl (A1 (p+1)) λG=>vl (A1 (F+1)) λH=>Ee L n f d h m H G r t A I))) (I J)
theorem GU(n points_z0 points_t1 points2 basic3 n4 delta5 bias6 done7 l8):C9 1 ((P5 L).keep 17) (bd (P5 L) Q Y (cd [1,1,1,1,1,1,1,0,1,0,0] Dp)) n ⟨gp [(0,.s (.sl points_z0 points_t1 1 points2)),(3,.fl 0),(2,pI basic3),(0,pI n4),(0,pI delta5),(0,pI bias6),(0,pI done7)] 95,[.arr true 5 1 l8],s⟩ k =
 Ee L n points_z0 points_t1 points2 basic3 n4 delta5 bias6 done7 l8 (λB=>k (.exit 2) ⟨gp [(4,.fl 0)] 102,[.arr true 5 1 B],s⟩):=by
 induction n generalizing points_z0 points_t1 points2 basic3 n4 delta5 bias6 done7 l8 with
 | zero=>rfl
 | succ n A=>rw[Ee];exact(g6 (by kernel_rfl) (A0 ((Ao4 L Q Y s (E3 4 (E2 (P5 L) Q Y (cd [1,1,1,1,1,1,1,0,1,0,0,1,0,0,1,1] Dp) (E3 3 (E2 (P5 L) Q Y (cd [1,1,1,1,1,1,1,0,1,0,0,1,1] Dp) (lpK 1 ((P5 L).keep 17) (bd (P5 L) Q Y (cd [1,1,1,1,1,1,1,0,1,0,0] Dp)) n k))))) L points_z0 points_t1 points2 basic3 n4 delta5 bias6 done7 1114112 (points2.length:Int) 0 l8).trans (congr rfl (Cd3 λd b a g x i j m t q=>(g6 (by kernel_rfl) (A2 λy=>(A2 λu=>((Ao5 L Q Y s (E3 6 (E2 (P5 L) Q Y (cd [1,1,1,1,1,1,1,0,1,0,0,1,0,0,1,1,1,1,1] Dp) (E3 3 (E2 (P5 L) Q Y (cd [1,1,1,1,1,1,1,0,1,0,0,1,1] Dp) (lpK 1 ((P5 L).keep 17) (bd (P5 L) Q Y (cd [1,1,1,1,1,1,1,0,1,0,0] Dp)) n k))))) L d b a g t (A1 (i+u)) j m (a.length:Int) 0 q).trans (congr rfl (fx9 λe c f h z p l o r=>(g6 (by kernel_rfl) (A2 λv=>(A2 λw=>(A e c f h w v l o r))))))))))))) rfl))
noncomputable def XB{R:Type}(L:Nat)(l j:Bool)(p:LL)(m:Unit->Option R)(h:By->Int->LL->Option R):Option R:=cond (ltI 256 (p.length:Int)) (m ()) (T3 L L l j p (p.length:Int) 0 [] (λi=>h ([]:List UInt8) 2 i) (λb a c g=>vl (g.length:Int) λf=>cond (ltI 0 f) (cond (F2 (g.length+1)) (Ee L L b a c f 128 0 72 f (g++[[(SV.int .u8 (45:Int))]]) (λd=>cond (ae3 d Mb) (h (x5 Kd d) 0 d) none)) none) (Ee L L b a c f 128 0 72 f g (λe=>cond (ae3 e Mb) (h (x5 Kd e) 0 e) none))))
theorem Ch7(d:Nat)(p_z p_t p):evC (P5 L) (d+1) Z Y 141 [.s (.sl p_z p_t 1 p)] [] s=XB L p_z p_t p (λ_=>some (.tup [pS ([]:List UInt8),pI (3:Int)],[],s)) (λi j h=>some (.tup [pS i,pI j],[.arr true 5 1 h],s)):=by refine(evE (fn:=ak6) (by kernel_rfl)).trans ?_;generalize evC (P5 L) d=Q;unfold XB;exact let g:=(E3 2 (E2 (P5 L) Q Y (cd [1,1,1,1,1,1,1,1] Dp) (F5 (P5 L) ak6)));(g6 (by kernel_rfl) (A0 rfl ((Ao3 L Q Y s (E3 0 (E2 (P5 L) Q Y (cd [1,1,1,1] Dp) (F5 (P5 L) ak6))) L p_z p_t p (p.length:Int) 0 []).trans (congr (congr rfl (by kernel_rfl)) (fx4 λb a c f=>(g6 (by kernel_rfl) (A2 λe=>(A0 (A0 ((GU L Q Y s g L b a c e 128 0 72 e (f++[[(SV.int .u8 (45:Int))]])).trans (by kernel_rfl)) rfl) ((GU L Q Y s g L b a c e 128 0 72 e f).trans (by kernel_rfl))))))))))
end
theorem Vv(k b:Nat):J9 ((36*k:Nat):Int) (b:Int)=(thr k b:Int):=by unfold J9 thr;omega
theorem Bh0{R:Type}{a:Int->Option R}(b:Int):Cw8 LF b a=a b:=rfl
theorem Ao8{R:Type}{a:Int->Int->Int->Option R}(k b:Int)(e:ltN k 1000000000000=true)(f:ltN b 1000000=true):A76 LF k b a=a (J9 k b) (ac3 k 36) b:=by
 obtain⟨g,h⟩:=E6.1 e;obtain⟨i,j⟩:=E6.1 f;unfold A76;have c:A1 (k+36)=k+36:=A7;have d:A1 (k+36-b)=k+36-b:=A7;simp only[vl,c,d];have:(if (26:Int)<(if (1:Int) > k+36-b then (1:Int) else k+36-b) then (26:Int) else (if (1:Int) > k+36-b then (1:Int) else k+36-b))=J9 k b:=by
  unfold J9;omega
 grind
theorem Oo{q k b:Nat}(h:q<thr k b):O4 q k b=[Z3 q]:=by rw[O4,dif_pos h]
theorem Xs{q k b:Nat}(h:¬q<thr k b):O4 q k b=Z3 (thr k b+(q-thr k b) % (36-thr k b))::O4 ((q-thr k b) / (36-thr k b)) (k+1) b:=by rw[O4,dif_neg h]
theorem QA{x y m:Nat}(a:10<=y)(h:x<10*m):x / y<m:=by have b:x / y<=x / 10:=Nat.div_le_div_left a (by omega);omega
theorem Ai3(b:Nat):∀(r q k:Nat),q<10 ^ r->(O4 q k b).length<=r+1:=by
 intro r
 induction r with
 | zero=>
  intro q k h;have c:=U3 k b;rw[Oo (by simp at h;omega)];simp
 | succ r d=>
  intro q k h;have c:=U3 k b;by_cases a:q<thr k b
  ·rw[Oo a];simp
  ·rw[Xs a,f7];have:=d ((q-thr k b) / (36-thr k b)) (k+1) (QA (by omega) (by rw[aj5] at h;omega));omega
theorem Bf7(z:Bool)(b:Nat)(K:b<1000000):∀(r q k n:Nat) (l:LL),q<10 ^ r->q<1152921504606846976->k+r<=1000->r<n->l.length+r<=200000->
  ∃(d f:Int),∀(R:Type) (a:Bool->LL->Int->Int->Option R),Hb LF n (q:Int) z l (b:Int) ((36*k:Nat):Int) a=a z (l++(O4 q k b).map D7) d f:=by
 have c:∀(q k n:Nat) (l:LL),q<thr k b->k<=1000->l.length<=200000->∃(d f:Int),∀(R:Type) (a:Bool->LL->Int->Int->Option R),Hb LF (n+1) (q:Int) z l (b:Int) ((36*k:Nat):Int) a=a z (l++(O4 q k b).map D7) d f:=by
  intro q k n l g i j;have p:=U3 k b;refine⟨(b:Int),ac3 ((36*k:Nat):Int) 36,λR a=>?_⟩;rw[Hb];rw[M8,M8,Vv,A8,M8,Oo g];simp only[vl,cond_true,b9];rw[E9 (by omega)];rfl
 intro r
 induction r with
 | zero=>
  intro q k n l h _ i H j;have p:=U3 k b;obtain⟨n,rfl⟩:∃m,n=m+1:=⟨n-1,by omega⟩
  exact c q k n l (by simp at h;omega) (by omega) (by omega)
 | succ r I=>
  intro q k n l h o i H j;have p:=U3 k b;obtain⟨n,rfl⟩:∃m,n=m+1:=⟨n-1,by omega⟩
  by_cases g:q<thr k b
  ·exact c q k n l g (by omega) (by omega)
  ·have D:(q-thr k b) / (36-thr k b)<10 ^ r:=QA (by omega) (by rw[aj5] at h;omega);have F:(q-thr k b) / (36-thr k b)<=q:=ao6 (ac5 _ _) (by omega);have G:(q-thr k b) % (36-thr k b)<36-thr k b:=am0 _ (by omega);obtain⟨d,f,e⟩:=I ((q-thr k b) / (36-thr k b)) (k+1) n (l++[D7 (Z3 (thr k b+(q-thr k b) % (36-thr k b)))]) D (by omega) (by omega) (by omega) (by rw[m7,ag2];omega);refine⟨d,f,λR a=>?_⟩;rw[Hb];have t:A1 ((q:Int)-(thr k b:Int))=((q-thr k b:Nat):Int):=by rw[A7];omega
   have u:A1 ((36:Int)-(thr k b:Int))=((36-thr k b:Nat):Int):=by rw[A7];omega
   have v:ai9 ((q-thr k b:Nat):Int) ((36-thr k b:Nat):Int)=(((q-thr k b) % (36-thr k b):Nat):Int):=Gn _ _;have w:ab5 ((q-thr k b:Nat):Int) ((36-thr k b:Nat):Int)=(((q-thr k b) / (36-thr k b):Nat):Int):=L7 _ _;have C:((((36-thr k b:Nat):Int))!=0)=true:=by rw[bne_iff_ne];omega
   rw[M8,M8,Vv,A6];simp only[vl,t,u,v,w,C,cond_true,cond_false];rw[Xs g];generalize hA:(q-thr k b) / (36-thr k b)=A at *;generalize J:(q-thr k b) % (36-thr k b)=B at *;have x:A1 ((thr k b:Int)+(B:Int))=((thr k b+B:Nat):Int):=by rw[A7];rfl
   have y:A1 (A:Int)=(A:Int):=A7;rw[x,y,M8,E9 (by omega),b9,show ac3 ((36*k:Nat):Int) 36=((36*(k+1):Nat):Int) from(by show((36*k:Nat):Int)+36=_;omega)];refine g6 (e R a) ?_;simp[m6]
theorem Bf8(q b:Int)(z:Bool)(l:LL)(h:ltN q 1152921504606846976=true)(i:ltN b 1000000=true)(j:i6 l.length 100000=true) :
  ∃(c d:Int),∀(R:Type) (a:Bool->LL->Int->Int->Option R),Cw6 LF q b z l a=a z (al0 l ((O4 q.toNat 0 b.toNat).map D7)) c d:=by
 obtain⟨f,m⟩:=E6.1 h;obtain⟨g,n⟩:=E6.1 i;obtain⟨q,rfl⟩:=f9 f;obtain⟨b,rfl⟩:=f9 g;have o:=y9 j;have k:=C1;obtain⟨c,d,e⟩:=Bf7 z b (by omega) 19 q 0 LF l (by omega) (by omega) (by omega) (by omega) (by omega);exact⟨c,d,λR a=>e R _⟩
def Ab(l:List Int):LL:=l.map λx=>[SV.int .i64 x]
def B3(l:List Nat):LL:=l.map λx:Nat=>[SV.int .i64 (x:Int)]
theorem Ow(l:List Nat):Ab (l.map λn:Nat=>(n:Int))=B3 l:=by simp[Ab,B3,ae8]
theorem T7(l:List Int):(Ab l).length=l.length:=by simp[Ab]
theorem C7(l:List Nat):(B3 l).length=l.length:=by simp[B3]
theorem Iz(a b:List Nat):B3 (a++b)=B3 a++B3 b:=by simp[B3]
theorem RC{l:List Int}{i:Nat}(h:i<l.length):okE Jm (Ab l) i 0=true:=by unfold okE Ab Jm;simp[c9,h,okS,SV.has]
theorem Aj0(l:List Int)(i:Nat)(h:i<l.length):gE (Ab l) i 0=l.getD i 0:=by unfold gE gC Ab;simp[c9,f8 h,SV.gI]
theorem Ox{l:List Nat}{i:Nat}(h:i<l.length):okE Jm (B3 l) i 0=true:=by rw[<-Ow];exact RC (by simpa using h)
theorem Xy(l:List Nat)(i:Nat)(h:i<l.length):gE (B3 l) i 0=(l.getD i 0:Int):=by rw[<-Ow,Aj0 _ _ (by simpa using h)];grind
theorem A56{l:LL}(h:l.all Lt=true):∃P:List Int,l=Ab P:=by
 induction l with
 | nil=>exact⟨[],rfl⟩
 | cons x r b=>
  simp only[x8,g9] at h;obtain⟨P,rfl⟩:=b h.2;have a:=h.1;unfold Lt at a;split at a
  ·rename_i n;exact⟨n::P,rfl⟩
  ·cases a
theorem VE(P:List Int):(Ab P).map elI=P:=by
 unfold Ab;rw[ab7]
 conv=>rhs;rw[<-ag6 P]
 apply x6;intro x _;simp[elI,SV.gI]
theorem VD(l:List Int)(i:Nat)(h:i<l.length):l.drop i=l.getD i 0::l.drop (i+1):=by simp_all
theorem Tf(l:List Nat)(i:Nat)(h:i<l.length):l.drop i=l.getD i 0::l.drop (i+1):=by simp_all
theorem Ca5:∀(r d k:Nat),d<456*35 ^ r->Xc d k<=k+36*r+36:=by
 intro r
 induction r with
 | zero=>
  intro d k h;rw[Qo (by simp at h;omega)];have:36*d / (d+38)<=36:=by
   apply Nat.div_le_of_le_mul;omega
  omega
 | succ r b=>
  intro d k h;by_cases a:455<d
  ·rw[ED a];grind
  grind
theorem Mp(d c:Nat)(f:Bool)(h:d<1152921504606846976):P4 d c f<=500:=by
 unfold P4;have a:∀x:Nat,x<=d->Xc (x+x / c) 0<=500:=by
  intro x a;have:=ac5 x c;have:=Ca5 11 (x+x / c) 0 (by omega);omega
 grind
theorem KG{q k b:Nat}(h:q<1152921504606846976):(O4 q k b).length<=20:=Ai3 b 19 q k (by omega)
theorem A74(z t:Bool)(c:List Nat)(a m:Nat)(Q:m<=1114112)(P:c.length<=256):∀(r i n:Nat) (s:MH),i+r=c.length->r<n->s.delta+r<=1000000000000->s.bias<=500->s.out.length+20*r<=90000->s.done+r<=1000->a<=256->
  (∀(R:Type) (d:Bool->Bool->LL->Int->Int->Int->Int->Int->LL->Option R),Bf LF n z t (B3 c) (a:Int) (m:Int) (s.delta:Int) (s.bias:Int) (s.done:Int) (c.length:Int) (i:Int) (s.out.map D7) d =
   d z t (B3 c) (a:Int) (m:Int) ((G8 m a (c.drop i) s).delta:Int) ((G8 m a (c.drop i) s).bias:Int) ((G8 m a (c.drop i) s).done:Int) ((G8 m a (c.drop i) s).out.map D7))/\
  (G8 m a (c.drop i) s).bias<=500/\(G8 m a (c.drop i) s).out.length<=s.out.length+20*(c.drop i).countP (· == m)/\(G8 m a (c.drop i) s).done=s.done+(c.drop i).countP (· == m)/\
  (G8 m a (c.drop i) s).delta<=(if 0<(c.drop i).countP (· == m) then r else s.delta+r):=by
 intro r
 induction r with
 | zero=>
  intro i n s N O K x L M y;obtain⟨n,rfl⟩:∃m,n=m+1:=⟨n-1,by omega⟩
  rw[d8 (by omega)];refine⟨λR d=>?_,x,by simp[G8],by simp[G8],by simp[G8]⟩;rw[Bf];rw[A6];rfl
 | succ r F=>
  intro i n s N O K x L M y;obtain⟨n,rfl⟩:∃m,n=m+1:=⟨n-1,by omega⟩
  rw[Tf c i (by omega)];have C:=Xy c i (by omega);have ok:=Ox (l:=c) (i:=i) (by omega);generalize c.getD i 0=p at *;have A:A1 ((i:Int)+1)=((i+1:Nat):Int):=by rw[A7];rfl
  have I:A1 ((s.delta:Int)+1)=((s.delta+1:Nat):Int):=by rw[A7];rfl
  have J:A1 ((s.done:Int)+1)=((s.done+1:Nat):Int):=by rw[A7];rfl
  by_cases D:p<m
  ·have e:(p==m)=false:=by rw[beq_eq_false_iff_ne];omega
   have j:G8 m a (p::c.drop (i+1)) s=G8 m a (c.drop (i+1)) { s with delta:=s.delta+1 }:=by rw[G8,if_pos D]
   obtain⟨o,u,v,w,f⟩:=F (i+1) n { s with delta:=s.delta+1 } (by omega) (by omega) (by simp only;omega) x (by simp only;omega) (by simp only;omega) y;rw[j,af6 (by rw[e];simp)];refine⟨λR d=>?_,u,v,w,?_⟩
   ·rw[Bf];rw[A8,C7,E4,b9,ok];simp only[cond_true,vl,C,A,I];rw[A8,cond_true];exact o R d
   ·simp only at f;split at f<;>split<;>omega
  ·by_cases H:p=m
   ·subst H;have G:=KG (q:=s.delta) (k:=0) (b:=s.bias) (by omega);have B:=Mp s.delta (s.done+1) (s.done==a) (by omega);have j:G8 p a (p::c.drop (i+1)) s=G8 p a (c.drop (i+1)) { delta:=0,bias:=P4 s.delta (s.done+1) (s.done==a),done:=s.done+1,out:=s.out++O4 s.delta 0 s.bias }:=by rw[G8,if_neg D,if_pos rfl]
    obtain⟨o,u,v,w,f⟩:=F (i+1) n { delta:=0,bias:=P4 s.delta (s.done+1) (s.done==a),done:=s.done+1,out:=s.out++O4 s.delta 0 s.bias } (by omega) (by omega) (by simp only;omega) B (by simp only[m7];omega) (by simp only;omega) y;rw[j,List.countP_cons_of_pos (by simp)];refine⟨λR d=>?_,u,?_,?_,?_⟩
    ·rw[Bf];have g:((s.done:Int)==(a:Int))=(s.done==a):=by grind
     rw[A8,C7,E4,b9,ok];simp only[cond_true,vl,C,A,J];rw[A6,cond_false,beq_self_eq_true,cond_true,M8,M8,j2,t7 (show s.out.length<=100000 by omega),M8,A8,g];simp only[cond_true,b9];have h:al0 (s.out.map D7) ((O4 s.delta 0 s.bias).map D7)=(s.out++O4 s.delta 0 s.bias).map D7:=by rw[ad6];rfl
     rw[h];exact o R d
    ·simp only[m7] at v;omega
    ·simp only at w;omega
    ·simp only at f;rw[R7];split at f<;>omega
   ·have e:(p==m)=false:=by rw[beq_eq_false_iff_ne];omega
    have j:G8 m a (p::c.drop (i+1)) s=G8 m a (c.drop (i+1)) s:=by rw[G8,if_neg D,if_neg H]
    obtain⟨o,u,v,w,f⟩:=F (i+1) n s (by omega) (by omega) (by omega) x (by omega) (by omega) y;rw[j,af6 (by rw[e];simp)];refine⟨λR d=>?_,u,v,w,?_⟩
    ·rw[Bf];rw[A8,C7,E4,b9,ok];simp only[cond_true,vl,C,A];rw[A6,cond_false,show((p:Int)==(m:Int))=false by rw[beq_eq_false_iff_ne];omega,cond_false];exact o R d
    ·split at f<;>split<;>omega
theorem Ao6{R:Type}{k0:Bool->Bool->LL->Int->Int->Int->Int->Int->Int->LL->Option R}(z t:Bool)(a:List Nat)(k:a.length<=256)(n0:Nat)(b delta c done:Int)(l:LL):∀(r i n m:Nat),i+r=a.length->r<n->
  Hf LF n z t (B3 a) b (n0:Int) delta c done (m:Int) (a.length:Int) (i:Int) l k0=k0 z t (B3 a) b (n0:Int) delta c done ((G5 n0 (a.drop i) m:Nat):Int) l:=by
 intro r
 induction r with
 | zero=>
  intro i n m g j;obtain⟨n,rfl⟩:∃m,n=m+1:=⟨n-1,by omega⟩
  rw[Hf];rw[A6,d8 (by omega)];rfl
 | succ r d=>
  intro i n m g j;obtain⟨n,rfl⟩:∃m,n=m+1:=⟨n-1,by omega⟩
  have f:=Xy a i (by omega);have ok:=Ox (l:=a) (i:=i) (by omega);rw[Hf,Tf a i (by omega)];generalize a.getD i 0=p at *;have e:A1 ((i:Int)+1)=((i+1:Nat):Int):=by rw[A7];rfl
  rw[A8,C7,E4,b9,ok];simp only[cond_true,vl,f,e,G5];by_cases h:n0<=p
  ·rw[if_pos h,A6,d9,cond_true];have:(if (p:Int)<(m:Int) then (p:Int) else (m:Int))=((min m p:Nat):Int):=by split<;>omega
   rw[this];exact d (i+1) n (min m p) (by omega) (by omega)
  ·rw[if_neg h,A8,d7,cond_false];exact d (i+1) n m (by omega) (by omega)
theorem De(n:Nat):∀(l:List Nat) (m:Nat),(G5 n l m=m\/(G5 n l m∈l/\n<=G5 n l m))/\G5 n l m<=m/\∀p∈l,n<=p->G5 n l m<=p
 | [],m=>⟨.inl rfl,ac7 _,λp h=>by cases h⟩
 | q::r,m=>by
  obtain⟨a,b,c⟩:=De n r (if n<=q then min m q else m);simp only[G5];grind
theorem Sz{n m:Nat}(a:n<=m):∀l:List Nat,(∀p∈l,n<=p->m<=p)->l.countP (λp=>decide (p<m+1))=l.countP (λp=>decide (p<n))+l.countP (· == m)
 | [],_=>rfl
 | p::l,h=>by
  have d:=Sz a l (λq b=>h q (List.mem_cons_of_mem _ b));have c:=h p List.mem_cons_self;grind
theorem Ah1{n:Nat}{l:List Nat}(h:l.countP (λp=>decide (p<n))<l.length):∃p∈l,n<=p:=by
 apply z7;intro a;have:l.countP (λp=>decide (p<n))=l.length:=by simp_all
 omega
theorem Bz3(z t:Bool)(a:List Nat)(b:Nat)(x:a.length<=256)(N:b<=256)(g:∀p∈a,p<=1114111):∀(f n d:Nat) (s:MH),s.done=a.countP (λp=>decide (p<n))->a.length<=s.done+f->f<d->s.delta<=300->s.bias<=500->s.out.length+20*(a.length-s.done)<=80000->n<=1114112->
  ∀(R:Type) (k0:LL->Option R),Ee LF d z t (B3 a) (b:Int) (n:Int) (s.delta:Int) (s.bias:Int) (s.done:Int) (s.out.map D7) k0=k0 ((Q2 a b f n s).out.map D7):=by
 intro f;have M:=C1
 induction f with
 | zero=>
  intro n d s P S T I v J L R k0;obtain⟨d,rfl⟩:∃m,d=m+1:=⟨d-1,by omega⟩
  rw[Ee];rw[C7,A6];rfl
 | succ f U=>
  intro n d s P S T I v J L R k0;obtain⟨d,rfl⟩:∃m,d=m+1:=⟨d-1,by omega⟩
  rw[Ee];rw[C7];have O:a.countP (λp=>decide (p<n))<=a.length:=s9;by_cases j:s.done<a.length
  ·obtain⟨A,k,q⟩:=Ah1 (n:=n) (l:=a) (by omega);obtain⟨g1,g2,u⟩:=De n a 1114112;have g4:=u A k q;have g5:=g A k;have e:G5 n a 1114112∈a/\n<=G5 n a 1114112:=by grind
   have Q:Q2 a b (f+1) n s=Q2 a b f (G5 n a 1114112+1) { G8 (G5 n a 1114112) b a { s with delta:=s.delta+(G5 n a 1114112-n)*(s.done+1) } with delta:=(G8 (G5 n a 1114112) b a { s with delta:=s.delta+(G5 n a 1114112-n)*(s.done+1) }).delta+1 }:=by
    rw[Q2,if_pos j]
   rw[Q,A8,cond_true];have c:=λ(K:Bool->Bool->LL->Int->Int->Int->Int->Int->Int->LL->Option R)=>Ao6 (k0:=K) z t a x n (b:Int) (s.delta:Int) (s.bias:Int) (s.done:Int) (s.out.map D7) a.length 0 LF 1114112 (by omega) (by omega)
   rw[j6] at c;refine g6 (c _) ?_;generalize G5 n a 1114112=m at *;have y:(m-n)*(s.done+1)<=1114112*256:=ah0 (by omega) (by omega);have B:A1 ((s.done:Int)+1)=((s.done+1:Nat):Int):=by rw[A7];rfl
   have C:A1 ((m:Int)-(n:Int))=((m-n:Nat):Int):=by rw[A7];omega
   have D:A1 (((m-n:Nat):Int)*((s.done+1:Nat):Int))=(((m-n)*(s.done+1):Nat):Int):=by
    rw[<-Int.natCast_mul];exact A7
   have F:A1 ((s.delta:Int)+(((m-n)*(s.done+1):Nat):Int))=((s.delta+(m-n)*(s.done+1):Nat):Int):=by
    rw[A7];rfl
   simp only[vl,B,C,D,F];have i:=A74 z t a b m (by omega) x a.length 0 LF { s with delta:=s.delta+(m-n)*(s.done+1) } (by omega) (by omega) (by simp only;omega) v (by simp only;omega) (by simp only;omega) N;rw[j6] at i;obtain⟨V,W,X,Y,Z⟩:=i;rw[C7];refine g6 (V R _) ?_;have h:0<a.countP (· == m):=ah5.2 ⟨m,e.1,by simp⟩;rw[if_pos h] at Z;have r:=Sz e.2 a u;generalize G8 m b a { s with delta:=s.delta+(m-n)*(s.done+1) } = o at *;simp only at X Y;have G:A1 ((o.delta:Int)+1)=((o.delta+1:Nat):Int):=by rw[A7];rfl
   have H:A1 ((m:Int)+1)=((m+1:Nat):Int):=by rw[A7];rfl
   have w:a.countP (λp=>decide (p<m+1))<=a.length:=s9;simp only[G,H];exact U (m+1) d { o with delta:=o.delta+1 } (by simp only;omega) (by simp only;omega) (by omega) (by simp only;omega) W (by simp only;omega) (by omega) R k0
  ·rw[A6];rw[Q2,if_neg j];rfl
def U5(l:List Int):By:=(l.filter λx=>decide (x<128)).map λx=>w8 x.toNat
theorem B53(x:Int)(a:0<=x)(h:x<128):[SV.int .u8 (wu8 x)]=D7 (w8 x.toNat):=by
 unfold D7;have e:wu8 x=x:=by unfold wu8;exact Int.emod_eq_of_lt a (show x<256 by omega)
 rw[e];have:((w8 x.toNat).toNat:Int)=x:=by simp;omega
 rw[this]
theorem Rp{x:Int}(h:ptI x=true):0<=x/\x<=1114111:=by
 cases x with
 | negSucc m=>cases h
 | ofNat m=>
  have:T9 m=true:=h;unfold T9 at this;simp only[g9,j7] at this;grind
theorem Ao1(z t:Bool)(P:List Int)(A:P.length<=256):∀(r i n:Nat) (out:By),i+r=P.length->r<n->out.length+r<=1000->
  ((P.drop i).all ptI=true->∀(R:Type) (a:LL->Option R) (b:Bool->Bool->LL->LL->Option R),T3 LF n z t (Ab P) (P.length:Int) (i:Int) (out.map D7) a b=b z t (Ab P) ((out++U5 (P.drop i)).map D7))/\
  ((P.drop i).all ptI=false->∃l,∀(R:Type) (a:LL->Option R) (b:Bool->Bool->LL->LL->Option R),T3 LF n z t (Ab P) (P.length:Int) (i:Int) (out.map D7) a b=a l):=by
 intro r
 induction r with
 | zero=>
  intro i n out u v w;obtain⟨n,rfl⟩:∃m,n=m+1:=⟨n-1,by omega⟩
  rw[d8 (by omega)];refine⟨λ_ R a b=>?_,λh=>(by cases h)⟩;rw[T3];rw[A6];simp[U5]
 | succ r q=>
  intro i n out u v w;obtain⟨n,rfl⟩:∃m,n=m+1:=⟨n-1,by omega⟩
  have j:=Aj0 P i (by omega);have ok:=RC (l:=P) (i:=i) (by omega);rw[VD P i (by omega)];generalize P.getD i 0=x at *;have p:A1 ((i:Int)+1)=((i+1:Nat):Int):=by rw[A7];rfl
  cases f:ptI x with
  | false=>
   refine⟨λh=>?_,λ_=>⟨out.map D7,λR a b=>?_⟩⟩
   ·rw[x8,f] at h;cases h
   ·rw[T3];rw[A8,T7,E4,b9,ok];simp only[cond_true,vl,j,f,d9]
  | true=>
   obtain⟨y,B⟩:=Rp f;rw[x8,f,ab1];by_cases c:x<128
   ·have d:U5 (x::P.drop (i+1))=w8 x.toNat::U5 (P.drop (i+1)):=by
     unfold U5;rw[List.filter_cons_of_pos (by simpa using c)];rfl
    have g:out.map D7++[[SV.int .u8 (wu8 x)]]=(out++[w8 x.toNat]).map D7:=by rw[B53 x y c];simp
    obtain⟨k,o⟩:=q (i+1) n (out++[w8 x.toNat]) (by omega) (by omega) (by simp;omega);have step:∀(R:Type) (a:LL->Option R) (b:Bool->Bool->LL->LL->Option R),T3 LF (n+1) z t (Ab P) (P.length:Int) (i:Int) (out.map D7) a b=T3 LF n z t (Ab P) (P.length:Int) ((i+1:Nat):Int) ((out++[w8 x.toNat]).map D7) a b:=by
     intro R a b;rw[T3];rw[A8,T7,E4,b9,ok];simp only[cond_true,vl,j,f,d7,cond_false,p];rw[B4 c,j2,E9 (by omega),g];rfl
    refine⟨λh R a b=>?_,λh=>?_⟩
    ·rw[step,k h,d];simp
    ·obtain⟨l,e⟩:=o h;exact⟨l,λR a b=>by rw[step];exact e R a b⟩
   ·have d:U5 (x::P.drop (i+1))=U5 (P.drop (i+1)):=by
     unfold U5;rw[List.filter_cons_of_neg (by simpa using c)]
    obtain⟨k,o⟩:=q (i+1) n out (by omega) (by omega) (by omega);have step:∀(R:Type) (a:LL->Option R) (b:Bool->Bool->LL->LL->Option R),T3 LF (n+1) z t (Ab P) (P.length:Int) (i:Int) (out.map D7) a b=T3 LF n z t (Ab P) (P.length:Int) ((i+1:Nat):Int) (out.map D7) a b:=by
     intro R a b;rw[T3];rw[A8,T7,E4,b9,ok];simp only[cond_true,vl,j,f,d7,cond_false,p];rw[A6];rfl
    refine⟨λh R a b=>?_,λh=>?_⟩
    ·rw[step,k h,d]
    ·obtain⟨l,e⟩:=o h;exact⟨l,λR a b=>by rw[step];exact e R a b⟩
theorem A77{P:List Int}(h:P.all ptI=true):∃a:List Nat,P=a.map (λn:Nat=>(n:Int))/\a.all T9=true/\∀p∈a,p<=1114111:=by
 induction P with
 | nil=>exact⟨[],rfl,rfl,by simp⟩
 | cons x P c=>
  rw[x8,g9] at h;obtain⟨a,rfl,b,e⟩:=c h.2;obtain⟨d,f⟩:=Rp h.1;obtain⟨m,rfl⟩:=f9 d;refine⟨m::a,rfl,?_,?_⟩
  ·rw[x8,b,aa5];exact h.1
  grind
theorem EI(a:List Nat):U5 (a.map λn:Nat=>(n:Int))=H6 a:=by
 unfold U5 H6
 induction a with
 | nil=>rfl
 | cons p r b=>
  grind
theorem Qw(a:List Nat):(H6 a).length=a.countP (λp=>decide (p<128)):=by unfold H6;grind
theorem Ao2(z t:Bool)(P:List Int):(U7 P=([],3)/\∀(R:Type) (b:Unit->Option R) (f:By->Int->LL->Option R),XB LF z t (Ab P) b f=b ())\/
  (∃l,∀(R:Type) (b:Unit->Option R) (f:By->Int->LL->Option R),XB LF z t (Ab P) b f=f (U7 P).1 ((U7 P).2:Nat) l):=by
 have x:=C1;by_cases j:256<P.length
 ·refine .inl ⟨by unfold U7;rw[if_pos j],λR b f=>?_⟩;unfold XB;rw[T7,A8];rfl
 ·right
  obtain⟨v,w⟩:=Ao1 z t P (by omega) P.length 0 LF [] (by omega) (by omega) (by simp;omega);rw[j6] at v w;cases g:P.all ptI with
  | false=>
   obtain⟨l,e⟩:=w g;refine⟨l,λR b f=>?_⟩;unfold XB;rw[T7,A6,cond_false];refine g6 (e R _ _) ?_;unfold U7;rw[if_neg j,g];rfl
  | true=>
   obtain⟨a,rfl,A,q⟩:=A77 g;rw[j2] at j;have m:U7 (a.map λn:Nat=>(n:Int))=Bz a:=by
    unfold U7;rw[j2,if_neg j,g];simp[ae8]
   have k:=Qw a;have y:a.countP (λp=>decide (p<128))<=a.length:=s9;have main:∀(o:By),o.length<=300->∀(R:Type) (b:LL->Option R),Ee LF LF z t (B3 a) ((H6 a).length:Int) 128 0 72 ((H6 a).length:Int) (o.map D7) b=b ((Q2 a (H6 a).length 256 128 { delta:=0,bias:=72,done:=(H6 a).length,out:=o }).out.map D7):=by
    intro o B R b;exact Bz3 z t a (H6 a).length (by omega) (by omega) q 256 128 LF { delta:=0,bias:=72,done:=(H6 a).length,out:=o } k (by simp only;omega) (by omega) (by simp) (by simp) (by simp only;omega) (by omega) R b
   have d:Bz a=((Q2 a (H6 a).length 256 128 { delta:=0,bias:=72,done:=(H6 a).length,out:=if (H6 a).isEmpty then [] else H6 a++[45] }).out,0):=by
    unfold Bz;grind
   refine⟨(Bz a).1.map D7,λR b f=>?_⟩;unfold XB;rw[T7,j2,A6,cond_false,m];have i:=v g R;rw[j2] at i;refine g6 (i _ _) ?_;rw[j9,EI,Ow];simp only[vl,j2];by_cases c:H6 a=[]
   ·rw[c,p7,A6,cond_false];have r:=main [] (by simp) R;rw[c,p7] at r;rw[af8] at r;refine g6 (r _) ?_;rw[c] at d;rw[d];simp only[List.isEmpty_nil,if_true,p7];rw[V4,V9];rfl
   ·have u:0<(H6 a).length:=x4.2 c;rw[A8,cond_true,E9 (by omega),cond_true];have h:(H6 a).map D7++[[SV.int .u8 (45:Int)]]=(H6 a++[45]).map D7:=by rw[ad6];rfl
    rw[h];refine g6 (main (H6 a++[45]) (by simp;omega) R _) ?_;rw[d,if_neg (by simpa using c)];rw[V4,V9];rfl
theorem Ch8(z t:Bool)(p:LL)(b:p.all Lt=true):∃r H,XB LF z t p (λ_=>rv (.tup [.s (.str []),.s (.int .i64 3)]) []) (λd e l=>rv (.tup [.s (.str d),.s (.int .i64 e)]) [.arr true 5 1 l])=rv r H/\
  r.stab [0,0] H = .tup [.s (.str (U7 (p.map elI)).1),.s (.int .i64 ((U7 (p.map elI)).2:Nat))]:=by
 obtain⟨P,rfl⟩:=A56 b;rw[VE];rcases Ao2 z t P with⟨c,a⟩|⟨l,a⟩
 ·exact⟨_,_,a _ _ _,by rw[c];rfl⟩
 ·exact⟨_,_,a _ _ _,rfl⟩
section
variable {Z R : Type} (L : Nat) (Q : F6) (Y : Yh Z) (s : Z) (k : Out -> St Z -> Option R)
noncomputable abbrev Cu0:Code:=C8 an7
noncomputable def Xi(L:Nat):Cfg:=B7 L [186] (A4 [(3,[0,1,0,0])]) [(182,DB),(189,Ac7)] (A4 [(17,[2]),(16,[0,2,0,53]),(15,[0,2,0]),(14,[2]),(13,[0,2,0,1,45]),(12,[0,2,0,0,0]),(11,[2]),(10,[0,2,0,0,41]),(9,[0,2,0,0]),(8,[0,2,0,0]),(7,[2]),(6,[0,2,0,0,18]),(5,[0,2,0,0]),(4,[2]),(3,[0,2,0,11]),(2,[0,2,0]),(1,[0,2]),(0,[0])]) [189] (A4 [(0,[2]),(1,[0,2,0])]) (some [2]) [(188,Oe)] [] [188]
noncomputable def Dx{R:Type}(L n:Nat)(o:Int)(b:By)(i m c:Int)(f j:Bool)(h:LL)(n8:Int)(g:Int->By->Int->Int->Int->Bool->Bool->LL->Int->Option R):Option R:=match n with|0=>none|n+1=>cond (b==[]) (g 4 b i m c f j h n8) (cond (inR 0 b.length) (cond (inR (bAt b (0:Int)) 256) (vl (D8 (u8n (bAt b (0:Int)))) λe=>cond (ltI e 0) (g 4 b i m c f j h n8) (cond (I5 1 (b.length:Int) b.length) (vl (cut b 1 (b.length:Int)) λd=>vl (A1 (m+(A1 (e*o)))) λa=>cond (ltI 1099511627776 a) (g 19 d i a c f j h n8) (cond (ltN n8 1000000000000) (cond (ltN c 1000000) (cond (ltI e (J9 n8 c)) (g 0 d i a c f j h (ac3 n8 (36:Int))) (vl (A1 ((36:Int)-(J9 n8 c))) λl=>cond (ltI 1099511627776 (A1 (o*l))) (g 19 d i a c f j h (ac3 n8 (36:Int))) (Dx L n (A1 (o*l)) d i a c f j h (ac3 n8 (36:Int)) g))) none) none)) none)) none) none)
theorem Ai1(n w0 f d e a b g c n8):C9 4 ((Xi L).keep 3) (bd (Xi L) Q Y (cd [1,1,1,0,0] Cu0)) n ⟨gp [(0,.ptr 0 0 0),(2,.fnr (Fn.func 188) [] [.ptr 3 0 0,.ptr 2 0 0]),(0,pI w0)] 54,[.box [pS f,.fl 1,pI d,pI e,pI a,pB b],.arr g 3 1 c,.box [pI a],.box [pI n8]],s⟩ k =
 Dx L n w0 f d e a b g c n8 (λn0 f d e a b g c n8=>k .ret ⟨gp [(2,pI n0)] 56,[.box [pS f,.fl 1,pI d,pI e,pI a,pB b],.arr g 3 1 c,.box [pI a],.box [pI n8]],s⟩):=by
 induction n generalizing w0 f d e a b g c n8 with
 | zero=>rfl
 | succ n h=>rw[Dx];simp only[<-h];kernel_rfl
noncomputable def Cu7{R:Type}(L:Nat)(g:By)(n i b:Int)(q z:Bool)(l:LL)(p:Int->By->Int->Int->Int->Bool->Bool->LL->Int->Option R):Option R:=Dx L L 1 g n i b q z l 0 (λj o m d e a h c f=>p j o m d e a h c f)
theorem Cc4(d:Nat)(rest n i b st z l):evC (Xi L) (d+1) Z Y 186 [.ptr 0 0 0] [.box [pS rest,.fl 1,pI n,pI i,pI b,pB st],.arr z 3 1 l] s=Cu7 L rest n i b st z l (λh j f g a c m e n8=>some (pI h,[.box [pS j,.fl 1,pI f,pI g,pI a,pB c],.arr m 3 1 e,.box [pI a],.box [pI n8]],s)):=by refine(evE (fn:=an7) (by kernel_rfl)).trans ?_;generalize evC (Xi L) d=Q;unfold Cu7;exact(g6 (by kernel_rfl) ((Ai1 L Q Y s (E3 0 (F5 (Xi L) an7)) L 1 rest n i b st z l 0).trans (by kernel_rfl)))
noncomputable def PC(L:Nat):Cfg:=B7 L [175] (A4 []) [(170,Mh),(168,Mi)] (A4 [(16,[2]),(15,[]),(14,[0]),(13,[2]),(12,[0,67]),(11,[2]),(10,[0,4,60]),(9,[0,4]),(8,[0,4]),(7,[0,4]),(6,[0,4]),(5,[0,2,1]),(4,[2]),(3,[0,2,0,8]),(2,[0,2,0]),(1,[0,2]),(0,[0])]) [170,168] (A4 []) (some [2]) [(186,ML),(187,OE)] [] [186,187]
noncomputable def A49{R:Type}(L:Nat)(a:By)(n i b:Int)(m z:Bool)(l:LL)(j:Int->By->Int->Int->Int->Bool->Bool->LL->Option R):Option R:=cond (A3 a.length) (cond (ltN b 1000000) (cond (ltN i 1099511627777) (cond ((GK b a i)!=0) (j (GK b a i) (GM b a i) n (Ro b a i) b m z l) (vl (A1 ((l.length:Int)+1)) λc=>vl (A1 ((Ro b a i)-i)) λh=>cond (ltN h 1152921504606846976) (cond (ltN c 1000000) (cond (ltI 0 c) (vl (↑(P4 (f6 h) (f6 c) (not m)):Int) λf=>cond (c !=0) (vl (A1 (ab5 (Ro b a i) c)) λd=>cond (c !=0) (vl (ai9 (Ro b a i) c) λe=>cond (not (ptI (A1 (n+d)))) (j 2 (GM b a i) (A1 (n+d)) e f true z l) (cond (ltI 256 c) (j 3 (GM b a i) (A1 (n+d)) e f true z l) (cond (ltN e (Nat.add l.length 1)) (cond (i6 l.length 100000) (vl (Ki l (f6 e) (A1 (n+d))) λg=>j 0 (GM b a i) (A1 (n+d)) (A1 (e+1)) f true z g) none) none))) none) none) none) none) none)) none) none) none
theorem Bu5(d:Nat)(rest n i b st z l):evC (PC L) (d+1) Z Y 175 [.ptr 0 0 0] [.box [pS rest,.fl 1,pI n,pI i,pI b,pB st],.arr z 3 1 l] s=A49 L rest n i b st z l (λh j e f g a m c=>some (pI h,[.box [pS j,.fl 1,pI e,pI f,pI g,pB a],.arr m 3 1 c],s)):=by refine(evE (fn:=Tryz.f175) (by kernel_rfl)).trans ?_;generalize evC (PC L) d=Q;unfold A49;kernel_rfl
noncomputable abbrev Qr:Code:=C8 ah4
noncomputable def Y1(L:Nat):Cfg:=B7 L [155] (A4 [(20,[2,0,1]),(13,[0,1,0,1,0,22,0]),(4,[0,1,0,9,0])]) [(80,BI)] (A4 [(24,[2,0]),(23,[2,0]),(22,[5,2,59]),(21,[5,2]),(20,[5,58]),(19,[2,0]),(18,[5,53]),(17,[5]),(16,[0,4,0,22,0]),(15,[0,4,0,22,0]),(14,[0,4,0,0,21,0]),(13,[0,4,0,22,0,0]),(12,[0,4,0,22,0]),(11,[0,4,0,21]),(10,[0,4,0]),(9,[0,4]),(8,[0,12,0]),(7,[2,0]),(6,[0,12,0,5]),(5,[0,3,8,0]),(4,[0,12,0,0]),(3,[0,12,0]),(2,[2,0]),(1,[0,10]),(0,[0])]) [80] (A4 [(4,[5]),(5,[5]),(2,[0,4,0]),(3,[0,4,0,22,0]),(0,[0]),(1,[0,12,0])]) (some [2,0]) [(175,BH)] [] [175] (nt:=[(152,1,3,1)])
noncomputable def Kq{R:Type}(L n:Nat)(b:By)(e a:Int)(c:Unit->Option R)(d:By->Option R):Option R:=match n with|0=>none|n+1=>cond (ltI a e) (cond (inR a b.length) (cond (not (ltI (bAt b a) (128:Int))) (c ()) (Kq L n b e (A1 (a+1)) c d)) none) (d b)
theorem An9(n a n1 n2):C9 0 ((Y1 L).keep 4) (bd (Y1 L) Q Y (cd [1,1,0,1,0,0] Qr)) n ⟨gp [(0,pS a),(12,pI n1),(0,pI n2)] 59,[],s⟩ k =
 Kq L n a n1 n2 (λ_=>k .ret ⟨gp [(2,.fl 0),(0,pI (4:Int))] 70,[.arr true 3 1 []],s⟩) (λa=>k (.exit 0) ⟨gp [(0,pS a)] 73,[],s⟩):=by
 induction n generalizing a n1 n2 with
 | zero=>rfl
 | succ n b=>rw[Kq];simp only[<-b];kernel_rfl
noncomputable def He{R:Type}(L n:Nat)(c:By)(a b:Int)(d:LL)(e:By->Int->LL->Option R):Option R:=match n with|0=>none|n+1=>cond (ltI b a) (cond (inR b c.length) (cond (F2 (d.length+1)) (He L n c a (A1 (b+1)) (d++[[(SV.int .i64 (A1 (bAt c b)))]]) e) none) none) (e c a d)
theorem Ao0(n b a n2 l3):C9 2 ((Y1 L).keep 13) (bd (Y1 L) Q Y (cd [1,1,1,1,0,1,1,0,0,1,0,0] Qr)) n ⟨gp [(0,pS b),(4,.ptr 1 0 0),(0,pI a),(22,pI a),(0,pI n2)] 43,[.arr true 3 1 l3,.box [pS b,.fl 0,pI (128:Int),pI (0:Int),pI (72:Int),pB false]],s⟩ k =
 He L n b a n2 l3 (λb a d=>k (.exit 2) ⟨gp [(0,pS b),(4,.ptr 1 0 0),(0,pI a)] 67,[.arr true 3 1 d,.box [pS b,.fl 0,pI (128:Int),pI (0:Int),pI (72:Int),pB false]],s⟩):=by
 induction n generalizing b a n2 l3 with
 | zero=>rfl
 | succ n c=>rw[He];simp only[<-c];kernel_rfl
noncomputable def R3{R:Type}(L n:Nat)(b:LL)(a:By)(c d e:Int)(f:Bool)(i:Int->LL->By->Int->Int->Int->Bool->Option R)(j:LL->By->Int->Int->Int->Bool->Option R):Option R:=match n with|0=>none|n+1=>cond (not (a==[])) (cond (A3 a.length) (cond (ltN e 1000000) (cond (ltN d 1099511627777) (cond (ltN c 1152921504606846976) (cond (i6 b.length 100000) (vl ((E8 (DS.mk a c d e f b))).1 λh=>vl (DS.l ((E8 (DS.mk a c d e f b))).2) λg=>cond (h !=0) (i h g (DS.rest ((E8 (DS.mk a c d e f b))).2) (DS.n ((E8 (DS.mk a c d e f b))).2) (DS.i ((E8 (DS.mk a c d e f b))).2) (DS.b ((E8 (DS.mk a c d e f b))).2) (DS.st ((E8 (DS.mk a c d e f b))).2)) (R3 L n g (DS.rest ((E8 (DS.mk a c d e f b))).2) (DS.n ((E8 (DS.mk a c d e f b))).2) (DS.i ((E8 (DS.mk a c d e f b))).2) (DS.b ((E8 (DS.mk a c d e f b))).2) (DS.st ((E8 (DS.mk a c d e f b))).2) i j)) none) none) none) none) none) (j b a c d e f)
theorem GS(n d f e a b c):C9 2 ((Y1 L).keep 20) (bd (Y1 L) Q Y (cd [1,1,1,1,1,1,0,0,0] Qr)) n ⟨gp [(5,.ptr 1 0 0)] 68,[.arr true 3 1 d,.box [pS f,.fl 0,pI e,pI a,pI b,pB c]],s⟩ k =
 R3 L n d f e a b c (λn0 i l a b j g=>k .ret ⟨gp [(2,.fl 2),(0,pI n0)] 70,[.arr true 3 1 i,.box [pS l,.fl 0,pI a,pI b,pI j,pB g],.arr true 3 1 []],s⟩) (λd f e a b c=>k (.exit 4) ⟨gp [(5,.ptr 1 0 0)] 68,[.arr true 3 1 d,.box [pS f,.fl 0,pI e,pI a,pI b,pB c]],s⟩):=by
 induction n generalizing d f e a b c with
 | zero=>rfl
 | succ n h=>rw[R3];simp only[<-h];kernel_rfl
noncomputable def Ul{R:Type}(L:Nat)(M:By)(N:Int->Option R)(K:Int->LL->By->Int->Int->Int->Bool->Option R)(O:LL->By->Int->Int->Int->Bool->Option R):Option R:=cond (ltI 1024 (M.length:Int)) (N 3) (Kq L L M (M.length:Int) 0 (λ_=>N 4) (λa=>cond (A3 a.length) (vl (K6 (u8n (45:Int)) a) λC=>cond (ltI 0 C) (He L L a C 0 [] (λb h c=>vl (A1 (h+1)) λD=>cond (I5 D (b.length:Int) b.length) (vl (cut b D (b.length:Int)) λJ=>cond (ltI 256 (c.length:Int)) (K 3 c J 128 0 72 false) (R3 L L c J 128 0 72 false (λn i F o p q d=>K n i F o p q d) (λj G r t u e=>O j G r t u e))) none)) (R3 L L [] a 128 0 72 false (λv l H w x y f=>K v l H w x y f) (λm I z A B g=>O m I z A B g))) none))
theorem Ch3(d:Nat)(s0):evC (Y1 L) (d+1) Z Y 155 [pS s0] [] s=Ul L s0 (λg=>some (.tup [.fl 0,pI g],[.arr true 3 1 []],s)) (λg o v e f r m=>some (.tup [.fl 2,pI g],[.arr true 3 1 o,.box [pS v,.fl 0,pI e,pI f,pI r,pB m],.arr true 3 1 []],s)) (λn u q e f l=>some (.tup [.fl 0,pI (0:Int)],[.arr true 3 1 n,.box [pS u,.fl 0,pI q,pI e,pI f,pB l]],s)):=by refine(evE (fn:=ah4) (by kernel_rfl)).trans ?_;generalize evC (Y1 L) d=Q;unfold Ul;exact let i:=(E3 4 (E2 (Y1 L) Q Y (cd [1,1,1,1,1,1,1] Qr) (F5 (Y1 L) ah4)));(g6 (by kernel_rfl) (A0 rfl ((An9 L Q Y s (E3 0 (E2 (Y1 L) Q Y (cd [1,1,1] Qr) (F5 (Y1 L) ah4))) L s0 (s0.length:Int) 0).trans (congr (congr rfl (by kernel_rfl)) (fx1 λa=>(g6 (by kernel_rfl) (A0 (A2 λc=>(A0 ((Ao0 L Q Y s (E3 2 (E2 (Y1 L) Q Y (cd [1,1,1,1,0,1,1,0,1] Qr) (E2 (Y1 L) Q Y (cd [1,1,1,1,1] Qr) (F5 (Y1 L) ah4)))) L a c 0 []).trans (congr rfl (fx3 λt j b=>(g6 (by kernel_rfl) (A2 λp=>(A0 (A2 λh=>(A0 rfl ((GS L Q Y s i L b h 128 0 72 false).trans (by kernel_rfl)))) rfl)))))) ((GS L Q Y s i L [] a 128 0 72 false).trans (by kernel_rfl)))) rfl)))))))
noncomputable abbrev UK:Code:=C8 an1
noncomputable def Fe(L:Nat):Cfg:=B7 L [104] (A4 [(2,[0,0,2,0])]) [] (A4 [(6,[4]),(3,[0,0,3]),(5,[4]),(4,[0,0,3,11]),(2,[0,0,3,4]),(1,[0,0,3]),(0,[0,0])]) [] (A4 [(0,[]),(1,[0,0,3])]) (some [4]) [] [] []
noncomputable def Cb{R:Type}(L n:Nat)(b:By)(c a:Int)(d:Int->Option R)(e:Unit->Option R):Option R:=match n with|0=>none|n+1=>cond (not (ltI a 0)) (cond (inR a b.length) (cond ((bAt b a)==c) (d a) (Cb L n b c (A1 (a-1)) d e)) none) (e ())
theorem QL(n s0 c1 i2):C9 0 ((Fe L).keep 2) (bd (Fe L) Q Y (cd [1,0,1,0,0] UK)) n ⟨gp [(0,pS s0),(0,p8 c1),(3,pI i2)] 13,[],s⟩ k =
 Cb L n s0 c1 i2 (λn0=>k .ret ⟨gp [(4,pI n0)] 14,[],s⟩) (λ_=>k (.exit 0) ⟨gp [] 19,[],s⟩):=by
 induction n generalizing s0 c1 i2 with
 | zero=>rfl
 | succ n a=>rw[Cb];simp only[<-a];kernel_rfl
noncomputable def QK{R:Type}(L:Nat)(d:By)(e:Int)(c:Int->Option R):Option R:=vl (A1 ((d.length:Int)-1)) λa=>Cb L L d e a (λb=>c b) (λ_=>c (-1))
theorem Bd7(d:Nat)(s0 c1):evC (Fe L) (d+1) Z Y 104 [pS s0,p8 c1] [] s=QK L s0 c1 (λb=>some (pI b,[],s)):=by refine(evE (fn:=an1) (by kernel_rfl)).trans ?_;generalize evC (Fe L) d=Q;unfold QK;exact(g6 (by kernel_rfl) (A2 λa=>((QL L Q Y s (E3 0 (E2 (Fe L) Q Y (cd [1,1] UK) (F5 (Fe L) an1))) L s0 c1 a).trans (by kernel_rfl))))
noncomputable def PH(L:Nat):Cfg:=B7 L [80] (A4 []) [(104,TX)] (A4 [(1,[4]),(0,[0,0])]) [104] (A4 []) (some [4]) [] [] []
noncomputable def A60{R:Type}(L:Nat)(b:By)(a:Int)(c:Int->Option R):Option R:=cond (A3 b.length) (cond (inR a 256) (c (K6 (u8n a) b)) none) none
theorem Bx0(d:Nat)(s0 c1):evC (PH L) (d+1) Z Y 80 [pS s0,p8 c1] [] s=A60 L s0 c1 (λa=>some (pI a,[],s)):=by refine(evE (fn:=Tryz.f80) (by kernel_rfl)).trans ?_;generalize evC (PH L) d=Q;unfold A60;kernel_rfl
end
theorem En(c:UInt8):-1<=D8 c/\D8 c<=35:=by unfold D8 Lz;grind
theorem Lg(k b:Int):1<=J9 k b/\J9 k b<=26:=by unfold J9;omega
theorem Cf{x w:Int}(b:0<=x)(c:x<=35)(a:0<=w)(w1:w<=1099511627776):0<=x*w/\x*w<=38482906972160:=by refine⟨al7 b a,?_⟩;have:=Int.mul_le_mul c w1 a (show(0:Int)<=35 by omega);omega
theorem Td(b:Int):∀(s:By) (i w k:Int),0<=i->0<=w->w<=1099511627776->(S6 b s i w k).1=0->i<=(S6 b s i w k).2.2/\(S6 b s i w k).2.2<=1099511627776/\(S6 b s i w k).2.1.length<s.length
 | [],i,w,k,_,_,_,h=>by simp[S6] at h
 | c::r,i,w,k,m,d,a,h=>by
  have l:=En c;have o:=Lg k b;unfold S6 at h ⊢;split at h
  ·simp at h
  ·rename_i e;rw[if_neg e];have n:=Cf (by omega) l.2 d a;split at h
   ·simp at h
   ·rename_i f;rw[if_neg f];split at h
    ·grind
    ·rename_i g;rw[if_neg g];split at h
     ·omega
     ·rename_i j;rw[if_neg j];obtain⟨p,q,t⟩:=Td b r (i+D8 c*w) (w*(36-J9 k b)) (k+36) (by omega) (al7 d (by omega)) (by omega) h;grind
theorem Bb8(f:Int)(b:Int)(g z:Bool)(l:LL)(M:0<=b)(N:b<1000000):∀(s:By) (n:Nat) (i w k:Int),s.length<n->s.length<=1000000000->0<=i->i<=1099511627776->0<=w->w<=1099511627776->0<=k->k+36*s.length<=100000000000->
  ∃H,∀(R:Type) (a:Int->By->Int->Int->Int->Bool->Bool->LL->Int->Option R),Dx LF n w s f i b g z l k a=a (S6 b s i w k).1 (S6 b s i w k).2.1 f (S6 b s i w k).2.2 b g z l H:=by
 intro s
 induction s with
 | nil=>
  intro n i w k K L O B G h P o;obtain⟨n,rfl⟩:∃m,n=m+1:=⟨n-1,by omega⟩
  refine⟨k,λR a=>?_⟩;rw[Dx];rfl
 | cons c r T=>
  intro n i w k K L O B G h P o;obtain⟨n,rfl⟩:∃m,n=m+1:=⟨n-1,by omega⟩
  rw[f7] at K L o;have S:=En c;have V:=Lg k b;have Q:u8n (bAt (c::r) 0)=c:=by unfold u8n bAt;simp
  have C:inR (bAt (c::r) 0) 256=true:=by rw[Z0];have:=c.toNat_lt;exact L5 (by omega) (by simp;omega)
  have j:cut (c::r) 1 ((c::r).length:Int)=r:=by
   have:=Gv (c::r) 1 (c::r).length;grind
  have F:((c::r)==([]:By))=false:=rfl;have start:∀(R:Type) (a:Int->By->Int->Int->Int->Bool->Bool->LL->Int->Option R),Dx LF (n+1) w (c::r) f i b g z l k a =
    cond (ltI (D8 c) 0) (a 4 (c::r) f i b g z l k)
     (vl (A1 (i+(A1 (D8 c*w)))) λd=>cond (ltI 1099511627776 d) (a 19 r f d b g z l k)
      (cond (ltI (D8 c) (J9 k b)) (a 0 r f d b g z l (ac3 k 36))
       (vl (A1 (36-(J9 k b))) λp=>cond (ltI 1099511627776 (A1 (w*p))) (a 19 r f d b g z l (ac3 k 36)) (Dx LF n (A1 (w*p)) r f d b g z l (ac3 k 36) a)))):=by
   intro R a;rw[Dx];rw[F,C,L5 (by omega) (by rw[f7];omega),Y6 (by omega) (by rw[f7];omega) (by omega),j,Q,M8,M8];rfl
  unfold S6;by_cases u:D8 c<0
  ·rw[if_pos u];refine⟨k,λR a=>?_⟩;rw[start,B4 u];rfl
  ·rw[if_neg u];have U:=Cf (by omega) S.2 G h;have q:A1 (D8 c*w)=D8 c*w:=A7;have t:A1 (i+D8 c*w)=i+D8 c*w:=A7;by_cases v:1099511627776<i+D8 c*w
   ·rw[if_pos v];refine⟨k,λR a=>?_⟩;rw[start,A6,q,t];simp only[vl,cond_false];rw[B4 v];rfl
   ·rw[if_neg v];by_cases y:D8 c<J9 k b
    ·rw[if_pos y];refine⟨ac3 k 36,λR a=>?_⟩;rw[start,A6,q,t];simp only[vl,cond_false];rw[A6,B4 y];rfl
    ·rw[if_neg y];have I:A1 (36-J9 k b)=36-J9 k b:=A7;have D:=Cf (x:=36-J9 k b) (by omega) (by omega) G h;rw[Int.mul_comm] at D;have J:A1 (w*(36-J9 k b))=w*(36-J9 k b):=A7;by_cases A:1099511627776<w*(36-J9 k b)
     ·rw[if_pos A];refine⟨ac3 k 36,λR a=>?_⟩;rw[start,A6,q,t];simp only[vl,cond_false];rw[A6,A6,I,J,B4 A];rfl
     ·rw[if_neg A];obtain⟨H,e⟩:=T n (i+D8 c*w) (w*(36-J9 k b)) (k+36) (by omega) (by omega) (by omega) (by omega) (by omega) (by omega) (by omega) (by omega);refine⟨H,λR a=>?_⟩;rw[start,A6,q,t];simp only[vl,cond_false];rw[A6,A6,I,J,A6];exact e R a
theorem Bb9(a:By)(n i b:Int)(f z:Bool)(l:LL)(h:A3 a.length=true)(j:ltN b 1000000=true)(k:ltN i 1099511627777=true) :
  ∃c,∀(R:Type) (d:Int->By->Int->Int->Int->Bool->Bool->LL->Int->Option R),Cu7 LF a n i b f z l d=d (GK b a i) (GM b a i) n (Ro b a i) b f z l c:=by
 have q:=L6 h;obtain⟨g,p⟩:=E6.1 j;obtain⟨o,r⟩:=E6.1 k;have m:=C1;obtain⟨c,e⟩:=Bb8 n b f z l g (by omega) a LF i 1 0 (by omega) (by omega) o (by omega) (by omega) (by omega) (by omega) (by omega);exact⟨c,λR d=>e R _⟩
theorem Ai2{R:Type}{j:Int->By->Int->Int->Int->Bool->Bool->LL->Option R}(a:By)(n i b:Int)(d z:Bool)(l:LL)(y:A3 a.length=true)(C:ltN b 1000000=true)(g:ltN i 1099511627777=true)(D:ltN n 1152921504606846976=true)(h:i6 l.length 100000=true) :
  A49 LF a n i b d z l j=j (E8 ⟨a,n,i,b,d,l⟩).1 (E8 ⟨a,n,i,b,d,l⟩).2.rest (E8 ⟨a,n,i,b,d,l⟩).2.n (E8 ⟨a,n,i,b,d,l⟩).2.i (E8 ⟨a,n,i,b,d,l⟩).2.b (E8 ⟨a,n,i,b,d,l⟩).2.st z (E8 ⟨a,n,i,b,d,l⟩).2.l:=by
 obtain⟨F,P⟩:=E6.1 g;obtain⟨n0,Q⟩:=E6.1 D;have M:=y9 h;unfold A49 E8;rw[y,C,g];simp only[cond_true];by_cases e:GK b a i=0
 ·rw[if_pos e,e];obtain⟨G,I,S⟩:=Td b a i 1 0 F (by omega) (by omega) e;have H:i<=Ro b a i:=G;have J:Ro b a i<=1099511627776:=I;have o:A1 ((l.length:Int)+1)=(l.length:Int)+1:=A7;simp only[vl];rw[o];generalize Ro b a i=x at *;have f:0<=x:=by omega
  obtain⟨X,rfl⟩:=f9 f;have p:A1 ((X:Int)-i)=(X:Int)-i:=A7;have u:((l.length:Int)+1)=((l.length+1:Nat):Int):=rfl;have v:ab5 (X:Int) ((l.length+1:Nat):Int)=((X / (l.length+1):Nat):Int):=L7 _ _;have w:ai9 (X:Int) ((l.length+1:Nat):Int)=((X % (l.length+1):Nat):Int):=Gn _ _;have L:=ac5 X (l.length+1);have N:=am0 X (show 0<l.length+1 by omega);rw[p,u,v,w];generalize hA:X / (l.length+1)=A at *;generalize K:X % (l.length+1)=B at *;have q:A1 (A:Int)=(A:Int):=A7;have r:A1 (n+(A:Int))=n+(A:Int):=A7;have t:A1 ((B:Int)+1)=(B:Int)+1:=A7;have k:((0:Int)!=0)=false:=rfl;have m:((((l.length+1:Nat):Int))!=0)=true:=by rw[bne_iff_ne];omega
  rw[q,r,t,k,M8,M8,A8,m];simp only[cond_true,cond_false];cases O:ptI (n+(A:Int)) with
  | false=>simp
  | true=>
   simp only[d7,cond_false,if_true];by_cases c:(256:Int)<((l.length+1:Nat):Int)
   ·rw[if_pos c,B4 c];rfl
   ·rw[if_neg c,A6,cond_false,Uc (by omega) (by show(B:Int)<((l.length+1:Nat):Int);omega),h];rfl
 ·rw[if_neg e,show(GK b a i !=0)=true from bne_iff_ne.2 e];rfl
theorem FZ(c:UInt8):∀l:By,-1<=K6 c l
 | []=>by simp[K6]
 | b::r=>by
  have:=FZ c r;unfold K6;omega
theorem GA(c b:UInt8):∀l:By,K6 c (l++[b])=if b=c then (l.length:Int) else K6 c l
 | []=>by
  by_cases h:b=c<;>simp[K6,h]
 | a::l=>by
  have d:=GA c b l;rw[ad3,K6,d];by_cases h:b=c
  ·grind
  ·rw[if_neg h,if_neg h];rfl
theorem WH{R:Type}{b:Int->Option R}{d:Unit->Option R}(s:By)(c:UInt8)(l:s.length<=1000000000):∀(m n:Nat),m<=s.length->m<n->
  Cb LF n s (c.toNat:Int) ((m:Int)-1) b d=if K6 c (s.take m)<0 then d () else b (K6 c (s.take m)):=by
 intro m
 induction m with
 | zero=>
  intro n g i;obtain⟨n,rfl⟩:∃m,n=m+1:=⟨n-1,by omega⟩
  rw[Cb];rw[A8];rfl
 | succ m k=>
  intro n g i;obtain⟨n,rfl⟩:∃m,n=m+1:=⟨n-1,by omega⟩
  rw[Cb];have e0:(((m+1:Nat):Int)-1)=(m:Int):=by omega
  have e:A1 ((m:Int)-1)=(m:Int)-1:=A7;have j:s.take (m+1)=s.take m++[s.getD m 0]:=by
   rw[aj3,c9,f8 (by omega)];rfl
  rw[e0,e,A6,E4,D0,j,GA];simp only[d9,cond_true];by_cases h:s.getD m 0=c
  ·rw[if_pos h,h,beq_self_eq_true,cond_true,p4,al3 (by omega),F8]
  ·have a:(((s.getD m 0).toNat:Int)==(c.toNat:Int))=false:=by
    rw[beq_eq_false_iff_ne];intro f;exact h (UInt8.toNat.inj (Int.ofNat.inj f))
   rw[if_neg h,a,cond_false];exact k n (by omega) (by omega)
theorem B55{c:Int}(h:inR c 256=true):c=((u8n c).toNat:Int):=by simp only[inR,g9,decide_eq_true_eq] at h;unfold u8n;simp;omega
theorem WI{R:Type}{a:Int->Option R}(s:By)(c:Int)(e:A3 s.length=true)(f:inR c 256=true):QK LF s c a=a (K6 (u8n c) s):=by
 have j:=L6 e;have g:=C1;have i:=B55 f;generalize u8n c=d at *;subst i;unfold QK;have b:A1 ((s.length:Int)-1)=(s.length:Int)-1:=A7;simp only[vl];rw[b];refine g6 (WH s d (by omega) s.length LF (by omega) (by omega)) ?_;rw[ak3];have:=FZ d s;by_cases h:K6 d s<0
 ·rw[if_pos h,show K6 d s=-1 by omega]
 ·rw[if_neg h]
theorem Ak8{R:Type}{a:Int->Option R}(s:By)(c:Int)(b:A3 s.length=true)(d:inR c 256=true):A60 LF s c a=a (K6 (u8n c) s):=by unfold A60;grind
theorem Nd:∀s:By,(45∈s->K6 45 s=(F9 s:Int))/\(45∉s->K6 45 s=-1/\F9 s=0)
 | []=>⟨λh=>(by cases h),λ_=>⟨rfl,rfl⟩⟩
 | b::r=>by
  obtain⟨a,c⟩:=Nd r;unfold K6 F9;grind
theorem Aa4{c:UInt8}(h:Lz c=none):D8 c=-1:=by unfold D8;rw[h]
theorem Aa5{c:UInt8}{x:Nat}(h:Lz c=some x):D8 c=x:=by unfold D8;rw[h]
theorem Te(b:Nat):∀(s:By) (i w k:Nat),S6 (b:Int) s (i:Int) (w:Int) ((36*k:Nat):Int)=((((D5 b s i w k).2.2:Nat):Int),(S6 (b:Int) s (i:Int) (w:Int) ((36*k:Nat):Int)).2)/\
  ((D5 b s i w k).2.2=0->(S6 (b:Int) s (i:Int) (w:Int) ((36*k:Nat):Int)).2=((D5 b s i w k).2.1,((D5 b s i w k).1:Int)))
 | [],i,w,k=>⟨rfl,λh=>by simp[D5] at h⟩
 | c::r,i,w,k=>by
  unfold S6 D5;cases d:Lz c with
  | none=>
   rw[Aa4 d,R7];grind
  | some x=>
   rw[Aa5 d,F8,Vv];have e:(i:Int)+(x:Int)*(w:Int)=((i+x*w:Nat):Int):=by push_cast;rfl
   have n:=U3 k b;have f:(w:Int)*(36-(thr k b:Int))=((w*(36-thr k b):Nat):Int):=by grind
   have g:((36*k:Nat):Int)+36=((36*(k+1):Nat):Int):=by omega
   have a:Bm=1099511627776:=by decide
   rw[e,f,g,a];simp only;generalize i+x*w=I;generalize w*(36-thr k b)=W;by_cases j:1099511627776<I
   ·grind
   ·rw[F8,if_neg j];by_cases l:x<thr k b
    ·grind
    ·rw[F8,if_neg l];by_cases m:1099511627776<W
     ·grind
     ·rw[F8,if_neg m];exact Te b r I W (k+1)
theorem Bw3(l:List Nat)(i n:Nat):Ki (B3 l) i (n:Int)=B3 (T8 l i n):=by unfold Ki T8 B3;simp_all
theorem QZ(b:Nat)(s:By)(i:Nat):GK (b:Int) s (i:Int)=((D5 b s i 1 0).2.2:Int)/\((D5 b s i 1 0).2.2=0->GM (b:Int) s (i:Int)=(D5 b s i 1 0).2.1/\Ro (b:Int) s (i:Int)=((D5 b s i 1 0).1:Int)):=by obtain⟨a,c⟩:=Te b s i 1 0;have e:S6 (b:Int) s (i:Int) 1 0=S6 (b:Int) s (i:Int) ((1:Nat):Int) ((36*0:Nat):Int):=rfl;unfold GK GM Ro;rw[e];refine⟨by rw[a],λh=>?_⟩;have:=c h;rw[this];exact⟨rfl,rfl⟩
theorem C34(s:By)(a:List Nat)(n i b:Nat)(c:Bool)(h:(D5 b s i 1 0).2.2=0)(q:i<=(D5 b s i 1 0).1)(o:T9 (n+(D5 b s i 1 0).1 / (a.length+1))=true)(p:¬ 256<a.length+1) :
  E8 ⟨s,(n:Int),(i:Int),(b:Int),c,B3 a⟩=(0,⟨(D5 b s i 1 0).2.1,((n+(D5 b s i 1 0).1 / (a.length+1):Nat):Int),(((D5 b s i 1 0).1 % (a.length+1)+1:Nat):Int),((P4 ((D5 b s i 1 0).1-i) (a.length+1) (!c):Nat):Int),true,B3 (T8 a ((D5 b s i 1 0).1 % (a.length+1)) (n+(D5 b s i 1 0).1 / (a.length+1)))⟩):=by
 obtain⟨j,k⟩:=QZ b s i;obtain⟨l,m⟩:=k h;unfold E8;simp only;rw[j,h,if_pos (show((0:Nat):Int)=0 from rfl),l,m,C7];generalize (D5 b s i 1 0).1=X at *;have d:((a.length:Int)+1)=((a.length+1:Nat):Int):=rfl;have e:ab5 (X:Int) ((a.length+1:Nat):Int)=((X / (a.length+1):Nat):Int):=L7 _ _;have f:ai9 (X:Int) ((a.length+1:Nat):Int)=((X % (a.length+1):Nat):Int):=Gn _ _;have g:(n:Int)+((X / (a.length+1):Nat):Int)=((n+X / (a.length+1):Nat):Int):=rfl;rw[d,e,f,g,Kr,o,if_pos rfl,F8,b9,Bw3,b9,show((X:Int)-(i:Int)).toNat=X-i by omega];rfl
theorem Cu8(s:By)(a:List Nat)(n i b:Nat)(f:Bool):((D5 b s i 1 0).2.2≠0->(E8 ⟨s,(n:Int),(i:Int),(b:Int),f,B3 a⟩).1=((D5 b s i 1 0).2.2:Int))/\
  ((D5 b s i 1 0).2.2=0->T9 (n+(D5 b s i 1 0).1 / (a.length+1))=false->(E8 ⟨s,(n:Int),(i:Int),(b:Int),f,B3 a⟩).1=2)/\
  ((D5 b s i 1 0).2.2=0->T9 (n+(D5 b s i 1 0).1 / (a.length+1))=true->256<a.length+1->(E8 ⟨s,(n:Int),(i:Int),(b:Int),f,B3 a⟩).1=3):=by
 obtain⟨c,l⟩:=QZ b s i;have g:(((B3 a).length:Int)+1)=((a.length+1:Nat):Int):=by rw[C7];rfl
 have j:∀X:Nat,ab5 (X:Int) ((a.length+1:Nat):Int)=((X / (a.length+1):Nat):Int):=λX=>L7 _ _
 have k:∀A:Nat,(n:Int)+(A:Int)=((n+A:Nat):Int):=λA=>rfl
 refine⟨λh=>?_,λh e=>?_,λh e o=>?_⟩
 ·unfold E8;simp only;rw[c,F8]
 ·obtain⟨m,d⟩:=l h;unfold E8;simp only;rw[c,h,if_pos (show((0:Nat):Int)=0 from rfl),d,g,j,k,Kr,e,if_neg (by simp)]
 ·obtain⟨m,d⟩:=l h;unfold E8;simp only;rw[c,h,if_pos (show((0:Nat):Int)=0 from rfl),d,g,j,k,Kr,e,if_pos rfl,R7]
theorem Bw(a:List Nat)(n i b:Nat)(f:Bool):G4 [] a n i b f=(a,0):=by rw[G4];rfl
theorem Fm{s:By}(c:s≠[])(a:List Nat)(n i b:Nat)(f:Bool)(h:(D5 b s i 1 0).2.2≠0):G4 s a n i b f=([],(D5 b s i 1 0).2.2):=by rw[G4,dif_neg c];grind
theorem Cy{s:By}(c:s≠[])(a:List Nat)(n i b:Nat)(f:Bool)(h:(D5 b s i 1 0).2.2=0):G4 s a n i b f =
  if T9 (n+(D5 b s i 1 0).1 / (a.length+1)) then (if 256<a.length+1 then ([],3) else G4 (D5 b s i 1 0).2.1 (T8 a ((D5 b s i 1 0).1 % (a.length+1)) (n+(D5 b s i 1 0).1 / (a.length+1))) (n+(D5 b s i 1 0).1 / (a.length+1)) ((D5 b s i 1 0).1 % (a.length+1)+1) (P4 ((D5 b s i 1 0).1-i) (a.length+1) f) false) else ([],2):=by
 rw[G4,dif_neg c];simp only;rw[dif_pos h]
theorem Al(l:List Nat)(i n:Nat):(T8 l i n).length=l.length+1:=by unfold T8;grind
theorem Bg3:∀(r:Nat) (s:By) (a:List Nat) (n i b f:Nat) (c:Bool),s.length<=r->r<f->s.length<=1000000->a.length<=256->n<=1114111->i<=1000->b<=500->
  ((G4 s a n i b (!c)).2=0->∃u t q p j,∀(R:Type) (d:Int->LL->By->Int->Int->Int->Bool->Option R) (g:LL->By->Int->Int->Int->Bool->Option R),R3 LF f (B3 a) s (n:Int) (i:Int) (b:Int) c d g=g (B3 (G4 s a n i b (!c)).1) u t q p j)/\
  ((G4 s a n i b (!c)).2≠0->(G4 s a n i b (!c)).1=[]/\∃l u t q p j,∀(R:Type) (d:Int->LL->By->Int->Int->Int->Bool->Option R) (g:LL->By->Int->Int->Int->Bool->Option R),R3 LF f (B3 a) s (n:Int) (i:Int) (b:Int) c d g=d ((G4 s a n i b (!c)).2:Nat) l u t q p j):=by
 intro r
 induction r with
 | zero=>
  intro s a n i b f c h K _ _ _ _ _;obtain⟨f,rfl⟩:∃m,f=m+1:=⟨f-1,by omega⟩
  have v:s=[]:=g8.1 (by omega);subst v;rw[Bw];refine⟨λ_=>⟨[],n,i,b,c,λR d g=>?_⟩,λh=>absurd rfl h⟩;rw[R3];rfl
 | succ r L=>
  intro s a n i b f c h K X Y Z h4 h5;obtain⟨f,rfl⟩:∃m,f=m+1:=⟨f-1,by omega⟩
  by_cases v:s=[]
  ·subst v;rw[Bw];refine⟨λ_=>⟨[],n,i,b,c,λR d g=>?_⟩,λh=>absurd rfl h⟩;rw[R3];rfl
  ·have start:∀(R:Type) (d:Int->LL->By->Int->Int->Int->Bool->Option R) (g:LL->By->Int->Int->Int->Bool->Option R),R3 LF (f+1) (B3 a) s (n:Int) (i:Int) (b:Int) c d g =
     cond ((E8 ⟨s,n,i,b,c,B3 a⟩).1 !=0) (d (E8 ⟨s,n,i,b,c,B3 a⟩).1 (E8 ⟨s,n,i,b,c,B3 a⟩).2.l (E8 ⟨s,n,i,b,c,B3 a⟩).2.rest (E8 ⟨s,n,i,b,c,B3 a⟩).2.n (E8 ⟨s,n,i,b,c,B3 a⟩).2.i (E8 ⟨s,n,i,b,c,B3 a⟩).2.b (E8 ⟨s,n,i,b,c,B3 a⟩).2.st)
      (R3 LF f (E8 ⟨s,n,i,b,c,B3 a⟩).2.l (E8 ⟨s,n,i,b,c,B3 a⟩).2.rest (E8 ⟨s,n,i,b,c,B3 a⟩).2.n (E8 ⟨s,n,i,b,c,B3 a⟩).2.i (E8 ⟨s,n,i,b,c,B3 a⟩).2.b (E8 ⟨s,n,i,b,c,B3 a⟩).2.st d g):=by
    intro R d g;rw[R3];rw[show(s==([]:By))=false from beq_eq_false_iff_ne.2 v,N6,M8,M8,M8,C7,t7 (show a.length<=100000 by omega)];rfl
   obtain⟨G,H,I⟩:=Cu8 s a n i b c;have o:=C34 s a n i b c;generalize E8 ⟨s,n,i,b,c,B3 a⟩=D at *;by_cases k:(D5 b s i 1 0).2.2=0
   ·rw[Cy v a n i b (!c) k];obtain⟨M,N⟩:=QZ b s i;obtain⟨O,P⟩:=N k;have J:GK (b:Int) s (i:Int)=0:=by rw[M,k];rfl
    obtain⟨U,V,W⟩:=Td b s i 1 0 (by omega) (by omega) (by omega) J;have A:(i:Int)<=Ro (b:Int) s (i:Int):=U;have B:Ro (b:Int) s (i:Int)<=1099511627776:=V;have C:(GM (b:Int) s (i:Int)).length<s.length:=W;rw[P] at A B;rw[O] at C;cases x:T9 (n+(D5 b s i 1 0).1 / (a.length+1)) with
    | false=>
     rw[if_neg (by simp)];refine⟨λh=>by simp at h,λ_=>⟨rfl,D.2.l,D.2.rest,D.2.n,D.2.i,D.2.b,D.2.st,λR d g=>?_⟩⟩
     ·rw[start,H k x];rfl
    | true=>
     rw[if_pos rfl];by_cases w:256<a.length+1
     ·rw[if_pos w];refine⟨λh=>by simp at h,λ_=>⟨rfl,D.2.l,D.2.rest,D.2.n,D.2.i,D.2.b,D.2.st,λR d g=>?_⟩⟩;rw[start,I k x w];rfl
     ·rw[if_neg w];have o:=o k (by omega) x w;have z:n+(D5 b s i 1 0).1 / (a.length+1)<=1114111:=by
       unfold T9 at x;simp_all
      have F:=am0 (D5 b s i 1 0).1 (show 0<a.length+1 by omega);have y:=Mp ((D5 b s i 1 0).1-i) (a.length+1) (!c) (by omega);have:=L (D5 b s i 1 0).2.1 (T8 a ((D5 b s i 1 0).1 % (a.length+1)) (n+(D5 b s i 1 0).1 / (a.length+1))) (n+(D5 b s i 1 0).1 / (a.length+1)) ((D5 b s i 1 0).1 % (a.length+1)+1) (P4 ((D5 b s i 1 0).1-i) (a.length+1) (!c)) f true (by omega) (by omega) (by omega) (by rw[Al];omega) z (by omega) y;obtain⟨Q,S⟩:=this;refine⟨λh=>?_,λh=>?_⟩
      ·obtain⟨u,t,q,p,j,e⟩:=Q h;refine⟨u,t,q,p,j,λR d g=>?_⟩;rw[start,o];exact e R d g
      ·obtain⟨T,l,u,t,q,p,j,e⟩:=S h;refine⟨T,l,u,t,q,p,j,λR d g=>?_⟩;rw[start,o];exact e R d g
   ·rw[Fm v a n i b (!c) k];refine⟨λh=>absurd h k,λ_=>⟨rfl,D.2.l,D.2.rest,D.2.n,D.2.i,D.2.b,D.2.st,λR d g=>?_⟩⟩;rw[start,G k,show(((D5 b s i 1 0).2.2:Int)!=0)=true by rw[bne_iff_ne];omega];rfl
theorem Cg(l:List Nat):Ko l=B3 l:=rfl
theorem An7{R:Type}{k0:Unit->Option R}{k1:By->Option R}(s:By)(f:s.length<=1000000):∀(r i n:Nat),i+r=s.length->r<n->
  Kq LF n s (s.length:Int) (i:Int) k0 k1=if (s.drop i).any (λb=>i6 128 b.toNat) then k0 () else k1 s:=by
 intro r
 induction r with
 | zero=>
  intro i n c d;obtain⟨n,rfl⟩:∃m,n=m+1:=⟨n-1,by omega⟩
  rw[Kq];rw[A6,d8 (by omega)];rfl
 | succ r e=>
  intro i n c d;obtain⟨n,rfl⟩:∃m,n=m+1:=⟨n-1,by omega⟩
  rw[Kq];have a:A1 ((i:Int)+1)=((i+1:Nat):Int):=by rw[A7];rfl
  rw[A8,E4,D0,D1 s i (by omega),a,ah9];simp only[cond_true];generalize s.getD i 0=b;by_cases h:128<=b.toNat
  ·rw[A6,t7 h];rfl
  ·have:i6 128 b.toNat=false:=by rw[o5,ne_eq,j7];exact h
   rw[A8,this,ad4];exact e (i+1) n (by omega) (by omega)
theorem Bg2{R:Type}{k0:By->Int->LL->Option R}(s:By)(q:s.length<=1000000)(k:Nat)(p:k<=s.length):∀(r i n:Nat) (l:List Nat),i+r=k->r<n->l.length=i->
  He LF n s (k:Int) (i:Int) (B3 l) k0=k0 s (k:Int) (B3 (l++((s.take k).drop i).map (·.toNat))):=by
 intro r
 induction r with
 | zero=>
  intro i n l f h g;obtain⟨n,rfl⟩:∃m,n=m+1:=⟨n-1,by omega⟩
  rw[He];rw[A6,d8 (by rw[p4];omega)];simp
 | succ r j=>
  intro i n l f h g;obtain⟨n,rfl⟩:∃m,n=m+1:=⟨n-1,by omega⟩
  rw[He];have c:A1 ((i:Int)+1)=((i+1:Nat):Int):=by rw[A7];rfl
  have e:(s.take k).drop i=s.getD i 0::(s.take k).drop (i+1):=by
   rw[D1 (s.take k) i (by rw[p4];omega)]
   congr 1
   rw[c9,c9,List.getElem?_take_of_lt (by omega)]
  rw[A8,E4,D0,e,C7,E9 (by omega),c];simp only[cond_true];generalize s.getD i 0=b;have o:=b.toNat_lt;have d:A1 (b.toNat:Int)=(b.toNat:Int):=A7;have a:B3 l++[[SV.int .i64 (A1 (b.toNat:Int))]]=B3 (l++[b.toNat]):=by rw[d,Iz];rfl
  rw[a,j (i+1) n _ (by omega) (by omega) (by simp;omega)];simp
theorem Nf:∀s:By,F9 s<=s.length-1
 | []=>by simp[F9]
 | b::r=>by
  have:=Nf r;unfold F9;grind
theorem An8(s:By)(M:A3 s.length=true):(∃e,M6 s=([],e)/\∀(R:Type) (k0:Int->Option R) (k1:Int->LL->By->Int->Int->Int->Bool->Option R) (a:LL->By->Int->Int->Int->Bool->Option R),Ul LF s k0 k1 a=k0 (e:Nat))\/
  (∃e l k j i f c,M6 s=([],e)/\∀(R:Type) (k0:Int->Option R) (k1:Int->LL->By->Int->Int->Int->Bool->Option R) (a:LL->By->Int->Int->Int->Bool->Option R),Ul LF s k0 k1 a=k1 (e:Nat) l k j i f c)\/
  ((M6 s).2=0/\∃k j i f c,∀(R:Type) (k0:Int->Option R) (k1:Int->LL->By->Int->Int->Int->Bool->Option R) (a:LL->By->Int->Int->Int->Bool->Option R),Ul LF s k0 k1 a=a (B3 (M6 s).1) k j i f c):=by
 have N:=C1;unfold M6;by_cases C:1024<s.length
 ·rw[if_pos C];refine .inl ⟨3,rfl,λR k0 k1 a=>?_⟩;unfold Ul;rw[A8];rfl
 ·rw[if_neg C];have r:=λ(R:Type) (G:Unit->Option R) (H:By->Option R)=>An7 (k0:=G) (k1:=H) s (by omega) s.length 0 LF (by omega) (by omega)
  rw[j6] at r;cases A:s.any (λb=>i6 128 b.toNat) with
  | true=>
   rw[if_pos rfl];refine .inl ⟨4,rfl,λR k0 k1 a=>?_⟩;unfold Ul;rw[A6,cond_false];refine g6 (r R _ _) ?_;rw[A,if_pos rfl];rfl
  | false=>
   rw[if_neg (by simp)];obtain⟨I,J⟩:=Nd s;have O:=Nf s;have key:∀(d:List Nat) (t:By),d.length<=256->t.length<=1024->(∀(R:Type) (k0:Int->Option R) (k1:Int->LL->By->Int->Int->Int->Bool->Option R) (a:LL->By->Int->Int->Int->Bool->Option R),Ul LF s k0 k1 a=R3 LF LF (B3 d) t 128 0 72 false k1 a)->
     (∃e l k j i f c,G4 t d 128 0 72 true=([],e)/\∀(R:Type) (k0:Int->Option R) (k1:Int->LL->By->Int->Int->Int->Bool->Option R) (a:LL->By->Int->Int->Int->Bool->Option R),Ul LF s k0 k1 a=k1 (e:Nat) l k j i f c)\/
     ((G4 t d 128 0 72 true).2=0/\∃k j i f c,∀(R:Type) (k0:Int->Option R) (k1:Int->LL->By->Int->Int->Int->Bool->Option R) (a:LL->By->Int->Int->Int->Bool->Option R),Ul LF s k0 k1 a=a (B3 (G4 t d 128 0 72 true).1) k j i f c):=by
    intro d t P V B;obtain⟨D,F⟩:=Bg3 t.length t d 128 0 72 LF false (ac7 _) (by omega) (by omega) P (by omega) (by omega) (by omega);rw[d9] at D F;by_cases w:(G4 t d 128 0 72 true).2=0
    ·obtain⟨k,j,i,f,c,e⟩:=D w;exact .inr ⟨w,k,j,i,f,c,λR k0 k1 a=>by rw[B];exact e R k1 a⟩
    ·obtain⟨S,l,k,j,i,f,c,e⟩:=F w;exact .inl ⟨_,l,k,j,i,f,c,Prod.ext S rfl,λR k0 k1 a=>by rw[B];exact e R k1 a⟩
   have Q:u8n 45=45:=rfl;have top:∀(R:Type) (k0:Int->Option R) (k1:Int->LL->By->Int->Int->Int->Bool->Option R) (a:LL->By->Int->Int->Int->Bool->Option R),Ul LF s k0 k1 a =
     cond (ltI 0 (K6 45 s)) (He LF LF s (K6 45 s) 0 [] (λn x u=>cond (I5 (A1 (x+1)) (n.length:Int) n.length)
      (vl (cut n (A1 (x+1)) (n.length:Int)) λy=>cond (ltI 256 (u.length:Int)) (k1 3 u y 128 0 72 false) (R3 LF LF u y 128 0 72 false k1 a)) none))
      (R3 LF LF [] s 128 0 72 false k1 a):=by
    intro R k0 k1 a;unfold Ul;rw[A6,cond_false];refine g6 (r R _ _) ?_;rw[A,if_neg (by simp),M,Q];rfl
   by_cases T:0<F9 s
   ·have v:45∈s:=by
     apply z7;intro h;have:=(J h).2;omega
    have z:=I v;generalize F9 s=m at *;have g:=λ(R:Type) (K:By->Int->LL->Option R)=>Bg2 (k0:=K) s (by omega) m (by omega) m 0 LF [] (by omega) (by omega) rfl
    rw[j6] at g;have L:A1 ((m:Int)+1)=((m+1:Nat):Int):=by rw[A7];rfl
    have p:((s.take m).map (·.toNat)).length=m:=by rw[j2,p4];omega
    have q:∀(R:Type) (k0:Int->Option R) (k1:Int->LL->By->Int->Int->Int->Bool->Option R) (a:LL->By->Int->Int->Int->Bool->Option R),Ul LF s k0 k1 a =
      cond (ltI 256 (m:Int)) (k1 3 (B3 ((s.take m).map (·.toNat))) (s.drop (m+1)) 128 0 72 false) (R3 LF LF (B3 ((s.take m).map (·.toNat))) (s.drop (m+1)) 128 0 72 false k1 a):=by
     intro R k0 k1 a;rw[top,z,A8,cond_true];refine g6 (g R _) ?_;rw[L,H9,Gv,ak3,j9,C7,p];rfl
    by_cases o:256<m
    ·rw[if_pos o];refine .inr (.inl ⟨3,B3 ((s.take m).map (·.toNat)),s.drop (m+1),128,0,72,false,rfl,λR k0 k1 a=>?_⟩);rw[q,A8];rfl
    ·rw[if_neg o,if_neg (show ¬m=0 by omega)];exact .inr (key _ (s.drop (m+1)) (by rw[p];omega) (by rw[g7];omega) (λR k0 k1 a=>by rw[q,A6];rfl))
   ·have w:F9 s=0:=by omega
    have z:¬ 0<K6 45 s:=by
     by_cases U:45∈s;all_goals grind
    rw[w,F8,if_pos rfl];refine .inr (key [] s (by simp) (by omega) (λR k0 k1 a=>?_));rw[top,A6];rfl
theorem Uf(l:List Nat):(B3 l).isEmpty=l.isEmpty:=by cases l<;>rfl
theorem Ch4(s:By)(k:A3 s.length=true):∃r H,Ul LF s (λf=>rv (.tup [.fl 0,.s (.int .i64 f)]) [.arr true 3 1 []]) (λf o w c d t j=>rv (.tup [.fl 2,.s (.int .i64 f)]) [.arr true 3 1 o,.box [.s (.str w),.fl 0,.s (.int .i64 c),.s (.int .i64 d),.s (.int .i64 t),.s (.bool j)],.arr true 3 1 []]) (λn v q c d i=>rv (.tup [.fl 0,.s (.int .i64 (0:Int))]) [.arr true 3 1 n,.box [.s (.str v),.fl 0,.s (.int .i64 q),.s (.int .i64 c),.s (.int .i64 d),.s (.bool i)]])=rv r H/\
  r.stab [1,0] H = .tup [.s (.sl (M6 s).1.isEmpty (M6 s).1.isEmpty 1 (Ko (M6 s).1)),.s (.int .i64 ((M6 s).2:Nat))]:=by
 rcases An8 s k with⟨e,a,b⟩|⟨e,l,u,p,m,h,g,a,b⟩|⟨a,u,p,m,h,g,b⟩
 ·refine⟨_,_,b _ _ _ _,?_⟩;rw[a];rfl
 ·refine⟨_,_,b _ _ _ _,?_⟩;rw[a];rfl
 ·refine⟨_,_,b _ _ _ _,?_⟩;rw[a,Cg];simp[PV.stab,Mz,Pm,PV.snap,K9,Uf]
end
section
open Go
theorem FX(x y:By)(r:List By)(p:By):aa0 (x::y::r) p=x++(p++aa0 (y::r) p):=by simp[aa0,List.intercalate]
theorem XA(c:UInt8):∀l:List By,l≠[]->(∀x∈l,c∉x)->pcs c (aa0 l [c])=l
 | [],h,_=>absurd rfl h
 | [x],_,h=>by rw[ao0,Nm (h x (by simp))]
 | x::y::r,_,h=>by
  rw[FX,List.singleton_append,RH (h x (by simp)),XA c (y::r) (by simp) (λz a=>h z (by simp[a]))]
theorem Ev(s:By):(B5 s).length=s.length:=j2 _
theorem Kl(s:By)(i:Nat):(B5 s).getD i 0=Bd (s.getD i 0):=by unfold B5;simp only[c9,ad1];cases s[i]?<;>rfl
theorem Be8{s:By}:B5 s=[]↔s=[]:=by unfold B5;simp
theorem Al6(s:By)(i:Nat):(B5 s).drop i=B5 (s.drop i):=by unfold B5;rw[ai1]
theorem Ng(b:UInt8):S9 b=true↔(97<=b.toNat/\b.toNat<=122)\/(48<=b.toNat/\b.toNat<=57)\/b=45\/b=95:=by simp[S9,or_assoc]
theorem Al0{b:UInt8}(h:S9 b=true):b.toNat<128/\(b.toNat<65\/90<b.toNat)/\b≠46/\b≠37/\b≠91:=by
 rw[Ng] at h;have key:∀c:UInt8,b=c->b.toNat=c.toNat:=λc e=>by rw[e]
 rcases h with h|h|h|h
 ·refine⟨by omega,by omega,?_,?_,?_⟩<;>intro e<;>have:=key _ e<;>simp at this<;>omega
 ·refine⟨by omega,by omega,?_,?_,?_⟩<;>intro e<;>have:=key _ e<;>simp at this<;>omega
 all_goals simp_all
structure VL (s:By):Prop where
 ne:s≠[]
 le:s.length<=63
 byt:∀b∈s,S9 b=true
theorem Pl{s:By}(h:K2 s=true):VL s:=by unfold K2 at h;simp only[g9,ai8,o9] at h;obtain⟨⟨⟨⟨⟨a,c⟩,g⟩,i⟩,d⟩,j⟩:=h;refine⟨by intro e;subst e;simp at a,y9 c,λb f=>d b f⟩
structure VN (s:By):Prop where
 le:s.length<=253
 num:F4 s=false
 all:∀x∈pcs 46 s,K2 x=true
theorem IA{s:By}:Ij s=true↔VN s:=by unfold Ij;simp only[g9,ai8,o9];exact⟨λh=>⟨y9 h.1.1,h.1.2,h.2⟩,λh=>⟨⟨t7 h.le,h.num⟩,h.all⟩⟩
theorem Cy1(v:Nat)(h:v<4294967296):(Nx v).length<=43:=by unfold Nx;have a:=I3 (v / 16777216) (by omega);have b:=I3 (v / 65536 % 256) (by omega);have c:=I3 (v / 256 % 256) (by omega);have d:=I3 (v % 256) (by omega);grind
theorem XC(free:Nat):∀(l:List By) (v x:Nat),Um free v l=some x->x<(v+1)*256 ^ (l.length-1)*2 ^ free
 | [],v,x,h=>by simp[Um] at h
 | [p],v,x,h=>by
  simp only[Um] at h;split at h
  ·cases h
  ·split at h
   ·rename_i n c b;simp only[f0] at h;subst h;simp only[f7,p7,ao7,Nat.pow_zero,Nat.mul_one,Nat.add_mul];omega
   ·cases h
 | p::q::r,v,x,h=>by
  rw[Um] at h;split at h
  ·cases h
  ·simp only at h;split at h
   ·rename_i n c a;have d:=XC free (q::r) _ x h;refine Nat.lt_of_lt_of_le d (ah1 _ ?_);simp only[f7,Nat.add_sub_cancel];rw[aj5,Nat.mul_comm (256 ^ r.length) 256,<-Nat.mul_assoc];exact ah1 _ (by omega)
   ·cases h
theorem Ch9{s:By}{v:Nat}(h:pnB s=some v):v<4294967296:=by
 unfold pnB at h;split at h
 ·cases h
 ·rename_i b;have a:=(Ad s).1;have:=XC _ _ _ _ h;generalize (C6 s).length=n at *;have:n=1\/n=2\/n=3\/n=4:=by omega
  grind
def sh(n:Nat)(i:Int):Int:=if i=-1 then -1 else i+n
theorem B65(a:List Nat)(e:a.length=8)(h:∀x∈a,x<65536):(AZ a).length<=90:=by
 unfold AZ;split
 ·have:=Eu a h;omega
 ·have c:=Eu (a.take (zGo a 0 0 0).1) (λx b=>h x (ag8 b));have d:=Eu (a.drop ((zGo a 0 0 0).1+(zGo a 0 0 0).2)) (λx b=>h x (ag7 b));grind
theorem VV{s:By}{last:Bool}{r:List Nat}(h:P0 s last=some r):∀x∈r,x<65536:=by
 unfold P0 at h;split at h
 ·grind
 ·exact A52 _ _ _ h
theorem Cy4{s:By}{a:List Nat}(h:v6B s=some a):a.length=8/\∀x∈a,x<65536:=by
 unfold v6B at h;split at h
 ·rename_i x y b c;have d:=VV b;have e:=VV c;grind
 ·cases h
theorem B46{s:By}(h:(I1 s).2=0):K2 (I1 s).1=true:=by unfold I1 at h ⊢;grind
theorem Im:∀l:List By,(F1 l).2=0->(∀x∈(F1 l).1,K2 x=true)/\(F1 l).1.length=l.length
 | [],_=>⟨by simp[F1],rfl⟩
 | x::r,h=>by
  unfold F1 at h ⊢;by_cases a:(I1 x).2=0
  ·rw[if_pos a] at h ⊢;obtain⟨d,c⟩:=Im r h;refine⟨λy b=>?_,by simp[c]⟩;rcases x9.1 b with rfl|b
   ·exact B46 a
   grind
  grind
structure Mc (h:B2):Prop where
 v4:h.v4<4294967296
 v6:h.v6.length=8/\∀x∈h.v6,x<65536
 kd:h.kind<4
theorem Ba5:z8.length=8/\∀x∈z8,x<65536:=by decide
theorem Bf9(s:By):Mc (C5 s).1/\((C5 s).2=0->Y7 (C5 s).1=true):=by
 have no:Mc J8:=⟨by decide,Ba5,by decide⟩
 unfold C5;split
 ·grind
 split
 ·split
  ·cases d:v6B ((s.take (s.length-1)).drop 1) with
   | none=>exact⟨no,by simp⟩
   | some a=>exact⟨⟨show 0<4294967296 by decide,Cy4 d,show 3<4 by decide⟩,λ_=>by simp[Y7]⟩
  grind
 cases l:R1 s with
 | none=>exact⟨no,by simp⟩
 | some t=>
  simp only;split
  ·cases d:pnB (H5 t) with
   | none=>exact⟨no,by simp⟩
   | some v=>exact⟨⟨Ch9 d,Ba5,show 2<4 by decide⟩,λ_=>by simp[Y7]⟩
  split
  ·rename_i g;split
   ·grind
   split
   ·grind
   ·rename_i k h;refine⟨⟨show 0<4294967296 by decide,Ba5,show 1<4 by decide⟩,λ_=>?_⟩;obtain⟨f,i⟩:=Im _ g;have b:(F1 (pcs 46 (H5 t))).1≠[]:=by
     intro e;rw[e] at i;have:=An6 46 (H5 t);grind
    have c:=XA 46 (F1 (pcs 46 (H5 t))).1 b (λx j e=>(Al0 ((Pl (f x j)).byt 46 e)).2.2.1 rfl);unfold Y7;simp only[if_true,beq_self_eq_true,aa5];rw[IA];exact⟨by omega,by simpa using h,by rw[c];exact f⟩
  grind
theorem FN{h:B2}(a:Y7 h=false):Pn h=[]:=by unfold Pn;rw[a];rfl
theorem AF:∀(f:Nat) (l:By),ao1 f l=(X8 f l).isSome
 | 0,_=>rfl
 | f+1,l=>by
  unfold ao1 X8;split
  ·rfl
  ·split
   ·rfl
   ·rw[AF f,af0]
theorem A04(l:By):Lib.validD l=(Ci l).isSome:=AF _ l
theorem GV:∀(n m:Nat) (l:By),l.length<=n->l.length<=m->X8 n l=X8 m l
 | 0,m,l,b,_=>by
  have:l=[]:=g8.1 (by omega);subst this;cases m<;>simp[X8]
 | n+1,0,l,_,hm=>by
  have:l=[]:=g8.1 (by omega);subst this;simp[X8]
 | n+1,m+1,l,b,hm=>by
  unfold X8;split
  ·rfl
  ·rename_i a;have d:=ae9 l;have c:0<l.length:=x4.2 a;rw[GV n m (l.drop (m5 l).2) (by rw[g7];omega) (by rw[g7];omega)]
theorem Bh1(l:By)(a:l≠[]):Ci l=if (m5 l).1=65533/\(m5 l).2=1 then none else (Ci (l.drop (m5 l).2)).map ((m5 l).1::·):=by
 have c:0<l.length:=x4.2 a;have d:=ae9 l;obtain⟨n,b⟩:∃n,l.length=n+1:=⟨l.length-1,by omega⟩
 unfold Ci;rw[b]
 conv=>lhs;unfold X8
 rw[if_neg a,GV n (l.drop (m5 l).2).length _ (by rw[g7];omega) (ac7 _)]
theorem LV:∀(f:Nat) (s:ByteArray) (pos:Nat) (p:List Nat),pos<=s.size->X8 f (s.data.toList.drop pos)=some p->s.size-pos<=f->aj1 s f pos=p.length
 | 0,s,pos,p,e,h,d=>by
  simp only[X8,f0] at h;subst h;rfl
 | f+1,s,pos,p,e,h,d=>by
  have g:s.data.toList.length=s.size:=by rw[Array.length_toList];rfl
  unfold X8 at h;rw[af5] at h;by_cases a:pos<s.size
  ·rw[if_neg (by rw[<-g8,g7];omega)] at h;split at h
   ·cases h
   ·cases b:X8 f (ab2 (af3 s pos).2 (ab2 pos s.data.toList)) with
    | none=>rw[b] at h;cases h
    | some q=>
     rw[b] at h;simp only[p9,f0] at h;subst h;have i:=Lib.decode_width_pos s pos a;have c:pos+(af3 s pos).2<=s.size:=by
      have:=al8 (s.data.toList.drop pos) (by rw[ne_eq,<-g8,g7];omega);rw[af5,g7] at this;omega
     rw[al9] at b;unfold aj1;rw[if_pos a,LV f s _ q c b (by omega)];grind
  ·rw[if_pos (by rw[<-g8,g7];omega)] at h;simp only[f0] at h;subst h;rw[Lib.runeCountFrom_end s _ _ a];rfl
theorem HH{l:By}{p:List Nat}(h:Ci l=some p):ae2 l=p.length:=by
 unfold ae2 Lib.runeCount;have a:(ByteArray.mk l.toArray).size=l.length:=by simp[ByteArray.size]
 refine LV _ _ 0 p (Nat.zero_le _) ?_ (by omega);rw[a,j6];simpa[Ci] using h
open Lib in theorem C61(n b a d e:Nat)(g:194<=b/\b<224)(f:a<256):decodeN n b a d e=if 2<=n/\128<=a/\a<=191 then ((b-192)*64+a-128,2) else (65533,1):=by
 unfold decodeN;rw[F8];by_cases c:2<=n/\128<=a/\a<=191
 ·rw[if_pos c,R7,R7];exact Prod.ext (by show b % 32*64+a % 64=(b-192)*64+a-128;omega) rfl
 ·rw[if_neg c,F8,F8,F8]
open Lib in theorem C62(n c a b f:Nat)(i:224<=c/\c<240)(g:a<256)(h:b<256):decodeN n c a b f=if 3<=n/\(128<=a/\a<=191)/\(128<=b/\b<=191) then
  (if 2048<=((c-224)*64+a-128)*64+b-128/\T9 (((c-224)*64+a-128)*64+b-128)=true then (((c-224)*64+a-128)*64+b-128,3) else (65533,1)) else (65533,1):=by
 unfold decodeN;rw[F8,F8];by_cases d:3<=n/\(128<=a/\a<=191)/\(128<=b/\b<=191)
 ·rw[if_pos d,R7];have e:c % 16*4096+a % 64*64+b % 64=((c-224)*64+a-128)*64+b-128:=by omega
  rw[e];generalize ((c-224)*64+a-128)*64+b-128=v
  congr 1
  simp only[T9,g9,ac2,j7,ai4];apply propext;omega
 ·rw[if_neg d,F8,F8]
open Lib in theorem C63(n d a b c:Nat)(j:240<=d/\d<245)(g:a<256)(h:b<256)(i:c<256):decodeN n d a b c=if 4<=n/\(128<=a/\a<=191)/\(128<=b/\b<=191)/\(128<=c/\c<=191) then
  (if 65536<=(((d-240)*64+a-128)*64+b-128)*64+c-128/\T9 ((((d-240)*64+a-128)*64+b-128)*64+c-128)=true then ((((d-240)*64+a-128)*64+b-128)*64+c-128,4) else (65533,1)) else (65533,1):=by
 unfold decodeN;rw[F8,F8,F8];by_cases f:4<=n/\(128<=a/\a<=191)/\(128<=b/\b<=191)/\(128<=c/\c<=191)
 ·rw[if_pos f,R7];have e:d % 8*262144+a % 64*4096+b % 64*64+c % 64=(((d-240)*64+a-128)*64+b-128)*64+c-128:=by omega
  rw[e];generalize (((d-240)*64+a-128)*64+b-128)*64+c-128=v
  congr 1
  simp only[T9,g9,ac2,j7,ai4];apply propext;omega
 ·rw[if_neg f,F8]
end
section
open Go Go.Proofs
theorem Ti(l:List Nat):U7 (l.map λn:Nat=>(n:Int))=Bz l:=by
 have b:(l.map λn:Nat=>(n:Int)).all ptI=l.all T9:=by
  rw[aj2]
  congr 1
 have c:(l.map λn:Nat=>(n:Int)).map f6=l:=by
  rw[ab7];exact(x6 λa _=>by simp).trans (ag6 l)
 unfold U7;rw[j2,b,c];by_cases h:256<l.length
 ·rw[if_pos h];unfold Bz;rw[if_pos h]
 ·rw[if_neg h];cases d:l.all T9 with
  | true=>rw[if_pos rfl]
  | false=>
   rw[if_neg (by simp)];unfold Bz;grind
theorem Tg(l:List Nat):(B3 l).map elI=l.map λn:Nat=>(n:Int):=by unfold B3;rw[ab7];exact x6 λa _=>rfl
theorem Cq(l:List Nat):(B3 l).all Lt=true:=by unfold B3;rw[aj2,o9];intro x _;rfl
theorem Al8{R:Type}{a:Unit->Option R}{d:By->Bool->LL->Bool->Option R}(s:By)(z:Bool)(p:List Nat)(t:p.length<=1000000000):∀(r i n:Nat) (b:Bool),i+r=p.length->r<n->
  V8 LF n s z (B3 p) b (p.length:Int) (i:Int) a d=if (p.drop i).any (λp=>i6 65 p&&i6 p 90) then a () else d s z (B3 p) (b&&!((p.drop i).any λp=>i6 128 p)):=by
 intro r
 induction r with
 | zero=>
  intro i n b h j;obtain⟨n,rfl⟩:∃m,n=m+1:=⟨n-1,by omega⟩
  rw[V8];rw[A6,d8 (by omega)];simp
 | succ r k=>
  intro i n b h j;obtain⟨n,rfl⟩:∃m,n=m+1:=⟨n-1,by omega⟩
  rw[V8];have f:A1 ((i:Int)+1)=((i+1:Nat):Int):=by rw[A7];rfl
  have g:p.drop i=p.getD i 0::p.drop (i+1):=by
   rw[c9,f8 (by omega),y5,aa9]
  rw[A8,C7,E4,b9,Ox (by omega),Xy _ _ (by omega),g,ah9,ah9,f];simp only[cond_true,vl];generalize p.getD i 0=q;have go:∀c:Bool,V8 LF n s z (B3 p) c (p.length:Int) ((i+1:Nat):Int) a d=_:=λc=>k (i+1) n c (by omega) (by omega)
  by_cases l:q<65
  ·rw[A8,show i6 65 q=false by rw[o5,ne_eq,j7];omega];have e:i6 128 q=false:=by rw[o5,ne_eq,j7];omega
   rw[show ltI (q:Int) (128:Int)=true from A8,e];simp only[d7,cond_false,ag3,ad4];cases b<;>simp only[cond_true,cond_false]<;>rw[go]
  ·rw[A6,show i6 65 q=true by rw[j7];omega];simp only[d9,cond_true,ab1];by_cases e:90<q
   ·rw[A8,show i6 q 90=false by rw[o5,ne_eq,j7];omega];simp only[d7,cond_false,ad4];by_cases o:q<128
    ·rw[show ltI (q:Int) (128:Int)=true from A8,show i6 128 q=false by rw[o5,ne_eq,j7];omega];cases b<;>simp only[cond_true,cond_false,ad4]<;>rw[go]
    ·rw[show ltI (q:Int) (128:Int)=false from A6,show i6 128 q=true by rw[j7];omega];cases b<;>simp only[cond_true,cond_false,Bool.true_or,d7,al5]<;>rw[go]<;>simp
   ·rw[A6,show i6 q 90=true by rw[j7];omega];simp
theorem Ah5:∀(m:Nat) (s:By) (a:List Nat) (n i b:Nat) (f:Bool),s.length<=m->a.length<=256->(G4 s a n i b f).1.length<=256:=by
 intro m
 induction m with
 | zero=>
  intro s a n i b f e d;obtain rfl:=g8.1 (Nat.le_zero.1 e);rw[Bw];exact d
 | succ m j=>
  intro s a n i b f e d;by_cases h:s=[]
  ·grind
  ·by_cases c:(D5 b s i 1 0).2.2=0
   ·rw[Cy h _ _ _ _ _ c];have g:=Om b s i 1 0 c;split
    ·split
     ·grind
     ·rename_i k;exact j _ _ _ _ _ _ (by omega) (by rw[Al];omega)
    grind
   ·rw[Fm h _ _ _ _ _ c];grind
theorem UZ(s:By):(M6 s).1.length<=256:=by
 unfold M6;split
 ·grind
 ·split
  ·grind
  ·split
   ·grind
   ·rename_i h;exact Ah5 _ _ _ _ _ _ _ (ac7 _) (by rw[j2,p4];omega)
theorem Al9{R:Type}{a:Bool->Option R}(s:By)(b:A3 s.length=true):A64 LF s a=a (Ct s):=by
 have c:=C1;unfold A64 Ct;rw[b,cond_true];by_cases h:(M6 s).2=0
 ·have e:(((M6 s).2:Int)!=(0:Int))=false:=by rw[h];rfl
  rw[e,cond_false,Cg,C7,h];have i:=UZ s;refine g6 (Al8 s _ (M6 s).1 (by omega) (M6 s).1.length 0 LF true (by omega) (by omega)) ?_;rw[j6];cases d:(M6 s).1.any (λp=>i6 65 p&&i6 p 90) with
  | true=>simp
  | false=>
   rw[if_neg (by simp),Cq,Tg,Ti];simp only[cond_true,vl,ab1,d9];cases f:(M6 s).1.any (λp=>i6 128 p) with
   | false=>simp
   | true=>
    simp only[d7,d9,cond_true,aa5,beq_self_eq_true,ab1];by_cases g:(Bz (M6 s).1).2=0;all_goals grind
 grind
theorem Bf2{R:Type}{d:Unit->Option R}{e:By->Option R}(s:By)(w:s.length<=1000000000):∀(r i n:Nat),i+r=s.length->r<n->
  Q7 LF n s (s.length:Int) (i:Int) d e=if (s.drop i).all S9 then e s else d ():=by
 intro r
 induction r with
 | zero=>
  intro i n l c;obtain⟨n,rfl⟩:∃m,n=m+1:=⟨n-1,by omega⟩
  rw[Q7];rw[A6,d8 (by omega)];rfl
 | succ r o=>
  intro i n l c;obtain⟨n,rfl⟩:∃m,n=m+1:=⟨n-1,by omega⟩
  rw[Q7];have k:A1 ((i:Int)+1)=((i+1:Nat):Int):=by rw[A7];rfl
  rw[A8,E4,D0,D1 s i (by omega),k,x8];simp only[cond_true];rw[o (i+1) n (by omega) (by omega)];generalize s.getD i 0=b;have j:=Ng b;have u:((b.toNat:Int)!=45) = !(b==45):=congrArg _ (P7 b 45 (by omega));have v:((b.toNat:Int)!=95) = !(b==95):=congrArg _ (P7 b 95 (by omega));rw[u,v];have t:∀{x:Bool},S9 b=x->(if (S9 b&&(s.drop (i+1)).all S9)=true then e s else d ())=if (x&&(s.drop (i+1)).all S9)=true then e s else d ():=λh=>by rw[h]
  cases a:S9 b with
  | true=>
   rw[j] at a;simp only[ab1];by_cases f:b=45
   ·subst f;simp (disch:=decide) [ltI]
   ·by_cases g:b=95
    ·subst g;simp (disch:=decide) [ltI]
    ·rcases a with a|a|a|a
     ·rw[show ltI (b.toNat:Int) 97=false from A6,show ltI (122:Int) b.toNat=false from A6];rfl
     ·rw[show ltI (b.toNat:Int) 97=true from A8,show ltI (b.toNat:Int) 48=false from A6,show ltI (57:Int) b.toNat=false from A6];rfl
     ·exact absurd a f
     ·exact absurd a g
  | false=>
   have c:¬((97<=b.toNat/\b.toNat<=122)\/(48<=b.toNat/\b.toNat<=57)\/b=45\/b=95):=λh=>by rw[j.2 h] at a;cases a
   have p:(b==45)=false:=by simpa using λh=>c (.inr (.inr (.inl h)))
   have q:(b==95)=false:=by simpa using λh=>c (.inr (.inr (.inr h)))
   rw[p,q];simp only[d9,cond_true,ag3,o8,if_false];by_cases f:b.toNat<48
   ·rw[show ltI (b.toNat:Int) 97=true from A8,show ltI (b.toNat:Int) 48=true from A8];rfl
   ·by_cases g:b.toNat<97
    ·rw[show ltI (b.toNat:Int) 97=true from A8,show ltI (b.toNat:Int) 48=false from A6,show ltI (57:Int) b.toNat=true from A8];rfl
    ·rw[show ltI (b.toNat:Int) 97=false from A6,show ltI (122:Int) b.toNat=true from A8,show ltI (b.toNat:Int) 48=false from A6,show ltI (57:Int) b.toNat=true from A8];rfl
theorem Bf3{R:Type}{a:Bool->Option R}(s:By)(b:A3 s.length=true):Cg5 LF s a=a (K2 s):=by
 have k:=L6 b;have h:=C1;unfold Cg5 K2;by_cases c:s=[]
 ·simp_all
 ·have o:0<s.length:=x4.2 c;have j:s.isEmpty=false:=by simpa using c
  rw[A6,cond_false,j];by_cases m:63<s.length
  ·rw[A8,show i6 s.length 63=false by rw[o5,ne_eq,j7];omega];rfl
  ·rw[A6,cond_false,show i6 s.length 63=true by rw[j7];omega,E4];have l:(bAt s 0==(45:Int))=(s.getD 0 0==45):=by rw[Z0];exact P7 _ 45 (by omega)
   have d:A1 ((s.length:Int)-1)=((s.length-1:Nat):Int):=by rw[A7];omega
   rw[l,d];simp only[cond_true,vl];rw[E4,D0,show((((s.getD (s.length-1) 0).toNat:Nat):Int)==45)=(s.getD (s.length-1) 0==45) from P7 _ 45 (by omega)];cases e:(s.getD 0 0==45) with
   | true=>
    grind
   | false=>
    rw[show(s.getD 0 0 !=45)=true by unfold bne;rw[e];rfl];simp only[cond_true,cond_false];cases f:(s.getD (s.length-1) 0==45) with
    | true=>
     grind
    | false=>
     rw[show(s.getD (s.length-1) 0 !=45)=true by unfold bne;rw[f];rfl];simp only[cond_false];refine g6 (Bf2 s k s.length 0 LF (by omega) (by omega)) ?_;rw[j6];cases n:s.all S9 with
     | false=>simp
     | true=>
      rw[if_pos rfl,b,cond_true];simp only[d9,ab1,aa5];show cond (!(xnB.isPrefixOf s)) _ _=_;cases g:xnB.isPrefixOf s with
      | false=>rfl
      | true=>
       have i:Fl s xnB=s.drop 4:=by unfold Fl;rw[g];rfl
       show cond (A3 (Fl s xnB).length) (a (Ct (Fl s xnB))) none=_;rw[i,D9 (by rw[g7];omega)];rfl
theorem Ai4(a:List Nat)(b:Nat)(F:a.length<=256)(A:b<=256)(d:∀p∈a,p<=1114111):∀(f n:Nat) (s:MH),s.done=a.countP (λp=>decide (p<n))->s.delta<=300->s.bias<=500->s.out.length+20*(a.length-s.done)<=80000->n<=1114112->
  (Q2 a b f n s).out.length<=80000:=by
 intro f;have z:=C1
 induction f with
 | zero=>intro n s C w q x y;unfold Q2;omega
 | succ f G=>
  intro n s C w q x y;have B:a.countP (λp=>decide (p<n))<=a.length:=s9;by_cases h:s.done<a.length
  ·obtain⟨u,i,j⟩:=Ah1 (n:=n) (l:=a) (by omega);obtain⟨L,M,o⟩:=De n a 1114112;have N:=o u i j;have O:=d u i;have c:G5 n a 1114112∈a/\n<=G5 n a 1114112:=by grind
   have D:Q2 a b (f+1) n s=Q2 a b f (G5 n a 1114112+1) { G8 (G5 n a 1114112) b a { s with delta:=s.delta+(G5 n a 1114112-n)*(s.done+1) } with delta:=(G8 (G5 n a 1114112) b a { s with delta:=s.delta+(G5 n a 1114112-n)*(s.done+1) }).delta+1 }:=by
    rw[Q2,if_pos h]
   rw[D];generalize G5 n a 1114112=m at *;have t:(m-n)*(s.done+1)<=1114112*256:=ah0 (by omega) (by omega);have g:=A74 false false a b m (by omega) F a.length 0 LF { s with delta:=s.delta+(m-n)*(s.done+1) } (by omega) (by omega) (by simp only;omega) q (by simp only;omega) (by simp only;omega) A;rw[j6] at g;obtain⟨_,H,I,J,K⟩:=g;have e:0<a.countP (· == m):=ah5.2 ⟨m,c.1,by simp⟩;rw[if_pos e] at K;have k:=Sz c.2 a o;generalize G8 m b a { s with delta:=s.delta+(m-n)*(s.done+1) } = v at *;simp only at I J;have r:a.countP (λp=>decide (p<m+1))<=a.length:=s9;exact G (m+1) { v with delta:=v.delta+1 } (by simp only;omega) (by simp only;omega) H (by simp only;omega) (by omega)
  ·rw[Q2,if_neg h];omega
theorem VG(p:List Nat):(Bz p).1.length<=80000:=by
 unfold Bz;split
 ·grind
 ·rename_i h;split
  ·grind
  ·rename_i a;have d:∀q∈p,q<=1114111:=λq e=>by
    have a:p.all T9=true:=by simpa using a
    have:=o9.1 a q e;simp only[T9,g9,j7] at this;omega
   have b:=Qw p;have c:p.countP (λq=>decide (q<128))<=p.length:=s9;refine Ai4 p _ (by omega) (by omega) d 256 128 _ b (by simp) (by simp) ?_ (by omega);grind
theorem QR{b:UInt8}(h:128<=b.toNat):Bd b=b:=by
 rcases T1 b with⟨_,e⟩|⟨_,e⟩|⟨_,a,_⟩
 all_goals omega
theorem QS{b:UInt8}(h:b.toNat<128):(Bd b).toNat<128:=by
 rcases T1 b with⟨_,e⟩|⟨_,e⟩|⟨_,a,e⟩
 all_goals grind
theorem Bb4(n:Nat)(a c d e:UInt8)(h:128<=a.toNat):ak9 n a.toNat (Bd c).toNat (Bd d).toNat (Bd e).toNat=ak9 n a.toNat c.toNat d.toNat e.toNat:=by
 have i:∀b:UInt8,b.toNat / 64=2->Bd b=b:=λb f=>QR (by omega)
 have j:∀b:UInt8,¬b.toNat / 64=2->¬(Bd b).toNat / 64=2:=λb f h=>by
  by_cases g:128<=b.toNat
  ·rw[QR g] at h;exact f h
  ·have:=QS (b:=b) (by omega);omega
 unfold ak9;grind
theorem Cb9(l:By)(c:l≠[]):(m5 (B5 l)).2=(m5 l).2/\(¬((m5 l).1=65533/\(m5 l).2=1)->¬((m5 (B5 l)).1=65533/\(m5 (B5 l)).2=1)):=by
 cases l with
 | nil=>exact absurd rfl c
 | cons b t=>
  by_cases a:b.toNat<128
  ·have d:=aj0 b t a;have f:m5 (B5 (b::t))=((Bd b).toNat,1):=aj0 (Bd b) (B5 t) (QS a);rw[d,f];refine⟨rfl,λ_ h=>?_⟩;have:=QS a;omega
  ·have e:m5 (B5 (b::t))=m5 (b::t):=by
    rw[am4,am4,Ev,Kl,Kl,Kl,Kl];have e0:Bd ((b::t).getD 0 0)=b:=QR (b:=b) (show 128<=b.toNat by omega);rw[e0];exact Bb4 (b::t).length b ((b::t).getD 1 0) ((b::t).getD 2 0) ((b::t).getD 3 0) (show 128<=b.toNat by omega)
   grind
theorem LD:∀(f:Nat) (l:By),(X8 f l).isSome=true->(X8 f (B5 l)).isSome=true
 | 0,_,_=>rfl
 | f+1,l,h=>by
  unfold X8 at h ⊢;by_cases a:l=[]
  ·subst a;rfl
  ·rw[if_neg a] at h;rw[if_neg (by rw[Be8];exact a)];obtain⟨b,c⟩:=Cb9 l a;split at h
   ·cases h
   ·rename_i d;rw[if_neg (c d),af0,b,Al6];rw[af0] at h;exact LD f _ h
theorem XE{l:By}(h:(Ci l).isSome=true):(Ci (B5 l)).isSome=true:=by unfold Ci at h ⊢;rw[Ev];exact LD _ _ h
theorem Be2(t:By)(C:t.length<=1000000000):∀(f pos:Nat) (P q:List Nat) (n:Nat),pos<=t.length->t.length-pos<=f->f<n->P.length<=pos->X8 f (t.drop pos)=some q->
  ∃m,∀(R:Type) (h:LL->By->Nat->Option R),Dz LF n (B3 P) t pos h=h (B3 (P++q)) t m:=by
 intro f
 induction f with
 | zero=>
  intro pos P q n u v w x a;obtain⟨n,rfl⟩:∃m,n=m+1:=⟨n-1,by omega⟩
  simp only[X8,f0] at a;subst a;refine⟨pos,λR h=>?_⟩;rw[Dz];rw[decide_eq_false (by omega),cond_false,o6]
 | succ f z=>
  intro pos P q n u v w x a;obtain⟨n,rfl⟩:∃m,n=m+1:=⟨n-1,by omega⟩
  by_cases l:pos<t.length
  ·have b:t.drop pos≠[]:=by rw[ne_eq,<-g8,g7];omega
   have y:=af5 ⟨t.toArray⟩ pos;have i:af3 ⟨aj4 t⟩ pos=m5 (t.drop pos):=by rw[<-y]
   unfold X8 at a;rw[if_neg b] at a;split at a
   ·cases a
   ·have D:=ae9 (t.drop pos);have j:=al8 (t.drop pos) b;have B:=Lib.decodeL_rune (t.drop pos);rw[g7] at j;rw[al9] at a;generalize m5 (t.drop pos)=p at *;obtain⟨c,o⟩:=p;simp only at *;cases k:X8 f (t.drop (pos+o)) with
    | none=>rw[k] at a;cases a
    | some A=>
     rw[k] at a;simp only[p9,f0] at a;subst a;obtain⟨m,e⟩:=z (pos+o) (P++[c]) A n (by omega) (by omega) (by omega) (by simp;omega) k;refine⟨m,λR h=>?_⟩;rw[Dz];rw[decide_eq_true l,cond_true,i,C7,E9 (by omega)];simp only[vl,cond_true];have r:A1 (c:Int)=(c:Int):=A7;have g:B3 P++[[SV.int .i64 (A1 (c:Int))]]=B3 (P++[c]):=by rw[r,Iz];rfl
     rw[g,e,m6];rfl
  ·have d:t.drop pos=[]:=by rw[<-g8,g7];omega
   unfold X8 at a;rw[d,if_pos rfl] at a;simp only[f0] at a;subst a;refine⟨pos,λR h=>?_⟩;rw[Dz];rw[decide_eq_false l,cond_false,o6]
theorem Ak6(s:By)(i:A3 s.length=true):(∀(R:Type) (b:By->Int->Option R) (c:By->Int->LL->By->Nat->Option R),WM LF s b c=b (I1 s).1 ((I1 s).2:Nat))\/
  (∃l t m,∀(R:Type) (b:By->Int->Option R) (c:By->Int->LL->By->Nat->Option R),WM LF s b c=c (I1 s).1 ((I1 s).2:Nat) l t m):=by
 have x:=L6 i;have u:=C1;unfold I1;cases h:Ci s with
 | none=>
  refine .inl λR b c=>?_
  unfold WM;rw[i,h];rfl
 | some p=>
  have k:=HH h;have top:∀(R:Type) (b:By->Int->Option R) (c:By->Int->LL->By->Nat->Option R),WM LF s b c=cond (ltI 256 (p.length:Int)) (b [] 3) (cond (ltI (p.length:Int) (s.length:Int)) (Dz LF LF [] (B5 s) 0 (λa g f=>cond (ae3 a Lt)
      (cond (((U7 (x5 elI a)).2:Int)!=(0:Int))
       (c ([]:List UInt8) 14 a g f)
       (cond (K8 4 (j0 ((U7 (x5 elI a))).1))
        (cond (A3 (j0 (xnB++((U7 (x5 elI a))).1)))
         (cond (not (K2 (xnB++((U7 (x5 elI a))).1)))
         (c ([]:List UInt8) 14 a g f)
         (c (xnB++((U7 (x5 elI a))).1) 0 a g f))
         (none))
        (none)))
      (none)))
     (cond (A3 (j0 (B5 s)))
      (cond (not (K2 (B5 s)))
      (b ([]:List UInt8) 14)
      (b (B5 s) 0))
      (none))):=by
   intro R b c;unfold WM;rw[i,h,k];rfl
  simp only;by_cases n:256<p.length
  ·rw[if_pos n];refine .inl λR b c=>?_
   rw[top,A8];rfl
  ·rw[if_neg n];by_cases o:p.length<s.length
   ·rw[if_pos o];have d:=XE (l:=s) (by rw[h];rfl);cases r:Ci (B5 s) with
    | none=>rw[r] at d;cases d
    | some q=>
     have w:=Ev s;obtain⟨m,e⟩:=Be2 (B5 s) (by omega) (B5 s).length 0 [] q LF (by omega) (by omega) (by omega) (by simp) (by rw[j6];exact r);refine .inr ⟨B3 q,B5 s,m,λR b c=>?_⟩;rw[top,A6,cond_false,A8,cond_true];refine g6 (e R _) ?_;have v:=VG q;rw[j9,Cq,Tg,Ti,cond_true,N3 (by omega),cond_true,D9 (by rw[m7];simp only[xnB,f7,p7];omega),cond_true];simp only;by_cases j:(Bz q).2=0
     ·rw[j,if_pos rfl];cases y:K2 (xnB++(Bz q).1) with
      | true=>rfl
      | false=>rfl
     ·rw[if_neg j];have:(((Bz q).2:Int)!=(0:Int))=true:=by simpa using j
      rw[this];rfl
   ·rw[if_neg o];refine .inl λR b c=>?_
    rw[top,A6,cond_false,A6,cond_false,D9 (by rw[Ev];exact x),cond_true];cases K2 (B5 s)<;>rfl
theorem Cf5(s:By)(c:A3 s.length=true):∃r H,WM LF s (λa b=>rv (.tup [.s (.str a),.s (.int .i64 b)]) []) (λa b d f e=>rv (.tup [.s (.str a),.s (.int .i64 b)]) [.arr true 3 1 d,.iter f e])=rv r H/\
  r.stab [0,0] H = .tup [.s (.str (I1 s).1),.s (.int .i64 ((I1 s).2:Nat))]:=by
 rcases Ak6 s c with h|⟨l,t,m,h⟩
 ·exact⟨_,_,h _ _ _,rfl⟩
 ·exact⟨_,_,h _ _ _,rfl⟩
theorem Bc8{R:Type}{g:Int->Option R}(b:Int)(h:inR b 256=true):Bw1 LF b g=g (Dw (u8n b)):=by
 simp only[inR,g9,decide_eq_true_eq] at h;have j:b=((u8n b).toNat:Int):=by
  unfold u8n;simp;omega
 generalize u8n b=c at *;subst j;have i:=c.toNat_lt;unfold Bw1;simp only[Tt,Ts,vl,Dw];rcases Bx c with⟨d,f,e⟩|⟨d,f,e⟩|⟨d,f,e⟩|⟨d,f,o,e⟩
 ·have a:A1 (wu8 ((c.toNat:Int)-48))=((dig c:Nat):Int):=by
   rw[L0,A7];omega
  rw[R7];simp (disch:=omega) only[B4,E1,d7,d9,cond_false,cond_true,a]
 ·have a:A1 (A1 (wu8 ((c.toNat:Int)-97))+10)=((dig c:Nat):Int):=by
   rw[L0,C4 (n:=(c.toNat:Int)-97) (by omega) (by omega),A7];omega
  rw[R7];simp (disch:=omega) only[B4,E1,d7,d9,cond_false,cond_true,a]
 ·have a:A1 (A1 (wu8 ((c.toNat:Int)-65))+10)=((dig c:Nat):Int):=by
   rw[L0,C4 (n:=(c.toNat:Int)-65) (by omega) (by omega),A7];omega
  rw[R7];simp (disch:=omega) only[B4,E1,d7,d9,cond_false,cond_true,a]
 ·rw[e,if_neg (by decide)];by_cases k:c.toNat<48
  ·simp (disch:=omega) only[B4,E1,d7,d9,cond_false,cond_true]
  ·by_cases l:c.toNat<65
   ·simp (disch:=omega) only[B4,E1,d7,d9,cond_false,cond_true]
   ·by_cases m:c.toNat<97
    ·simp (disch:=omega) only[B4,E1,d7,d9,cond_false,cond_true]
    ·simp (disch:=omega) only[B4,E1,d7,d9,cond_false,cond_true]
theorem RJ{b:UInt8}(r:By)(h:b≠37):R1 (b::r)=(R1 r).map (b::·):=by
 conv=>lhs;unfold R1
 grind
theorem GR(x y:UInt8)(r:By):R1 (37::x::y::r)=if dig x<16/\dig y<16 then (R1 r).map (w8 (16*dig x+dig y)::·) else none:=by
 conv=>lhs;unfold R1
 grind
theorem VB(x:UInt8):ltI (Dw x) 0 = !(decide (dig x<16)):=by
 unfold Dw;by_cases h:dig x<16
 ·simp_all
 ·rw[if_neg h,A8,decide_eq_false h];rfl
theorem BW:∀(s t:By),R1 s=some t->t.length<=s.length
 | [],t,h=>by simp only[R1,f0] at h;subst h;exact ac7 _
 | b::r,t,h=>by
  by_cases c:b=37
  ·subst c
   match r,h with
   | [],h=>cases h
   | [x],h=>cases h
   | x::y::d,h=>
    rw[GR] at h;split at h
    ·cases a:R1 d with
     | none=>rw[a] at h;cases h
     | some q=>
      rw[a] at h;simp only[p9,f0] at h;subst h;have:=BW d q a;simp only[f7];omega
    ·cases h
  ·rw[RJ _ c] at h;cases a:R1 r with
   | none=>rw[a] at h;cases h
   | some q=>
    rw[a] at h;simp only[p9,f0] at h;subst h;have:=BW r q a;grind
theorem Bc7(s:By)(P:s.length<=1000000000):∀(m i n:Nat) (a:By),i<=s.length->s.length-i<=m->m<n->a.length<=i->
  (∀t,R1 (s.drop i)=some t->∀(R:Type) (c:LL->Option R) (d:LL->Option R),R2 LF n s (i:Int) (a.map D7) c d=d ((a++t).map D7))/\
  (R1 (s.drop i)=none->∃l,∀(R:Type) (c:LL->Option R) (d:LL->Option R),R2 LF n s (i:Int) (a.map D7) c d=c l):=by
 intro m
 induction m with
 | zero=>
  intro i n a J K L I;obtain⟨n,rfl⟩:∃m,n=m+1:=⟨n-1,by omega⟩
  rw[d8 (by omega)];refine⟨λt f R c d=>?_,λh=>(by cases h)⟩;simp only[R1,f0] at f;subst f;rw[R2];rw[A6,o6];rfl
 | succ m G=>
  intro i n a J K L I;obtain⟨n,rfl⟩:∃m,n=m+1:=⟨n-1,by omega⟩
  by_cases z:i<s.length
  ·have D:A1 ((i:Int)+1)=((i+1:Nat):Int):=by rw[A7];rfl
   have F:A1 ((i:Int)+2)=((i+2:Nat):Int):=by rw[A7];rfl
   have H:A1 (((i+2:Nat):Int)+1)=((i+3:Nat):Int):=by rw[A7];omega
   have p:(a.map D7).length=a.length:=j2 _;have v:∀b:UInt8,a.map D7++[[SV.int .u8 (b.toNat:Int)]]=(a++[b]).map D7:=λb=>by rw[ad6];rfl
   have C:(((s.getD i 0).toNat:Int)!=37) = !(s.getD i 0==37):=congrArg _ (P7 _ 37 (by omega));rw[D1 s i z];by_cases g:s.getD i 0=37
   ·by_cases O:i+2<s.length
    ·rw[D1 s (i+1) (by omega),D1 s (i+1+1) (by omega),g,GR];obtain⟨A,B⟩:=G (i+3) n (a++[w8 (16*dig (s.getD (i+1) 0)+dig (s.getD (i+2) 0))]) (by omega) (by omega) (by omega) (by simp;omega);have top:∀(R:Type) (c:LL->Option R) (d:LL->Option R),R2 LF (n+1) s (i:Int) (a.map D7) c d=cond (decide (dig (s.getD (i+1) 0)<16)&&decide (dig (s.getD (i+2) 0)<16)) (R2 LF n s ((i+3:Nat):Int) ((a++[w8 (16*dig (s.getD (i+1) 0)+dig (s.getD (i+2) 0))]).map D7) c d) (c (a.map D7)):=by
      intro R c d;rw[R2];rw[A8,E4,D0,C,g,p,F,A8,D,E4,E4,D0,D0];simp only[cond_true,vl,d7,cond_false,beq_self_eq_true,TD,Ho,VB,E9 (show a.length+1<=68719476736 by omega),H];generalize s.getD (i+1) 0=x at *;generalize s.getD (i+2) 0=y at *;by_cases M:dig x<16
      ·by_cases N:dig y<16
       ·have w1:Dw x=(dig x:Int):=by unfold Dw;rw[if_pos M]
        have S:Dw y=(dig y:Int):=by unfold Dw;rw[if_pos N]
        have T:A1 ((16:Int)*(dig x:Int))=((16*dig x:Nat):Int):=by rw[A7];omega
        have U:A1 (((16*dig x:Nat):Int)+(dig y:Int))=((16*dig x+dig y:Nat):Int):=by rw[A7];omega
        have V:wu8 ((16*dig x+dig y:Nat):Int)=((w8 (16*dig x+dig y)).toNat:Int):=by
         rw[L0];simp;omega
        grind
       grind
      grind
     by_cases o:dig (s.getD (i+1) 0)<16/\dig (s.getD (i+2) 0)<16
     ·rw[if_pos o];have w:(decide (dig (s.getD (i+1) 0)<16)&&decide (dig (s.getD (i+2) 0)<16))=true:=by rw[decide_eq_true o.1,decide_eq_true o.2];rfl
      refine⟨λt f R c d=>?_,λh=>?_⟩
      ·cases j:R1 (s.drop (i+3)) with
       | none=>rw[show i+1+1+1=i+3 from rfl,j] at f;cases f
       | some q=>
        rw[show i+1+1+1=i+3 from rfl,j] at f;simp only[p9,f0] at f;subst f;rw[top,w,cond_true,A q j,m6];rfl
      ·cases j:R1 (s.drop (i+3)) with
       | some q=>rw[show i+1+1+1=i+3 from rfl,j] at h;cases h
       | none=>
        obtain⟨l,e⟩:=B j;exact⟨l,λR c d=>by rw[top,w,cond_true,e]⟩
     ·rw[if_neg o];have w:(decide (dig (s.getD (i+1) 0)<16)&&decide (dig (s.getD (i+2) 0)<16))=false:=by grind
      exact⟨λt h=>(by cases h),λ_=>⟨_,λR c d=>by rw[top,w,cond_false]⟩⟩
    ·have k:R1 (s.getD i 0::s.drop (i+1))=none:=by
      rw[g];cases o:s.drop (i+1) with
      | nil=>rfl
      | cons x r=>
       cases r with
       | nil=>rfl
       | cons y Q=>
        exfalso;have:=congrArg j0 o;rw[g7,f7,f7] at this;omega
     rw[k];refine⟨λt h=>(by cases h),λ_=>⟨a.map D7,λR c d=>?_⟩⟩;rw[R2];rw[A8,E4,D0,C,g,F,A6];rfl
   ·rw[RJ _ g];obtain⟨A,B⟩:=G (i+1) n (a++[s.getD i 0]) (by omega) (by omega) (by omega) (by simp;omega);have u:(s.getD i 0==37)=false:=by simpa using g
    have top:∀(R:Type) (c:LL->Option R) (d:LL->Option R),R2 LF (n+1) s (i:Int) (a.map D7) c d=R2 LF n s ((i+1:Nat):Int) ((a++[s.getD i 0]).map D7) c d:=by
     intro R c d;rw[R2];rw[A8,E4,D0,C,u,p,E9 (by omega),D,v];rfl
    refine⟨λt f R c d=>?_,λh=>?_⟩
    ·cases j:R1 (s.drop (i+1)) with
     | none=>rw[j] at f;cases f
     | some q=>
      rw[j] at f;simp only[p9,f0] at f;subst f;rw[top,A q j,m6];rfl
    ·cases j:R1 (s.drop (i+1)) with
     | some q=>rw[j] at h;cases h
     | none=>
      obtain⟨l,e⟩:=B j;exact⟨l,λR c d=>by rw[top,e]⟩
  ·rw[d8 (by omega)];refine⟨λt f R c d=>?_,λh=>(by cases h)⟩;simp only[R1,f0] at f;subst f;rw[R2];rw[A6,o6];rfl
theorem Cd8(s:By)(f:A3 s.length=true):∃r H,Bw0 LF s (λj k i=>rv (.tup [.s (.str j),.s (.bool k)]) [.arr false 5 1 i])=rv r H/\
  r.stab [0,0] H = .tup [.s (.str (Ed s)),.s (.bool (R1 s).isSome)]:=by
 have h:=L6 f;have g:=C1;have a:((decide ((0:Int)<=(s.length:Int)))&&(F2 (f6 (s.length:Int))))=true:=by
  rw[b9,E9 (by omega),decide_eq_true (by omega)];rfl
 obtain⟨c,d⟩:=Bc7 s h s.length 0 LF [] (by omega) (by omega) (by omega) (by simp);rw[j6] at c d;unfold Ed;cases b:R1 s with
 | none=>
  obtain⟨l,e⟩:=d b;refine⟨.tup [.s (.str []),.s (.bool false)],[.arr false 5 1 l],?_,rfl⟩;unfold Bw0;rw[a,cond_true];exact e _ _ _
 | some t=>
  refine⟨.tup [.s (.str t),.s (.bool true)],[.arr false 5 1 (t.map D7)],?_,rfl⟩;unfold Bw0;rw[a,cond_true];refine g6 (c t b _ _ _) ?_;rw[j9,V4,V9];rfl
abbrev Ss(i:Int)(j:By)(v4 a b c d e f g h:Int):List PV:=[.s (.int .i64 i),.s (.str j),.s (.int .u32 v4),.s (.int .u16 a),.s (.int .u16 b),.s (.int .u16 c),.s (.int .u16 d),.s (.int .u16 e),.s (.int .u16 f),.s (.int .u16 g),.s (.int .u16 h)]
def Zy(h:B2):PV:=.agg [.s (.int .i64 (h.kind:Nat)),.s (.str h.name),.s (.int .u32 (h.v4:Nat)),.s (.int .u16 (h.v6.getD 0 0:Nat)),.s (.int .u16 (h.v6.getD 1 0:Nat)),.s (.int .u16 (h.v6.getD 2 0:Nat)),.s (.int .u16 (h.v6.getD 3 0:Nat)),.s (.int .u16 (h.v6.getD 4 0:Nat)),.s (.int .u16 (h.v6.getD 5 0:Nat)),.s (.int .u16 (h.v6.getD 6 0:Nat)),.s (.int .u16 (h.v6.getD 7 0:Nat))]
abbrev C64:Int->Int->Int->Int->Int->Int->Int->Int->Int->Int->Int->LL->Option (PV × List Blk × Unit):=λj c d e f g h i r8 k b a=>rv (.tup [.agg (Ss j [] 0 c d e f g h i r8),.s (.int .i64 k)]) [.box (Ss b [] 0 c d e f g h i r8),.arr false 25 1 a]
abbrev C36:Unit->Option (PV × List Blk × Unit):=λ_=>rv (.tup [.agg (Ss 0 [] 0 0 0 0 0 0 0 0 0),.s (.int .i64 14)]) [.box (Ss 0 [] 0 0 0 0 0 0 0 0 0)]
theorem BQ(s:By)(c:UInt8)(h:s≠[]):(s.getLast? = some c)↔s.getD (s.length-1) 0=c:=by have:0<s.length:=x4.2 h;grind
theorem Bv9(s:By)(g:A3 s.length=true)(e:Bw6 s=true):∃r H,A54 LF s C64 C36=rv r H/\r.stab [0,0] H = .tup [Zy (O9 s).1,.s (.int .i64 ((O9 s).2:Nat))]:=by
 have m:=L6 g;have c:s≠[]:=by rintro rfl;cases e
 have l:0<s.length:=x4.2 c;have i:s.getD 0 0=91:=by
  cases s with
  | nil=>exact absurd rfl c
  | cons b t=>
   simp only[Bw6,ac4,aa5,beq_iff_eq] at e;grind
 have f:A1 ((s.length:Int)-1)=((s.length-1:Nat):Int):=by rw[A7];omega
 have k:(((s.getD (s.length-1) 0).toNat:Int)==93)=(s.getD (s.length-1) 0==93):=P7 _ 93 (by omega);have bad:∃r H,C36 ()=rv r H/\r.stab [0,0] H = .tup [Zy J8,.s (.int .i64 14)]:=⟨_,_,rfl,rfl⟩
 unfold A54 O9;simp only[vl,f];rw[E4,D0,k,cond_true];by_cases d:s.getD (s.length-1) 0=93
 ·have h:2<=s.length:=by grind
  rw[if_pos ⟨(BQ s 93 c).2 d,h⟩,d,beq_self_eq_true,cond_true,show(1:Int)=((1:Nat):Int) from rfl,H9,cond_true,Gv];have j:((s.take (s.length-1)).drop 1).length<=s.length:=by rw[g7,p4];omega
  rw[N6,cond_true];unfold v6c;cases n:v6B ((s.take (s.length-1)).drop 1) with
  | none=>exact⟨_,_,rfl,rfl⟩
  | some a=>exact⟨_,_,rfl,rfl⟩
 grind
theorem B40(l:List By)(i:Nat)(y:By)(h:i<l.length):ag9 (D4 l) i (F3 ((D4 l).getD i []) 0 [SV.str y])=D4 (l.set i y):=by
 have e:(D4 l).getD i []=[SV.str (l.getD i [])]:=by
  unfold D4;grind
 rw[e];unfold D4;rw[List.map_set];rfl
theorem WB(N:Nat)(hN:N<=1000000001):∀(a:List By) (done:List By) (n:Nat),done.length+a.length=N->a.length<n->(∀x∈a,x.length<=1000000000)->
  ((F1 a).2=0->∀(R:Type) (b:Int->LL->Option R) (c:Nat->LL->Option R),R6 LF n N (N:Int) (done.length:Int) (D4 (done++a)) b c=c N (D4 (done++(F1 a).1)))/\
  ((F1 a).2≠0->∃l,∀(R:Type) (b:Int->LL->Option R) (c:Nat->LL->Option R),R6 LF n N (N:Int) (done.length:Int) (D4 (done++a)) b c=b ((F1 a).2:Nat) l):=by
 intro a
 induction a with
 | nil=>
  intro done n i o p;obtain⟨n,rfl⟩:∃m,n=m+1:=⟨n-1,by simp at o;omega⟩
  simp only[p7] at i;refine⟨λ_ R b c=>?_,λh=>absurd rfl h⟩;rw[R6];rw[A6];rfl
 | cons x r z=>
  intro done n i o p;simp only[f7] at i o;obtain⟨n,rfl⟩:∃m,n=m+1:=⟨n-1,by omega⟩
  have v:A1 ((done.length:Int)+1)=((done.length+1:Nat):Int):=by rw[A7];rfl
  have q:(done++x::r).length=N:=by rw[m7,f7];omega
  have k:(done++x::r).getD done.length []=x:=by grind
  have f:∀y,(done++x::r).set done.length y=(done++[y])++r:=λy=>by grind
  have top:∀(R:Type) (b:Int->LL->Option R) (c:Nat->LL->Option R),R6 LF (n+1) N (N:Int) (done.length:Int) (D4 (done++x::r)) b c=cond (((I1 x).2:Int)!=0) (b ((I1 x).2:Nat) (D4 (done++x::r))) (R6 LF n N (N:Int) ((done.length+1:Nat):Int) (D4 ((done++[(I1 x).1])++r)) b c):=by
   intro R b c;rw[R6];rw[A8,E4,b9,aj6,R8 (by omega),X1,k];simp only[vl,cond_true];rw[D9 (p x (by simp)),G1,decide_eq_true (show done.length<(done++x::r).length by omega),B40 _ _ _ (by omega),f,v];rfl
  unfold F1;obtain⟨t,u⟩:=z (done++[(I1 x).1]) n (by simp;omega) (by omega) (λy w=>p y (by simp[w]));have j:(done++[(I1 x).1]).length=done.length+1:=by simp
  rw[j] at t u;by_cases h:(I1 x).2=0
  ·rw[if_pos h];have g:(((I1 x).2:Int)!=0)=false:=by rw[h];rfl
   refine⟨λd R b c=>?_,λd=>?_⟩
   ·rw[top,g,cond_false,t d,m6];rfl
   ·obtain⟨l,e⟩:=u d;exact⟨l,λR b c=>by rw[top,g,cond_false,e]⟩
  ·rw[if_neg h];have g:(((I1 x).2:Int)!=0)=true:=by simpa using h
   exact⟨λd=>absurd d h,λ_=>⟨_,λR b c=>by rw[top,g,cond_true]⟩⟩
theorem QO(p:By)(m:Nat):∀l:List By,(∀x∈l,x.length<=m)->(aa0 l p).length<=(m+p.length)*l.length
 | [],_=>by simp[aa0]
 | [x],h=>by
  have:=h x (by simp);rw[show aa0 [x] p=x by simp[aa0,an9]];grind
 | x::y::r,h=>by
  have b:=h x (by simp);have c:=QO p m (y::r) (λz a=>h z (by simp[a]));rw[FX,m7,m7,f7,Nat.mul_add,Nat.mul_one];omega
theorem OS(l:List By):(D4 l).all isS=true:=by unfold D4;rw[aj2,o9];intro x _;rfl
theorem B49(s:By):TA s [46]=H5 s:=by
 unfold TA H5;by_cases h:s.getLast? = some 46
 ·obtain⟨t,rfl⟩:=List.getLast?_eq_some_iff.1 h;grind
 ·rw[if_neg h,if_neg];rw[List.isSuffixOf_iff_suffix];rintro⟨t,a⟩;grind
abbrev C37:Int->By->Int->Int->Int->Int->Int->Int->Int->Int->Int->Int->Int->By->Int->Int->Int->Int->Int->Int->Int->Int->Int->Option (PV × List Blk × Unit):=λn o p q r t u v r8 w k l a m b c d e f g h i j=>rv (.tup [.agg (Ss n o p q r t u v r8 w k),.s (.int .i64 l)]) [.box (Ss a m b c d e f g h i j)]
abbrev C38:Int->By->Int->Int->By->LL->Option (PV × List Blk × Unit):=λc d e b f a=>rv (.tup [.agg (Ss c d 0 0 0 0 0 0 0 0 0),.s (.int .i64 e)]) [.box (Ss b f 0 0 0 0 0 0 0 0 0),.arr false 9 1 a]
theorem Bd1(s:By)(n:A3 s.length=true):∃r H,Yc LF s C37 C38=rv r H/\r.stab [0,0] H = .tup [Zy (C5 s).1,.s (.int .i64 ((C5 s).2:Nat))]:=by
 have Q:=L6 n;have A:=C1;have bad:∀e:Nat,∃r H,C37 0 [] 0 0 0 0 0 0 0 0 0 (e:Int) 0 [] 0 0 0 0 0 0 0 0 0=rv r H/\r.stab [0,0] H = .tup [Zy J8,.s (.int .i64 (e:Nat))]:=λe=>⟨_,_,rfl,rfl⟩
 have a:∀(e:Nat) (l:LL),∃r H,C38 0 [] (e:Int) 0 [] l=rv r H/\r.stab [0,0] H = .tup [Zy J8,.s (.int .i64 (e:Nat))]:=λe l=>⟨_,_,rfl,rfl⟩
 by_cases i:1024<s.length
 ·have e:C5 s=(J8,3):=by unfold C5;rw[if_pos i]
  rw[e];unfold Yc;rw[A8,cond_true];exact bad 3
 ·have f:([91]:By).isPrefixOf s=decide (s.head? = some 91):=by
   cases s with
   | nil=>rfl
   | cons b t=>
    grind
  by_cases d:s.head? = some 91
  ·have j:([91]:By).isPrefixOf s=true:=by rw[f,decide_eq_true d]
   have e:C5 s=O9 s:=by unfold C5 O9;rw[if_neg i,if_pos d]<;>rfl
   rw[e];unfold Yc;rw[A6,cond_false,n,cond_true,j,cond_true,cond_true,show Bw6 s=true from j,cond_true];exact⟨_,_,rfl,rfl⟩
  ·have j:([91]:By).isPrefixOf s=false:=by rw[f,decide_eq_false d]
   unfold Yc;rw[A6,cond_false,n,cond_true,j,cond_false,cond_true];cases k:R1 s with
   | none=>
    have e:C5 s=(J8,14):=by unfold C5;rw[if_neg i,if_neg d,k]
    rw[e];exact bad 14
   | some t=>
    have L:t.length<=s.length:=BW s t k;have M:Ed s=t:=by unfold Ed;rw[k];rfl
    rw[M,N6];simp only[y7,d7,cond_false,cond_true,vl];rw[B49];have K:(H5 t).length<=t.length:=by unfold H5;split<;>simp
    have B:C5 s=if F4 (H5 t) then (match pnB (H5 t) with
      | some v=>(⟨2,[],v,z8⟩,0)
      | none=>(J8,14))
     else if (F1 (pcs 46 (H5 t))).2=0 then (
      let name:=aa0 (F1 (pcs 46 (H5 t))).1 [46]
      if 253<name.length then (J8,3) else if F4 name then (J8,14) else (⟨1,name,0,z8⟩,0))
     else (J8,(F1 (pcs 46 (H5 t))).2):=by
     unfold C5;rw[if_neg i,if_neg d,k];rfl
    rw[B];generalize H5 t=u at *;rw[N6,cond_true];cases O:F4 u with
    | true=>
     rw[if_pos rfl,cond_true,cond_true];cases P:pnB u with
     | none=>exact bad 14
     | some v=>exact⟨_,_,rfl,rfl⟩
    | false=>
     rw[if_neg (by simp),cond_false,cond_true,show((1:Nat)==1)=true from rfl,cond_true];have C:([46]:By).getD 0 0=46:=rfl;rw[C];have J:=Hd 46 u;have D:=Fk 46 u;obtain⟨w,y⟩:=WB (pcs 46 u).length (by omega) (pcs 46 u) [] LF (by simp) (by omega) (λx p=>by have:=(Cs p).2;omega);rw[j9,p7] at w y;by_cases g:(F1 (pcs 46 u)).2=0
     ·rw[if_pos g];obtain⟨z,N⟩:=Im _ g;have G:=QO [46] 63 (F1 (pcs 46 u)).1 (λx p=>(Pl (z x p)).le);have F:∀{R:Type} (m:Int->LL->Option R) (h:Nat->LL->Option R),R6 LF LF (pcs 46 u).length ((pcs 46 u).length:Int) 0 (D4 (pcs 46 u)) m h=h (pcs 46 u).length (D4 (F1 (pcs 46 u)).1):=λm h=>w g _ m h
      rw[F];have hA:(F1 (pcs 46 u)).1.length<=1025:=by omega
      have o:aa6 (pcs 46 u).length (ab2 0 (D4 (F1 (pcs 46 u)).1))=D4 (F1 (pcs 46 u)).1:=by
       rw[j6,j4 (by rw[G1];omega)]
      have q:(63+([46]:By).length)*(F1 (pcs 46 u)).1.length<=64*1025:=ah0 (by simp) hA;rw[o,OS,VF,G1,N6,N6];simp only[cond_true];generalize aa0 (F1 (pcs 46 u)).1 [46]=name at *;by_cases c:253<name.length
      ·rw[if_pos c,A8,cond_true];exact a 3 _
      ·rw[if_neg c,A6,cond_false];cases I:F4 name with
       | true=>exact a 14 _
       | false=>exact⟨_,_,rfl,rfl⟩
     ·rw[if_neg g];obtain⟨l,e⟩:=y g;simp_all
theorem WE{R:Type}{k0 k1:Unit->Option R}:∀l:List By,(∀x∈l,x.length<=1000000000)->FT LF l k0 k1=if l.all K2 then k0 () else k1 ()
 | [],_=>rfl
 | x::r,h=>by
  rw[WD];unfold BP;rw[D9 (h x (by simp)),cond_true,x8];have b:=WE (k0:=k0) (k1:=k1) r (λy a=>h y (by simp[a]));grind
theorem Cv5(s:By)(a:A3 s.length=true):∃r H,hvn LF s (λ_=>rv (.s (.bool false)) [.box [.s (.bool false)]]) (λd b=>rv (.s (.bool d)) [.box [.s (.bool b)],.box [.bad],.box [.bad],.box [.bad]])=rv r H/\r.stab [] H = .s (.bool (Ij s)):=by
 have h:=L6 a;unfold hvn QI Ij;by_cases e:253<s.length
 ·rw[A8,show i6 s.length 253=false by rw[o5,ne_eq,j7];omega];exact⟨_,_,rfl,rfl⟩
 ·rw[A6,cond_false,a,cond_true,show i6 s.length 253=true by rw[j7];omega];cases f:F4 s with
  | true=>exact⟨_,_,rfl,rfl⟩
  | false=>
   rw[cond_false,show((1:Nat)==1&&(0:Int)==(0:Int))=true from rfl,show([46]:By).getD 0 0=46 from rfl,aa5,cond_true,WE _ (λx c=>by have:=(Cs c).2;omega)];cases g:(pcs 46 s).all K2 with
   | true=>exact⟨_,_,rfl,rfl⟩
   | false=>exact⟨_,_,rfl,rfl⟩
theorem C40(a c d f g h i j:Nat):(n8 (a:Int) c d f g h i j==z8)=(((a:Int)==0)&&(((c:Int)==0)&&(((d:Int)==0)&&(((f:Int)==0)&&(((g:Int)==0)&&(((h:Int)==0)&&(((i:Int)==0)&&(((j:Int)==0)&&true)))))))):=by
 have e:n8 (a:Int) c d f g h i j=[a,c,d,f,g,h,i,j]:=rfl;have q:∀b:Nat,((b:Int)==0)=(b==0):=λb=>by grind
 rw[e];simp only[q,z8];rfl
theorem Ce8(a:Int)(b:By)(v4 l m n o p q t u:Int)(D:A3 b.length=true)(F:ltN v4 4294967296=true)(G:ok8 l m n o p q t u=true) :
  ∃r H,Ma LF a b v4 l m n o p q t u (λV M W N O P Q R n8 S y z x=>rv (.s (.bool V)) [.box (Ss M W N O P Q R n8 S y z),.arr false 25 1 x])=rv r H/\
   r.stab [] H = .s (.bool (Y7 (mkH a b v4 (n8 l m n o p q t u)))):=by
 obtain⟨c,d,e,f,g,i,j,k,rfl,rfl,rfl,rfl,rfl,rfl,rfl,rfl,X⟩:=Uj G;obtain⟨v0,v1⟩:=E6.1 F;obtain⟨v,rfl⟩:=f9 v0;have U:((v:Int)==0)=(v==0):=by
  rw[Bool.eq_iff_iff,beq_iff_eq,beq_iff_eq];omega
 have T:(b==([]:By))=b.isEmpty:=by cases b<;>rfl
 have J:(mkH a b (v:Int) (n8 (c:Int) d e f g i j k)).kind=if ltN a 4 then a.toNat else 0:=rfl
 have K:(mkH a b (v:Int) (n8 (c:Int) d e f g i j k)).name=b:=rfl;have L:(mkH a b (v:Int) (n8 (c:Int) d e f g i j k)).v4=v:=b9 v;have I:(mkH a b (v:Int) (n8 (c:Int) d e f g i j k)).v6=n8 (c:Int) d e f g i j k:=rfl;unfold Ma Y7;rw[J,K,L,I,C40,U,T];by_cases A:a=1
 ·subst A;rw[show((1:Int)==1)=true from rfl,cond_true,D,cond_true,if_pos (by decide)];cases Ij b with
  | false=>exact⟨_,_,rfl,rfl⟩
  | true=>
   cases (v==0) with
   | false=>exact⟨_,_,rfl,rfl⟩
   | true=>exact⟨_,_,rfl,rfl⟩
 ·rw[show(a==(1:Int))=false by simpa using A,cond_false];by_cases B:a=2
  ·subst B;rw[show((2:Int)==2)=true from rfl,cond_true,if_neg (by decide),if_pos (by decide)];cases b.isEmpty with
   | false=>exact⟨_,_,rfl,rfl⟩
   | true=>exact⟨_,_,rfl,rfl⟩
  ·rw[show(a==(2:Int))=false by simpa using B,cond_false];by_cases C:a=3
   ·subst C;rw[show((3:Int)==3)=true from rfl,cond_true,if_neg (by decide),if_neg (by decide),if_pos (by decide)];cases b.isEmpty with
    | false=>exact⟨_,_,rfl,rfl⟩
    | true=>exact⟨_,_,rfl,rfl⟩
   ·rw[show(a==(3:Int))=false by simpa using C,cond_false];have w:(if ltN a 4 then a.toNat else 0)=0:=by
     split
     ·rename_i h;have:=E6.1 h;omega
     ·rfl
    rw[w];exact⟨_,_,rfl,rfl⟩
theorem Ct0{a b c d e f g i:Int}(h:ok8 a b c d e f g i=true):(n8 a b c d e f g i).length=8/\∀x∈n8 a b c d e f g i,x<65536:=by obtain⟨k,l,m,n,o,p,q,r,rfl,rfl,rfl,rfl,rfl,rfl,rfl,rfl,t⟩:=Uj h;refine⟨rfl,λx j=>?_⟩;simp only[n8,b9,x9,List.not_mem_nil,or_false] at j;omega
theorem Ce5(a:Int)(j:By)(v4 b c d e f g h i:Int)(q:A3 j.length=true)(t:ltN v4 4294967296=true)(n:ok8 b c d e f g h i=true) :
  ∃r H,Ce3 LF a j v4 b c d e f g h i (λI k J y z A B C n8 D l m=>rv (.s (.str I)) [.box (Ss k J y z A B C n8 D l m)])=rv r H/\
   r.stab [] H = .s (.str (Pn (mkH a j v4 (n8 b c d e f g h i)))):=by
 obtain⟨F,G⟩:=Ct0 n;have v:=B65 _ F G;unfold Ce3 Pn;rw[q,t,n];simp only[cond_true,vl];have u:(mkH a j v4 (n8 b c d e f g h i)).kind=if ltN a 4 then a.toNat else 0:=rfl
 cases w:Y7 (mkH a j v4 (n8 b c d e f g h i)) with
 | false=>exact⟨_,_,rfl,rfl⟩
 | true=>
  rw[if_pos rfl,d7,cond_false,u];by_cases o:a=1
  ·subst o;rw[if_pos (by decide)];exact⟨_,_,rfl,rfl⟩
  ·rw[show(a==(1:Int))=false by simpa using o,cond_false];have k:¬(if ltN a 4 then a.toNat else 0)=1:=by grind
   rw[if_neg k];by_cases p:a=2
   ·subst p;rw[if_pos (by decide)];exact⟨_,_,rfl,rfl⟩
   ·rw[show(a==(2:Int))=false by simpa using p,cond_false];have x:¬(if ltN a 4 then a.toNat else 0)=2:=by grind
    rw[if_neg x,N3 (by omega),cond_true,N3 (by rw[m7,ag2];omega),cond_true];exact⟨_,_,rfl,rfl⟩
theorem Am0{R:Type}{a:By->By->Int->Option R}(t p:By)(n:Int):Bx3 LF t p n a=a t p n:=rfl
theorem Bl4{R:Type}{a:By->By->Option R}(t p:By):Cx5 LF t p a=a t p:=rfl
theorem Ay1{Z R:Type}(g:Yh Z)(c:UInt8):∀(m:Nat) (t:By) (n:Nat) (s i:Z),t.length<=m->t.length<=1000000000->m<n->Cm g ((pcs c t).map λx=>([.s (.str x)]:List PV)) s=some i->
  ∃o , (∃v:Z,∃b:Bool,g [.s (.str o)] v=some (b,i)/\∀(a d:By->By->Int->Z->Option R),R9 g LF n [c] t 0 s a d=a [c] o 0 v)\/(∀(a d:By->By->Int->Z->Option R),R9 g LF n [c] t 0 s a d=d [c] o 0 i):=by
 intro m
 induction m with
 | zero=>
  intro t n s i y l D h;obtain rfl:=g8.1 (Nat.le_zero.1 y);obtain⟨n,rfl⟩:∃m,n=m+1:=⟨n-1,by omega⟩
  rw[Nm (by simp)] at h;simp only[ai0,af8,Cm] at h;refine⟨[],.inl ⟨s,?_⟩⟩;have e:∀(a d:By->By->Int->Z->Option R),R9 g LF (n+1) [c] [] 0 s a d=a [c] [] 0 s:=λa d=>by
   rw[R9];rw[Rk (by simp)];rfl
  cases k:g [.s (.str [])] s with
  | none=>rw[k] at h;cases h
  | some q=>
   obtain⟨b,j⟩:=q;rw[k] at h;have:j=i:=by cases b<;>simpa using h
   subst this;exact⟨b,rfl,e⟩
 | succ m F=>
  intro t n s i y l D h;obtain⟨n,rfl⟩:∃m,n=m+1:=⟨n-1,by omega⟩
  rcases S7 c t with u|⟨p,r,rfl,u⟩
  ·rw[Nm u] at h;simp only[ai0,af8,Cm] at h;refine⟨t,.inl ⟨s,?_⟩⟩;have e:∀(a d:By->By->Int->Z->Option R),R9 g LF (n+1) [c] t 0 s a d=a [c] t 0 s:=λa d=>by
    rw[R9];rw[Rk u,D9 l];rfl
   cases k:g [.s (.str t)] s with
   | none=>rw[k] at h;cases h
   | some q=>
    obtain⟨b,j⟩:=q;rw[k] at h;have:j=i:=by cases b<;>simpa using h
    subst this;exact⟨b,rfl,e⟩
  ·rw[RH u] at h;simp only[ai0,Cm] at h;have w:(p++c::r).length=p.length+r.length+1:=by rw[m7,f7];omega
   have z:A1 ((p.length:Int)+0)=((p.length:Nat):Int):=by rw[A7];omega
   have A:A1 ((p.length:Int)+(([c]:By).length:Int))=((p.length+1:Nat):Int):=by
    rw[C4 (by simp;omega) (by simp;omega)];simp
   have B:cut (p++c::r) 0 (p.length:Int)=p:=by rw[J5,b9,List.take_left]
   have C:cut (p++c::r) ((p.length+1:Nat):Int) ((p++c::r).length:Int)=r:=by
    rw[P8,b9,show p++c::r=(p++[c])++r by simp,al2 (by simp)]
   have top:∀(a d:By->By->Int->Z->Option R),R9 g LF (n+1) [c] (p++c::r) 0 s a d=ydK (g [.s (.str p)] s) λb j=>cond (not b) (d [c] (p++c::r) 0 j) (R9 g LF n [c] r 0 j a d):=λa d=>by
    rw[R9];rw[Yf u,D9 l,cond_true,A6,cond_false];simp only[vl,z,A,B,C];rw[H9,cond_true,H9];rfl
   cases k:g [.s (.str p)] s with
   | none=>rw[k] at h;cases h
   | some q=>
    obtain⟨b,j⟩:=q;rw[k] at h top;cases b with
    | false=>
     have:j=i:=by simpa using h
     subst this;exact⟨p++c::r,.inr λa d=>by rw[top];rfl⟩
    | true=>
     simp only at h;obtain⟨o,⟨v,b,e,f⟩|f⟩:=F r n j i (by omega) (by omega) (by omega) h
     ·exact⟨o,.inl ⟨v,b,e,λa d=>by rw[top];exact f a d⟩⟩
     ·exact⟨o,.inr λa d=>by rw[top];exact f a d⟩
theorem Ay2{Z R:Type}(i:Yh Z)(p t:By)(n:Int)(s g:Z)(h:(A3 t.length&&(p.length==1&&n==0))=true)(m:Cm i ((pcs (p.getD 0 0) t).map λx=>([.s (.str x)]:List PV)) s=some g) :
  ∃d,∀(a:By->By->Int->Z->Option R),ZQ i LF p t n s a=a p d n g:=by
 have l:=C1;simp only[g9,beq_iff_eq] at h;obtain⟨j,k,rfl⟩:=h;obtain⟨c,rfl⟩:=List.length_eq_one_iff.1 k;have o:=L6 j;obtain⟨d,⟨q,b,e,f⟩|f⟩:=Ay1 (R:=R) i c t.length t LF s g (ac7 _) o (by omega) m
 ·refine⟨d,λa=>?_⟩;unfold ZQ;rw[show(((([c]:By).length:Nat):Int)==0)=false from rfl,cond_false];refine g6 (f _ _) ?_;rw[e];rfl
 ·refine⟨d,λa=>?_⟩;unfold ZQ;rw[show(((([c]:By).length:Nat):Int)==0)=false from rfl,cond_false];exact f _ _
end
section
open Go Go.ChangeAt Go.ChangeShapes Go.Proofs Go.RowKit Go.WideShapes
set_option maxRecDepth 100000
theorem own:ownKnob a8.godebug=none:=by kernel_rfl
theorem Cf3:laidOutB a8=true:=by kernel_rfl
noncomputable def gTy(g:Nat):Nat:=match a8.globals[g]? with|some x=>x.type|none=>0
noncomputable def dbT:Nat:=gTy 5
noncomputable def Ci3:Nat:=gTy 1
noncomputable def OQ:Nat:=gTy 3
noncomputable def Cc8:Nat:=gTy 2
noncomputable def OP:Nat:=match a8.underlying OQ with|some (.array _ e)=>e|_=>0
noncomputable def Xb:Array Field:=match a8.underlying OP with|some (.struct a)=>a|_=>#[]
noncomputable def JL:Field:=match Xb.toList with|a::_=>a|_=>default
noncomputable def JM:Field:=match Xb.toList with|_::a::_=>a|_=>default
theorem Ct6:Xb[0]? = some JL:=by unfold JL Xb OP OQ gTy;kernel_rfl
theorem Ct7:Xb[1]? = some JM:=by unfold JM Xb OP OQ gTy;kernel_rfl
def Dr:List (String × DataW Unit):=[("math/bits.deBruijn32tab", Rows.laid_math_bits_deBruijn32tab), ("math/bits.deBruijn64tab", Rows.laid_math_bits_deBruijn64tab), ("internal/strconv.uint64pow10", Rows.laid_internal_strconv_uint64pow10), ("unicode/utf8.acceptRanges", Rows.laid_unicode_utf8_acceptRanges), ("unicode/utf8.first", Rows.laid_unicode_utf8_first)]
theorem ME{W:World}{n:String}{g:Nat}{a:Array Value}(b:a8.globalNamed n=some g)(h:W.var? a8 n=some a):∃e x,W.heap[g]? = some (.cells a e x):=by
 unfold ar7 at h;rw[b,ak4] at h;split at h
 ·rename_i c e x d;simp only[f0] at h;subst h;exact⟨e,x,d⟩
 ·cases h
theorem Zc{W:World}{n:String}{g t e m:Nat}{k:IntKind}{f:List Int}(l:a8.globalNamed n=some g)(d:(a8.globals[g]?).map (·.type)=some t)(w:a8.underlying t=some (.array m e))(v:a8.underlying e=some (.int k))(a:a8.cellsOf e=1)(c:a8.cellsOf t=m)
  (h:ac8 a8 W n (ac6 k f)):∃e x,W.heap[g]? = some (.cells (f.map λz=>ac0 k z).toArray e x):=by
 obtain⟨y,A,o,i,p,q,r,j,u⟩:=h;obtain rfl:=j5 (l.symm.trans q);obtain rfl:=j5 (d.symm.trans r);have b:=Lib.cells_of_tab w v a c u;have:o=(f.map λz=>ac0 k z).toArray:=by rw[<-b]
 rw[this] at j;exact ME l j
theorem HX{H:Type}{enc:TypeId × Value->H}{P:Program}{w:World}{base:Nat}{sp:Nat->Bool}{held:Bool}{a:Nat}{t e:TypeId}{n:Nat}{b:List Value}{d:DataW H}{p:List MemPlace}(f:P.underlying t=some (.array n e))
  (h:al6 enc P w base sp held a t b=some (d,p)):b.length=P.cellsOf t:=by
 cases a with
 | zero=>simp[al6] at h
 | succ a=>
  simp only[al6,f] at h;split at h
  ·rename_i c;simpa using c
  ·cases h
theorem Ba7{W:World}(C : a8.globalNamed "unicode/utf8.acceptRanges" = some 3)(h:ac8 a8 W "unicode/utf8.acceptRanges" ag5) :
  ∃e x,W.heap[3]? = some (.cells (Fc.map λz=>ac0 .u8 z).toArray e x):=by
 obtain⟨M,t,v,w,p,H,a,y,A⟩:=h;obtain rfl:=j5 (C.symm.trans H);have n:(a8.globals[3]?).map (·.type)=some OQ:=by unfold OQ;kernel_rfl
 obtain rfl:=j5 (n.symm.trans a);have F:a8.underlying OQ=some (.array 16 OP):=by unfold OQ OP;kernel_rfl
 have N:=HX F A;have I:a8.cellsOf OQ=32:=by unfold OQ;kernel_rfl
 have b:a8.cellsOf OP=2:=by unfold OP;kernel_rfl
 have K:∃j,a8.underlying OP=some (.struct j)/\j.size=2/\∀(i:Nat) (f:Field),j[i]? = some f->a8.underlying f.type=some (.int .u8)/\f.offset=i/\a8.cellsOf f.type=1:=by
  refine⟨Xb,by unfold OP Xb;kernel_rfl,by unfold Xb;kernel_rfl,λi f m=>?_⟩;have:i<2:=by
   have:=(ae1.1 m).1;rwa [show Xb.size=2 by unfold Xb;kernel_rfl] at this
  match i,this with
  | 0,_=>
   obtain rfl:=j5 (m.symm.trans (show Xb[0]? = some JL from Ct6));exact⟨by unfold JL;kernel_rfl,by unfold JL;kernel_rfl,by unfold JL;kernel_rfl⟩
  | 1,_=>
   obtain rfl:=j5 (m.symm.trans (show Xb[1]? = some JM from Ct7));exact⟨by unfold JM;kernel_rfl,by unfold JM;kernel_rfl,by unfold JM;kernel_rfl⟩
 obtain⟨j,o,r,u⟩:=K;have l:v.toList=Fc.map λz=>ac0 .u8 z:=by
  have D:(Fc.map λz=>ac0 .u8 z).length=32:=by rw[j2];rfl
  apply List.ext_getElem?;intro q;by_cases J:q<32
  ·obtain⟨k,d,O,c,B⟩:=Lib.array_elem F A (q / 2) (by omega);simp only[ad1,ah6 (show q / 2<16 by omega),p9,f0] at c;subst c;rw[b] at B;have L:=Lib.ints_of_struct o u (by rw[b,r]) B;have e0:=congrArg (·[q % 2]?) L;simp only[List.getElem?_take,List.getElem?_drop] at e0;rw[R7,show q / 2*2+q % 2=q by omega] at e0;rw[e0];unfold Fc;have G:∀g:Nat->Value,(x5 g (List.range 32))[q]? = some (g q):=λg=>by
    rw[ad1,ah6 J];rfl
   rw[ab7,G];rcases Nat.mod_two_eq_zero_or_one q with a|a
   ·simp[a]
   ·simp[a]
  ·rw[ag1 (by omega),ag1 (by omega)]
 have:v=(Fc.map λz=>ac0 .u8 z).toArray:=by rw[<-l]
 rw[this] at y;exact ME C y
theorem Aj9{C:Cfg}(r:C.G=GX){W:World}(b:laidMet a8 Dr W)(p:W.ShapedOpen a8):GOK C (· < W.heap.size) W:=by
 have lt:∀{g:Nat} {o:Obj},W.heap[g]? = some o->g<W.heap.size:=λh=>(ae1.1 h).1
 have I:ac8 a8 W "math/bits.deBruijn64tab" (ac6 .u8 (ac9.map λn:Nat=>(n:Int))):=ad0 b (by rw [show (ac6 .u8 (ac9.map λn:Nat=>(n:Int)):DataW Unit)=Rows.laid_math_bits_deBruijn64tab by kernel_rfl];simp [Dr])
 have J:ac8 a8 W "internal/strconv.uint64pow10" (ac6 .u64 af7):=ad0 b (by rw [show (ac6 .u64 af7:DataW Unit)=Rows.laid_internal_strconv_uint64pow10 by kernel_rfl];simp [Dr])
 have K:ac8 a8 W "unicode/utf8.acceptRanges" ag5:=ad0 b (by rw [show ag5=Rows.laid_unicode_utf8_acceptRanges by kernel_rfl];simp [Dr])
 have L:ac8 a8 W "unicode/utf8.first" (ac6 .u8 ad7):=ad0 b (by rw [show (ac6 .u8 ad7:DataW Unit)=Rows.laid_unicode_utf8_first by kernel_rfl];simp [Dr])
 have y:=Zc (g:=5) (t:=dbT) (e:=5) (m:=64) (by kernel_rfl) (by unfold dbT;kernel_rfl) (by unfold dbT;kernel_rfl) (by kernel_rfl) (by kernel_rfl) (by unfold dbT;kernel_rfl) I;have A:=Zc (g:=1) (t:=Ci3) (e:=112) (m:=20) (by kernel_rfl) (by unfold Ci3;kernel_rfl) (by unfold Ci3;kernel_rfl) (by kernel_rfl) (by kernel_rfl) (by unfold Ci3;kernel_rfl) J;have B:=Ba7 (by kernel_rfl) K;have D:=Zc (g:=2) (t:=Cc8) (e:=5) (m:=256) (by kernel_rfl) (by unfold Cc8;kernel_rfl) (by unfold Cc8;kernel_rfl) (by kernel_rfl) (by kernel_rfl) (by unfold Cc8;kernel_rfl) L;have F:=cell_of_shapedOpen_int (k:=.i64) (g:=0) (t:=3) (zero:=#[.int .i64 0]) p (of_decide_eq_true (by kernel_rfl)) (by kernel_rfl) rfl (by kernel_rfl) (by kernel_rfl) (by kernel_rfl);refine⟨λg k w h=>?_,λg h=>?_⟩
 ·rw[r] at h;simp only[GX] at h;have key:∀{q:Nat} {v:IntKind} {a:List Int},(∃e x,W.heap[q]? = some (.cells (a.map λz=>ac0 v z).toArray e x))->g=q->(v,a)=(k,w)->g<W.heap.size/\∃e x,W.heap[g]? = some (.cells (w.map λz=>ac0 k z).toArray e x):=λc G H=>by
   subst G;cases H;obtain⟨e,x,c⟩:=c;exact⟨lt c,e,x,c⟩
  cases d:ao5 g 2 with
  | true=>rw[d,cond_true] at h;exact key D (y8 d) (j5 h)
  | false=>
   rw[d,cond_false] at h;cases f:ao5 g 3 with
   | true=>rw[f,cond_true] at h;exact key B (y8 f) (j5 h)
   | false=>
    rw[f,cond_false] at h;cases i:ao5 g 1 with
    | true=>rw[i,cond_true] at h;exact key A (y8 i) (j5 h)
    | false=>
     rw[i,cond_false] at h;cases j:ao5 g 5 with
     | true=>rw[j,cond_true] at h;exact key y (y8 j) (j5 h)
     | false=>rw[j,cond_false] at h;cases h
 ·rw[r] at h;have e:=y8 h;subst e;obtain⟨m,u⟩:=F;refine⟨?_,m,u⟩;apply z7;intro l;simp[aq5,Array.getElem?_eq_none (Nat.le_of_not_lt l)] at u
theorem Yj(os:Os)(args:Array Value):((ac1 a8 os Dr).forCall (λ_ _=>0) ⟨#[],args,[]⟩).Shaped a8:=
 World.shaped_of_ZipB (by kernel_rfl) (by kernel_rfl)
theorem IK(os:Os)(args:Array Value):laidMetH a8 Dr ((ac1 a8 os Dr).forCall (λ_ _=>0) ⟨#[],args,[]⟩).memory:=by rw[ae7 _ _ _ (by kernel_rfl)];exact laidMet_laidAll _ (by kernel_rfl) (by kernel_rfl)
theorem Ak9{H:Type}{enc:TypeId × Value->H}{os:Os}(j:os.Started){C:Cfg}(u:C.P=a8)(r:C.G=GX)(Z:XOK C)(W:Md C){f tb:Nat}{fn:Func}{c:Code}{s:ChangeSpec}{g:List PathCond}{apart fresh handsOn again:Bool}(l:a8.inits.idxOf? f=none)(x:a8.funcs[f]? = some fn)(hb:fn.body=some c)(n:(fn.name == "runtime.NumGoroutine")=false)
  (F:∀t∈fn.params.toList,(a8.readableRec t=true/\t<a8.types.size)/\(Jn a8 20 t).isSome=true) (z:fn.resultTypes = #[tb]) (m:a8.underlying tb=some .bool) (q:s.vars=[])
  (p:∀ds:List (DataW H),ds.length=fn.params.toList.length->s.fn H ds = { results:=[.lit (.bool true)],args:=ds })
  (a:Array Value) (h:Nat) (o:Input.okWideB a8 ((ac1 a8 os Dr).forCall (λ_ _=>0) ⟨#[],a,[]⟩) f ⟨#[],a,[]⟩=true)
  (Rj:s.preB enc a8 fn g apart ((ac1 a8 os Dr).forCall (λ_ _=>0) ⟨#[],a,[]⟩).memory a h=true)
  (J:s.sizedB enc a8 fn apart ((ac1 a8 os Dr).forCall (λ_ _=>0) ⟨#[],a,[]⟩).memory a h=true)
  (D:∀args,Jq a8 fn.params.toList args->∃d T,evC C d Unit noY f args [] ()=some (.s (.bool true),T,())) :
  ReturnsInHanded {} aj7 os f .any (λw args=>(s.pre enc a8 fn g apart w args/\laidMetH a8 Dr w)/\sizedMet enc a8 fn (OpenSpec.ofChange s) apart w args) (s.post enc a8 fn apart fresh handsOn again):=by
 obtain⟨P,G,X,R,a0,lf,Q,M,xp,L,N,Y,S,nt,a1⟩:=C;simp only at u r;subst u;refine returnsInHanded_of_calls (C:=aj7) own j l
  (ChangeSpec.witness_shaped (enc:=enc) (C:=aj7) (os:=os) (X:=λw _=>laidMetH a8 Dr w) false (ac1 a8 os Dr) a h (World.laidAll_os _ _ _) (Yj os a) o Rj J (IK os a)) ?_
 intro w b i _ I _ o Rj A;obtain⟨_,_,_,B,y,_,_,_,_,Ma⟩:=o;have e:B=fn:=j5 (y.symm.trans x);subst e;obtain⟨⟨⟨ds,U,k,hw,hc⟩,O⟩,hz⟩:=Rj;have K:=DataW.Whole.of_heap (w':=w.forCall b i) (by rfl) hw;have V:laidMet a8 Dr (w.forCall b i):=by
  rw[ae7 _ _ _ (by kernel_rfl)] at O;exact laidMet.of_heap (w':=w.forCall b i) (by rfl) O
 refine(Bu0 (apart:=apart) (fresh:=fresh) (handsOn:=handsOn) (again:=again) Z W follows Cf3 x hb n F z m q p D (w.forCall b i) (Aj9 r V I) w.heap.size i.args ds U k Ma K).mono λe W' ⟨v,he,F⟩=>?_
 subst he;exact ChangeSpec.post_blind F
end
section
open Go
structure Y9 where
 sch:By
 user:By
 host:B2
 port:Int
 rest:By
def Bn:Y9:=⟨[],[],J8,0,[]⟩
def Lp:By:=[104,116,116,112]
def Ju:By:=[104,116,116,112,115]
def bWs:By:=[119,115]
def OU:By:=[119,115,115]
def Q0(s:By):Int:=if s==Lp||s==bWs then 80 else if s==Ju||s==OU then 443 else -1
def L3(s:By):Bool:=s==Lp||s==bWs||(s==Ju||s==OU)
def Fu(s:By):Bool:=s==Lp||s==bWs
def ctl(b:UInt8):Bool:=i6 b.toNat 32||b==127
def O6(b:UInt8):Bool:=(i6 97 b.toNat&&i6 b.toNat 122)||(i6 65 b.toNat&&i6 b.toNat 90)
def N5(b:UInt8):Bool:=O6 b||(i6 48 b.toNat&&i6 b.toNat 57)||b==43||b==45||b==46
def V2:By->Bool
 | []=>false
 | b::r=>O6 b&&r.all N5
def U8(b:UInt8):Bool:=b==47||b==63||b==35
def J3(s:By):Nat:=(s.takeWhile λb=>!U8 b).length
def Fs(c:UInt8):By->Option Nat
 | []=>none
 | b::r=>if b=c then some 0 else (Fs c r).map (· + 1)
def Ia:Int->By->Option Int
 | n,[]=>if n<65536 then some n else none
 | n,b::r=>if 48<=b.toNat/\b.toNat<=57 then Ia (min (10*max n 0+((b.toNat-48:Nat):Int)) 65536) r else none
def Iy(a:By):Option (By × By):=
 if a.head? = some 91 then (match Fs 93 a with
  | some k=>some (a.take (k+1),a.drop (k+1))
  | none=>none)
 else match Fs 58 a with
  | some k=>some (a.take k,a.drop k)
  | none=>some (a,[])
def T6(c user b:By)(a:By):Y9 × Nat:=
 match Iy a with
 | none=>(Bn,4)
 | some (name,tail)=>
  if tail≠[]/\tail.head?≠some 58 then (Bn,4)
  else if (C5 name).2≠0 then (Bn,(C5 name).2)
  else match Ia (-1) (tail.drop 1) with
   | none=>(Bn,16)
   | some p=>(⟨c,user,(C5 name).1,if p=Q0 c then -1 else p,b⟩,0)
def G6(c b a:By):Y9 × Nat:=
 if 0<=K6 64 a then T6 c (a.take (K6 64 a).toNat) b (a.drop ((K6 64 a).toNat+1)) else T6 c [] b a
def V3(r:By):By:=if r.head? = some 47 then r else 47::r
def C3(s:By):Y9 × Nat:=
 if s.any ctl then (Bn,4)
 else if !(j8 s [58]).2.2||!V2 (j8 s [58]).1 then (Bn,15)
 else if !L3 (B5 (j8 s [58]).1) then (⟨B5 (j8 s [58]).1,[],J8,-1,(j8 s [58]).2.1⟩,0)
 else if !([47,47]:By).isPrefixOf (j8 s [58]).2.1 then (Bn,4)
 else G6 (B5 (j8 s [58]).1) (V3 (((j8 s [58]).2.1.drop 2).drop (J3 ((j8 s [58]).2.1.drop 2)))) (((j8 s [58]).2.1.drop 2).take (J3 ((j8 s [58]).2.1.drop 2)))
def H8(s:By):Y9 × Nat:=if 2048<s.length then (Bn,3) else C3 s
def Lv(p:Int):By:=if p<0 then 45::ah8 (-p).toNat else ah8 p.toNat
def JQ(u:Y9):By:=(if u.user=[] then [] else u.user++[64])++(Pn u.host++(if u.port=-1 then [] else 58::Lv u.port))
def Bp(u:Y9):By:=if L3 u.sch then u.sch++58::47::47::(JQ u++u.rest) else u.sch++58::u.rest
def Cg7(b:Int)(c:By)(v4:Int)(a:List Nat):B2:=⟨if ltN b 4 then b.toNat else 4,c,v4.toNat,a⟩
def mkU(f g:By)(b:Int)(c:By)(v4:Int)(a:List Nat)(d:Int)(e:By):Y9:=⟨f,g,Cg7 b c v4 a,d,e⟩
def smU(c d a b:By):Bool:=i6 c.length 100000000&&i6 d.length 100000000&&i6 a.length 100000000&&i6 b.length 100000000
def eqH(a b:B2):Bool:=a.kind==b.kind&&a.name==b.name&&a.v4==b.v4&&a.v6==b.v6
def eqU(a b:Y9):Bool:=a.sch==b.sch&&a.user==b.user&&eqH a.host b.host&&a.port==b.port&&a.rest==b.rest
def Zh(u:Y9):Bool:=(C3 (Bp u)).2==0&&eqU (C3 (Bp u)).1 u
def Cv2(u:Y9):By:=if Zh u then Bp u else []
def upS(a:By):By:=if a==Lp then Ju else if a==bWs then OU else a
def upP(b:By)(a:Int):Int:=if Fu b&&a==443 then -1 else a
def BE:By->Int
 | s=>let rec go:Int->By->Int
   | n,[]=>n
   | n,b::r=>if 48<=b.toNat/\b.toNat<=57 then go (min (10*max n 0+((b.toNat-48:Nat):Int)) 65536) r else 0
  go (-1) s
def P9(s t:By):Nat:=(s.takeWhile λb=>!t.contains b).length
def Cl(s:By):By × By × Bool:=if (j8 s [58]).2.2&&V2 (j8 s [58]).1 then (B5 (j8 s [58]).1,(j8 s [58]).2.1,true) else ([],[],false)
def isl:By:=[47,63,35]
def Yi(p:By):Bool:=p==isl
def IB(r:Int):Bool:=ltN r 55296||(ltI 57343 r&&ltN r 1114112)
def irn(r:Int):Int:=if r=47 then 0 else if r=63 then 1 else if r=35 then 2 else -1
def Po(n:Int):Bool:=ltN (n+9223372036854775808) 18446744073709551616
abbrev uS(p:Y9 × Nat):By:=p.1.sch
abbrev uU(p:Y9 × Nat):By:=p.1.user
abbrev uK(p:Y9 × Nat):Int:=p.1.host.kind
abbrev uN(p:Y9 × Nat):By:=p.1.host.name
abbrev uV(p:Y9 × Nat):Int:=p.1.host.v4
abbrev uA(p:Y9 × Nat)(i:Nat):Int:=(p.1.host.v6.getD i 0:Nat)
abbrev uP(p:Y9 × Nat):Int:=p.1.port
abbrev uR(p:Y9 × Nat):By:=p.1.rest
abbrev uE(p:Y9 × Nat):Int:=p.2
theorem II(s:By):decide (0<Q0 s)=L3 s:=by
 unfold Q0 L3;cases (s==Lp||s==bWs) with
 | true=>rfl
 | false=>cases (s==Ju||s==OU)<;>rfl
theorem Ca1{s:By}(h:L3 s=true):s=Lp\/s=bWs\/s=Ju\/s=OU:=by simp only[L3,ac2,beq_iff_eq] at h;rcases h with(h|h)|(h|h)<;>simp[h]
theorem Bd5{c:UInt8}:∀{s:By},c∉s->Fs c s=none
 | [],_=>rfl
 | b::r,h=>by
  simp only[x9,not_or] at h;rw[Fs,if_neg (ao8 h.1),Bd5 h.2];rfl
theorem WG{c:UInt8}:∀{p:By} (r:By),c∉p->Fs c (p++c::r)=some p.length
 | [],r,_=>by rw[j9,Fs,if_pos rfl];rfl
 | b::p,r,h=>by
  simp only[x9,not_or] at h;rw[ad3,Fs,if_neg (ao8 h.1),WG r h.2];rfl
theorem Ou{c:UInt8}:∀{s:By} {k:Nat},Fs c s=some k->∃p r,s=p++c::r/\c∉p/\p.length=k
 | [],k,h=>by cases h
 | b::s,k,h=>by
  rw[Fs] at h;split at h
  ·rename_i a;obtain rfl:=j5 h;exact⟨[],s,by rw[a];rfl,by simp,rfl⟩
  ·rename_i a;cases d:Fs c s with
   | none=>rw[d] at h;cases h
   | some j=>
    rw[d] at h;obtain rfl:=j5 h;obtain⟨p,r,rfl,e,rfl⟩:=Ou d;exact⟨b::p,r,rfl,by simp only[x9,not_or];exact⟨ao8 a,e⟩,rfl⟩
theorem Rl{c:UInt8}:∀{s:By},c∉s->K6 c s=-1
 | [],_=>rfl
 | b::r,h=>by
  simp only[x9,not_or] at h;rw[K6,Rl h.2,if_pos (by decide),if_neg (ao8 h.1)]
theorem Yl{c:UInt8}:∀(p:By) {r:By},c∉r->K6 c (p++c::r)=(p.length:Int)
 | [],r,h=>by rw[j9,K6,Rl h,if_pos (by decide),if_pos rfl];rfl
 | b::p,r,h=>by
  rw[ad3,K6,Yl p h,F8,f7];omega
theorem Ym{c:UInt8}:∀{s:By},c∈s->∃p r,s=p++c::r/\c∉r
 | [],h=>by cases h
 | b::s,h=>by
  by_cases a:c∈s
  ·obtain⟨p,r,rfl,d⟩:=Ym a;exact⟨b::p,r,rfl,d⟩
  ·simp only[x9,a,or_false] at h;subst h;exact⟨[],s,rfl,a⟩
theorem GB{c:UInt8}{s:By}(h:0<=K6 c s):∃p r,s=p++c::r/\c∉r/\K6 c s=(p.length:Int):=by
 by_cases b:c∈s
 ·obtain⟨p,r,rfl,a⟩:=Ym b;exact⟨p,r,rfl,a,Yl p a⟩
 ·rw[Rl b] at h;omega
theorem Ax8(s:By):∀b∈s.take (J3 s),U8 b=false:=by
 intro b a;have h:s.take (J3 s)=s.takeWhile λb=>!U8 b:=by
  unfold J3;exact(List.prefix_iff_eq_take.1 (List.takeWhile_prefix _)).symm
 rw[h] at a;have:∀l:By,b∈l.takeWhile (λb=>!U8 b)->U8 b=false:=by
  intro l
  induction l with
  | nil=>intro h;cases h
  | cons x l d=>
   intro h;rw[List.takeWhile_cons] at h;split at h
   ·rename_i c;rcases x9.1 h with rfl|h
    ·simpa using c
    ·exact d h
   ·cases h
 exact this s a
theorem T0{b:UInt8}:O6 b=true↔(97<=b.toNat/\b.toNat<=122)\/(65<=b.toNat/\b.toNat<=90):=by simp[O6,j7]
theorem Cb6{b:UInt8}:ctl b=true↔b.toNat<=32\/b.toNat=127:=by
 unfold ctl;rw[ac2,j7,beq_iff_eq];have:b=127↔b.toNat=127:=⟨λh=>by rw[h];rfl,λh=>UInt8.toNat_inj.1 h⟩
 rw[this]
theorem Hk{b:UInt8}:N5 b=true↔(97<=b.toNat/\b.toNat<=122)\/(65<=b.toNat/\b.toNat<=90)\/(48<=b.toNat/\b.toNat<=57)\/b=43\/b=45\/b=46:=by simp only[N5,ac2,T0,g9,j7,beq_iff_eq,or_assoc]
abbrev clU(a b:By)(k:Int)(n:By)(v c d e f g h i j p:Int)(r:By):List PV:=[.s (.str a),.s (.str b),.s (.int .i64 k),.s (.str n),.s (.int .u32 v),.s (.int .u16 c),.s (.int .u16 d),.s (.int .u16 e),.s (.int .u16 f),.s (.int .u16 g),.s (.int .u16 h),.s (.int .u16 i),.s (.int .u16 j),.s (.int .i64 p),.s (.str r)]
abbrev clH(k:Int)(n:By)(v c d e f g h i j:Int):List PV:=[.s (.int .i64 k),.s (.str n),.s (.int .u32 v),.s (.int .u16 c),.s (.int .u16 d),.s (.int .u16 e),.s (.int .u16 f),.s (.int .u16 g),.s (.int .u16 h),.s (.int .u16 i),.s (.int .u16 j)]
abbrev bU(a b:By)(k:Int)(n:By)(v c d e f g h i j p:Int)(r:By):Blk:=.box (clU a b k n v c d e f g h i j p r)
abbrev gU(a b:By)(k:Int)(n:By)(v c d e f g h i j p:Int)(r:By):PV:=.agg (clU a b k n v c d e f g h i j p r)
abbrev bH(k:Int)(n:By)(v c d e f g h i j:Int):Blk:=.box (clH k n v c d e f g h i j)
abbrev bU0:Blk:=bU [] [] 0 [] 0 0 0 0 0 0 0 0 0 0 []
abbrev bQ(p:Y9 × Nat):Blk:=bU (uS p) (uU p) (uK p) (uN p) (uV p) (uA p 0) (uA p 1) (uA p 2) (uA p 3) (uA p 4) (uA p 5) (uA p 6) (uA p 7) (uP p) (uR p)
abbrev Cu9(p q:Y9 × Nat)(r:Bool):Bool:=((uK p)==(uK q))&&(((uN p)==(uN q))&&(((uV p)==(uV q))&&(((uA p 0)==(uA q 0))&&(((uA p 1)==(uA q 1))&&(((uA p 2)==(uA q 2))&&(((uA p 3)==(uA q 3))&&(((uA p 4)==(uA q 4))&&(((uA p 5)==(uA q 5))&&(((uA p 6)==(uA q 6))&&(((uA p 7)==(uA q 7))&&r))))))))))
end
end Go.Proofs.YtcfingekgbbclaaGreatDoor.E
