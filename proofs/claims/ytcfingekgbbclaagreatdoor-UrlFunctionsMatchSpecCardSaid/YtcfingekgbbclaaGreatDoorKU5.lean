/-
  Parts of the proof, merged by a program of the prover's own; no condition.
-/
import Derived.Test.YtcfingekgbbclaaGreatDoorKU4
import Derived.BigQuiet
import Derived.Deep.QuietTactic
import Derived.LaidMore
import Derived.LaidSub
import Derived.Laws.Runes
import Derived.Lay
import Derived.Lib.IndexAny
import Derived.Lib.MapLaws
import Derived.OpenShut
import Derived.ProofKit
import Derived.Shelf.Abstract
import Derived.Shelf.Vars
import Derived.Test.YtcfingekgbbclaaGreatDoorChecked
import Derived.Test.YtcfingekgbbclaaGreatDoorProg
import Derived.Test.YtcfingekgbbclaaGreatDoorRows
import Derived.WalkKit
import Derived.WideMake
open Go.Proofs.Tryz renaming prog->a8,underlying52->p9,underlying9->s7,underlying29->ab4,func44->ab7,ntmps44->ad5,checked->af9,f101->ag5,func25->ag7,f55->ah4,f58->ah5,f60->ah6,f75->ah7,ntmps25->aj1,f40->aj3,f82->aj4,func24->aj5
open List renaming length->b8,getD->b9,length_drop->c9,length_append->j0,length_cons->j1,length_singleton->j4,length_take->j6,size_toArray->o8,drop_of_length_le->p5,getElem?_append_right->p6,toArray->p7,mem_cons->s9,mem_of_mem_drop->v7,isPrefixOf->w8,getElem?_take_of_lt->x5,getElem?_cons_zero->x7,getElem?_take->x9,length_nil->y5,getElem?_toArray->y7,getElem?_append_left->z7,getD_cons_zero->aa0,getElem?_cons_succ->aa5,length_eq_zero_iff->aa6,mem_of_mem_take->ab6,getElem?_eq_some_iff->ac5,getElem?_eq_getElem->ac8,isEmpty_iff->ad0,not_mem_nil->ad1,take_of_length_le->ad3,getElem?_eq_none->ad9,getD_cons_succ->ae4,getElem?_range->ae5,takeWhile_cons->ae6,map_cons->ae9,getElem?_drop->af0,getElem?_map->af5,cons_append->ag3,drop_left'->ag8,nil_append->ag9,drop_zero->ah2,take_left->ah3,all_cons->ai1,map_map->ai7,map_nil->ai8
open Bool renaming not_true->j2,not_false->o6,eq_iff_iff->o7,false_eq_true->o9,and_eq_true->p4,or_eq_true->aa2,not_eq_true'->aa9,eq_false_iff->af3,not_eq_true->ag1,and_true->ah9,false_or->ai0
open Go.Value renaming int->j5
open Option.some renaming inj->j7,injEq->k9
open Go.Lib renaming indexByte->j8,cut->s8,decodeL->y8,indexAny->y9,tabData->aa4,VarReads->ab1,acceptData->ae1,decDigits->ae8,deBruijn64tab->af4,indexByte_ge->ag2,size_eq->ag6,firstTab->ai5,pow10Tab->ai6
open Int renaming toNat_natCast->j9,eq_ofNat_of_zero_le->x6
open Eq renaming trans->o0
open Exists renaming intro->o5
open Nat renaming le_refl->v8,ble->x3,eq_of_beq_eq_true->x4,mul_one->x8,le_of_ble_eq_true->ab5,ble_eq->ac3,zero_add->ad4,ble_eq_true_of_le->ae0,sub_self->af6,add_zero->ai9,beq->aj0
open Go.Utf8 renaming decode->w6,encode->aa7
open Array renaming length_toList->w9,getElem?_eq_none->aa8,getElem?_append_left->ac1,getElem?_eq_some_iff->ac2,getElem?_eq_getElem->ac4,size_push->ad7,size_append->af1,toList_push->af2,toList_inj->ag0
open Go.World renaming laidAll->aa1,cell?->ac7,frozen?->ac9,shape?->ad6,alloc->aj6
open Option renaming map_some->aa3,bind_some->ad2,getD_some->ag4,isSome->ai3
open Go.Instr renaming lookup->ab0,mapUpdate->ad8,findNow->ae7,checkKey->ah1
open Go.Lib.laidMet renaming reads->ab2
open Go.MapKept renaming run_getObj_map->ab3,run_findKey->ac0,run_checkKey->ae2,IsKey->ai2
open UInt8 renaming ofNat->ab8,toNat_inj->ab9
open Go.MakeChecks renaming laidMetH_plain->ac6
open Go.Result renaming andThen->ae3
open Ne renaming symm->af7
open Go.RowKit.Below renaming refl->af8
open Go.DataW renaming trod->ah0
open Prod.mk renaming injEq->ai4
namespace Go.Proofs.YtcfingekgbbclaaGreatDoor.E
set_option linter.all false
section
open Go Go.Proofs
theorem ZL{R:Type}{k0 k1:Unit->Option R}:∀l:List By,(∀x∈l,x.length<=1000000000)->IC LF l k0 k1=if l.all K5 then k0 () else k1 ()
 | [],_=>rfl
 | x::r,h=>by
  rw[ZK];unfold DM;rw[E0 (h x (by simp)),cond_true,ai1];have b:=ZL (k0:=k0) (k1:=k1) r (λy a=>h y (by simp[a]));grind
theorem C97(s:By)(a:A3 s.length=true):∃r H,hvn LF s (λ_=>rv (.s (.bool false)) [.box [.s (.bool false)]]) (λd b=>rv (.s (.bool d)) [.box [.s (.bool b)],.box [.bad],.box [.bad],.box [.bad]])=rv r H/\r.stab [] H = .s (.bool (Ee s)):=by
 have h:=L6 a;unfold hvn TU Ee;by_cases e:253<s.length
 ·rw[A8,show x3 s.length 253=false by rw[af3,ne_eq,ac3];omega];exact⟨_,_,rfl,rfl⟩
 ·rw[A6,cond_false,a,cond_true,show x3 s.length 253=true by rw[ac3];omega];cases f:G0 s with
  | true=>exact⟨_,_,rfl,rfl⟩
  | false=>
   rw[cond_false,show((1:Nat)==1&&(0:Int)==(0:Int))=true from rfl,show([46]:By).getD 0 0=46 from rfl,ah9,cond_true,ZL _ (λx c=>by have:=(Df c).2;omega)];cases g:(pcs 46 s).all K5 with
   | true=>exact⟨_,_,rfl,rfl⟩
   | false=>exact⟨_,_,rfl,rfl⟩
theorem Di1(a c d f g h i j:Nat):(n8 (a:Int) c d f g h i j==z8)=(((a:Int)==0)&&(((c:Int)==0)&&(((d:Int)==0)&&(((f:Int)==0)&&(((g:Int)==0)&&(((h:Int)==0)&&(((i:Int)==0)&&(((j:Int)==0)&&true)))))))):=by
 have e:n8 (a:Int) c d f g h i j=[a,c,d,f,g,h,i,j]:=rfl;have q:∀b:Nat,((b:Int)==0)=(b==0):=λb=>by grind
 rw[e];simp only[q,z8];rfl
theorem Bf4(a:Int)(b:By)(v4 l m n o p q t u:Int)(D:A3 b.length=true)(F:ltN v4 4294967296=true)(G:ok8 l m n o p q t u=true) :
  ∃r H,Ng LF a b v4 l m n o p q t u (λV M W N O P Q R n8 S y z x=>rv (.s (.bool V)) [.box (Qt M W N O P Q R n8 S y z),.arr false 25 1 x])=rv r H/\
   r.stab [] H = .s (.bool (T8 (mkH a b v4 (n8 l m n o p q t u)))):=by
 obtain⟨c,d,e,f,g,i,j,k,rfl,rfl,rfl,rfl,rfl,rfl,rfl,rfl,X⟩:=Qc G;obtain⟨v0,v1⟩:=D9.1 F;obtain⟨v,rfl⟩:=x6 v0;have U:((v:Int)==0)=(v==0):=by
  rw[o7,beq_iff_eq,beq_iff_eq];omega
 have T:(b==([]:By))=b.isEmpty:=by cases b<;>rfl
 have J:(mkH a b (v:Int) (n8 (c:Int) d e f g i j k)).kind=if ltN a 4 then a.toNat else 0:=rfl
 have K:(mkH a b (v:Int) (n8 (c:Int) d e f g i j k)).name=b:=rfl;have L:(mkH a b (v:Int) (n8 (c:Int) d e f g i j k)).v4=v:=j9 v;have I:(mkH a b (v:Int) (n8 (c:Int) d e f g i j k)).v6=n8 (c:Int) d e f g i j k:=rfl;unfold Ng T8;rw[J,K,L,I,Di1,U,T];by_cases A:a=1
 ·subst A;rw[show((1:Int)==1)=true from rfl,cond_true,D,cond_true,if_pos (by decide)];cases Ee b with
  | false=>exact⟨_,_,rfl,rfl⟩
  | true=>
   cases (v==0) with
   | false=>exact⟨_,_,rfl,rfl⟩
   | true=>exact⟨_,_,rfl,rfl⟩
 ·rw[show(a==(1:Int))=false by simpa using A,cond_false];by_cases B:a=2
  ·subst B;rw[show((2:Int)==2)=true from rfl,cond_true,if_neg (by decide),if_pos (by decide)];cases b.isEmpty with
   | false=>exact⟨_,_,rfl,rfl⟩
   | true=>exact⟨_,_,rfl,rfl⟩
  ·rw[show(a==(2:Int))=false by simpa using B,cond_false];by_cases C:a=3
   ·subst C;rw[show((3:Int)==3)=true from rfl,cond_true,if_neg (by decide),if_neg (by decide),if_pos (by decide)];cases b.isEmpty with
    | false=>exact⟨_,_,rfl,rfl⟩
    | true=>exact⟨_,_,rfl,rfl⟩
   ·rw[show(a==(3:Int))=false by simpa using C,cond_false];have w:(if ltN a 4 then a.toNat else 0)=0:=by
     split
     ·rename_i h;have:=D9.1 h;omega
     ·rfl
    rw[w];exact⟨_,_,rfl,rfl⟩
theorem C73{a b c d e f g i:Int}(h:ok8 a b c d e f g i=true):(n8 a b c d e f g i).length=8/\∀x∈n8 a b c d e f g i,x<65536:=by obtain⟨k,l,m,n,o,p,q,r,rfl,rfl,rfl,rfl,rfl,rfl,rfl,rfl,t⟩:=Qc h;refine⟨rfl,λx j=>?_⟩;simp only[n8,j9,s9,ad1,or_false] at j;omega
theorem Bf3(a:Int)(j:By)(v4 b c d e f g h i:Int)(q:A3 j.length=true)(t:ltN v4 4294967296=true)(n:ok8 b c d e f g h i=true) :
  ∃r H,Cr7 LF a j v4 b c d e f g h i (λI k J y z A B C n8 D l m=>rv (.s (.str I)) [.box (Qt k J y z A B C n8 D l m)])=rv r H/\
   r.stab [] H = .s (.str (Iv (mkH a j v4 (n8 b c d e f g h i)))):=by
 obtain⟨F,G⟩:=C73 n;have v:=Cj7 _ F G;unfold Cr7 Iv;rw[q,t,n];simp only[cond_true,vl];have u:(mkH a j v4 (n8 b c d e f g h i)).kind=if ltN a 4 then a.toNat else 0:=rfl
 cases w:T8 (mkH a j v4 (n8 b c d e f g h i)) with
 | false=>exact⟨_,_,rfl,rfl⟩
 | true=>
  rw[if_pos rfl,j2,cond_false,u];by_cases o:a=1
  ·subst o;rw[if_pos (by decide)];exact⟨_,_,rfl,rfl⟩
  ·rw[show(a==(1:Int))=false by simpa using o,cond_false];have k:¬(if ltN a 4 then a.toNat else 0)=1:=by grind
   rw[if_neg k];by_cases p:a=2
   ·subst p;rw[if_pos (by decide)];exact⟨_,_,rfl,rfl⟩
   ·rw[show(a==(2:Int))=false by simpa using p,cond_false];have x:¬(if ltN a 4 then a.toNat else 0)=2:=by grind
    rw[if_neg x,G2 (by omega),cond_true,G2 (by rw[j0,j4];omega),cond_true];exact⟨_,_,rfl,rfl⟩
theorem Av0{R:Type}{a:By->By->Int->Option R}(t p:By)(n:Int):B89 LF t p n a=a t p n:=rfl
theorem Bw8{R:Type}{a:By->By->Option R}(t p:By):Db4 LF t p a=a t p:=rfl
theorem A74{Z R:Type}(g:Yh Z)(c:UInt8):∀(m:Nat) (t:By) (n:Nat) (s i:Z),t.length<=m->t.length<=1000000000->m<n->Cz g ((pcs c t).map λx=>([.s (.str x)]:List PV)) s=some i->
  ∃o , (∃v:Z,∃b:Bool,g [.s (.str o)] v=some (b,i)/\∀(a d:By->By->Int->Z->Option R),S6 g LF n [c] t 0 s a d=a [c] o 0 v)\/(∀(a d:By->By->Int->Z->Option R),S6 g LF n [c] t 0 s a d=d [c] o 0 i):=by
 intro m
 induction m with
 | zero=>
  intro t n s i y l D h;obtain rfl:=aa6.1 (Nat.le_zero.1 y);obtain⟨n,rfl⟩:∃m,n=m+1:=⟨n-1,by omega⟩
  rw[Oq (by simp)] at h;simp only[ae9,ai8,Cz] at h;refine⟨[],.inl ⟨s,?_⟩⟩;have e:∀(a d:By->By->Int->Z->Option R),S6 g LF (n+1) [c] [] 0 s a d=a [c] [] 0 s:=λa d=>by
   rw[S6];rw[Sx (by simp)];rfl
  cases k:g [.s (.str [])] s with
  | none=>rw[k] at h;cases h
  | some q=>
   obtain⟨b,j⟩:=q;rw[k] at h;have:j=i:=by cases b<;>simpa using h
   subst this;exact⟨b,rfl,e⟩
 | succ m F=>
  intro t n s i y l D h;obtain⟨n,rfl⟩:∃m,n=m+1:=⟨n-1,by omega⟩
  rcases S9 c t with u|⟨p,r,rfl,u⟩
  ·rw[Oq u] at h;simp only[ae9,ai8,Cz] at h;refine⟨t,.inl ⟨s,?_⟩⟩;have e:∀(a d:By->By->Int->Z->Option R),S6 g LF (n+1) [c] t 0 s a d=a [c] t 0 s:=λa d=>by
    rw[S6];rw[Sx u,E0 l];rfl
   cases k:g [.s (.str t)] s with
   | none=>rw[k] at h;cases h
   | some q=>
    obtain⟨b,j⟩:=q;rw[k] at h;have:j=i:=by cases b<;>simpa using h
    subst this;exact⟨b,rfl,e⟩
  ·rw[UU u] at h;simp only[ae9,Cz] at h;have w:(p++c::r).length=p.length+r.length+1:=by rw[j0,j1];omega
   have z:A1 ((p.length:Int)+0)=((p.length:Nat):Int):=by rw[A7];omega
   have A:A1 ((p.length:Int)+(([c]:By).length:Int))=((p.length+1:Nat):Int):=by
    rw[C6 (by simp;omega) (by simp;omega)];simp
   have B:cut (p++c::r) 0 (p.length:Int)=p:=by rw[J8,j9,ah3]
   have C:cut (p++c::r) ((p.length+1:Nat):Int) ((p++c::r).length:Int)=r:=by
    rw[P8,j9,show p++c::r=(p++[c])++r by simp,ag8 (by simp)]
   have top:∀(a d:By->By->Int->Z->Option R),S6 g LF (n+1) [c] (p++c::r) 0 s a d=ydK (g [.s (.str p)] s) λb j=>cond (not b) (d [c] (p++c::r) 0 j) (S6 g LF n [c] r 0 j a d):=λa d=>by
    rw[S6];rw[Zv u,E0 l,cond_true,A6,cond_false];simp only[vl,z,A,B,C];rw[H9,cond_true,H9];rfl
   cases k:g [.s (.str p)] s with
   | none=>rw[k] at h;cases h
   | some q=>
    obtain⟨b,j⟩:=q;rw[k] at h top;cases b with
    | false=>
     have:j=i:=by simpa using h
     subst this;exact⟨p++c::r,.inr λa d=>by rw[top];rfl⟩
    | true=>
     simp only at h;obtain⟨o,⟨v,b,e,f⟩|f⟩:=F r n j i (by omega) (by omega) (by omega) h
     ·exact⟨o,.inl ⟨v,b,e,λa d=>by rw[top];exact f a d⟩⟩
     ·exact⟨o,.inr λa d=>by rw[top];exact f a d⟩
theorem A75{Z R:Type}(i:Yh Z)(p t:By)(n:Int)(s g:Z)(h:(A3 t.length&&(p.length==1&&n==0))=true)(m:Cz i ((pcs (p.getD 0 0) t).map λx=>([.s (.str x)]:List PV)) s=some g) :
  ∃d,∀(a:By->By->Int->Z->Option R),Ah7 i LF p t n s a=a p d n g:=by
 have l:=C2;simp only[p4,beq_iff_eq] at h;obtain⟨j,k,rfl⟩:=h;obtain⟨c,rfl⟩:=List.length_eq_one_iff.1 k;have o:=L6 j;obtain⟨d,⟨q,b,e,f⟩|f⟩:=A74 (R:=R) i c t.length t LF s g (v8 _) o (by omega) m
 ·refine⟨d,λa=>?_⟩;unfold Ah7;rw[show(((([c]:By).length:Nat):Int)==0)=false from rfl,cond_false];refine o0 (f _ _) ?_;rw[e];rfl
 ·refine⟨d,λa=>?_⟩;unfold Ah7;rw[show(((([c]:By).length:Nat):Int)==0)=false from rfl,cond_false];exact f _ _
end
section
open Go Go.ChangeAt Go.ChangeShapes Go.Proofs Go.RowKit Go.WideShapes
set_option maxRecDepth 100000
theorem own:ownKnob a8.godebug=none:=by kernel_rfl
theorem Cs4:laidOutB a8=true:=by kernel_rfl
noncomputable def gTy(g:Nat):Nat:=match a8.globals[g]? with|some x=>x.type|none=>0
noncomputable def dbT:Nat:=gTy 5
noncomputable def Cv4:Nat:=gTy 1
noncomputable def RU:Nat:=gTy 3
noncomputable def Cq2:Nat:=gTy 2
noncomputable def RT:Nat:=match a8.underlying RU with|some (.array _ e)=>e|_=>0
noncomputable def Yt:Array Field:=match a8.underlying RT with|some (.struct a)=>a|_=>#[]
noncomputable def LZ:Field:=match Yt.toList with|a::_=>a|_=>default
noncomputable def MA:Field:=match Yt.toList with|_::a::_=>a|_=>default
theorem C80:Yt[0]? = some LZ:=by unfold LZ Yt RT RU gTy;kernel_rfl
theorem C81:Yt[1]? = some MA:=by unfold MA Yt RT RU gTy;kernel_rfl
def Ef:List (String × DataW Unit):=[("math/bits.deBruijn32tab", Rows.laid_math_bits_deBruijn32tab), ("math/bits.deBruijn64tab", Rows.laid_math_bits_deBruijn64tab), ("internal/strconv.uint64pow10", Rows.laid_internal_strconv_uint64pow10), ("unicode/utf8.acceptRanges", Rows.laid_unicode_utf8_acceptRanges), ("unicode/utf8.first", Rows.laid_unicode_utf8_first)]
theorem OP{W:World}{n:String}{g:Nat}{a:Array Value}(b:a8.globalNamed n=some g)(h:W.var? a8 n=some a):∃e x,W.heap[g]? = some (.cells a e x):=by
 unfold World.var? at h;rw[b,ad2] at h;split at h
 ·rename_i c e x d;simp only[k9] at h;subst h;exact⟨e,x,d⟩
 ·cases h
theorem AS{W:World}{n:String}{g t e m:Nat}{k:IntKind}{f:List Int}(l:a8.globalNamed n=some g)(d:(a8.globals[g]?).map (·.type)=some t)(w:a8.underlying t=some (.array m e))(v:a8.underlying e=some (.int k))(a:a8.cellsOf e=1)(c:a8.cellsOf t=m)
  (h:ab1 a8 W n (aa4 k f)):∃e x,W.heap[g]? = some (.cells (f.map λz=>j5 k z).toArray e x):=by
 obtain⟨y,A,o,i,p,q,r,j,u⟩:=h;obtain rfl:=j7 (l.symm.trans q);obtain rfl:=j7 (d.symm.trans r);have b:=Lib.cells_of_tab w v a c u;have:o=(f.map λz=>j5 k z).toArray:=by rw[<-b]
 rw[this] at j;exact OP l j
theorem KC{H:Type}{enc:TypeId × Value->H}{P:Program}{w:World}{base:Nat}{sp:Nat->Bool}{held:Bool}{a:Nat}{t e:TypeId}{n:Nat}{b:List Value}{d:DataW H}{p:List MemPlace}(f:P.underlying t=some (.array n e))
  (h:ah0 enc P w base sp held a t b=some (d,p)):b.length=P.cellsOf t:=by
 cases a with
 | zero=>simp[ah0] at h
 | succ a=>
  simp only[ah0,f] at h;split at h
  ·rename_i c;simpa using c
  ·cases h
theorem Bl4{W:World}(C : a8.globalNamed "unicode/utf8.acceptRanges" = some 3)(h:ab1 a8 W "unicode/utf8.acceptRanges" ae1) :
  ∃e x,W.heap[3]? = some (.cells (Ft.map λz=>j5 .u8 z).toArray e x):=by
 obtain⟨M,t,v,w,p,H,a,y,A⟩:=h;obtain rfl:=j7 (C.symm.trans H);have n:(a8.globals[3]?).map (·.type)=some RU:=by unfold RU;kernel_rfl
 obtain rfl:=j7 (n.symm.trans a);have F:a8.underlying RU=some (.array 16 RT):=by unfold RU RT;kernel_rfl
 have N:=KC F A;have I:a8.cellsOf RU=32:=by unfold RU;kernel_rfl
 have b:a8.cellsOf RT=2:=by unfold RT;kernel_rfl
 have K:∃j,a8.underlying RT=some (.struct j)/\j.size=2/\∀(i:Nat) (f:Field),j[i]? = some f->a8.underlying f.type=some (.int .u8)/\f.offset=i/\a8.cellsOf f.type=1:=by
  refine⟨Yt,by unfold RT Yt;kernel_rfl,by unfold Yt;kernel_rfl,λi f m=>?_⟩;have:i<2:=by
   have:=(ac2.1 m).1;rwa [show Yt.size=2 by unfold Yt;kernel_rfl] at this
  match i,this with
  | 0,_=>
   obtain rfl:=j7 (m.symm.trans (show Yt[0]? = some LZ from C80));exact⟨by unfold LZ;kernel_rfl,by unfold LZ;kernel_rfl,by unfold LZ;kernel_rfl⟩
  | 1,_=>
   obtain rfl:=j7 (m.symm.trans (show Yt[1]? = some MA from C81));exact⟨by unfold MA;kernel_rfl,by unfold MA;kernel_rfl,by unfold MA;kernel_rfl⟩
 obtain⟨j,o,r,u⟩:=K;have l:v.toList=Ft.map λz=>j5 .u8 z:=by
  have D:(Ft.map λz=>j5 .u8 z).length=32:=by rw[List.length_map];rfl
  apply List.ext_getElem?;intro q;by_cases J:q<32
  ·obtain⟨k,d,O,c,B⟩:=Lib.array_elem F A (q / 2) (by omega);simp only[af5,ae5 (show q / 2<16 by omega),aa3,k9] at c;subst c;rw[b] at B;have L:=Lib.ints_of_struct o u (by rw[b,r]) B;have e0:=congrArg (·[q % 2]?) L;simp only[x9,af0] at e0;rw[R9,show q / 2*2+q % 2=q by omega] at e0;rw[e0];unfold Ft;have G:∀g:Nat->Value,(List.map g (List.range 32))[q]? = some (g q):=λg=>by
    rw[af5,ae5 J];rfl
   rw[ai7,G];rcases Nat.mod_two_eq_zero_or_one q with a|a
   ·simp[a]
   ·simp[a]
  ·rw[ad9 (by omega),ad9 (by omega)]
 have:v=(Ft.map λz=>j5 .u8 z).toArray:=by rw[<-l]
 rw[this] at y;exact OP C y
theorem As8{C:Cfg}(r:C.G=GX){W:World}(b:laidMet a8 Ef W)(p:W.ShapedOpen a8):GOK C (· < W.heap.size) W:=by
 have lt:∀{g:Nat} {o:Obj},W.heap[g]? = some o->g<W.heap.size:=λh=>(ac2.1 h).1
 have I:ab1 a8 W "math/bits.deBruijn64tab" (aa4 .u8 (af4.map λn:Nat=>(n:Int))):=ab2 b (by rw [show (aa4 .u8 (af4.map λn:Nat=>(n:Int)):DataW Unit)=Rows.laid_math_bits_deBruijn64tab by kernel_rfl];simp [Ef])
 have J:ab1 a8 W "internal/strconv.uint64pow10" (aa4 .u64 ai6):=ab2 b (by rw [show (aa4 .u64 ai6:DataW Unit)=Rows.laid_internal_strconv_uint64pow10 by kernel_rfl];simp [Ef])
 have K:ab1 a8 W "unicode/utf8.acceptRanges" ae1:=ab2 b (by rw [show ae1=Rows.laid_unicode_utf8_acceptRanges by kernel_rfl];simp [Ef])
 have L:ab1 a8 W "unicode/utf8.first" (aa4 .u8 ai5):=ab2 b (by rw [show (aa4 .u8 ai5:DataW Unit)=Rows.laid_unicode_utf8_first by kernel_rfl];simp [Ef])
 have y:=AS (g:=5) (t:=dbT) (e:=5) (m:=64) (by kernel_rfl) (by unfold dbT;kernel_rfl) (by unfold dbT;kernel_rfl) (by kernel_rfl) (by kernel_rfl) (by unfold dbT;kernel_rfl) I;have A:=AS (g:=1) (t:=Cv4) (e:=112) (m:=20) (by kernel_rfl) (by unfold Cv4;kernel_rfl) (by unfold Cv4;kernel_rfl) (by kernel_rfl) (by kernel_rfl) (by unfold Cv4;kernel_rfl) J;have B:=Bl4 (by kernel_rfl) K;have D:=AS (g:=2) (t:=Cq2) (e:=5) (m:=256) (by kernel_rfl) (by unfold Cq2;kernel_rfl) (by unfold Cq2;kernel_rfl) (by kernel_rfl) (by kernel_rfl) (by unfold Cq2;kernel_rfl) L;have F:=cell_of_shapedOpen_int (k:=.i64) (g:=0) (t:=3) (zero:=#[.int .i64 0]) p (of_decide_eq_true (by kernel_rfl)) (by kernel_rfl) rfl (by kernel_rfl) (by kernel_rfl) (by kernel_rfl);refine⟨λg k w h=>?_,λg h=>?_⟩
 ·rw[r] at h;simp only[GX] at h;have key:∀{q:Nat} {v:IntKind} {a:List Int},(∃e x,W.heap[q]? = some (.cells (a.map λz=>j5 v z).toArray e x))->g=q->(v,a)=(k,w)->g<W.heap.size/\∃e x,W.heap[g]? = some (.cells (w.map λz=>j5 k z).toArray e x):=λc G H=>by
   subst G;cases H;obtain⟨e,x,c⟩:=c;exact⟨lt c,e,x,c⟩
  cases d:aj0 g 2 with
  | true=>rw[d,cond_true] at h;exact key D (x4 d) (j7 h)
  | false=>
   rw[d,cond_false] at h;cases f:aj0 g 3 with
   | true=>rw[f,cond_true] at h;exact key B (x4 f) (j7 h)
   | false=>
    rw[f,cond_false] at h;cases i:aj0 g 1 with
    | true=>rw[i,cond_true] at h;exact key A (x4 i) (j7 h)
    | false=>
     rw[i,cond_false] at h;cases j:aj0 g 5 with
     | true=>rw[j,cond_true] at h;exact key y (x4 j) (j7 h)
     | false=>rw[j,cond_false] at h;cases h
 ·rw[r] at h;have e:=x4 h;subst e;obtain⟨m,u⟩:=F;refine⟨?_,m,u⟩;apply Classical.byContradiction;intro l;simp[ac7,aa8 (Nat.le_of_not_lt l)] at u
theorem Zz(os:Os)(args:Array Value):((aa1 a8 os Ef).forCall (λ_ _=>0) ⟨#[],args,[]⟩).Shaped a8:=
 World.shaped_of_ZipB (by kernel_rfl) (by kernel_rfl)
theorem KW(os:Os)(args:Array Value):laidMetH a8 Ef ((aa1 a8 os Ef).forCall (λ_ _=>0) ⟨#[],args,[]⟩).memory:=by rw[ac6 _ _ _ (by kernel_rfl)];exact laidMet_laidAll _ (by kernel_rfl) (by kernel_rfl)
theorem At9{H:Type}{enc:TypeId × Value->H}{os:Os}(j:os.Started){C:Cfg}(u:C.P=a8)(r:C.G=GX)(Z:XOK C)(W:Nj C){f tb:Nat}{fn:Func}{c:Code}{s:ChangeSpec}{g:List PathCond}{apart fresh handsOn again:Bool}(l:a8.inits.idxOf? f=none)(x:a8.funcs[f]? = some fn)(hb:fn.body=some c)(n:(fn.name == "runtime.NumGoroutine")=false)
  (F:∀t∈fn.params.toList,(a8.readableRec t=true/\t<a8.types.size)/\(Nc a8 20 t).isSome=true) (z:fn.resultTypes = #[tb]) (m:a8.underlying tb=some .bool) (q:s.vars=[])
  (p:∀ds:List (DataW H),ds.length=fn.params.toList.length->s.fn H ds = { results:=[.lit (.bool true)],args:=ds })
  (a:Array Value) (h:Nat) (o:Input.okWideB a8 ((aa1 a8 os Ef).forCall (λ_ _=>0) ⟨#[],a,[]⟩) f ⟨#[],a,[]⟩=true)
  (Sw:s.preB enc a8 fn g apart ((aa1 a8 os Ef).forCall (λ_ _=>0) ⟨#[],a,[]⟩).memory a h=true)
  (J:s.sizedB enc a8 fn apart ((aa1 a8 os Ef).forCall (λ_ _=>0) ⟨#[],a,[]⟩).memory a h=true)
  (D:∀args,Kn a8 fn.params.toList args->∃d T,evC C d Unit noY f args [] ()=some (.s (.bool true),T,())) :
  ReturnsInHanded {} af9 os f .any (λw args=>(s.pre enc a8 fn g apart w args/\laidMetH a8 Ef w)/\sizedMet enc a8 fn (OpenSpec.ofChange s) apart w args) (s.post enc a8 fn apart fresh handsOn again):=by
 obtain⟨P,G,X,R,a0,lf,Q,M,xp,L,N,Y,S,nt,a1⟩:=C;simp only at u r;subst u;refine returnsInHanded_of_calls (C:=af9) own j l
  (ChangeSpec.witness_shaped (enc:=enc) (C:=af9) (os:=os) (X:=λw _=>laidMetH a8 Ef w) false (aa1 a8 os Ef) a h (World.laidAll_os _ _ _) (Zz os a) o Sw J (KW os a)) ?_
 intro w b i _ I _ o Sw A;obtain⟨_,_,_,B,y,_,_,_,_,Ng⟩:=o;have e:B=fn:=j7 (y.symm.trans x);subst e;obtain⟨⟨⟨ds,U,k,hw,hc⟩,O⟩,hz⟩:=Sw;have K:=DataW.Whole.of_heap (w':=w.forCall b i) (by rfl) hw;have V:laidMet a8 Ef (w.forCall b i):=by
  rw[ac6 _ _ _ (by kernel_rfl)] at O;exact laidMet.of_heap (w':=w.forCall b i) (by rfl) O
 refine(B55 (apart:=apart) (fresh:=fresh) (handsOn:=handsOn) (again:=again) Z W follows Cs4 x hb n F z m q p D (w.forCall b i) (As8 r V I) w.heap.size i.args ds U k Ng K).mono λe W' ⟨v,he,F⟩=>?_
 subst he;exact ChangeSpec.post_blind F
end
section
open Go Go.Proofs
set_option maxRecDepth 100000
section
theorem OQ:B0 a8 GX 165 Ji:=λargs ret a h=>by
 have:L2 (Ji args)=none:=by unfold Ji EE;split<;>rfl
 rw[this] at h;cases h
theorem Ba3:B0 a8 GX 79 PP:=xf [] (Ao7 LF) PQ rfl trivial rfl (by kernel_rfl) follows λargs=>by
 unfold PQ;split
 ·rename_i s p;exact λa=>⟨rfl,rfl,rfl,_,_,(Ct2 LF noY () 0 s p).trans (Bp6 s p a),rfl⟩
 ·trivial
theorem WY:B0 a8 GX 59 EJ:=xf [] (Ao5 LF) PI rfl ⟨Ba3,trivial⟩ rfl (by kernel_rfl) follows λargs=>by
 unfold PI;split
 ·rename_i s p;exact λa=>⟨rfl,rfl,rfl,_,_,(Cr9 LF noY () 0 s p).trans (Bn8 s p a),rfl⟩
 ·trivial
theorem De0:B0 a8 GX 93 B14:=xf [] (Ao8 LF) PT rfl trivial rfl (by kernel_rfl) follows λargs=>by
 unfold PT;split
 ·rename_i s p;exact λa=>⟨rfl,rfl,rfl,_,_,(Ct4 LF noY () 0 s p).trans (Bp7 s p a),rfl⟩
 ·trivial
theorem C34:B0 a8 GX 137 Bb5:=xf [] (SQ LF) ET rfl ⟨De0,trivial⟩ rfl (by kernel_rfl) follows λargs=>by
 unfold ET;split
 ·rename_i s p;exact λa=>⟨rfl,rfl,rfl,_,_,(B92 LF noY () 0 s p).trans (Av2 s p a),rfl⟩
 ·trivial
theorem C53:B0 a8 GX 107 Bd2:=xf [] (TF LF) FY rfl ⟨C34,trivial⟩ rfl (by kernel_rfl) follows λargs=>by
 unfold FY;split
 ·rename_i s p;exact λa=>⟨rfl,rfl,rfl,_,_,(Ci0 LF noY () 0 s p).trans (A80 s p a),rfl⟩
 ·trivial
theorem C30:B0 a8 GX 74 Bb2:=xf [0,0] (SN LF) EP rfl ⟨Ba3,trivial⟩ rfl (by kernel_rfl) follows λargs=>by
 unfold EP;split
 ·rename_i s p;exact λa=>⟨rfl,rfl,rfl,_,_,(B87 LF noY () 0 s p).trans (Au1 s p a),rfl⟩
 ·trivial
theorem Ck4:B0 a8 GX 57 Ak5:=xf [0,0] (Ao1 LF) OW rfl ⟨C30,trivial⟩ rfl (by kernel_rfl) follows λargs=>by
 unfold OW;split
 ·rename_i s p;exact λa=>⟨rfl,rfl,rfl,_,_,(Cp0 LF noY () 0 s p).trans (Bl8 s p a),rfl⟩
 ·trivial
theorem Ck5:B0 a8 GX 138 XJ:=xf [1] (Dk LF) Xw rfl ⟨OQ,Cm0,Ba4,trivial⟩ rfl (by kernel_rfl) follows λargs=>by
 unfold Xw;split
 ·rename_i s p v n;exact λa=>λb=>λc=>λd=>(let⟨r,H,e,q⟩:=ZH s p v n a b c d;⟨rfl,rfl,rfl,r,H,(NA LF noY () 0 s p v n).trans e,q⟩)
 ·trivial
theorem KO:B0 a8 GX 109 Uh:=xf [1] (GZ LF) Yn rfl ⟨Ck5,trivial⟩ rfl (by kernel_rfl) follows λargs=>by
 unfold Yn;split
 ·rename_i s p;exact λa=>λb=>⟨rfl,rfl,rfl,_,_,(Bw9 LF noY () 0 s p).trans (Ai0 s p a b),rfl⟩
 ·trivial
theorem Cl2:B0 a8 GX 56 Al0:=xf [] (Sf LF) PO rfl trivial rfl (by kernel_rfl) follows λargs=>by
 unfold PO;split
 ·rename_i s;exact λa=>⟨rfl,rfl,rfl,_,_,(Ct0 LF noY () 0 s).trans (Bp4 s a),rfl⟩
 ·trivial
theorem Ck6:B0 a8 GX 122 Ak7:=xf [] (Ao3 LF) PG rfl ⟨WY,trivial⟩ rfl (by kernel_rfl) follows λargs=>by
 unfold PG;split
 ·rename_i s;exact λa=>⟨rfl,rfl,rfl,_,_,(Cr6 LF noY () 0 s).trans (Bn5 s a),rfl⟩
 ·trivial
theorem Ba1:B0 a8 GX 124 OX:=xf [0,0] (V0 LF) OY rfl trivial rfl (by kernel_rfl) follows λargs=>by
 unfold OY;split
 ·rename_i s base;exact λa=>λb=>⟨rfl,rfl,rfl,_,_,(Cp8 LF noY () 0 s base).trans (Bm3 s base a b),rfl⟩
 ·trivial
theorem C76:B0 a8 GX 123 B15:=xf [0,0] (B51 LF) Al1 rfl ⟨Ck6,Ba1,trivial⟩ rfl (by kernel_rfl) follows λargs=>by
 unfold Al1;split
 ·rename_i s;exact λa=>⟨rfl,rfl,rfl,_,_,(Da2 LF noY () 0 s).trans (Ca1 s a),rfl⟩
 ·trivial
theorem Bk5:B0 a8 GX 121 PY:=xf [1] (ST LF) EU rfl ⟨KO,trivial⟩ rfl (by kernel_rfl) follows λargs=>by
 unfold EU;split
 ·rename_i s;exact λa=>⟨rfl,rfl,rfl,_,_,(Ca7 LF noY () 0 s).trans (Aw5 s a),rfl⟩
 ·trivial
theorem OS:B0 a8 GX 90 Pk:=xf [] (Zc LF) Rm rfl ⟨Bk5,Ck6,C76,Ba1,trivial⟩ rfl (by kernel_rfl) follows λargs=>by
 unfold Rm;split
 ·rename_i s;exact λa=>⟨rfl,rfl,rfl,_,_,(Aw0 LF noY () 0 s).trans (UO s a),rfl⟩
 ·trivial
theorem De3:B0 a8 GX 108 B17:=xf [0,0] (Si LF) QC rfl ⟨Bk5,C76,trivial⟩ rfl (by kernel_rfl) follows λargs=>by
 unfold QC;split
 ·rename_i s;exact λa=>⟨rfl,rfl,rfl,_,_,(Cv2 LF noY () 0 s).trans (Br4 s a),rfl⟩
 ·trivial
theorem Dj6:B0 a8 GX 180 C61:=xf [0,0] (HC LF) Am6 rfl ⟨KO,Ba1,Ck9,trivial⟩ rfl (by kernel_rfl) follows λargs=>by
 unfold Am6;split
 ·rename_i s;exact λa=>⟨rfl,rfl,rfl,_,_,(Dc1 LF noY () 0 s).trans (Cj6 s a),rfl⟩
 ·trivial
theorem Dj5:B0 a8 GX 67 C60:=xf [] (HB LF) Am5 rfl ⟨Ck9,trivial⟩ rfl (by kernel_rfl) follows λargs=>by
 unfold Am5;split
 ·rename_i v;exact λa=>⟨rfl,rfl,rfl,_,_,(Dc0 LF noY () 0 v).trans (Cj4 v a),rfl⟩
 ·trivial
theorem Bz8:B0 a8 GX 117 LT:=xf [] (Ch LF) Rn rfl trivial rfl (by kernel_rfl) follows λargs=>by
 unfold Rn;split
 ·rename_i s;exact λa=>⟨rfl,rfl,rfl,_,_,(Az1 LF noY () 0 s).trans (VB s a),rfl⟩
 ·trivial
theorem Cl7:B0 a8 GX 17 Al7:=xf [] (Sl LF) QL rfl trivial rfl (by kernel_rfl) follows λargs=>by
 unfold QL;split
 ·rename_i s;exact λa=>⟨rfl,rfl,rfl,_,_,(Cx3 LF noY () 0 s).trans (Bt7 s a),rfl⟩
 ·trivial
theorem Ph:B0 a8 GX 88 Jj:=xf [1] (Fx LF) Yi rfl trivial rfl (by kernel_rfl) follows λargs=>by
 unfold Yi;split
 ·rename_i s c;exact λa=>λb=>(let⟨r,H,e,q⟩:=Ad5 s c a b;⟨rfl,rfl,rfl,r,H,(Bu7 LF noY () 0 s c).trans e,q⟩)
 ·trivial
theorem De6:B0 a8 GX 147 B19:=xf [] (Ip LF) QH rfl trivial rfl (by kernel_rfl) follows λargs=>by
 unfold QH;split
 ·rename_i b;exact λa=>⟨rfl,rfl,rfl,_,_,(Cw2 LF noY () 0 b).trans (Bs5 b a),rfl⟩
 ·trivial
theorem Cl8:B0 a8 GX 118 Al8:=xf [0,0] (O2 LF) QN rfl ⟨De6,trivial⟩ rfl (by kernel_rfl) follows λargs=>by
 unfold QN;split
 ·rename_i s;exact λa=>⟨rfl,rfl,rfl,_,_,(Cx5 LF noY () 0 s).trans (Bt8 s a),rfl⟩
 ·trivial
theorem Ak0:B0 a8 GX 116 FH:=xf [1] (GU LF) Yf rfl ⟨Ph,trivial⟩ rfl (by kernel_rfl) follows λargs=>by
 unfold Yf;split
 ·rename_i s;exact λa=>⟨rfl,rfl,rfl,_,_,(Bu1 LF noY () 0 s).trans (Ac5 s a),rfl⟩
 ·trivial
theorem KK:B0 a8 GX 86 Rq:=xf [] (Sm LF) No rfl ⟨Ak0,Bz8,Cl8,trivial⟩ rfl (by kernel_rfl) follows λargs=>by
 unfold No;split
 ·rename_i s;exact λa=>⟨rfl,rfl,rfl,_,_,(Ac4 LF noY () 0 s).trans (LK s a),rfl⟩
 ·trivial
theorem C43:B0 a8 GX 87 Bc4:=xf [0,0] (La LF) FJ rfl ⟨Ak0,Cl8,trivial⟩ rfl (by kernel_rfl) follows λargs=>by
 unfold FJ;split
 ·rename_i s;exact λa=>⟨rfl,rfl,rfl,_,_,(Ce1 LF noY () 0 s).trans (A39 s a),rfl⟩
 ·trivial
theorem De5:B0 a8 GX 173 B18:=xf [0,0] (Sj LF) QG rfl ⟨OR,trivial⟩ rfl (by kernel_rfl) follows λargs=>by
 unfold QG;split
 ·rename_i s;exact λa=>⟨rfl,rfl,rfl,_,_,(Cw0 LF noY () 0 s).trans (Bs4 s a),rfl⟩
 ·trivial
theorem Df2:B0 a8 GX 145 B24:=xf [0,0] (So LF) QW rfl ⟨Ph,De5,trivial⟩ rfl (by kernel_rfl) follows λargs=>by
 unfold QW;split
 ·rename_i s;exact λa=>⟨rfl,rfl,rfl,_,_,(Cy6 LF noY () 0 s).trans (Bv6 s a),rfl⟩
 ·trivial
theorem Df1:B0 a8 GX 70 B23:=xf [] (Ap2 LF) QU rfl ⟨OR,trivial⟩ rfl (by kernel_rfl) follows λargs=>by
 unfold QU;split
 ·rename_i v;exact λa=>⟨rfl,rfl,rfl,_,_,(Cy4 LF noY () 0 v).trans (Bv4 v a),rfl⟩
 ·trivial
theorem Bz7:B0 a8 GX 138 Xx:=by
 refine B0.fix (pf:=Rl) _ (Bz (C₀:=Dk LF) (L5.ok (l:=[(165,Ji),(166,Am0),(154,FT)]) rfl ⟨OQ,Cm0,Ba4,trivial⟩) (I4 rfl (by kernel_rfl)) follows ?_);intro args ret f h;unfold Rl at h;split at h
 ·rename_i s p v n;obtain⟨a,h⟩:=B9 h;obtain⟨b,h⟩:=B9 h;obtain⟨c,h⟩:=B9 h;obtain⟨d,h⟩:=B9 h;obtain⟨rfl,rfl⟩:=I7 h;have e:=(NA LF noY () 0 s p v n).trans (HZ s p v n a b c d);exact⟨rfl,1,_,[],e,rfl,rfl⟩
 ·cases h
theorem B02:B0 a8 GX 109 LX:=by
 refine B0.fix (pf:=Rt) _ (Bz (C₀:=Zf LF) (L5.ok (l:=[(138,Xx)]) rfl ⟨Bz7,trivial⟩) (I4 rfl (by kernel_rfl)) follows ?_);intro args ret c h;unfold Rt at h;split at h
 ·rename_i s p;obtain⟨a,h⟩:=B9 h;obtain⟨b,h⟩:=B9 h;obtain⟨rfl,rfl⟩:=I7 h;have e:=(A77 LF noY () 0 s p).trans (WF s p a b);exact⟨rfl,1,_,[],e,rfl,rfl⟩
 ·cases h
end
section
theorem Dd4:B0 a8 GX 179 B08:=xf [0,0] (Y9 LF) PC rfl trivial rfl (by kernel_rfl) follows λargs=>by
 unfold PC;split
 ·rename_i s;exact λa=>⟨rfl,rfl,rfl,_,_,(Cr0 LF noY () 0 s).trans (Bn1 s a),rfl⟩
 ·trivial
theorem C25:B0 a8 GX 164 Ba9:=xf [1,0] (Kv LF) EH rfl ⟨KO,Dd4,Dj6,trivial⟩ rfl (by kernel_rfl) follows λargs=>by
 unfold EH;split
 ·rename_i s last;exact λa=>(let⟨r,H,e,q⟩:=As7 s last a;⟨rfl,rfl,rfl,r,H,(B71 LF noY () 0 s last).trans e,q⟩)
 ·trivial
theorem Dj9:B0 a8 GX 135 C64:=xf [0,0] (BD LF) Am9 rfl ⟨Cm1,C25,trivial⟩ rfl (by kernel_rfl) follows λargs=>by
 unfold Am9;split
 ·rename_i s;exact λa=>(let⟨r,H,e,q⟩:=Dc9 s a;⟨rfl,rfl,rfl,r,H,(Dc8 LF noY () 0 s).trans e,q⟩)
 ·trivial
theorem C54:B0 a8 GX 95 Bd3:=xf [0,0] (X8 LF) GF rfl trivial rfl (by kernel_rfl) follows λargs=>by
 unfold GF;split
 ·rename_i a b c d e f g h;exact λi=>⟨rfl,rfl,rfl,_,_,(Cn5 LF noY () 0 a b c d e f g h).trans (Ba7 a b c d e f g h i),rfl⟩
 ·trivial
theorem Dj8:B0 a8 GX 96 C63:=xf [] (HD LF) Am8 rfl ⟨Dd3,Bk9,trivial⟩ rfl (by kernel_rfl) follows λargs=>by
 unfold Am8;split
 ·rename_i b a l;exact λc=>λd=>(let⟨r,H,e,q⟩:=Dc6 b a l c d;⟨rfl,rfl,rfl,r,H,(Dc5 LF noY () 0 b a l).trans e,q⟩)
 ·trivial
theorem Dj7:B0 a8 GX 68 C62:=xf [] (B52 LF) Am7 rfl ⟨C54,Dj8,trivial⟩ rfl (by kernel_rfl) follows λargs=>by
 unfold Am7;split
 ·rename_i a b c d f g h i;exact λj=>(let⟨r,H,e,q⟩:=Dc4 a b c d f g h i j;⟨rfl,rfl,rfl,r,H,(Dc3 LF noY () 0 a b c d f g h i).trans e,q⟩)
 ·trivial
theorem De7:B0 a8 GX 146 B20:=xf [0,0] (Z1 LF) QJ rfl trivial rfl (by kernel_rfl) follows λargs=>by
 unfold QJ;split
 ·rename_i s;exact λa=>⟨rfl,rfl,rfl,_,_,(Cw8 LF noY () 0 s).trans (Bs9 s a),rfl⟩
 ·trivial
theorem C36:B0 a8 GX 114 Bb7:=xf [1,0] (Q4 LF) EY rfl ⟨Ph,Df2,De7,trivial⟩ rfl (by kernel_rfl) follows λargs=>by
 unfold EY;split
 ·rename_i s last;exact λa=>(let⟨r,H,e,q⟩:=A11 s last a;⟨rfl,rfl,rfl,r,H,(Cc4 LF noY () 0 s last).trans e,q⟩)
 ·trivial
theorem Bz9:B0 a8 GX 113 LU:=xf [] (Ci LF) Ro rfl trivial rfl (by kernel_rfl) follows λargs=>by
 unfold Ro;split
 ·rename_i s;exact λa=>⟨rfl,rfl,rfl,_,_,(Az2 LF noY () 0 s).trans (VD s a),rfl⟩
 ·trivial
theorem Df4:B0 a8 GX 84 B26:=xf [0,0] (Z2 LF) QY rfl ⟨Bz9,C36,trivial⟩ rfl (by kernel_rfl) follows λargs=>by
 unfold QY;split
 ·rename_i s;exact λa=>(let⟨r,H,e,q⟩:=Cz1 s a;⟨rfl,rfl,rfl,r,H,(Cz0 LF noY () 0 s).trans e,q⟩)
 ·trivial
theorem C38:B0 a8 GX 98 Bb9:=xf [] (Ky LF) FC rfl trivial rfl (by kernel_rfl) follows λargs=>by
 unfold FC;split
 ·rename_i v;exact λa=>⟨rfl,rfl,rfl,_,_,(Cc7 LF noY () 0 v).trans (A14 v a),rfl⟩
 ·trivial
theorem Df3:B0 a8 GX 71 B25:=xf [] (W5 LF) QX rfl ⟨C38,trivial⟩ rfl (by kernel_rfl) follows λargs=>by
 unfold QX;split
 ·rename_i a b c d e f g h;exact λi=>⟨rfl,rfl,rfl,_,_,(Cy8 LF noY () 0 a b c d e f g h).trans (Bv7 a b c d e f g h i),rfl⟩
 ·trivial
theorem Aj8:B0 a8 GX 168 Nn:=xf [] (GS LF) Yd rfl trivial rfl (by kernel_rfl) follows λargs=>by
 unfold Yd;split
 ·rename_i n;exact⟨rfl,rfl,rfl,_,_,(Br6 LF noY () 0 n).trans (Aa7 n ),rfl⟩
 ·trivial
theorem Aj7:B0 a8 GX 170 Nm:=xf [] (W3 LF) Yc rfl trivial rfl (by kernel_rfl) follows λargs=>by
 unfold Yc;split
 ·rename_i d c f;exact λa=>λb=>λe=>⟨rfl,rfl,rfl,_,_,(Bq3 LF noY () 0 d c f).trans (Aa3 d c f a b e),rfl⟩
 ·trivial
theorem De2:B0 a8 GX 183 Al2:=xf [] (Ao9 LF) QA rfl trivial rfl (by kernel_rfl) follows λargs=>by
 unfold QA;split
 ·rename_i d;exact λa=>⟨rfl,rfl,rfl,_,_,(Cu7 LF noY () 0 d).trans (Br1 d a),rfl⟩
 ·trivial
theorem De4:B0 a8 GX 189 Al4:=xf [] (Io LF) QE rfl trivial rfl (by kernel_rfl) follows λargs=>by
 unfold QE;split
 ·rename_i b;exact λa=>⟨rfl,rfl,rfl,_,_,(Cv8 LF noY () 0 b).trans (Br9 b a),rfl⟩
 ·trivial
end
section
theorem Cl5:B0 a8 GX 182 EV:=by
 refine B0.fix (pf:=QD) _ (Bz (C₀:=Ap0 LF) (L5.ok (l:=[]) rfl trivial) (I4 rfl (by kernel_rfl)) follows ?_);intro args ret a h;unfold QD at h;split at h
 ·rename_i b;obtain⟨rfl,rfl⟩:=I7 h;have e:=(Cv5 LF noY () 0 b).trans (Br7 b );exact⟨rfl,1,_,[],e,rfl,rfl⟩
 ·cases h
theorem Bl1:BA a8 GX 188 Pl:=by
 refine Fe (C₀:=SU LF) (L5.ok (l:=[]) rfl trivial) (I4 rfl (by kernel_rfl)) follows ?_;intro args H ret f h;unfold Pl at h;split at h
 ·rename_i k b;obtain⟨a,h⟩:=B9 h;obtain⟨c,h⟩:=B9 h;obtain⟨rfl,rfl⟩:=I7 h;refine⟨rfl,rfl,λZ d s=>?_⟩;have e:=(Cb1 LF d s 0 k b).trans (Ax8 k b a c);exact⟨1,_,e,rfl⟩
 ·cases h
theorem Dg4:BA a8 GX 169 PX:=by
 refine Fe (C₀:=Zd LF) (Ua (lx:=[(182,EV),(183,Al2)]) (ly:=[(188,Pl)]) (ls:=[]) rfl rfl rfl ⟨Cl5,De2,trivial⟩ ⟨Bl1,trivial⟩ trivial) (I4 rfl (by kernel_rfl)) follows ?_;intro args H ret f h;unfold PX at h;split at h
 ·rename_i q b z l;obtain⟨a,h⟩:=B9 h;obtain⟨c,h⟩:=B9 h;obtain⟨d,h⟩:=B9 h;obtain⟨rfl,rfl⟩:=I7 h;obtain⟨g,i,e0⟩:=Bq5 q b z l a c d;exact⟨rfl,rfl,λZ e s=>⟨1,_,(Cu3 LF e s 0 q b z l).trans (e0 _ _),rfl⟩⟩
 ·cases h
theorem Cl4:B0 a8 GX 141 Al3:=by
 refine B0.fix (pf:=QB) _ (I6 [0,0] (C₀:=P5 LF) (Ua (lx:=[(168,Nn),(170,Nm)]) (ly:=[(169,PX)]) (ls:=[]) rfl rfl rfl ⟨Aj8,Aj7,trivial⟩ ⟨Dg4,trivial⟩ trivial) (I4 rfl (by kernel_rfl)) follows ?_);intro args ret f h;unfold QB at h;split at h
 ·rename_i b a p;obtain⟨c,h⟩:=B9 h;obtain⟨rfl,rfl⟩:=I7 h;obtain⟨r,H,e,d⟩:=Cu9 b a p c;exact⟨rfl,rfl,rfl,1,r,H,(Cu8 LF noY () 0 b a p).trans e,d⟩
 ·cases h
end
section
theorem Dg3:BA a8 GX 186 OZ:=by
 refine Fe (C₀:=Za LF) (Ua (lx:=[(182,EV),(189,Al4)]) (ly:=[(188,Pl)]) (ls:=[]) rfl rfl rfl ⟨Cl5,De4,trivial⟩ ⟨Bl1,trivial⟩ trivial) (I4 rfl (by kernel_rfl)) follows ?_;intro args H ret j h;unfold OZ at h;split at h
 ·rename_i a n i b c z l;obtain⟨d,h⟩:=B9 h;obtain⟨e,h⟩:=B9 h;obtain⟨f,h⟩:=B9 h;obtain⟨rfl,rfl⟩:=I7 h;obtain⟨k,e0⟩:=Bm5 a n i b c z l d e f;exact⟨rfl,rfl,λZ g s=>⟨1,_,(Cp9 LF g s 0 a n i b c z l).trans (e0 _ _),rfl⟩⟩
 ·cases h
theorem Ck8:B0 a8 GX 104 XL:=xf [] (Fv LF) Xz rfl trivial rfl (by kernel_rfl) follows λargs=>by
 unfold Xz;split
 ·rename_i s c;exact λa=>λb=>⟨rfl,rfl,rfl,_,_,(Bo3 LF noY () 0 s c).trans (ZO s c a b),rfl⟩
 ·trivial
theorem Bk4:B0 a8 GX 80 DD:=xf [] (SM LF) EO rfl ⟨Ck8,trivial⟩ rfl (by kernel_rfl) follows λargs=>by
 unfold EO;split
 ·rename_i s c;exact λa=>λb=>⟨rfl,rfl,rfl,_,_,(B86 LF noY () 0 s c).trans (At8 s c a b),rfl⟩
 ·trivial
end
end
section
open Go Go.Proofs Go.Sort
set_option maxRecDepth 100000
theorem JW{C:Cfg}{Z:Type}{I:Z->(Nat->Prop)->(Nat->Prop)->World->Prop}(J:HI I){f:Ctx}{u:Nat->Prop}{w w':World}{z v1:Bool}{E o r:Nat}{l l' m:LL}{s:Z}(g cap:Nat)(H:List Value)(i:Array Value)
  (P:Og C E=false) (j:HR f [.arr z E 1 l,.arr v1 o r m] w) (K:I s f.St u w) (M:∀b g,f.nm b=some g->¬u g)
  (d:f.nm 0=some g\/g=w.heap.size) (O:g<w'.heap.size) (e:∀k,k<w.heap.size->f.nm 0≠some k->w'.heap[k]? = w.heap[k]?) (p:w.heap.size<=w'.heap.size) (R:w'.os=w.os) (S:w'.tape=w.tape) (T:w'.output=w.output)
  (n:w'.heap[g]? = some (.cells i E (0,0))) (X:Els f.St w' 1 l' H) (D:l'≠[]) (t:∀q,q<H.length->i[q]? = H[q]?) (Y:H.length<=i.size) (B:l'.length<=cap) (hm:cap<=maxLen) (L:i.size=cap) :
  Dj C I f [.arr z E 1 l,.arr v1 o r m] w u (.fl 0) [.arr z E 1 l',.arr v1 o r m] s (.slice (some ⟨g,0,none⟩) l'.length cap) w':=by
 have x:0<[Blk.arr z E 1 l,.arr v1 o r m].length:=by simp
 have G:(f.re 0 (some g)).nm 0=some g:=by simp[Ctx.re]
 have F:¬Ld C (A5 [Blk.arr z E 1 l,.arr v1 o r m] 0):=by simp[A5,Blk.shp,Ld,P]
 have a:([Blk.arr z E 1 l,.arr v1 o r m].map (Blk.kill 0)).set 0 (.arr z E 1 l')=[.arr z E 1 l',.arr v1 o r m]:=rfl;have N:¬f.St g:=by
  rcases d with h|h
  ·exact(j.lt 0 g h).2.2
  ·intro hs;have:=j.stlt g hs;omega
 obtain⟨U,V,q3⟩:=VF (C:=C) (y:=.arr z E 1 l') (ng:=some g) (w':=w') j x F (λk a=>by
   simp only[k9] at a;subst a;refine⟨O,N,λc t A=>?_⟩;rcases d with h|h
   ·exact t (j.inj c 0 _ A h)
   ·have:=(j.lt c _ A).2.1;omega)
  (λk a=>by
   simp only[k9] at a;subst a;rcases d with h|h
   ·exact .inl h
   ·exact .inr (by omega)) e p R S T
  (BR.els G n X (by rintro⟨_,h⟩;exact D h) t Y) rfl
 rw[a] at U V;refine⟨_,u,U.lift u,V,?_,λc t=>?_,?_,λb W v=>?_⟩
 ·refine .fl 0 g z E 1 l'.length cap rfl (λ_ h=>D (aa6.1 h)) G B hm ?_;simp only[ad6,n,L,x8]
 ·simp only[PV.nms,List.mem_singleton] at t;subst t;simp
 ·refine J.mono s f.St u w f.St w' K (λ_ h=>h) (λk a Q=>(J.foot _ _ _ _ K k Q).2 a) (λk a=>Nat.lt_of_lt_of_le (j.stlt k a) p) (λk a=>?_) p R S T;rcases a with a|a
  ·exact e k (j.stlt k a) (λh=>(j.lt 0 k h).2.2 a)
  ·exact e k (J.foot _ _ _ _ K k a).1 (λh=>M 0 k h a)
 ·simp only[Ctx.re] at v;split at v
  ·simp only[k9] at v;subst v;rcases d with h|h
   ·exact M 0 _ h
   ·intro Q;have:=(J.foot _ _ _ _ K _ Q).1;omega
  ·exact M b W v
theorem Bw{w:World}{g o e:Nat}{vs:List Value}{a:Array Value}(c:w.heap[g]? = some (.cells a e (0,0)))(f:o+vs.length<=a.size)(l:∀v∈vs,v.oneCell'=true) :
  (w.setCells g o vs).heap[g]? = some (.cells (F8 a.toList o vs).toArray e (0,0))/\(∀k,k≠g->(w.setCells g o vs).heap[k]? = w.heap[k]?)/\(w.setCells g o vs).heap.size=w.heap.size/\(w.setCells g o vs).os=w.os/\(w.setCells g o vs).tape=w.tape/\(w.setCells g o vs).output=w.output:=by
 obtain⟨w',i,m,n,p,q,t,u,_⟩:=M4 (P:=a8) (o:=o) c f l;have b:∀j,j<vs.length->∃v,w.cell? ⟨g,o+0+j,none⟩=some v:=λj d=>by
  refine⟨a[o+j]'(by omega),?_⟩;simp[ac7,c,ac4 (show o+j<a.size by omega)]
 have r:=run_storeCells_cells (P:=a8) g o vs 0 w (λj d=>by obtain⟨v,h⟩:=b j d;rw[h];rfl) (λj d=>by simp[ac9,c]) l;rw[r] at i;simp only[ai9,Result.ok.injEq,true_and] at i;rw[i];exact⟨m,n,p,q,t,u⟩
theorem ID{St:Nat->Prop}{w:World}{l:LL}{d:List Value}{i:Nat}{n:Int}(h:Els St w 1 l d)(q:i<=l.length):Els St w 1 (Lh l i n) (d.take i++j5 .i64 n::d.drop i):=by
 have c:=h.1;rw[x8] at c;have m:Els St w 1 (l.take i) (d.take i):=by
  refine⟨by rw[j6,j6,c,x8],λj f=>?_⟩;rw[j6] at f;rw[List.getElem_take];obtain⟨a,b⟩:=h.2 j (by omega);refine⟨a,λk g=>?_⟩;obtain⟨U,e,v⟩:=b k g;exact⟨U,by rw[x5 (by omega)];exact e,v⟩
 have o:Els St w 1 [[SV.int .i64 n]] [j5 .i64 n]:=by
  refine⟨rfl,λj f=>?_⟩;have:j=0:=by simpa using f
  subst this;refine⟨rfl,λk g=>?_⟩;have:k=0:=by simpa using g
  subst this;exact⟨_,rfl,.int _ _⟩
 have p:Els St w 1 (l.drop i) (d.drop i):=by
  refine⟨by rw[c9,c9,c,x8],λj f=>?_⟩;rw[c9] at f;rw[List.getElem_drop];obtain⟨a,b⟩:=h.2 (i+j) (by omega);refine⟨a,λk g=>?_⟩;obtain⟨U,e,v⟩:=b k g;exact⟨U,by rw[af0];rw[show i+(j*1+k)=(i+j)*1+k by omega];exact e,v⟩
 have:=(m.append o).append p;unfold Lh;simpa using this
theorem IE(l:LL)(i:Nat)(n:Int)(h:i<=l.length):(Lh l i n).length=l.length+1:=by unfold Lh;rw[j0,j1,j6,c9];omega
theorem TZ(l:LL)(i:Nat)(n:Int):Lh l i n≠[]:=by unfold Lh;simp
theorem Dg5:BA a8 GX 187 RF:=by
 intro C hP hG Z I yh yv hI hy args H s ret Hc G Γ Φ w Vs g2 hH hg hi hd hc hn;unfold RF at G;split at G
 ·rename_i i z l d;obtain⟨h0,G⟩:=B9 G;obtain⟨h1,G⟩:=B9 G;obtain⟨rfl,rfl⟩:=I7 G;obtain⟨i0,i1⟩:=D9.1 h0;obtain⟨i,rfl⟩:=x6 i0;have hl:=ab5 h1;have X:i<=l.length:=by
   have:(i:Int)<((l.length+1:Nat):Int):=i1;omega
  obtain⟨S,X0,V,rfl,hs,hx,hv⟩:=hc.arr3;obtain rfl:=hx.inv_int;have c0:Og C 3=false:=by
   unfold Og Cfg.sh;rw[hP];kernel_rfl
  obtain⟨g1,d0,n1,n2,n3,n4,n5⟩:=hH.arr' (b:=1) rfl (by simp);have f5:∃cap,V = .slice (some ⟨g1,0,none⟩) 1 cap:=by
   cases hv with
   | flv _ e sz h=>simp[A5,Blk.shp] at h
   | fl _ g v e sz n cap h e8 y R hm e6=>
    rw[n1] at y;simp only[k9] at y;subst y;simp only[A5,aa5,x7,aa3,Blk.shp,k9,Shp.arr.injEq] at h;obtain⟨_,_,_,h4⟩:=h;subst h4;exact⟨cap,rfl⟩
  obtain⟨A,rfl⟩:=f5;obtain⟨V1,p1,p2⟩:=n5 0 (by simp) 0 (by simp);have p3:V1 = .int .i64 d:=by cases p2;rfl
  subst p3;have t:∀j v,[j5 .i64 d][j]? = some v->w.cell? ⟨g1,0+j,none⟩=some v:=by
   intro j v x;have:j=0:=by
    have:=(ac5.1 x).1;simpa using this
   subst this;simp only[x7,k9] at x;subst x;simpa[ac7,n2] using p1
  have M:∀v∈[j5 .i64 d],v.oneCell'=true:=by simp[Value.oneCell']
  rw[j9];refine Rh (fn:=Tryz.f187) (by kernel_rfl) (by kernel_rfl) (by kernel_rfl) ?_;have B:∀(base:Option Addr) (c:Nat) (f:List Value),l.length<=c->c<l.length+1->f.length=l.length->(base=none->l.length=0)->(∀a,base=some a->∀j v,f[j]? = some v->w.cell? (a.add j)=some v)->Els Γ.St w 1 l f->
    Calls a8 187 #[.slice base l.length c,.int .i64 (l.length:Int),.slice (some ⟨g1,0,none⟩) 1 A] w λe w'=>∃V,e = .returned V/\Dj C I Γ [.arr z 3 1 l,.arr false 3 1 [[SV.int .i64 d]]] w Φ (.fl 0) [.arr z 3 1 (Lh l l.length d),.arr false 3 1 [[SV.int .i64 d]]] s V w':=by
   intro base c f a1 a2 a3 a4 a5 a6;refine(Any2.slices_Insert_int_end_grow Tryz.lays2_21 base l.length c g1 0 1 A f [.int .i64 d] w (by omega) a1 a2 (by omega) a3 rfl a4 a5 t M).mono ?_;rintro e w' ⟨rfl,rfl⟩;refine⟨_,rfl,?_⟩;obtain⟨T,b7⟩:=Hs (w:=w) (need:=l.length+1) (cap:=c) (e:=3) (by omega);have hE:=ID (n:=d) a6 (v8 l.length);have d8:f.take l.length++j5 .i64 d::f.drop l.length=f++[j5 .i64 d]:=by
    rw[ad3 (by omega),p5 (by omega)]
   rw[d8] at hE;have r:=IE l l.length d (v8 _);obtain⟨r1,r2⟩:=Zp (olds:=f) (Vs:=[j5 .i64 d]) (z:=(j5 .i64 0).cells) (k:=grownCap w (l.length+1) c 3) (n:=l.length) (m:=1) (size:=1) rfl (by omega) rfl T;have c7:(f.toArray++[j5 .i64 d].toArray)=(f++[j5 .i64 d]).toArray:=by simp
   rw[c7] at r1 r2;have key:∀(row:Array Value) (O:Nat),row.size=O->(∀q,q<(f++[j5 .i64 d]).length->row[q]? = (f++[j5 .i64 d])[q]?)->l.length+1<=O->O<=maxLen->
     Dj C I Γ [.arr z 3 1 l,.arr false 3 1 [[SV.int .i64 d]]] w Φ (.fl 0) [.arr z 3 1 (Lh l l.length d),.arr false 3 1 [[SV.int .i64 d]]] s (.slice (some ⟨w.heap.size,0,none⟩) (l.length+1) O) (w.drew.alloc (.cells row 3)):=by
    intro row O b1 b2 b3 b4;have D:(w.drew.alloc (.cells row 3)).heap=w.heap.push (.cells row 3):=rfl;have:=JW (C:=C) (w':=w.drew.alloc (.cells row 3)) (l':=Lh l l.length d) hI w.heap.size O (f++[j5 .i64 d]) row c0 hH hi hd (.inr rfl) (by rw[D];simp) (λk N _=>H8 D N) (by rw[D];simp) rfl rfl rfl (H7 D) (hE.mono (λg hg=>H8 D (hH.stlt g hg)) (λ_ h=>h)) (TZ _ _ _) b2 (by rw[b1,j0,j4];omega) (by rw[r];exact b3) b4 b1;rw[r] at this;exact this
   exact key _ _ (r1.trans (x8 _)) r2 T b7
  have f9:∀(row:Array Value) (f:List Value),f.length=l.length->i<l.length->l.length+1<=row.size->(∀q,q<i->row[q]? = f[q]?)->
    ∀q,q<(f.take i++j5 .i64 d::f.drop i).length->(F8 (F8 row.toList i [j5 .i64 d]) (i+1) (f.drop i)).toArray[q]? = (f.take i++j5 .i64 d::f.drop i)[q]?:=by
   intro row f a1 a2 a3 a4 q hq;have f3:q<l.length+1:=by
    rw[j0,j1,j6,c9] at hq;omega
   have ht:(f.take i).length=i:=by rw[j6];omega
   have Y:row.toList.length=row.size:=w9;simp only[y7];rw[M3 _ _ _ (by rw[D5,c9,Y];omega),M3 _ _ _ (by rw[j4,Y];omega)];by_cases h1:q<i
   ·rw[F9,F9,z7 (by omega),x5 h1];simpa using a4 q h1
   ·by_cases h2:q=i
    ·subst h2;rw[F9,if_pos (by rw[j4];omega),p6 (by omega),ht,af6];rfl
    ·rw[if_pos (by rw[c9];omega),p6 (by omega),ht,show q-i=(q-(i+1))+1 by omega,aa5]
  have P:∀(g c:Nat) (f:List Value),i<l.length->l.length<=c->c<l.length+1->f.length=l.length->(∀j v,f[j]? = some v->w.cell? ⟨g,0+j,none⟩=some v)->(∀v∈f,v.oneCell'=true)->Els Γ.St w 1 l f->
    Calls a8 187 #[.slice (some ⟨g,0,none⟩) l.length c,.int .i64 (i:Int),.slice (some ⟨g1,0,none⟩) 1 A] w λe w'=>∃V,e = .returned V/\Dj C I Γ [.arr z 3 1 l,.arr false 3 1 [[SV.int .i64 d]]] w Φ (.fl 0) [.arr z 3 1 (Lh l i d),.arr false 3 1 [[SV.int .i64 d]]] s V w':=by
   intro g c f W a1 a2 a3 a4 a5 a6;refine(Any2.slices_Insert_int_grow Tryz.lays2_21 g 0 l.length c i g1 0 1 A f [.int .i64 d] w W (by omega) a1 a2 (by omega) a3 rfl a4 t a5 M).mono ?_;rintro e w' ⟨rfl,rfl⟩;refine⟨_,rfl,?_⟩;obtain⟨T,b7⟩:=Hs (w:=w) (need:=l.length+1) (cap:=c) (e:=3) (by omega);have hE:=ID (n:=d) a6 X;have r:=IE l i d X;have key:∀(row:Array Value) (O:Nat),row.size=O->(∀q,q<i->row[q]? = f[q]?)->l.length+1<=O->O<=maxLen->
     Dj C I Γ [.arr z 3 1 l,.arr false 3 1 [[SV.int .i64 d]]] w Φ (.fl 0) [.arr z 3 1 (Lh l i d),.arr false 3 1 [[SV.int .i64 d]]] s (.slice (some ⟨w.heap.size,0,none⟩) (l.length+1) O) (((w.alloc (.cells row 3)).drew.setCells w.heap.size i [j5 .i64 d]).drew.setCells w.heap.size (i+1) (f.drop i)):=by
    intro row O b1 b2 b3 b4;have D:(w.alloc (.cells row 3)).drew.heap=w.heap.push (.cells row 3):=rfl;obtain⟨c1,c2,c3,c4,c5,c6⟩:=Bw (w:=(w.alloc (.cells row 3)).drew) (o:=i) (vs:=[j5 .i64 d]) (H7 D) (by rw[j4];omega) M;generalize f6:(w.alloc (.cells row 3)).drew.setCells w.heap.size i [j5 .i64 d]=w1 at *;have Q:(F8 row.toList i [j5 .i64 d]).toArray.size=O:=by rw[o8,D5];simpa using b1
    obtain⟨d1,d2,d3,d4,d5,d6⟩:=Bw (w:=w1.drew) (o:=i+1) (vs:=f.drop i) c1 (by rw[Q,c9];omega) (λv hv=>a5 v (v7 hv));have b0:∀k,k<w.heap.size->(w1.drew.setCells w.heap.size (i+1) (f.drop i)).heap[k]? = w.heap[k]?:=λk N=>by
     rw[d2 k (by omega)];exact(c2 k (by omega)).trans (H8 D N)
    have e7:(w1.drew.setCells w.heap.size (i+1) (f.drop i)).heap.size=w.heap.size+1:=by
     rw[d3];show w1.heap.size=_;rw[c3,D];simp
    have:=JW (C:=C) (w':=w1.drew.setCells w.heap.size (i+1) (f.drop i)) (l':=Lh l i d) hI w.heap.size O (f.take i++j5 .i64 d::f.drop i) _ c0 hH hi hd (.inr rfl) (by rw[e7];omega) (λk N _=>b0 k N) (by rw[e7];omega) (d4.trans c4) (d5.trans c5) (d6.trans c6) d1 (hE.mono (λg hg=>b0 g (hH.stlt g hg)) (λ_ h=>h)) (TZ _ _ _) (f9 row f a3 W (by omega) b2) (by rw[o8,D5,j0,j1,j6,c9];simp only[o8,D5] at Q ⊢;omega) (by rw[r];exact b3) b4 (by rw[o8,D5];simpa using Q);rw[r] at this;exact this
   have f7:(j5 .i64 0).cells.size=1:=rfl;have ht:(f.take i).length=i:=by rw[j6];omega
   refine key _ _ ?_ (λq hq=>?_) T b7
   ·simp only[af1,o8,size_zeroCells,f7,x8,ht];have:l.length+1<=grownCap w (l.length+1) c 3:=T;show i+(l.length+1-i)+(grownCap w (l.length+1) c 3-(l.length+1))=grownCap w (l.length+1) c 3;omega
   ·rw[ac1 (by simp only[af1,o8,ht];omega),ac1 (by simp only[o8,ht];omega),y7,x5 hq]
  have e9:∀(row:Array Value) (f:List Value),f.length=l.length->i<l.length->l.length+1<=row.size->(∀q,q<i->row[q]? = f[q]?)->
    ∀q,q<(f.take i++j5 .i64 d::f.drop i).length->(F8 (F8 row.toList (i+1) (f.drop i)) i [j5 .i64 d]).toArray[q]? = (f.take i++j5 .i64 d::f.drop i)[q]?:=by
   intro row f a1 a2 a3 a4 q hq;have f3:q<l.length+1:=by
    rw[j0,j1,j6,c9] at hq;omega
   have ht:(f.take i).length=i:=by rw[j6];omega
   have Y:row.toList.length=row.size:=w9;simp only[y7];rw[M3 _ _ _ (by rw[D5,j4,Y];omega),M3 _ _ _ (by rw[c9,Y];omega)];by_cases h1:q<i
   ·rw[F9,F9,z7 (by omega),x5 h1];simpa using a4 q h1
   ·by_cases h2:q=i
    ·subst h2;rw[if_pos (by rw[j4];omega),p6 (by omega),ht,af6];rfl
    ·rw[if_neg (by rw[j4];omega),if_pos (by rw[c9];omega),p6 (by omega),ht,show q-i=(q-(i+1))+1 by omega,aa5]
  cases hs with
  | flv _ e2 f8 h'=>
   simp only[A5,x7,aa3,Blk.shp,k9,Shp.arr.injEq] at h';obtain⟨q1,q2,q3,h4⟩:=h';obtain rfl:=aa6.1 h4;obtain rfl:i=0:=by simpa using X
   exact B none 0 [] (by simp) (by simp) rfl (λ_=>rfl) (λa h=>by cases h) ⟨rfl,λj x=>by simp at x⟩
  | fl _ g z' e2 f8 n' cap h' e8 y R hm e6=>
   simp only[A5,x7,aa3,Blk.shp,k9,Shp.arr.injEq] at h';obtain⟨rfl,rfl,rfl,rfl⟩:=h';have f2:¬(z=true/\l=[]):=by rintro⟨q1,q2⟩;exact e8 q1 (by rw[q2];rfl)
   obtain⟨g',p,e3,hh,c8,K,d9⟩:=hH.arr' (b:=0) rfl f2;obtain rfl:g=g':=by
    rw[y] at e3;exact j7 e3
   have d7:p.size=cap:=by
    have:=e6;simp only[ad6,hh,k9,ai4,true_and,x8] at this;exact this
   rw[x8] at c8;have hO:Els Γ.St w 1 l (p.toList.take l.length):=by
    refine⟨by rw[j6,w9 (xs:=p)];omega,λj x=>⟨K j x,λk N=>?_⟩⟩;obtain⟨U,e1,u⟩:=d9 j x k N;refine⟨U,?_,u⟩;have g0:k<1:=by rw[<-K j x];exact N
    rw[x9,R9];simpa using e1
   have F:(p.toList.take l.length).length=l.length:=by rw[j6,w9 (xs:=p)];omega
   have J:∀j v,(p.toList.take l.length)[j]? = some v->w.cell? ⟨g,0+j,none⟩=some v:=by
    intro j v x;have a7:j<l.length:=by
     have:=(ac5.1 x).1;omega
    rw[x9,if_pos a7] at x;simpa[ac7,hh] using x
   have b5:∀v∈p.toList.take l.length,v.oneCell'=true:=by
    intro v hv;obtain⟨j,x,rfl⟩:=List.getElem_of_mem hv;have a7:j<l.length:=by omega
    obtain⟨_,u⟩:=hO.2 j a7;obtain⟨U,e1,u2⟩:=u 0 (by rw[K j a7];exact Nat.one_pos);rw[x8,ai9,ac8 x] at e1;cases e1;exact u2.oneCell
   have r:=IE l i d X;have hE:=ID (n:=d) hO X;have a0:∀j,j<cap->(w.cell? ⟨g,j,none⟩).isSome=true:=by
    intro j x;simp only[ac7,hh];rw[ac4 (by omega)];rfl
   have a9:∀j,w.frozen? ⟨g,j,none⟩=false:=λj=>by simp[ac9,hh]
   have e5:g1≠g:=λe=>by
    have:=hH.inj 1 0 g (by rw[<-e];exact n1) y;omega
   have e4:cap<=9223372036854775807:=by
    simp only[maxLen] at hm;omega
   by_cases L:l.length+1<=cap
   ·have key:∀(w':World) (row:List Value),w'.heap[g]? = some (.cells row.toArray 3 (0,0))->(∀k,k≠g->w'.heap[k]? = w.heap[k]?)->w'.heap.size=w.heap.size->w'.os=w.os->w'.tape=w.tape->w'.output=w.output->row.length=cap->
      (∀q,q<((p.toList.take l.length).take i++j5 .i64 d::(p.toList.take l.length).drop i).length->row.toArray[q]? = ((p.toList.take l.length).take i++j5 .i64 d::(p.toList.take l.length).drop i)[q]?)->
      Dj C I Γ [.arr z 3 1 l,.arr false 3 1 [[SV.int .i64 d]]] w Φ (.fl 0) [.arr z 3 1 (Lh l i d),.arr false 3 1 [[SV.int .i64 d]]] s (.slice (some ⟨g,0,none⟩) (l.length+1) cap) w':=by
     intro w' row k1 k2 k3 k4 k5 k6 k7 k8;have f0:¬ Γ.St g:=(hH.lt 0 g y).2.2;have:=JW (C:=C) (w':=w') (l':=Lh l i d) hI g cap ((p.toList.take l.length).take i++j5 .i64 d::(p.toList.take l.length).drop i) row.toArray c0 hH hi hd (.inl y) (by rw[k3];exact(hH.lt 0 g y).2.1) (λk N f1=>k2 k (λe=>f1 (e▸y))) (by omega) k4 k5 k6 k1
      (hE.mono (λk N=>k2 k (λe=>f0 (e▸N))) (λ_ h=>h)) (TZ _ _ _) k8
      (by rw[o8,k7,j0,j1,j6,c9,F];omega) (by rw[r];exact L) hm (by rw[o8,k7])
     rw[r] at this;exact this
    by_cases b6:i=l.length
    ·subst b6;refine(Any2.slices_Insert_int_end_room Tryz.lays2_21 g 0 l.length cap g1 0 1 A [.int .i64 d] w (by omega) L e4 rfl (λj x=>a0 _ (by omega)) (λj x=>a9 _) t M).mono ?_;rintro e w' ⟨rfl,rfl⟩;refine⟨_,rfl,?_⟩;obtain⟨c1,c2,c3,c4,c5,c6⟩:=Bw (w:=w) (o:=0+l.length) (vs:=[j5 .i64 d]) hh (by rw[j4];omega) M;refine key _ _ c1 c2 c3 c4 c5 c6 (by rw[D5];simpa using d7) (λq hq=>?_);rw[ad3 (by omega),p5 (by omega)] at hq ⊢;rw[j0,F,j4] at hq;simp only[y7];rw[M3 _ _ _ (by rw[j4,w9 (xs:=p)];omega)];by_cases f4:q<l.length
     ·rw[F9,z7 (by omega),x9,if_pos f4]
     ·obtain rfl:q=l.length:=by omega
      rw[if_pos (by rw[j4];omega),p6 (by omega),F];simp
    ·have W:i<l.length:=by omega
     refine(Any2.slices_Insert_int_shift Tryz.lays2_21 g 0 l.length cap i g1 0 1 A (p.toList.take l.length) [.int .i64 d] w W (by omega) L e4 e5 F rfl J (λj x=>a0 _ (by omega)) (λj x=>a9 _) t b5 M 3 3 d0.size p.size (by simp[ad6,n2]) (by simp[ad6,hh]) (by omega) (by simp[ac9,n2]) (by simp[ac9,n2])).mono ?_;rintro e w' ⟨rfl,rfl⟩;refine⟨_,rfl,?_⟩;obtain⟨c1,c2,c3,c4,c5,c6⟩:=Bw (w:=w.drew) (o:=0+(i+1)) (vs:=(p.toList.take l.length).drop i) hh (by rw[c9,F];omega) (λv hv=>b5 v (v7 hv));generalize f6:w.drew.setCells g (0+(i+1)) ((p.toList.take l.length).drop i)=w1 at *;have Q:(F8 p.toList (0+(i+1)) ((p.toList.take l.length).drop i)).toArray.size=cap:=by rw[o8,D5];simpa using d7
     obtain⟨d1,d2,d3,d4,d5,d6⟩:=Bw (w:=w1) (o:=0+i) (vs:=[j5 .i64 d]) c1 (by rw[Q,j4];omega) M;refine key _ _ d1 (λk N=>(d2 k N).trans (c2 k N)) (d3.trans c3) (d4.trans c4) (d5.trans c5) (d6.trans c6) (by rw[D5];simpa using Q) ?_;rw[ad4,ad4];exact e9 p _ F W (by omega) (λq hq=>by rw[x9,R9];simp)
   ·by_cases b6:i=l.length
    ·subst b6;exact B (some ⟨g,0,none⟩) cap (p.toList.take l.length) R (by omega) F (λh=>by cases h) (λa h j v x=>by
      obtain rfl:=j7 h;rw[L8];exact J j v x) hO
    ·exact P g cap _ (by omega) R (by omega) F J b5 hO
 ·cases G
end
section
open Go Go.Proofs
set_option maxRecDepth 100000
section
theorem C55:BA a8 GX 175 DB:=by
 refine Fe (C₀:=SH LF) (Ua (lx:=[(170,Nm),(168,Nn)]) (ly:=[(186,OZ),(187,RF)]) (ls:=[]) rfl rfl rfl ⟨Aj7,Aj8,trivial⟩ ⟨Dg3,Dg5,trivial⟩ trivial) (I4 rfl (by kernel_rfl)) follows ?_;intro args H ret o h;unfold DB at h;split at h
 ·rename_i a n i b c z l;obtain⟨d,h⟩:=B9 h;obtain⟨f,h⟩:=B9 h;obtain⟨g,h⟩:=B9 h;obtain⟨j,h⟩:=B9 h;obtain⟨k,h⟩:=B9 h;obtain⟨rfl,rfl⟩:=I7 h;refine⟨rfl,rfl,λZ m s=>?_⟩;have e:=(B60 LF m s 0 a n i b c z l).trans (Ar1 a n i b c z l d f g j k);exact⟨1,_,e,rfl⟩
 ·cases h
theorem De1:B0 a8 GX 155 B16:=by
 refine B0.fix (pf:=PZ) _ (I6 [1,0] (C₀:=Z0 LF) (Ua (lx:=[(80,DD)]) (ly:=[(175,DB)]) (ls:=[]) rfl rfl rfl ⟨Bk4,trivial⟩ ⟨C55,trivial⟩ trivial) (I4 rfl (by kernel_rfl)) follows ?_);intro args ret c h;unfold PZ at h;split at h
 ·rename_i s;obtain⟨a,h⟩:=B9 h;obtain⟨rfl,rfl⟩:=I7 h;obtain⟨r,H,e,b⟩:=Cu5 s a;exact⟨rfl,rfl,rfl,1,r,H,(Cu4 LF noY () 0 s).trans e,b⟩
 ·cases h
end
end
section
open Go Go.Proofs Go.Sort
set_option maxRecDepth 100000
theorem Cn2:B0 a8 GX 139 XS:=by
 refine B0.fix (pf:=Yr) _ (G7 (fn:=Tryz.f139) (by kernel_rfl) (by kernel_rfl) (by kernel_rfl) ?_);intro args ret l h;unfold Yr at h;split at h
 ·rename_i s;obtain⟨b,h⟩:=B9 h;obtain⟨rfl,rfl⟩:=I7 h;refine⟨rfl,rfl,λC n a o w m c g f=>?_⟩;obtain⟨U,rfl,j⟩:=f.arr1;obtain⟨k,rfl,rfl⟩:=j.inv_str;have i:=L6 b;refine(Any.utf8_ValidString Tryz.lays196 k w (by simp at i;omega) (Cq8 c a)).mono ?_;rintro e w' ⟨rfl,d⟩;rw[<-A97];exact⟨_,rfl,d,VP.mk_bool _⟩
 ·cases h
theorem Cm6:B0 a8 GX 140 XQ:=by
 refine B0.fix (pf:=Yo) _ (G7 (fn:=Tryz.f140) (by kernel_rfl) (by kernel_rfl) (by kernel_rfl) ?_);intro args ret j h;unfold Yo at h;split at h
 ·rename_i s;obtain⟨a,h⟩:=B9 h;obtain⟨rfl,rfl⟩:=I7 h;refine⟨rfl,rfl,λC m b n w k l d c=>?_⟩;obtain⟨U,rfl,g⟩:=c.arr1;obtain⟨i,rfl,rfl⟩:=g.inv_str;have f:=L6 a;refine(Any.utf8_RuneCountInString Tryz.lays195 i w (by simp at f;omega)).mono ?_;rintro e w' ⟨rfl,pos,rfl⟩;rw[Lib.runeCountL_eq];exact⟨_,rfl,An6 _ _ _,VP.mk_int _ _⟩
 ·cases h
theorem C23:B0 a8 GX 153 Uc:=λargs ret a h=>by
 have:L2 (Uc args)=none:=by unfold Uc XH;split<;>rfl
 rw[this] at h;cases h
theorem C56:Ba8 a8 GX 152 DF:=by
 refine Ag7 (C₀:=Ah LF) ((L5.ok (l:=[(153,Uc),(154,FT)]) rfl ⟨C23,Ba4,trivial⟩)) (I4 rfl (by kernel_rfl)) follows ?_;intro args H L h Z a s d c;unfold DF at h;split at h
 ·rename_i p t n;simp only[k9,ai4] at h;obtain⟨b,rfl⟩:=h;obtain⟨e,f⟩:=A75 (R:=PV × List Blk × Z) a p t n s d b c;exact⟨1,_,(Cg7 LF a 0 p t n s).trans (f _)⟩
 ·cases h
end
section
open Go Go.Proofs
set_option maxRecDepth 100000
section
theorem C31:B0 a8 GX 126 Bb3:=xf [] (Kw LF) EQ rfl ⟨De1,Cl4,trivial⟩ rfl (by kernel_rfl) follows λargs=>by
 unfold EQ;split
 ·rename_i s;exact λa=>⟨rfl,rfl,rfl,_,_,(B88 LF noY () 0 s).trans (Au9 s a),rfl⟩
 ·trivial
theorem Cl3:B0 a8 GX 92 PU:=xf [] (Sg LF) PW rfl ⟨Ck4,C31,trivial⟩ rfl (by kernel_rfl) follows λargs=>by
 unfold PW;split
 ·rename_i s;exact λa=>⟨rfl,rfl,rfl,_,_,(Ct7 LF noY () 0 s).trans (Bq0 s a),rfl⟩
 ·trivial
theorem Dd9:B0 a8 GX 110 B13:=xf [0,0] (Ob LF) PN rfl ⟨Cn2,Cm6,Cl2,Cl4,Cl3,trivial⟩ rfl (by kernel_rfl) follows λargs=>by
 unfold PN;split
 ·rename_i s;exact λa=>(let⟨r,H,e,q⟩:=Cs6 s a;⟨rfl,rfl,rfl,r,H,(Cs5 LF noY () 0 s).trans e,q⟩)
 ·trivial
theorem Dd6:B0 a8 GX 136 B10:=xf [] (Im LF) PE rfl trivial rfl (by kernel_rfl) follows λargs=>by
 unfold PE;split
 ·rename_i b;exact λa=>⟨rfl,rfl,rfl,_,_,(Cr4 LF noY () 0 b).trans (Bn3 b a),rfl⟩
 ·trivial
theorem Dd5:B0 a8 GX 106 B09:=xf [0,0] (Se LF) PD rfl ⟨Dd6,trivial⟩ rfl (by kernel_rfl) follows λargs=>by
 unfold PD;split
 ·rename_i s;exact λa=>(let⟨r,H,e,q⟩:=Cr2 s a;⟨rfl,rfl,rfl,r,H,(Cr1 LF noY () 0 s).trans e,q⟩)
 ·trivial
theorem C26:B0 a8 GX 105 Bb0:=xf [0,0] (SJ LF) EI rfl ⟨Dj9,trivial⟩ rfl (by kernel_rfl) follows λargs=>by
 unfold EI;split
 ·rename_i s;exact λa=>λb=>(let⟨r,H,e,q⟩:=B73 s a b;⟨rfl,rfl,rfl,r,H,(B72 LF noY () 0 s).trans e,q⟩)
 ·trivial
theorem Ck7:B0 a8 GX 81 XK:=xf [0,0] (Fu LF) Xy rfl ⟨WY,C26,Dd5,C53,OS,De3,B02,Dd9,Bk9,trivial⟩ rfl (by kernel_rfl) follows λargs=>by
 unfold Xy;split
 ·rename_i s;exact λa=>(let⟨r,H,e,q⟩:=Bn7 s a;⟨rfl,rfl,rfl,r,H,(Bn6 LF noY () 0 s).trans e,q⟩)
 ·trivial
theorem C32:B0 a8 GX 125 PS:=by
 refine B0.fix (pf:=ER) _ (Bz (C₀:=SO LF) (L5.ok (l:=[]) rfl trivial) (I4 rfl (by kernel_rfl)) follows ?_);intro args ret a h;unfold ER at h;split at h
 ·rename_i t p n;obtain⟨rfl,rfl⟩:=I7 h;have e:=(B90 LF noY () 0 t p n).trans (Av0 t p n );exact⟨rfl,1,_,[],e,rfl,rfl⟩
 ·cases h
theorem Df6:B0 a8 GX 91 Am2:=by
 refine B0.fix (pf:=RH) _ (Bz (C₀:=Ap3 LF) (L5.ok (l:=[(125,PS)]) rfl ⟨C32,trivial⟩) (I4 rfl (by kernel_rfl)) follows ?_);intro args ret a h;unfold RH at h;split at h
 ·rename_i t p;obtain⟨rfl,rfl⟩:=I7 h;have e:=(Cz5 LF noY () 0 t p).trans (Bw8 t p );exact⟨rfl,1,_,[],e,rfl,rfl⟩
 ·cases h
theorem Dj3:B0 a8 GX 64 C58:=by
 refine B0.fix (pf:=Ak8) _ (I6 [] (C₀:=Oa LF) (Ua (lx:=[(90,Pk),(91,Am2),(92,PU)]) (ly:=[]) (ls:=[(152,DF)]) rfl rfl rfl ⟨OS,Df6,Cl3,trivial⟩ trivial ⟨C56,trivial⟩) (I4 rfl (by kernel_rfl)) follows ?_);intro args ret c h;unfold Ak8 at h;split at h
 ·rename_i s;obtain⟨a,h⟩:=B9 h;obtain⟨rfl,rfl⟩:=I7 h;obtain⟨r,H,e,b⟩:=C97 s a;exact⟨rfl,rfl,rfl,1,r,H,(C96 LF noY () 0 s).trans e,b⟩
 ·cases h
theorem Dd8:B0 a8 GX 46 B12:=xf [] (Ao6 LF) PJ rfl ⟨Dj3,trivial⟩ rfl (by kernel_rfl) follows λargs=>by
 unfold PJ;split
 ·rename_i j k v4 a b c d f g h i;exact λl=>λm=>λn=>(let⟨r,H,e,q⟩:=Bf4 j k v4 a b c d f g h i l m n;⟨rfl,rfl,rfl,r,H,(Cs0 LF noY () 0 j k v4 a b c d f g h i).trans e,q⟩)
 ·trivial
theorem Dd7:B0 a8 GX 50 B11:=xf [] (Ao4 LF) PH rfl ⟨Dd8,Dj5,Dj7,trivial⟩ rfl (by kernel_rfl) follows λargs=>by
 unfold PH;split
 ·rename_i j k v4 a b c d f g h i;exact λl=>λm=>λn=>(let⟨r,H,e,q⟩:=Bf3 j k v4 a b c d f g h i l m n;⟨rfl,rfl,rfl,r,H,(Cr8 LF noY () 0 j k v4 a b c d f g h i).trans e,q⟩)
 ·trivial
end
end
section
open Go
structure X6 where
 sch:By
 user:By
 host:B2
 port:Int
 rest:By
def Cc:X6:=⟨[],[],K3,0,[]⟩
def Hm:By:=[104,116,116,112]
def Ks:By:=[104,116,116,112,115]
def bWs:By:=[119,115]
def RY:By:=[119,115,115]
def N8(s:By):Int:=if s==Hm||s==bWs then 80 else if s==Ks||s==RY then 443 else -1
def J3(s:By):Bool:=s==Hm||s==bWs||(s==Ks||s==RY)
def U2(s:By):Bool:=s==Hm||s==bWs
def ctl(b:UInt8):Bool:=x3 b.toNat 32||b==127
def O6(b:UInt8):Bool:=(x3 97 b.toNat&&x3 b.toNat 122)||(x3 65 b.toNat&&x3 b.toNat 90)
def N5(b:UInt8):Bool:=O6 b||(x3 48 b.toNat&&x3 b.toNat 57)||b==43||b==45||b==46
def V8:By->Bool
 | []=>false
 | b::r=>O6 b&&r.all N5
def V4(b:UInt8):Bool:=b==47||b==63||b==35
def J5(s:By):Nat:=(s.takeWhile λb=>!V4 b).length
def Gk(c:UInt8):By->Option Nat
 | []=>none
 | b::r=>if b=c then some 0 else (Gk c r).map (· + 1)
def Iz:Int->By->Option Int
 | n,[]=>if n<65536 then some n else none
 | n,b::r=>if 48<=b.toNat/\b.toNat<=57 then Iz (min (10*max n 0+((b.toNat-48:Nat):Int)) 65536) r else none
def Jw(a:By):Option (By × By):=
 if a.head? = some 91 then (match Gk 93 a with
  | some k=>some (a.take (k+1),a.drop (k+1))
  | none=>none)
 else match Gk 58 a with
  | some k=>some (a.take k,a.drop k)
  | none=>some (a,[])
def T9(c user b:By)(a:By):X6 × Nat:=
 match Jw a with
 | none=>(Cc,4)
 | some (name,tail)=>
  if tail≠[]/\tail.head?≠some 58 then (Cc,4)
  else if (C7 name).2≠0 then (Cc,(C7 name).2)
  else match Iz (-1) (tail.drop 1) with
   | none=>(Cc,16)
   | some p=>(⟨c,user,(C7 name).1,if p=N8 c then -1 else p,b⟩,0)
def H4(c b a:By):X6 × Nat:=
 if 0<=K9 64 a then T9 c (a.take (K9 64 a).toNat) b (a.drop ((K9 64 a).toNat+1)) else T9 c [] b a
def V9(r:By):By:=if r.head? = some 47 then r else 47::r
def C0(s:By):X6 × Nat:=
 if s.any ctl then (Cc,4)
 else if !(s8 s [58]).2.2||!V8 (s8 s [58]).1 then (Cc,15)
 else if !J3 (B6 (s8 s [58]).1) then (⟨B6 (s8 s [58]).1,[],K3,-1,(s8 s [58]).2.1⟩,0)
 else if !([47,47]:By).isPrefixOf (s8 s [58]).2.1 then (Cc,4)
 else H4 (B6 (s8 s [58]).1) (V9 (((s8 s [58]).2.1.drop 2).drop (J5 ((s8 s [58]).2.1.drop 2)))) (((s8 s [58]).2.1.drop 2).take (J5 ((s8 s [58]).2.1.drop 2)))
def V3(s:By):X6 × Nat:=if 2048<s.length then (Cc,3) else C0 s
def Js(p:Int):By:=if p<0 then 45::ae8 (-p).toNat else ae8 p.toNat
def GL(u:X6):By:=(if u.user=[] then [] else u.user++[64])++(Iv u.host++(if u.port=-1 then [] else 58::Js u.port))
def X4(u:X6):By:=if J3 u.sch then u.sch++58::47::47::(GL u++u.rest) else u.sch++58::u.rest
def Ei(u:X6):By:=if u.port < -1 then (if J3 u.sch then u.sch++58::47::47::(((if u.user=[] then [] else u.user++[64])++(Iv u.host++[58,120]))++u.rest) else u.sch++58::u.rest) else X4 u
def Ct8(b:Int)(c:By)(v4:Int)(a:List Nat):B2:=⟨if ltN b 4 then b.toNat else 4,c,v4.toNat,a⟩
def mkU(f g:By)(b:Int)(c:By)(v4:Int)(a:List Nat)(d:Int)(e:By):X6:=⟨f,g,Ct8 b c v4 a,d,e⟩
def smU(c d a b:By):Bool:=x3 c.length 100000000&&x3 d.length 100000000&&x3 a.length 100000000&&x3 b.length 100000000
def eqH(a b:B2):Bool:=a.kind==b.kind&&a.name==b.name&&a.v4==b.v4&&a.v6==b.v6
def eqU(a b:X6):Bool:=a.sch==b.sch&&a.user==b.user&&eqH a.host b.host&&a.port==b.port&&a.rest==b.rest
def Z7(u:X6):Bool:=(C0 (X4 u)).2==0&&eqU (C0 (X4 u)).1 u
def AP(c d a b:By):Bool:=Mi 1500 [c,d,a,b]
def ZA(u:X6):By:=if Z7 u then X4 u else []
def prt(b:By)(a:Int):Int:=if a==-1 then N8 b else a
def upS(a:By):By:=if a==Hm then Ks else if a==bWs then RY else a
def upP(b:By)(a:Int):Int:=if U2 b&&a==443 then -1 else a
def CY:By->Int
 | s=>let rec go:Int->By->Int
   | n,[]=>n
   | n,b::r=>if 48<=b.toNat/\b.toNat<=57 then go (min (10*max n 0+((b.toNat-48:Nat):Int)) 65536) r else 0
  go (-1) s
def P9(s t:By):Nat:=(s.takeWhile λb=>!t.contains b).length
def Cy(s:By):By × By × Bool:=if (s8 s [58]).2.2&&V8 (s8 s [58]).1 then (B6 (s8 s [58]).1,(s8 s [58]).2.1,true) else ([],[],false)
def isl:By:=[47,63,35]
def Zx(p:By):Bool:=p==isl
def KH(r:Int):Bool:=ltN r 55296||(ltI 57343 r&&ltN r 1114112)
def irn(r:Int):Int:=if r=47 then 0 else if r=63 then 1 else if r=35 then 2 else -1
def An(n:Int):Bool:=ltN (n+9223372036854775808) 18446744073709551616
abbrev uS(p:X6 × Nat):By:=p.1.sch
abbrev uU(p:X6 × Nat):By:=p.1.user
abbrev uK(p:X6 × Nat):Int:=p.1.host.kind
abbrev uN(p:X6 × Nat):By:=p.1.host.name
abbrev uV(p:X6 × Nat):Int:=p.1.host.v4
abbrev uA(p:X6 × Nat)(i:Nat):Int:=(p.1.host.v6.getD i 0:Nat)
abbrev uP(p:X6 × Nat):Int:=p.1.port
abbrev uR(p:X6 × Nat):By:=p.1.rest
abbrev uE(p:X6 × Nat):Int:=p.2
theorem KT(s:By):decide (0<N8 s)=J3 s:=by
 unfold N8 J3;cases (s==Hm||s==bWs) with
 | true=>rfl
 | false=>cases (s==Ks||s==RY)<;>rfl
theorem Cn7{s:By}(h:J3 s=true):s=Hm\/s=bWs\/s=Ks\/s=RY:=by simp only[J3,aa2,beq_iff_eq] at h;rcases h with(h|h)|(h|h)<;>simp[h]
theorem Bo1{c:UInt8}:∀{s:By},c∉s->Gk c s=none
 | [],_=>rfl
 | b::r,h=>by
  simp only[s9,not_or] at h;rw[Gk,if_neg (af7 h.1),Bo1 h.2];rfl
theorem ZM{c:UInt8}:∀{p:By} (r:By),c∉p->Gk c (p++c::r)=some p.length
 | [],r,_=>by rw[ag9,Gk,if_pos rfl];rfl
 | b::p,r,h=>by
  simp only[s9,not_or] at h;rw[ag3,Gk,if_neg (af7 h.1),ZM r h.2];rfl
theorem Pz{c:UInt8}:∀{s:By} {k:Nat},Gk c s=some k->∃p r,s=p++c::r/\c∉p/\p.length=k
 | [],k,h=>by cases h
 | b::s,k,h=>by
  rw[Gk] at h;split at h
  ·rename_i a;obtain rfl:=j7 h;exact⟨[],s,by rw[a];rfl,by simp,rfl⟩
  ·rename_i a;cases d:Gk c s with
   | none=>rw[d] at h;cases h
   | some j=>
    rw[d] at h;obtain rfl:=j7 h;obtain⟨p,r,rfl,e,rfl⟩:=Pz d;exact⟨b::p,r,rfl,by simp only[s9,not_or];exact⟨af7 a,e⟩,rfl⟩
theorem Sz{c:UInt8}:∀{s:By},c∉s->K9 c s=-1
 | [],_=>rfl
 | b::r,h=>by
  simp only[s9,not_or] at h;rw[K9,Sz h.2,if_pos (by decide),if_neg (af7 h.1)]
theorem AB{c:UInt8}:∀(p:By) {r:By},c∉r->K9 c (p++c::r)=(p.length:Int)
 | [],r,h=>by rw[ag9,K9,Sz h,if_pos (by decide),if_pos rfl];rfl
 | b::p,r,h=>by
  rw[ag3,K9,AB p h,F9,j1];omega
theorem AC{c:UInt8}:∀{s:By},c∈s->∃p r,s=p++c::r/\c∉r
 | [],h=>by cases h
 | b::s,h=>by
  by_cases a:c∈s
  ·obtain⟨p,r,rfl,d⟩:=AC a;exact⟨b::p,r,rfl,d⟩
  ·simp only[s9,a,or_false] at h;subst h;exact⟨[],s,rfl,a⟩
theorem IJ{c:UInt8}{s:By}(h:0<=K9 c s):∃p r,s=p++c::r/\c∉r/\K9 c s=(p.length:Int):=by
 by_cases b:c∈s
 ·obtain⟨p,r,rfl,a⟩:=AC b;exact⟨p,r,rfl,a,AB p a⟩
 ·rw[Sz b] at h;omega
theorem A71(s:By):∀b∈s.take (J5 s),V4 b=false:=by
 intro b a;have h:s.take (J5 s)=s.takeWhile λb=>!V4 b:=by
  unfold J5;exact(List.prefix_iff_eq_take.1 (List.takeWhile_prefix _)).symm
 rw[h] at a;have:∀l:By,b∈l.takeWhile (λb=>!V4 b)->V4 b=false:=by
  intro l
  induction l with
  | nil=>intro h;cases h
  | cons x l d=>
   intro h;rw[ae6] at h;split at h
   ·rename_i c;rcases s9.1 h with rfl|h
    ·simpa using c
    ·exact d h
   ·cases h
 exact this s a
theorem T2{b:UInt8}:O6 b=true↔(97<=b.toNat/\b.toNat<=122)\/(65<=b.toNat/\b.toNat<=90):=by simp[O6,ac3]
theorem Cp1{b:UInt8}:ctl b=true↔b.toNat<=32\/b.toNat=127:=by
 unfold ctl;rw[aa2,ac3,beq_iff_eq];have:b=127↔b.toNat=127:=⟨λh=>by rw[h];rfl,λh=>ab9.1 h⟩
 rw[this]
theorem Ig{b:UInt8}:N5 b=true↔(97<=b.toNat/\b.toNat<=122)\/(65<=b.toNat/\b.toNat<=90)\/(48<=b.toNat/\b.toNat<=57)\/b=43\/b=45\/b=46:=by simp only[N5,aa2,T2,p4,ac3,beq_iff_eq,or_assoc]
abbrev clU(a b:By)(k:Int)(n:By)(v c d e f g h i j p:Int)(r:By):List PV:=[.s (.str a),.s (.str b),.s (.int .i64 k),.s (.str n),.s (.int .u32 v),.s (.int .u16 c),.s (.int .u16 d),.s (.int .u16 e),.s (.int .u16 f),.s (.int .u16 g),.s (.int .u16 h),.s (.int .u16 i),.s (.int .u16 j),.s (.int .i64 p),.s (.str r)]
abbrev clH(k:Int)(n:By)(v c d e f g h i j:Int):List PV:=[.s (.int .i64 k),.s (.str n),.s (.int .u32 v),.s (.int .u16 c),.s (.int .u16 d),.s (.int .u16 e),.s (.int .u16 f),.s (.int .u16 g),.s (.int .u16 h),.s (.int .u16 i),.s (.int .u16 j)]
abbrev bU(a b:By)(k:Int)(n:By)(v c d e f g h i j p:Int)(r:By):Blk:=.box (clU a b k n v c d e f g h i j p r)
abbrev gU(a b:By)(k:Int)(n:By)(v c d e f g h i j p:Int)(r:By):PV:=.agg (clU a b k n v c d e f g h i j p r)
abbrev bH(k:Int)(n:By)(v c d e f g h i j:Int):Blk:=.box (clH k n v c d e f g h i j)
abbrev bU0:Blk:=bU [] [] 0 [] 0 0 0 0 0 0 0 0 0 0 []
abbrev bQ(p:X6 × Nat):Blk:=bU (uS p) (uU p) (uK p) (uN p) (uV p) (uA p 0) (uA p 1) (uA p 2) (uA p 3) (uA p 4) (uA p 5) (uA p 6) (uA p 7) (uP p) (uR p)
end
section
open Go Go.Proofs
set_option maxRecDepth 100000
section
def GB:List PV->Tr
 | [.s (.str s)]=>.ret (.s (.int .i64 (N8 s))) []
 | _=>.fail
def Po(args:List PV):Tr:=GB (B8 [[0]] args)
def GC:List PV->Tr
 | [.s (.str s)]=>.ret (.s (.bool (J3 s))) []
 | _=>.fail
def Ui(args:List PV):Tr:=GC (B8 [[0]] args)
def RM:List PV->Tr
 | [.agg [.s (.str a),.s (.str n),.s (.int .i64 j),.s (.str k),.s (.int .u32 v4),.s (.int .u16 b),.s (.int .u16 c),.s (.int .u16 d),.s (.int .u16 e),.s (.int .u16 f),.s (.int .u16 g),.s (.int .u16 h),.s (.int .u16 i),.s (.int .i64 l),.s (.str m)]]=>.ret (.s (.bool (U2 a))) []
 | _=>.fail
def RL(args:List PV):Tr:=RM (B8 [[0,0,0,0,0,0,0,0,0,0,0,0,0,0,0]] args)
def RP:List PV->Tr
 | [.agg [.s (.str b),.s (.str n),.s (.int .i64 k),.s (.str l),.s (.int .u32 v4),.s (.int .u16 c),.s (.int .u16 d),.s (.int .u16 e),.s (.int .u16 f),.s (.int .u16 g),.s (.int .u16 h),.s (.int .u16 i),.s (.int .u16 j),.s (.int .i64 a),.s (.str m)]]=>.ret (.s (.int .i64 (prt b a))) []
 | _=>.fail
def Am4(args:List PV):Tr:=RP (B8 [[0,0,0,0,0,0,0,0,0,0,0,0,0,0,0]] args)
def RQ:List PV->Tr
 | [.s (.str s)]=>.need (A3 (b8 s)) (.ret (.s (.bool (V8 s))) [])
 | _=>.fail
def B31(args:List PV):Tr:=RQ (B8 [[0]] args)
def RN:List PV->Tr
 | [.s (.str s)]=>.need (A3 (b8 s)) (.ret (.tup [.s (.int .i64 (CY s)),.s (.bool (ai3 (Iz ((-1):Int) s)))]) [])
 | _=>.fail
def B30(args:List PV):Tr:=RN (B8 [[0]] args)
def Yq:List PV->Tr
 | [.agg [.s (.str c),.s (.str e),.s (.int .i64 n),.s (.str o),.s (.int .u32 v4),.s (.int .u16 f),.s (.int .u16 g),.s (.int .u16 h),.s (.int .u16 i),.s (.int .u16 j),.s (.int .u16 k),.s (.int .u16 l),.s (.int .u16 m),.s (.int .i64 d),.s (.str b)],.s (.str a)]=>.need (A3 (b8 c)) (.need (A3 (b8 b)) (.need (A3 (b8 a)) (.need (List.isEmpty e) (.need (d==((-1):Int)) (.ret (.tup [.agg [.s (.str (uS (H4 c b a))),.s (.str (uU (H4 c b a))),.s (.int .i64 (uK (H4 c b a))),.s (.str (uN (H4 c b a))),.s (.int .u32 (uV (H4 c b a))),.s (.int .u16 (uA (H4 c b a) 0)),.s (.int .u16 (uA (H4 c b a) 1)),.s (.int .u16 (uA (H4 c b a) 2)),.s (.int .u16 (uA (H4 c b a) 3)),.s (.int .u16 (uA (H4 c b a) 4)),.s (.int .u16 (uA (H4 c b a) 5)),.s (.int .u16 (uA (H4 c b a) 6)),.s (.int .u16 (uA (H4 c b a) 7)),.s (.int .i64 (uP (H4 c b a))),.s (.str (uR (H4 c b a)))],.s (.int .i64 (uE (H4 c b a)))]) [])))))
 | _=>.fail
def XR(args:List PV):Tr:=Yq (B8 [[0,0,0,0,0,0,0,0,0,0,0,0,0,0,0],[0]] args)
def RO:List PV->Tr
 | [.s (.str s)]=>.need (A3 (b8 s)) (.ret (.tup [.agg [.s (.str (uS (C0 s))),.s (.str (uU (C0 s))),.s (.int .i64 (uK (C0 s))),.s (.str (uN (C0 s))),.s (.int .u32 (uV (C0 s))),.s (.int .u16 (uA (C0 s) 0)),.s (.int .u16 (uA (C0 s) 1)),.s (.int .u16 (uA (C0 s) 2)),.s (.int .u16 (uA (C0 s) 3)),.s (.int .u16 (uA (C0 s) 4)),.s (.int .u16 (uA (C0 s) 5)),.s (.int .u16 (uA (C0 s) 6)),.s (.int .u16 (uA (C0 s) 7)),.s (.int .i64 (uP (C0 s))),.s (.str (uR (C0 s)))],.s (.int .i64 (uE (C0 s)))]) [])
 | _=>.fail
def Am3(args:List PV):Tr:=RO (B8 [[0]] args)
def Yp:List PV->Tr
 | [.s (.str s)]=>.need (A3 (b8 s)) (.ret (.tup [.agg [.s (.str (uS (V3 s))),.s (.str (uU (V3 s))),.s (.int .i64 (uK (V3 s))),.s (.str (uN (V3 s))),.s (.int .u32 (uV (V3 s))),.s (.int .u16 (uA (V3 s) 0)),.s (.int .u16 (uA (V3 s) 1)),.s (.int .u16 (uA (V3 s) 2)),.s (.int .u16 (uA (V3 s) 3)),.s (.int .u16 (uA (V3 s) 4)),.s (.int .u16 (uA (V3 s) 5)),.s (.int .u16 (uA (V3 s) 6)),.s (.int .u16 (uA (V3 s) 7)),.s (.int .i64 (uP (V3 s))),.s (.str (uR (V3 s)))],.s (.int .i64 (uE (V3 s)))]) [])
 | _=>.fail
def GA(args:List PV):Tr:=Yp (B8 [[0]] args)
def GD:List PV->Tr
 | [.agg [.s (.str l),.s (.str m),.s (.int .i64 n),.s (.str i),.s (.int .u32 v4),.s (.int .u16 a),.s (.int .u16 b),.s (.int .u16 c),.s (.int .u16 d),.s (.int .u16 e),.s (.int .u16 f),.s (.int .u16 g),.s (.int .u16 h),.s (.int .i64 j),.s (.str k)]]=>.need (smU l m i k) (.need (ltN v4 4294967296) (.need (ok8 a b c d e f g h) (.need (An j) (.ret (.s (.str (X4 (mkU l m n i v4 (n8 a b c d e f g h) j k)))) []))))
 | _=>.fail
def RS(args:List PV):Tr:=GD (B8 [[0,0,0,0,0,0,0,0,0,0,0,0,0,0,0]] args)
def Ru:List PV->Tr
 | [.agg [.s (.str l),.s (.str m),.s (.int .i64 n),.s (.str i),.s (.int .u32 v4),.s (.int .u16 a),.s (.int .u16 b),.s (.int .u16 c),.s (.int .u16 d),.s (.int .u16 e),.s (.int .u16 f),.s (.int .u16 g),.s (.int .u16 h),.s (.int .i64 j),.s (.str k)]]=>.need (smU l m i k) (.need (ltN v4 4294967296) (.need (ok8 a b c d e f g h) (.need (An j) (.ret (.s (.bool (Z7 (mkU l m n i v4 (n8 a b c d e f g h) j k)))) []))))
 | _=>.fail
def Pp(args:List PV):Tr:=Ru (B8 [[0,0,0,0,0,0,0,0,0,0,0,0,0,0,0]] args)
def RK:List PV->Tr
 | [.agg [.s (.str l),.s (.str m),.s (.int .i64 n),.s (.str i),.s (.int .u32 v4),.s (.int .u16 a),.s (.int .u16 b),.s (.int .u16 c),.s (.int .u16 d),.s (.int .u16 e),.s (.int .u16 f),.s (.int .u16 g),.s (.int .u16 h),.s (.int .i64 j),.s (.str k)]]=>.need (smU l m i k) (.need (ltN v4 4294967296) (.need (ok8 a b c d e f g h) (.need (An j) (.ret (.s (.str (ZA (mkU l m n i v4 (n8 a b c d e f g h) j k)))) []))))
 | _=>.fail
def FZ(args:List PV):Tr:=RK (B8 [[0,0,0,0,0,0,0,0,0,0,0,0,0,0,0]] args)
def B32:List PV->Tr
 | [.agg [.s (.str a),.s (.str n),.s (.int .i64 j),.s (.str k),.s (.int .u32 v4),.s (.int .u16 b),.s (.int .u16 c),.s (.int .u16 d),.s (.int .u16 e),.s (.int .u16 f),.s (.int .u16 g),.s (.int .u16 h),.s (.int .u16 i),.s (.int .i64 l),.s (.str m)]]=>.ret (.agg [.s (.str (upS a)),.s (.str n),.s (.int .i64 j),.s (.str k),.s (.int .u32 v4),.s (.int .u16 b),.s (.int .u16 c),.s (.int .u16 d),.s (.int .u16 e),.s (.int .u16 f),.s (.int .u16 g),.s (.int .u16 h),.s (.int .u16 i),.s (.int .i64 (upP a l)),.s (.str m)]) []
 | _=>.fail
def LY(args:List PV):Tr:=B32 (B8 [[0,0,0,0,0,0,0,0,0,0,0,0,0,0,0]] args)
def Yj:List PV->Tr
 | [.s (.str s)]=>.ret (.s (.bool (J3 s))) []
 | _=>.fail
def Np(args:List PV):Tr:=Yj (B8 [[0]] args)
def FR:List PV->Tr
 | [.s (.str s)]=>.ret (.s (.int .i64 (N8 s))) []
 | _=>.fail
def QS(args:List PV):Tr:=FR (B8 [[0]] args)
def FM:List PV->Tr
 | [.s (.str s),.s (.str t)]=>.need (A3 (b8 s)) (.need (A3 (b8 t)) (.ret (.s (.int .i64 (↑(P9 s t):Int))) []))
 | _=>.fail
def Bc6(args:List PV):Tr:=FM (B8 [[0],[0]] args)
def FQ:List PV->Tr
 | [.s (.str s)]=>.need (A3 (b8 s)) (.ret (.tup [.s (.str ((Cy s)).1),.s (.str (((Cy s)).2).1),.s (.bool (((Cy s)).2).2)]) [])
 | _=>.fail
def Bc8(args:List PV):Tr:=FQ (B8 [[0]] args)
def FO:List PV->Tr
 | [.s (.str s)]=>.need (A3 (b8 s)) (.ret (.tup [.agg [.s (.str (uS (C0 s))),.s (.str (uU (C0 s))),.s (.int .i64 (uK (C0 s))),.s (.str (uN (C0 s))),.s (.int .u32 (uV (C0 s))),.s (.int .u16 (uA (C0 s) 0)),.s (.int .u16 (uA (C0 s) 1)),.s (.int .u16 (uA (C0 s) 2)),.s (.int .u16 (uA (C0 s) 3)),.s (.int .u16 (uA (C0 s) 4)),.s (.int .u16 (uA (C0 s) 5)),.s (.int .u16 (uA (C0 s) 6)),.s (.int .u16 (uA (C0 s) 7)),.s (.int .i64 (uP (C0 s))),.s (.str (uR (C0 s)))],.s (.int .i64 (uE (C0 s)))]) [])
 | _=>.fail
def Bc7(args:List PV):Tr:=FO (B8 [[0]] args)
def Yk:List PV->Tr
 | [.agg [.s (.str l),.s (.str m),.s (.int .i64 n),.s (.str i),.s (.int .u32 v4),.s (.int .u16 a),.s (.int .u16 b),.s (.int .u16 c),.s (.int .u16 d),.s (.int .u16 e),.s (.int .u16 f),.s (.int .u16 g),.s (.int .u16 h),.s (.int .i64 j),.s (.str k)]]=>.need (smU l m i k) (.need (ltN v4 4294967296) (.need (ok8 a b c d e f g h) (.need (An j) (.ret (.s (.str (Ei (mkU l m n i v4 (n8 a b c d e f g h) j k)))) []))))
 | _=>.fail
def FS(args:List PV):Tr:=Yk (B8 [[0,0,0,0,0,0,0,0,0,0,0,0,0,0,0]] args)
def Nq:List PV->Tr
 | [.agg [.s (.str l),.s (.str m),.s (.int .i64 n),.s (.str i),.s (.int .u32 v4),.s (.int .u16 a),.s (.int .u16 b),.s (.int .u16 c),.s (.int .u16 d),.s (.int .u16 e),.s (.int .u16 f),.s (.int .u16 g),.s (.int .u16 h),.s (.int .i64 j),.s (.str k)]]=>.need (smU l m i k) (.need (ltN v4 4294967296) (.need (ok8 a b c d e f g h) (.need (An j) (.ret (.s (.bool (Z7 (mkU l m n i v4 (n8 a b c d e f g h) j k)))) []))))
 | _=>.fail
def Kp(args:List PV):Tr:=Nq (B8 [[0,0,0,0,0,0,0,0,0,0,0,0,0,0,0]] args)
def FL:List PV->Tr
 | [.agg [.s (.str l),.s (.str m),.s (.int .i64 n),.s (.str i),.s (.int .u32 v4),.s (.int .u16 a),.s (.int .u16 b),.s (.int .u16 c),.s (.int .u16 d),.s (.int .u16 e),.s (.int .u16 f),.s (.int .u16 g),.s (.int .u16 h),.s (.int .i64 j),.s (.str k)]]=>.need (smU l m i k) (.need (ltN v4 4294967296) (.need (ok8 a b c d e f g h) (.need (An j) (.ret (.s (.str (ZA (mkU l m n i v4 (n8 a b c d e f g h) j k)))) []))))
 | _=>.fail
def QQ(args:List PV):Tr:=FL (B8 [[0,0,0,0,0,0,0,0,0,0,0,0,0,0,0]] args)
def FN:List PV->Tr
 | [.agg [.s (.str a),.s (.str n),.s (.int .i64 j),.s (.str k),.s (.int .u32 v4),.s (.int .u16 b),.s (.int .u16 c),.s (.int .u16 d),.s (.int .u16 e),.s (.int .u16 f),.s (.int .u16 g),.s (.int .u16 h),.s (.int .u16 i),.s (.int .i64 l),.s (.str m)]]=>.ret (.s (.bool (U2 a))) []
 | _=>.fail
def DE(args:List PV):Tr:=FN (B8 [[0,0,0,0,0,0,0,0,0,0,0,0,0,0,0]] args)
def FP:List PV->Tr
 | [.agg [.s (.str b),.s (.str n),.s (.int .i64 k),.s (.str l),.s (.int .u32 v4),.s (.int .u16 c),.s (.int .u16 d),.s (.int .u16 e),.s (.int .u16 f),.s (.int .u16 g),.s (.int .u16 h),.s (.int .u16 i),.s (.int .u16 j),.s (.int .i64 a),.s (.str m)]]=>.ret (.s (.int .i64 (prt b a))) []
 | _=>.fail
def QR(args:List PV):Tr:=FP (B8 [[0,0,0,0,0,0,0,0,0,0,0,0,0,0,0]] args)
def Bc9:List PV->Tr
 | [.agg [.s (.str a),.s (.str n),.s (.int .i64 j),.s (.str k),.s (.int .u32 v4),.s (.int .u16 b),.s (.int .u16 c),.s (.int .u16 d),.s (.int .u16 e),.s (.int .u16 f),.s (.int .u16 g),.s (.int .u16 h),.s (.int .u16 i),.s (.int .i64 l),.s (.str m)]]=>.ret (.agg [.s (.str (upS a)),.s (.str n),.s (.int .i64 j),.s (.str k),.s (.int .u32 v4),.s (.int .u16 b),.s (.int .u16 c),.s (.int .u16 d),.s (.int .u16 e),.s (.int .u16 f),.s (.int .u16 g),.s (.int .u16 h),.s (.int .u16 i),.s (.int .i64 (upP a l)),.s (.str m)]) []
 | _=>.fail
def QT(args:List PV):Tr:=Bc9 (B8 [[0,0,0,0,0,0,0,0,0,0,0,0,0,0,0]] args)
def XI:List PV->Tr
 | [.s (.int .i64 n)]=>.need (ltN n 9223372036854775808) (.ret (.s (.str (ae8 (Int.toNat n)))) [])
 | _=>.fail
def EG(args:List PV):Tr:=XI (B8 [[0]] args)
def EM:List PV->Tr
 | [.s (.int .i64 n)]=>.need (An n) (.ret (.s (.str (Js n))) [])
 | _=>.fail
def Bb1(args:List PV):Tr:=EM (B8 [[0]] args)
def FU:List PV->Tr
 | [.s (.str s),.s (.int .u8 c)]=>.need (A3 (b8 s)) (.need (inR c 256) (.ret (.s (.int .i64 (j8 s (u8n c)))) []))
 | _=>.fail
def Ug(args:List PV):Tr:=FU (B8 [[0],[0]] args)
def ES:List PV->Tr
 | [.s (.str s),.s (.str p)]=>.need (A3 (b8 s)) (.ret (.s (.str (Gd s p))) [])
 | _=>.fail
def Bb4(args:List PV):Tr:=ES (B8 [[0],[0]] args)
def RJ:List PV->Tr
 | [.s (.str s),.s (.str p)]=>.need (A3 (b8 s)) (.ret (.s (.str (Gd s p))) [])
 | _=>.fail
def B28(args:List PV):Tr:=RJ (B8 [[0],[0]] args)
def XN:List PV->Tr
 | [.s (.str s),.s (.str p)]=>.need (A3 (b8 s)) (.need (Zx p) (.ret (.s (.int .i64 (y9 s p))) []))
 | _=>.fail
def RE(args:List PV):Tr:=XN (B8 [[0],[0]] args)
def Rk:List PV->Tr
 | []=>.ret (.s (.bool true)) []
 | _=>.fail
def Xu(args:List PV):Tr:=Rk (B8 [] args)
def Yb:List PV->Tr
 | [.agg [.s (.str c),.s (.str d),.s (.int .i64 m),.s (.str a),.s (.int .u32 v4),.s (.int .u16 e),.s (.int .u16 f),.s (.int .u16 g),.s (.int .u16 h),.s (.int .u16 i),.s (.int .u16 j),.s (.int .u16 k),.s (.int .u16 l),.s (.int .i64 n),.s (.str b)]]=>.ret (.s (.bool (AP c d a b))) []
 | _=>.fail
def EN(args:List PV):Tr:=Yb (B8 [[0,0,0,0,0,0,0,0,0,0,0,0,0,0,0]] args)
def DG:List PV->Tr
 | [.agg [.s (.str a),.s (.str n),.s (.int .i64 j),.s (.str k),.s (.int .u32 v4),.s (.int .u16 b),.s (.int .u16 c),.s (.int .u16 d),.s (.int .u16 e),.s (.int .u16 f),.s (.int .u16 g),.s (.int .u16 h),.s (.int .u16 i),.s (.int .i64 l),.s (.str m)]]=>.need (U2 a) (.ret (.agg [.s (.str (upS a)),.s (.str n),.s (.int .i64 j),.s (.str k),.s (.int .u32 v4),.s (.int .u16 b),.s (.int .u16 c),.s (.int .u16 d),.s (.int .u16 e),.s (.int .u16 f),.s (.int .u16 g),.s (.int .u16 h),.s (.int .u16 i),.s (.int .i64 (upP a l)),.s (.str m)]) [])
 | _=>.fail
def B33(args:List PV):Tr:=DG (B8 [[0,0,0,0,0,0,0,0,0,0,0,0,0,0,0]] args)
def DH:List PV->Tr
 | [.agg [.s (.str a),.s (.str n),.s (.int .i64 j),.s (.str k),.s (.int .u32 v4),.s (.int .u16 b),.s (.int .u16 c),.s (.int .u16 d),.s (.int .u16 e),.s (.int .u16 f),.s (.int .u16 g),.s (.int .u16 h),.s (.int .u16 i),.s (.int .i64 l),.s (.str m)]]=>.need (not (U2 a)) (.ret (.agg [.s (.str a),.s (.str n),.s (.int .i64 j),.s (.str k),.s (.int .u32 v4),.s (.int .u16 b),.s (.int .u16 c),.s (.int .u16 d),.s (.int .u16 e),.s (.int .u16 f),.s (.int .u16 g),.s (.int .u16 h),.s (.int .u16 i),.s (.int .i64 l),.s (.str m)]) [])
 | _=>.fail
def B34(args:List PV):Tr:=DH (B8 [[0,0,0,0,0,0,0,0,0,0,0,0,0,0,0]] args)
def Ue:List PV->Tr
 | [.agg [.s (.str a),.s (.str n),.s (.int .i64 j),.s (.str k),.s (.int .u32 v4),.s (.int .u16 b),.s (.int .u16 c),.s (.int .u16 d),.s (.int .u16 e),.s (.int .u16 f),.s (.int .u16 g),.s (.int .u16 h),.s (.int .u16 i),.s (.int .i64 l),.s (.str m)]]=>.need (U2 a) (.ret (.agg [.s (.str (upS a)),.s (.str n),.s (.int .i64 j),.s (.str k),.s (.int .u32 v4),.s (.int .u16 b),.s (.int .u16 c),.s (.int .u16 d),.s (.int .u16 e),.s (.int .u16 f),.s (.int .u16 g),.s (.int .u16 h),.s (.int .u16 i),.s (.int .i64 (upP a l)),.s (.str m)]) [])
 | _=>.fail
def Bd0(args:List PV):Tr:=Ue (B8 [[0,0,0,0,0,0,0,0,0,0,0,0,0,0,0]] args)
def Uf:List PV->Tr
 | [.agg [.s (.str a),.s (.str n),.s (.int .i64 j),.s (.str k),.s (.int .u32 v4),.s (.int .u16 b),.s (.int .u16 c),.s (.int .u16 d),.s (.int .u16 e),.s (.int .u16 f),.s (.int .u16 g),.s (.int .u16 h),.s (.int .u16 i),.s (.int .i64 l),.s (.str m)]]=>.need (not (U2 a)) (.ret (.agg [.s (.str a),.s (.str n),.s (.int .i64 j),.s (.str k),.s (.int .u32 v4),.s (.int .u16 b),.s (.int .u16 c),.s (.int .u16 d),.s (.int .u16 e),.s (.int .u16 f),.s (.int .u16 g),.s (.int .u16 h),.s (.int .u16 i),.s (.int .i64 l),.s (.str m)]) [])
 | _=>.fail
def Bd1(args:List PV):Tr:=Uf (B8 [[0,0,0,0,0,0,0,0,0,0,0,0,0,0,0]] args)
def Pm:List PV->Tr
 | [.s (.str s),.s (.str p)]=>.need (A3 (b8 s)) (.need (Zx p) (.need (x3 9 (b8 s)) (.ret (.s (.int .i64 (y9 s p))) [])))
 | _=>.fail
def XO(args:List PV):Tr:=Pm (B8 [[0],[0]] args)
def Pn:List PV->Tr
 | [.s (.str s),.s (.str p)]=>.need (Zx p) (.need (x3 (b8 s) 8) (.ret (.s (.int .i64 (y9 s p))) []))
 | _=>.fail
def XP(args:List PV):Tr:=Pn (B8 [[0],[0]] args)
def Rs:List PV->Tr
 | [.s (.int .i64 n)]=>.ret (.s (.bool (ltI (8:Int) n))) []
 | _=>.fail
def Ym(args:List PV):Tr:=Rs (B8 [[0]] args)
def Yl:List PV->Tr
 | [.s (.str p),.s (.int .i32 r)]=>.need (Zx p) (.need (ltN r 1114112) (.ret (.s (.int .i64 (irn r))) []))
 | _=>.fail
def FW(args:List PV):Tr:=Yl (B8 [[0],[0]] args)
def LW:List PV->Tr
 | [.s (.str s)]=>.fail
 | _=>.fail
def Nr(args:List PV):Tr:=LW (B8 [[0]] args)
def Ys:List PV->Tr
 | [.s (.int .i32 r)]=>.ret (.s (.bool (KH r))) []
 | _=>.fail
def GE(args:List PV):Tr:=Ys (B8 [[0]] args)
end
section
variable {Z R : Type} (L : Nat) (Q : F7) (Y : Yh Z) (s : Z) (k : Out -> St Z -> Option R)
noncomputable def SP(L:Nat):Cfg:=B4 L [112] (A2 []) [(79,PP)] (A2 [(3,[4]),(2,[4]),(1,[0,0,5]),(0,[0,0])]) [79] (A2 []) (some [4]) [] [] []
noncomputable def Bg4{R:Type}(L:Nat)(b a:By)(d:By->Option R):Option R:=cond (A3 b.length) (cond (w8 a b) (cond (I2 (a.length:Int) (b.length:Int) b.length) (vl (cut b (a.length:Int) (b.length:Int)) λc=>d c) none) (d b)) none
theorem B91(d:Nat)(s0 prefix1):evC (SP L) (d+1) Z Y 112 [pS s0,pS prefix1] [] s=Bg4 L s0 prefix1 (λa=>some (pS a,[],s)):=by refine(evE (fn:=Tryz.f112) (by kernel_rfl)).trans ?_;generalize evC (SP L) d=Q;unfold Bg4;kernel_rfl
noncomputable def Ap4(L:Nat):Cfg:=B4 L [83] (A2 []) [(112,Bb4)] (A2 [(1,[4]),(0,[0,0])]) [112] (A2 []) (some [4]) [] [] []
noncomputable def Cz8{R:Type}(L:Nat)(b a:By)(c:By->Option R):Option R:=cond (A3 b.length) (c (Gd b a)) none
theorem Cz9(d:Nat)(s0 prefix1):evC (Ap4 L) (d+1) Z Y 83 [pS s0,pS prefix1] [] s=Cz8 L s0 prefix1 (λa=>some (pS a,[],s)):=by refine(evE (fn:=Tryz.f83) (by kernel_rfl)).trans ?_;generalize evC (Ap4 L) d=Q;unfold Cz8;kernel_rfl
noncomputable def TG(L:Nat):Cfg:=B4 L [44] (A2 []) [] (A2 [(8,[2]),(4,[2]),(7,[2]),(6,[7]),(5,[3,3]),(3,[3,0]),(2,[3,0]),(1,[3]),(0,[0])]) [] (A2 [(0,[])]) (some [2]) [] [] []
noncomputable def Bj8{R:Type}(L:Nat)(a:By)(b:Int->Option R):Option R:=cond (a==[104,116,116,112]) (cond (a==[104,116,116,112]) (b 80) (cond (a==[104,116,116,112,115]) (cond (a==[104,116,116,112,115]) (b 443) (b (-1))) (cond (a==[119,115,115]) (b 443) (b (-1))))) (cond (a==[119,115]) (b 80) (cond (a==[104,116,116,112,115]) (cond (a==[104,116,116,112,115]) (b 443) (b (-1))) (cond (a==[119,115,115]) (b 443) (b (-1)))))
theorem Ci7(d:Nat)(scheme0):evC (TG L) (d+1) Z Y 44 [pS scheme0] [] s=Bj8 L scheme0 (λa=>some (pI a,[],s)):=by refine(evE (fn:=Tryz.f44) (by kernel_rfl)).trans ?_;generalize evC (TG L) d=Q;unfold Bj8;kernel_rfl
noncomputable def TH(L:Nat):Cfg:=B4 L [22] (A2 []) [(44,Po)] (A2 [(1,[2]),(0,[0])]) [44] (A2 []) (some [2]) [] [] []
noncomputable def Bj9{R:Type}(L:Nat)(a:By)(b:Bool->Option R):Option R:=b (ltI 0 (N8 a))
theorem Cj1(d:Nat)(scheme0):evC (TH L) (d+1) Z Y 22 [pS scheme0] [] s=Bj9 L scheme0 (λa=>some (pB a,[],s)):=by refine(evE (fn:=Tryz.f22) (by kernel_rfl)).trans ?_;generalize evC (TH L) d=Q;unfold Bj9;kernel_rfl
noncomputable def Ap6(L:Nat):Cfg:=B4 L [24] (A2 []) [(44,Po)] (A2 [(1,[2]),(0,[1])]) [44] (A2 []) (some [2]) [] [] []
noncomputable def Db7{R:Type}(L:Nat)(f h:By)(i:Int)(j:By)(l m n o u8 p a b c d:Int)(e:By)(g:Bool->(List Blk)->Option R):Option R:=g ((N8 f)==80) [(bU f h i j l m n o u8 p a b c d e)]
theorem C04(d:Nat)(u0 u1 u2 u3 u4 u5 u6 u7 u8 u9 u10 u11 u12 u13 u14):evC (Ap6 L) (d+1) Z Y 24 [(gU u0 u1 u2 u3 u4 u5 u6 u7 u8 u9 u10 u11 u12 u13 u14)] [] s=Db7 L u0 u1 u2 u3 u4 u5 u6 u7 u8 u9 u10 u11 u12 u13 u14 (λb a=>some (pB b,a,s)):=by refine(evE (fn:=Tryz.f24) (by kernel_rfl)).trans ?_;generalize evC (Ap6 L) d=Q;unfold Db7;kernel_rfl
noncomputable def Ap7(L:Nat):Cfg:=B4 L [26] (A2 []) [(44,Po)] (A2 [(3,[2]),(2,[2]),(1,[1,3]),(0,[1])]) [44] (A2 []) (some [2]) [] [] []
noncomputable def C10{R:Type}(L:Nat)(f h:By)(i:Int)(j:By)(l m n o u8 p b c d a:Int)(e:By)(g:Int->(List Blk)->Option R):Option R:=cond (a !=((-1):Int)) (g a [(bU f h i j l m n o u8 p b c d a e)]) (g (N8 f) [(bU f h i j l m n o u8 p b c d a e)])
theorem C11(d:Nat)(u0 u1 u2 u3 u4 u5 u6 u7 u8 u9 u10 u11 u12 u13 u14):evC (Ap7 L) (d+1) Z Y 26 [(gU u0 u1 u2 u3 u4 u5 u6 u7 u8 u9 u10 u11 u12 u13 u14)] [] s=C10 L u0 u1 u2 u3 u4 u5 u6 u7 u8 u9 u10 u11 u12 u13 u14 (λb a=>some (pI b,a,s)):=by refine(evE (fn:=Tryz.f26) (by kernel_rfl)).trans ?_;generalize evC (Ap7 L) d=Q;unfold C10;kernel_rfl
noncomputable abbrev Nx:Code:=C4 ah4
noncomputable def Z3(L:Nat):Cfg:=B4 L [55] (A2 [(2,[0,1,4,0])]) [(73,Ug)] (A2 [(9,[2]),(8,[0,6,0]),(7,[2]),(6,[0,6,0,29]),(5,[0,2,0,0,1,0]),(4,[0,2,0,2,0]),(3,[0,2,3,0]),(2,[0,6,0,0]),(1,[0,6,0]),(0,[0])]) [73] (A2 [(0,[0]),(1,[0,6,0])]) (some [2]) [] [] []
noncomputable def EC{R:Type}(d:By)(a c:Int)(b:By->Int->Int->Option R):Option R:=b d c a
abbrev AV(b:Code):Prop:=∀(k:Out->St Z->Option R) a i1 b2 n3,A9 (Z3 L) Q Y b ⟨gp [(0,pS a),(2,pI i1),(0,p8 b2),(0,pB true),(1,pI n3),(0,pI i1)] 33,[],s⟩ k=EC a i1 n3 (λa c d=>k .normal ⟨gp [(0,pS a),(6,pI c),(0,pI d),(29,pB false)] 3,[],s⟩)
theorem A89:AV (R:=R) L Q Y s (cd [1,0,1,0,0,1,1,0,0,1,1,1] Nx):=by intro k d b a c;unfold EC;kernel_rfl
noncomputable def Fc{R:Type}(h:By)(c d:Int)(a:Bool)(g:Int)(e:Unit->Option R)(f:By->Int->Int->Bool->Option R):Option R:=cond (not a) (cond (c==0) (e ()) (cond (inR d 256) (vl (j8 ([48,49,50,51,52,53,54,55,56,57,43,45,46]:List UInt8) (u8n d)) λb=>cond (ltI b 0) (e ()) (f h g c (ltI b 0))) none)) (f h g c false)
abbrev AW(b:Code):Prop:=∀(k:Out->St Z->Option R) a i1 b2 letter3 n4,A9 (Z3 L) Q Y b ⟨gp [(0,pS a),(2,pI i1),(0,p8 b2),(0,pB letter3),(1,pI n4),(0,pI i1)] 33,[],s⟩ k=Fc a i1 b2 letter3 n4 (λ_=>k .ret ⟨gp [(2,pB false)] 39,[],s⟩) (λa d e c=>k .normal ⟨gp [(0,pS a),(6,pI d),(0,pI e),(29,pB c)] 3,[],s⟩)
theorem A90:AW (R:=R) L Q Y s (cd [1,0,1,0,0,1,1,0,0,1,1,1] Nx):=by intro k e c b a d;unfold Fc;kernel_rfl
noncomputable def M9{R:Type}(L n:Nat)(b:By)(e a:Int)(c:Unit->Option R)(d:By->Option R):Option R:=match n with|0=>none|n+1=>cond (ltI a e) (cond (inR a b.length) (cond (not (ltI (bAt b a) (97:Int))) (cond (not (ltI 122 (bAt b a))) (EC b a e (λx r t=>M9 L n x r (A1 (t+1)) c d)) (cond (not (ltI (bAt b a) (65:Int))) (Fc b a (bAt b a) (not (ltI 90 (bAt b a))) e (λ_=>c ()) (λy u v D=>M9 L n y u (A1 (v+1)) c d)) (Fc b a (bAt b a) false e (λ_=>c ()) (λz w f A=>vl (A1 (f+1)) λg=>M9 L n z w g c d)))) (cond (not (ltI (bAt b a) (65:Int))) (Fc b a (bAt b a) (not (ltI 90 (bAt b a))) e (λ_=>c ()) (λp h i B=>vl (A1 (i+1)) λj=>M9 L n p h j c d)) (Fc b a (bAt b a) false e (λ_=>c ()) (λq l m C=>vl (A1 (m+1)) λo=>M9 L n q l o c d)))) none) (d b)
theorem A91(a:Code)(d:AV (R:=R) L Q Y s a)(b:AW (R:=R) L Q Y s a)(n:Nat)(c:By)(f e:Int):C5 0 ((Z3 L).keep 2) (bd (Z3 L) Q Y (cd [1,0,1,0,0] (G5 [1,0,1,0,0,1,1,0,0,1,1,1] a Nx))) n ⟨gp [(0,pS c),(6,pI f),(0,pI e)] 33,[],s⟩ k =
 M9 L n c f e (λ_=>k .ret ⟨gp [(2,pB false)] 39,[],s⟩) (λc=>k (.exit 0) ⟨gp [(0,pS c)] 41,[],s⟩):=by
 induction n generalizing c f e with
 | zero=>rfl
 | succ n h=>rw[M9];exact let g:=(E3 1 (E2 (Z3 L) Q Y (cd [1,0,1,0,0,1,1,1] Nx) (lpK 0 ((Z3 L).keep 2) (bd (Z3 L) Q Y (cd [1,0,1,0,0] (G5 [1,0,1,0,0,1,1,0,0,1,1,1] a Nx))) n k)));(o0 (by kernel_rfl) (A0 (A0 (A0 (A0 ((d g c e (bAt c e) f).trans (congr rfl (fx3 λx r t=>(o0 (by kernel_rfl) (h x r (A1 (t+1))))))) (A0 ((b g c e (bAt c e) (not (ltI 90 (bAt c e))) f).trans (congr (congr rfl (by kernel_rfl)) (fx4 λy u v H=>(o0 (by kernel_rfl) (h y u (A1 (v+1))))))) ((b g c e (bAt c e) false f).trans (congr (congr rfl (by kernel_rfl)) (fx4 λz w D A=>(o0 (by kernel_rfl) (A4 λi=>(h z w i)))))))) (A0 ((b g c e (bAt c e) (not (ltI 90 (bAt c e))) f).trans (congr (congr rfl (by kernel_rfl)) (fx4 λp j F B=>(o0 (by kernel_rfl) (A4 λl=>(h p j l)))))) ((b g c e (bAt c e) false f).trans (congr (congr rfl (by kernel_rfl)) (fx4 λq m G C=>(o0 (by kernel_rfl) (A4 λo=>(h q m o)))))))) rfl) rfl))
noncomputable def Cj0{R:Type}(L:Nat)(c:By)(b:Bool->Option R):Option R:=M9 L L c (c.length:Int) 0 (λ_=>b false) (λa=>b (not (a==[])))
theorem C13(a:Code)(b:AV (R:=PV × List Blk × Z) L Q Y s a)(c:AW (R:=PV × List Blk × Z) L Q Y s a)(d:By):A9 (Z3 L) Q Y (cd [] (G5 [1,0,1,0,0,1,1,0,0,1,1,1] a Nx)) ⟨[pS d]++tps 41,[],s⟩ (F5 (Z3 L) ah4)=Cj0 L d (λe=>some (pB e,[],s)):=by unfold Cj0;exact(o0 (by kernel_rfl) ((A91 L Q Y s (E3 0 (E2 (Z3 L) Q Y (cd [1,1] Nx) (F5 (Z3 L) ah4))) a b c L d (d.length:Int) 0).trans (by kernel_rfl)))
theorem C14(d:Nat)(s0):evC (Z3 L) (d+1) Z Y 55 [pS s0] [] s=Cj0 L s0 (λa=>some (pB a,[],s)):=
 (evE (fn:=ah4) (by kernel_rfl)).trans (o0 (by kernel_rfl) (C13 L (evC (Z3 L) d) Y s (cd [1,0,1,0,0,1,1,0,0,1,1,1] Nx) (A89 L (evC (Z3 L) d) Y s) (A90 L (evC (Z3 L) d) Y s) s0))
noncomputable abbrev B45:Code:=C4 aj4
noncomputable def Sp(L:Nat):Cfg:=B4 L [82] (A2 [(3,[0,1,0,0,2,0])]) [] (A2 [(9,[2,0]),(8,[0,3,2,0]),(7,[0,3,2,0]),(6,[2,0]),(5,[0,3,0,1,0,11]),(4,[0,3,0,1,0]),(3,[0,3,2,0,0]),(2,[0,3,2,0]),(1,[0,3]),(0,[0])]) [] (A2 [(0,[4]),(1,[0,3,2,0])]) (some [2,0]) [] [] []
noncomputable def Mn{R:Type}(L n:Nat)(b:By)(h j a:Int)(d:Unit->Option R)(i:Int->Option R):Option R:=match n with|0=>none|n+1=>cond (ltI a j) (cond (inR a b.length) (cond (ltI (bAt b a) (48:Int)) (d ()) (cond (inR a b.length) (cond (ltI 57 (bAt b a)) (d ()) (vl (A1 ((10:Int)*(if ((0:Int) > h) then (0:Int) else h))) λe=>cond (inR a b.length) (vl (wu8 ((bAt b a)-48)) λf=>vl (A1 (e+(A1 f))) λc=>vl (if ((65536:Int)<c) then (65536:Int) else c) λg=>Mn L n b g j (A1 (a+1)) d i) none)) none)) none) (i h)
theorem A84(n s0 n1 n2 n3):C5 0 ((Sp L).keep 3) (bd (Sp L) Q Y (cd [1,1,0,1,0,0] B45)) n ⟨gp [(0,pS s0),(3,pI n1),(2,pI n2),(0,pI n3)] 26,[],s⟩ k =
 Mn L n s0 n1 n2 n3 (λ_=>k .ret ⟨gp [(2,pI (0:Int)),(0,pB false)] 31,[],s⟩) (λn0=>k (.exit 0) ⟨gp [(4,pI n0)] 30,[],s⟩):=by
 induction n generalizing s0 n1 n2 n3 with
 | zero=>rfl
 | succ n a=>rw[Mn];simp only[<-a];kernel_rfl
noncomputable def C06{R:Type}(L:Nat)(c:By)(b:Int->Bool->Option R):Option R:=Mn L L c (-1) (c.length:Int) 0 (λ_=>b 0 false) (λa=>b a (ltI a 65536))
theorem C07(d:Nat)(s0):evC (Sp L) (d+1) Z Y 82 [pS s0] [] s=C06 L s0 (λa b=>some (.tup [pI a,pB b],[],s)):=by refine(evE (fn:=aj4) (by kernel_rfl)).trans ?_;generalize evC (Sp L) d=Q;unfold C06;exact(o0 (by kernel_rfl) ((A84 L Q Y s (E3 0 (E2 (Sp L) Q Y (cd [1,1,1] B45) (F5 (Sp L) aj4))) L s0 (-1) (s0.length:Int) 0).trans (by kernel_rfl)))
noncomputable abbrev Bk:Code:=C4 ah6
noncomputable def W6(L:Nat):Cfg:=B4 L [60] (A2 []) [(80,DD),(59,EJ),(73,Ug),(81,XK),(83,B28),(82,B30),(44,Po)] (A2 [(24,[4,0]),(23,[2,1]),(22,[2,1,8,71]),(21,[2,1,8]),(20,[4,0]),(19,[2,1,6,1,63]),(18,[2,1,6,1,0]),(17,[4,0]),(16,[2,1,3,2,0,54]),(15,[2,1,3,2,0]),(14,[4,0]),(13,[2,1,2,0,50]),(9,[2,1,2,0]),(8,[4,0]),(7,[1,0,1,4,23]),(6,[1,0,1,4]),(12,[2,1,2,0]),(11,[1,0,1,2,0,1,35]),(10,[1,0,1,2,0,1]),(5,[1,0,1,2,0,20]),(4,[1,0,1,2,0]),(3,[1,0,1]),(2,[1,0,1,1,11]),(1,[1,0,1,1]),(0,[1,0,1])]) [80,59,73,83,82,44] (A2 []) (some [4,0]) [] [] []
noncomputable def U8{R:Type}(d e g h:By)(q:Int)(u:By)(r n8 t i j l m n o f:Int)(c:By)(p:Int->Blk->By->By->Int->By->Int->Int->Int->Int->Int->Int->Int->Int->Int->Int->By->(List Blk)->Option R):Option R:=cond (A3 d.length) (vl (C7 d) λa=>cond ((↑(a).2:Int)!=0) (p (↑(a).2:Int) (bU g h q u r n8 t i j l m n o f c) ([]:List UInt8) ([]:List UInt8) 0 ([]:List UInt8) 0 0 0 0 0 0 0 0 0 0 ([]:List UInt8) [(bH (↑(B2.kind (a).1):Int) (B2.name (a).1) (↑(B2.v4 (a).1):Int) (↑(b9 (B2.v6 (a).1) 0 0):Int) (↑(b9 (B2.v6 (a).1) 1 0):Int) (↑(b9 (B2.v6 (a).1) 2 0):Int) (↑(b9 (B2.v6 (a).1) 3 0):Int) (↑(b9 (B2.v6 (a).1) 4 0):Int) (↑(b9 (B2.v6 (a).1) 5 0):Int) (↑(b9 (B2.v6 (a).1) 6 0):Int) (↑(b9 (B2.v6 (a).1) 7 0):Int))]) (cond (A3 e.length) (vl (Gd e ([58]:List UInt8)) λb=>cond (A3 b.length) (cond (not (ai3 (Iz ((-1):Int) b))) (p 16 (bU g h q u r n8 t i j l m n o f c) ([]:List UInt8) ([]:List UInt8) 0 ([]:List UInt8) 0 0 0 0 0 0 0 0 0 0 ([]:List UInt8) [(bH (↑(B2.kind (a).1):Int) (B2.name (a).1) (↑(B2.v4 (a).1):Int) (↑(b9 (B2.v6 (a).1) 0 0):Int) (↑(b9 (B2.v6 (a).1) 1 0):Int) (↑(b9 (B2.v6 (a).1) 2 0):Int) (↑(b9 (B2.v6 (a).1) 3 0):Int) (↑(b9 (B2.v6 (a).1) 4 0):Int) (↑(b9 (B2.v6 (a).1) 5 0):Int) (↑(b9 (B2.v6 (a).1) 6 0):Int) (↑(b9 (B2.v6 (a).1) 7 0):Int))]) (cond ((CY b)!=(N8 g)) (p 0 (bU g h (↑(B2.kind (a).1):Int) (B2.name (a).1) (↑(B2.v4 (a).1):Int) (↑(b9 (B2.v6 (a).1) 0 0):Int) (↑(b9 (B2.v6 (a).1) 1 0):Int) (↑(b9 (B2.v6 (a).1) 2 0):Int) (↑(b9 (B2.v6 (a).1) 3 0):Int) (↑(b9 (B2.v6 (a).1) 4 0):Int) (↑(b9 (B2.v6 (a).1) 5 0):Int) (↑(b9 (B2.v6 (a).1) 6 0):Int) (↑(b9 (B2.v6 (a).1) 7 0):Int) (CY b) c) g h (↑(B2.kind (a).1):Int) (B2.name (a).1) (↑(B2.v4 (a).1):Int) (↑(b9 (B2.v6 (a).1) 0 0):Int) (↑(b9 (B2.v6 (a).1) 1 0):Int) (↑(b9 (B2.v6 (a).1) 2 0):Int) (↑(b9 (B2.v6 (a).1) 3 0):Int) (↑(b9 (B2.v6 (a).1) 4 0):Int) (↑(b9 (B2.v6 (a).1) 5 0):Int) (↑(b9 (B2.v6 (a).1) 6 0):Int) (↑(b9 (B2.v6 (a).1) 7 0):Int) (CY b) c [(bH (↑(B2.kind (a).1):Int) (B2.name (a).1) (↑(B2.v4 (a).1):Int) (↑(b9 (B2.v6 (a).1) 0 0):Int) (↑(b9 (B2.v6 (a).1) 1 0):Int) (↑(b9 (B2.v6 (a).1) 2 0):Int) (↑(b9 (B2.v6 (a).1) 3 0):Int) (↑(b9 (B2.v6 (a).1) 4 0):Int) (↑(b9 (B2.v6 (a).1) 5 0):Int) (↑(b9 (B2.v6 (a).1) 6 0):Int) (↑(b9 (B2.v6 (a).1) 7 0):Int))]) (p 0 (bU g h (↑(B2.kind (a).1):Int) (B2.name (a).1) (↑(B2.v4 (a).1):Int) (↑(b9 (B2.v6 (a).1) 0 0):Int) (↑(b9 (B2.v6 (a).1) 1 0):Int) (↑(b9 (B2.v6 (a).1) 2 0):Int) (↑(b9 (B2.v6 (a).1) 3 0):Int) (↑(b9 (B2.v6 (a).1) 4 0):Int) (↑(b9 (B2.v6 (a).1) 5 0):Int) (↑(b9 (B2.v6 (a).1) 6 0):Int) (↑(b9 (B2.v6 (a).1) 7 0):Int) f c) g h (↑(B2.kind (a).1):Int) (B2.name (a).1) (↑(B2.v4 (a).1):Int) (↑(b9 (B2.v6 (a).1) 0 0):Int) (↑(b9 (B2.v6 (a).1) 1 0):Int) (↑(b9 (B2.v6 (a).1) 2 0):Int) (↑(b9 (B2.v6 (a).1) 3 0):Int) (↑(b9 (B2.v6 (a).1) 4 0):Int) (↑(b9 (B2.v6 (a).1) 5 0):Int) (↑(b9 (B2.v6 (a).1) 6 0):Int) (↑(b9 (B2.v6 (a).1) 7 0):Int) f c [(bH (↑(B2.kind (a).1):Int) (B2.name (a).1) (↑(B2.v4 (a).1):Int) (↑(b9 (B2.v6 (a).1) 0 0):Int) (↑(b9 (B2.v6 (a).1) 1 0):Int) (↑(b9 (B2.v6 (a).1) 2 0):Int) (↑(b9 (B2.v6 (a).1) 3 0):Int) (↑(b9 (B2.v6 (a).1) 4 0):Int) (↑(b9 (B2.v6 (a).1) 5 0):Int) (↑(b9 (B2.v6 (a).1) 6 0):Int) (↑(b9 (B2.v6 (a).1) 7 0):Int))]))) none) none)) none
abbrev Pb(b:Code):Prop:=∀(k:Out->St Z->Option R) name0 tail1 b2 j s4 n5 s6 h n8 i a c d e f g n16 s17,A9 (W6 L) Q Y b ⟨gp [(2,.ptr 0 0 0),(1,.ptr 1 0 0),(2,pS name0),(0,pS tail1),(50,pB b2)] 29,[(bU j s4 n5 s6 h n8 i a c d e f g n16 s17),bU0],s⟩ k=U8 name0 tail1 j s4 n5 s6 h n8 i a c d e f g n16 s17 (λn0 n q j o r p h n8 i a c d e f g m l=>k .ret ⟨gp [(4,.ptr 1 0 0),(0,pI n0)] 83,(n::(bU q j o r p h n8 i a c d e f g m)::l),s⟩)
theorem Xn:Pb (R:=R) L Q Y s (cd [1,1,1,1,1] Bk):=by intro k a b l p q m r n n8 o c d e f g h i j;unfold U8;kernel_rfl
noncomputable def P3{R:Type}(b a s2 s3:By)(n4:Int)(s5:By)(n6 n7 n8 n9 c d e f g h:Int)(i:By)(k0:Int->Blk->By->By->Int->By->Int->Int->Int->Int->Int->Int->Int->Int->Int->Int->By->(List Blk)->Option R):Option R:=cond (not (a==[])) (cond (inR 0 a.length) (cond ((bAt a (0:Int))!=58) (k0 4 (bU s2 s3 n4 s5 n6 n7 n8 n9 c d e f g h i) ([]:List UInt8) ([]:List UInt8) 0 ([]:List UInt8) 0 0 0 0 0 0 0 0 0 0 ([]:List UInt8) []) (U8 b a s2 s3 n4 s5 n6 n7 n8 n9 c d e f g h i (λo j P S p T q r t u v w x y z A U m=>k0 o j P S p T q r t u v w x y z A U m))) none) (U8 b a s2 s3 n4 s5 n6 n7 n8 n9 c d e f g h i (λB l V W C X D F G H I J K M N O a0 n=>k0 B l V W C X D F G H I J K M N O a0 n))
abbrev Pc(b:Code):Prop:=∀(k:Out->St Z->Option R) name0 tail1 n o i p j l n8 m a c d e f g h,A9 (W6 L) Q Y b ⟨gp [(2,.ptr 0 0 0),(1,.ptr 1 0 0),(2,pS name0),(0,pS tail1)] 80,[(bU n o i p j l n8 m a c d e f g h),bU0],s⟩ k=P3 name0 tail1 n o i p j l n8 m a c d e f g h (λn0 r n o i p j l n8 m a c d e f g h q=>k .ret ⟨gp [(4,.ptr 1 0 0),(0,pI n0)] 83,(r::(bU n o i p j l n8 m a c d e f g h)::q),s⟩)
theorem WO(b:Code)(a:Pb (R:=R) L Q Y s b):Pc (R:=R) L Q Y s (cd [1,1,1,1] (G5 [1,1,1,1,1] b Bk)):=by intro k d c q r m t n o n8 p e f g h i j l;unfold P3;exact(o0 (by kernel_rfl) (A0 (A0 (A0 rfl ((a k d c ((bAt c (0:Int))!=58) q r m t n o n8 p e f g h i j l).trans (by kernel_rfl))) rfl) ((a k d c false q r m t n o n8 p e f g h i j l).trans (by kernel_rfl))))
theorem WQ:Pc (R:=R) L Q Y s (cd [1,1,1,1] Bk):=by intro k a b o p j q l m n8 n c d e f g h i;exact o0 (by kernel_rfl) (WO L Q Y s (cd [1,1,1,1,1] Bk) (Xn L Q Y s) k a b o p j q l m n8 n c d e f g h i)
noncomputable def Qr{R:Type}(a I J:By)(F:Int)(K:By)(G n8 H v w x y z A B:Int)(C:By)(D:Int->Blk->By->By->Int->By->Int->Int->Int->Int->Int->Int->Int->Int->Int->Int->By->(List Blk)->Option R):Option R:=U8 a ([]:List UInt8) I J F K G n8 H v w x y z A B C (λd b q r e t f g h i j l m n o p u c=>D d b q r e t f g h i j l m n o p u c)
abbrev Pd(b:Code):Prop:=∀(k:Out->St Z->Option R) authority0 kk1 b2 j s4 n5 s6 h n8 i a c d e f g n16 s17,A9 (W6 L) Q Y b ⟨gp [(1,pS authority0),(0,.ptr 0 0 0),(1,.ptr 1 0 0),(2,pS authority0),(0,pS ([]:List UInt8)),(1,pI kk1),(35,pB b2)] 42,[(bU j s4 n5 s6 h n8 i a c d e f g n16 s17),bU0],s⟩ k=Qr authority0 j s4 n5 s6 h n8 i a c d e f g n16 s17 (λn0 n q j o r p h n8 i a c d e f g m l=>k .ret ⟨gp [(4,.ptr 1 0 0),(0,pI n0)] 83,(n::(bU q j o r p h n8 i a c d e f g m)::l),s⟩)
theorem WR(c:Code)(a:Pb (R:=R) L Q Y s c):Pd (R:=R) L Q Y s (cd [1,1,1,1] (G5 [1,1,1,1,1] c Bk)):=by intro k b m u q r n t o n8 p d e f g h i j l;unfold Qr;exact(o0 (by kernel_rfl) ((a k b ([]:List UInt8) false q r n t o n8 p d e f g h i j l).trans (by kernel_rfl)))
theorem WS:Pd (R:=R) L Q Y s (cd [1,1,1,1] Bk):=by intro k a b l p q m r n n8 o c d e f g h i j;exact o0 (by kernel_rfl) (WR L Q Y s (cd [1,1,1,1,1] Bk) (Xn L Q Y s) k a b l p q m r n n8 o c d e f g h i j)
noncomputable def Tw{R:Type}(L:Nat)(u0 u1:By)(u2:Int)(u3:By)(u4 u5 u6 u7 u8 u9 e f g h:Int)(i a:By)(k0:By->By->Int->By->Int->Int->Int->Int->Int->Int->Int->Int->Int->Int->By->Int->(List Blk)->Option R):Option R:=cond (A3 a.length) (vl (K9 (u8n (64:Int)) a) λc5=>cond (not (ltI c5 0)) (cond (I2 0 c5 a.length) (vl (cut a 0 c5) λe8=>cond (I2 (A1 (c5+1)) (a.length:Int) a.length) (vl (cut a (A1 (c5+1)) (a.length:Int)) λb=>cond (A3 b.length) (cond (w8 ([91]:List UInt8) b) (cond (A3 b.length) (vl (j8 b (u8n (93:Int))) λJ=>cond (ltI J 0) (k0 ([]:List UInt8) ([]:List UInt8) 0 ([]:List UInt8) 0 0 0 0 0 0 0 0 0 0 ([]:List UInt8) 4 [(bU u0 e8 u2 u3 u4 u5 u6 u7 u8 u9 e f g h i),bU0]) (vl (A1 (J+1)) λe9=>cond (I2 0 e9 b.length) (vl (A1 (J+1)) λf0=>cond (I2 f0 (b.length:Int) b.length) (vl (cut b f0 (b.length:Int)) λi6=>P3 (cut b 0 e9) i6 u0 e8 u2 u3 u4 u5 u6 u7 u8 u9 e f g h i (λi5 i4 g4 g5 f3 g6 f4 f5 f6 f7 f8 f9 g0 g1 g2 g3 g7 h3=>k0 g4 g5 f3 g6 f4 f5 f6 f7 f8 f9 g0 g1 g2 g3 g7 i5 (i4::((bU g4 g5 f3 g6 f4 f5 f6 f7 f8 f9 g0 g1 g2 g3 g7)::h3)))) none) none)) none) (cond (A3 b.length) (vl (j8 b (u8n (58:Int))) λc=>cond (not (ltI c 0)) (cond (I2 0 c b.length) (cond (I2 c (b.length:Int) b.length) (vl (cut b c (b.length:Int)) λi7=>P3 (cut b 0 c) i7 u0 e8 u2 u3 u4 u5 u6 u7 u8 u9 e f g h i (λh9 g8 c6 c7 j c8 l m n o p q r t u v d0 h4=>k0 c6 c7 j c8 l m n o p q r t u v d0 h9 (g8::((bU c6 c7 j c8 l m n o p q r t u v d0)::h4)))) none) none) (Qr b u0 e8 u2 u3 u4 u5 u6 u7 u8 u9 e f g h i (λi0 g9 d1 d2 w d3 x y z A B C D F G H d4 h5=>k0 d1 d2 w d3 x y z A B C D F G H d4 i0 (g9::((bU d1 d2 w d3 x y z A B C D F G H d4)::h5))))) none)) none) none) none) (cond (A3 a.length) (cond (w8 ([91]:List UInt8) a) (cond (A3 a.length) (vl (j8 a (u8n (93:Int))) λc4=>cond (ltI c4 0) (k0 ([]:List UInt8) ([]:List UInt8) 0 ([]:List UInt8) 0 0 0 0 0 0 0 0 0 0 ([]:List UInt8) 4 [(bU u0 u1 u2 u3 u4 u5 u6 u7 u8 u9 e f g h i),bU0]) (vl (A1 (c4+1)) λf1=>cond (I2 0 f1 a.length) (vl (cut a 0 f1) λi9=>vl (A1 (c4+1)) λf2=>cond (I2 f2 (a.length:Int) a.length) (vl (cut a f2 (a.length:Int)) λj3=>P3 i9 j3 u0 u1 u2 u3 u4 u5 u6 u7 u8 u9 e f g h i (λi1 h0 d5 d6 I d7 K M N O P S T U V W d8 h6=>k0 d5 d6 I d7 K M N O P S T U V W d8 i1 (h0::((bU d5 d6 I d7 K M N O P S T U V W d8)::h6)))) none) none)) none) (cond (A3 a.length) (vl (j8 a (u8n (58:Int))) λd=>cond (not (ltI d 0)) (cond (I2 0 d a.length) (vl (cut a 0 d) λk1=>cond (I2 d (a.length:Int) a.length) (vl (cut a d (a.length:Int)) λk2=>P3 k1 k2 u0 u1 u2 u3 u4 u5 u6 u7 u8 u9 e f g h i (λi2 h1 d9 e1 X e2 a0 a1 a2 a3 a4 a5 a6 a7 a9 b0 e3 h7=>k0 d9 e1 X e2 a0 a1 a2 a3 a4 a5 a6 a7 a9 b0 e3 i2 (h1::((bU d9 e1 X e2 a0 a1 a2 a3 a4 a5 a6 a7 a9 b0 e3)::h7)))) none) none) (Qr a u0 u1 u2 u3 u4 u5 u6 u7 u8 u9 e f g h i (λi3 h2 e4 e5 b1 e6 b2 b3 b4 b5 b6 b7 c0 c1 c2 c3 e7 h8=>k0 e4 e5 b1 e6 b2 b3 b4 b5 b6 b7 c0 c1 c2 c3 e7 i3 (h2::((bU e4 e5 b1 e6 b2 b3 b4 b5 b6 b7 c0 c1 c2 c3 e7)::h8))))) none)) none)) none
theorem By1(d:Code)(a:Pc (R:=PV × List Blk × Z) L Q Y s d)(c:Pd (R:=PV × List Blk × Z) L Q Y s d)(m G:By)(n:Int)(o:By)(p q r t u8 u e f g h:Int)(i b:By):A9 (W6 L) Q Y (cd [] (G5 [1,1,1,1] d Bk)) ⟨[(gU m G n o p q r t u8 u e f g h i),pS b]++tps 87,[],s⟩ (F5 (W6 L) ah6)=Tw L m G n o p q r t u8 u e f g h i b (λX r1 r2 r3 r4 r5 r6 r7 r8 r9 I J K M N O H=>some (.tup [(gU X r1 r2 r3 r4 r5 r6 r7 r8 r9 I J K M N),pI O],H,s)):=by unfold Tw;exact let x:=(F5 (W6 L) ah6);(o0 (by kernel_rfl) (A0 (A4 λW=>(A0 (A0 (A4 λv=>(A0 (A4 λw=>(A0 (A0 (A0 (A4 λP=>(A0 rfl (A4 λy=>(A0 (A4 λS=>(A0 (A4 λz=>((a x (cut w 0 y) z m v n o p q r t u8 u e f g h i).trans (by kernel_rfl))) rfl)) rfl)))) rfl) (A0 (A4 λj=>(A0 (A0 (A0 (A4 λA=>((a x (cut w 0 j) A m v n o p q r t u8 u e f g h i).trans (by kernel_rfl))) rfl) rfl) ((c x w j (not (ltI j 0)) m v n o p q r t u8 u e f g h i).trans (by kernel_rfl)))) rfl)) rfl)) rfl)) rfl) (A0 (A0 (A0 (A4 λT=>(A0 rfl (A4 λU=>(A0 (A4 λB=>(A4 λV=>(A0 (A4 λC=>((a x B C m G n o p q r t u8 u e f g h i).trans (by kernel_rfl))) rfl))) rfl)))) rfl) (A0 (A4 λl=>(A0 (A0 (A4 λD=>(A0 (A4 λF=>((a x D F m G n o p q r t u8 u e f g h i).trans (by kernel_rfl))) rfl)) rfl) ((c x b l (not (ltI l 0)) m G n o p q r t u8 u e f g h i).trans (by kernel_rfl)))) rfl)) rfl))) rfl))
theorem By2(d:Nat)(u0 u1 u2 u3 u4 u5 u6 u7 u8 u9 u10 u11 u12 u13 u14 authority15):evC (W6 L) (d+1) Z Y 60 [(gU u0 u1 u2 u3 u4 u5 u6 u7 u8 u9 u10 u11 u12 u13 u14),pS authority15] [] s=Tw L u0 u1 u2 u3 u4 u5 u6 u7 u8 u9 u10 u11 u12 u13 u14 authority15 (λi j l m n o p q r8 r b c e f g h a=>some (.tup [(gU i j l m n o p q r8 r b c e f g),pI h],a,s)):=
 (evE (fn:=ah6) (by kernel_rfl)).trans (o0 (by kernel_rfl) (By1 L (evC (W6 L) d) Y s (cd [1,1,1,1] Bk) (WQ L (evC (W6 L) d) Y s) (WS L (evC (W6 L) d) Y s) u0 u1 u2 u3 u4 u5 u6 u7 u8 u9 u10 u11 u12 u13 u14 authority15))
noncomputable abbrev B46:Code:=C4 aj3
noncomputable def Sq(L:Nat):Cfg:=B4 L [40] (A2 [(2,[0,1,0,8,0])]) [(54,Am1),(55,B31),(56,Al0),(22,Ui),(57,Ak5),(58,RE),(59,EJ),(60,XR)] (A2 [(23,[2,0]),(22,[2,5,0]),(21,[2,5,0,65]),(20,[2,5,0]),(19,[2,3,1,0]),(18,[2,3,1,0,0,52]),(17,[2,3,1,0,0]),(16,[2,3,1,0]),(15,[2,0]),(14,[2,3,1,48]),(13,[2,3,0,0]),(12,[2,0]),(11,[2,3,1,40]),(10,[2,3,1]),(9,[2,0]),(8,[2,2,0,33]),(7,[2,2,0,0]),(6,[0,1,9,0]),(5,[2,0]),(4,[0,1,9,0,11]),(3,[0,1,1,7,0]),(2,[0,1,9,0,0]),(1,[0,1,9,0]),(0,[0,1])]) [54,55,56,22,57,58,59] (A2 [(0,[0,1]),(1,[0,1,9,0])]) (some [2,0]) [] [] []
noncomputable def Il{R:Type}(L n:Nat)(b:By)(e a:Int)(c:(List Blk)->Option R)(d:By->Option R):Option R:=match n with|0=>none|n+1=>cond (ltI a e) (cond (inR a b.length) (cond (not (ltI 32 (bAt b a))) (c []) (cond (inR a b.length) (cond ((bAt b a)==127) (c []) (Il L n b e (A1 (a+1)) c d)) none)) none) (d b)
theorem A88(n a n1 n2):C5 1 ((Sq L).keep 2) (bd (Sq L) Q Y (cd [1,0,1,0,0] B46)) n ⟨gp [(0,pS a),(1,.ptr 0 0 0),(9,pI n1),(0,pI n2)] 71,[bU0],s⟩ k =
 Il L n a n1 n2 (λb=>k .ret ⟨gp [(2,.ptr 0 0 0),(0,pI (4:Int))] 81,(bU0::b),s⟩) (λa=>k (.exit 0) ⟨gp [(0,pS a),(1,.ptr 0 0 0)] 82,[bU0],s⟩):=by
 induction n generalizing a n1 n2 with
 | zero=>rfl
 | succ n c=>rw[Il];simp only[<-c];kernel_rfl
noncomputable def LQ{R:Type}(L:Nat)(q:By)(n:By->By->Int->By->Int->Int->Int->Int->Int->Int->Int->Int->Int->Int->By->Int->(List Blk)->Option R):Option R:=Il L L q (q.length:Int) 0 (λp=>n ([]:List UInt8) ([]:List UInt8) 0 ([]:List UInt8) 0 0 0 0 0 0 0 0 0 0 ([]:List UInt8) 4 (bU0::p)) (λo=>cond (A3 o.length) (vl ((s8 o ([58]:List UInt8))).1 λf=>vl (((s8 o ([58]:List UInt8))).2).1 λj=>cond (not (((s8 o ([58]:List UInt8))).2).2) (n ([]:List UInt8) ([]:List UInt8) 0 ([]:List UInt8) 0 0 0 0 0 0 0 0 0 0 ([]:List UInt8) 15 [bU0]) (cond (A3 f.length) (cond (not (V8 f)) (n ([]:List UInt8) ([]:List UInt8) 0 ([]:List UInt8) 0 0 0 0 0 0 0 0 0 0 ([]:List UInt8) 15 [bU0]) (cond (A3 f.length) (cond (not (J3 (B6 f))) (n (B6 f) ([]:List UInt8) 0 ([]:List UInt8) 0 0 0 0 0 0 0 0 0 (-1) j 0 [(bU (B6 f) ([]:List UInt8) (0:Int) ([]:List UInt8) (0:Int) (0:Int) (0:Int) (0:Int) (0:Int) (0:Int) (0:Int) (0:Int) (0:Int) ((-1):Int) j),(bU (B6 f) ([]:List UInt8) (0:Int) ([]:List UInt8) (0:Int) (0:Int) (0:Int) (0:Int) (0:Int) (0:Int) (0:Int) (0:Int) (0:Int) ((-1):Int) j)]) (cond (A3 j.length) (vl (Gd j ([47,47]:List UInt8)) λe=>cond (not (w8 ([47,47]:List UInt8) j)) (n ([]:List UInt8) ([]:List UInt8) 0 ([]:List UInt8) 0 0 0 0 0 0 0 0 0 0 ([]:List UInt8) 4 [bU0,(bU (B6 f) ([]:List UInt8) (0:Int) ([]:List UInt8) (0:Int) (0:Int) (0:Int) (0:Int) (0:Int) (0:Int) (0:Int) (0:Int) (0:Int) ((-1):Int) j)]) (cond (A3 e.length) (cond (Zx ([47,63,35]:List UInt8)) (vl (y9 e ([47,63,35]:List UInt8)) λi=>cond (not (ltI i 0)) (cond (I2 0 i e.length) (cond (I2 (↑(b8 (cut e 0 i)):Int) (e.length:Int) e.length) (vl (cut e (↑(b8 (cut e 0 i)):Int) (e.length:Int)) λg=>cond (A3 g.length) (cond (not (w8 ([47]:List UInt8) g)) (cond (E5 1 g.length) (vl (([47]:List UInt8)++g) λl=>cond (A3 (b8 (B6 f))) (cond (A3 l.length) (cond (A3 (b8 (cut e 0 i))) (cond (((-1):Int)==((-1):Int)) (vl (H4 (B6 f) l (cut e 0 i)) λa=>n (uS a) (uU a) (uK a) (uN a) (uV a) (uA a 0) (uA a 1) (uA a 2) (uA a 3) (uA a 4) (uA a 5) (uA a 6) (uA a 7) (uP a) (uR a) (uE a) [(bQ a),(bU (B6 f) ([]:List UInt8) (0:Int) ([]:List UInt8) (0:Int) (0:Int) (0:Int) (0:Int) (0:Int) (0:Int) (0:Int) (0:Int) (0:Int) ((-1):Int) l)]) none) none) none) none) none) (cond (A3 (b8 (B6 f))) (cond (A3 g.length) (cond (A3 (b8 (cut e 0 i))) (cond (((-1):Int)==((-1):Int)) (vl (H4 (B6 f) g (cut e 0 i)) λb=>n (uS b) (uU b) (uK b) (uN b) (uV b) (uA b 0) (uA b 1) (uA b 2) (uA b 3) (uA b 4) (uA b 5) (uA b 6) (uA b 7) (uP b) (uR b) (uE b) [(bQ b),(bU (B6 f) ([]:List UInt8) (0:Int) ([]:List UInt8) (0:Int) (0:Int) (0:Int) (0:Int) (0:Int) (0:Int) (0:Int) (0:Int) (0:Int) ((-1):Int) g)]) none) none) none) none)) none) none) none) (cond (I2 (e.length:Int) (e.length:Int) e.length) (vl (cut e (e.length:Int) (e.length:Int)) λh=>cond (A3 h.length) (cond (not (w8 ([47]:List UInt8) h)) (cond (E5 1 h.length) (vl (([47]:List UInt8)++h) λm=>cond (A3 (b8 (B6 f))) (cond (A3 m.length) (cond (A3 e.length) (cond (((-1):Int)==((-1):Int)) (vl (H4 (B6 f) m e) λc=>n (uS c) (uU c) (uK c) (uN c) (uV c) (uA c 0) (uA c 1) (uA c 2) (uA c 3) (uA c 4) (uA c 5) (uA c 6) (uA c 7) (uP c) (uR c) (uE c) [(bQ c),(bU (B6 f) ([]:List UInt8) (0:Int) ([]:List UInt8) (0:Int) (0:Int) (0:Int) (0:Int) (0:Int) (0:Int) (0:Int) (0:Int) (0:Int) ((-1):Int) m)]) none) none) none) none) none) (cond (A3 (b8 (B6 f))) (cond (A3 h.length) (cond (A3 e.length) (cond (((-1):Int)==((-1):Int)) (vl (H4 (B6 f) h e) λd=>n (uS d) (uU d) (uK d) (uN d) (uV d) (uA d 0) (uA d 1) (uA d 2) (uA d 3) (uA d 4) (uA d 5) (uA d 6) (uA d 7) (uP d) (uR d) (uE d) [(bQ d),(bU (B6 f) ([]:List UInt8) (0:Int) ([]:List UInt8) (0:Int) (0:Int) (0:Int) (0:Int) (0:Int) (0:Int) (0:Int) (0:Int) (0:Int) ((-1):Int) h)]) none) none) none) none)) none) none)) none) none)) none)) none)) none)) none)
theorem C08(d:Nat)(s0):evC (Sq L) (d+1) Z Y 40 [pS s0] [] s=LQ L s0 (λi j l m n o p q r8 r b c e f g h a=>some (.tup [(gU i j l m n o p q r8 r b c e f g),pI h],a,s)):=by refine(evE (fn:=aj3) (by kernel_rfl)).trans ?_;generalize evC (Sq L) d=Q;unfold LQ;exact(o0 (by kernel_rfl) ((A88 L Q Y s (E3 0 (E2 (Sq L) Q Y (cd [1,1] B46) (F5 (Sq L) aj3))) L s0 (s0.length:Int) 0).trans (by kernel_rfl)))
noncomputable def HA(L:Nat):Cfg:=B4 L [13] (A2 []) [(40,Am3)] (A2 [(3,[2,0]),(2,[2,0]),(1,[0,1,3]),(0,[0,1])]) [] (A2 []) (some [2,0]) [] [] []
noncomputable def WN{R:Type}(L:Nat)(b:By)(c:By->By->Int->By->Int->Int->Int->Int->Int->Int->Int->Int->Int->Int->By->Int->(List Blk)->Option R):Option R:=cond (ltI 2048 (b.length:Int)) (c ([]:List UInt8) ([]:List UInt8) 0 ([]:List UInt8) 0 0 0 0 0 0 0 0 0 0 ([]:List UInt8) 3 [bU0]) (cond (A3 b.length) (vl (C0 b) λa=>c (uS a) (uU a) (uK a) (uN a) (uV a) (uA a 0) (uA a 1) (uA a 2) (uA a 3) (uA a 4) (uA a 5) (uA a 6) (uA a 7) (uP a) (uR a) (uE a) [(bQ a)]) none)
theorem Bx9(d:Nat)(s0):evC (HA L) (d+1) Z Y 13 [pS s0] [] s=WN L s0 (λi j l m n o p q r8 r b c e f g h a=>some (.tup [(gU i j l m n o p q r8 r b c e f g),pI h],a,s)):=by refine(evE (fn:=Tryz.f13) (by kernel_rfl)).trans ?_;generalize evC (HA L) d=Q;unfold WN;kernel_rfl
noncomputable def TJ(L:Nat):Cfg:=B4 L [42] (A2 []) [(22,Ui),(50,B11),(51,Bb1)] (A2 [(9,[2]),(8,[1,1]),(7,[1,1,28]),(6,[1,1]),(5,[1,1]),(4,[1,1,15]),(3,[1,1]),(2,[2]),(1,[1,5]),(0,[1])]) [22,50,51] (A2 []) (some [2]) [] [] []
noncomputable def Ri{R:Type}(L:Nat)(l t:By)(u:Int)(m:By)(n o p q u8 r e f g b:Int)(a:By)(v:By->(List Blk)->Option R):Option R:=cond (not (J3 l)) (cond (E5 l.length 1) (vl (l++[58]) λw=>cond (E5 w.length a.length) (v (w++a) [(bU l t u m n o p q u8 r e f g b a)]) none) none) (cond (E5 l.length 3) (vl (l++[58,47,47]) λc=>cond (not (t==[])) (cond (E5 t.length 1) (vl (t++[64]) λh=>cond (E5 c.length h.length) (cond (A3 m.length) (cond (ltN n 4294967296) (cond (ok8 o p q u8 r e f g) (vl (Iv (mkH u m n (n8 o p q u8 r e f g))) λj=>cond (E5 (b8 (c++h)) j.length) (cond (b !=((-1):Int)) (cond (An b) (cond (E5 1 (b8 (Js b))) (vl (([58]:List UInt8)++(Js b)) λz=>cond (E5 (b8 ((c++h)++j)) z.length) (vl (((c++h)++j)++z) λA=>cond (E5 A.length a.length) (v (A++a) [(bU l t u m n o p q u8 r e f g b a)]) none) none) none) none) (cond (E5 (b8 ((c++h)++j)) a.length) (vl (((c++h)++j)++a) λx=>v x [(bU l t u m n o p q u8 r e f g b a)]) none)) none) none) none) none) none) none) (cond (A3 m.length) (cond (ltN n 4294967296) (cond (ok8 o p q u8 r e f g) (vl (Iv (mkH u m n (n8 o p q u8 r e f g))) λd=>cond (E5 c.length d.length) (cond (b !=((-1):Int)) (cond (An b) (cond (E5 1 (b8 (Js b))) (vl (([58]:List UInt8)++(Js b)) λi=>cond (E5 (b8 (c++d)) i.length) (cond (E5 (b8 ((c++d)++i)) a.length) (vl (((c++d)++i)++a) λy=>v y [(bU l t u m n o p q u8 r e f g b a)]) none) none) none) none) (cond (E5 (b8 (c++d)) a.length) (v ((c++d)++a) [(bU l t u m n o p q u8 r e f g b a)]) none)) none) none) none) none)) none)
theorem Cj2(d:Nat)(u0 u1 u2 u3 u4 u5 u6 u7 u8 u9 u10 u11 u12 u13 u14):evC (TJ L) (d+1) Z Y 42 [(gU u0 u1 u2 u3 u4 u5 u6 u7 u8 u9 u10 u11 u12 u13 u14)] [] s=Ri L u0 u1 u2 u3 u4 u5 u6 u7 u8 u9 u10 u11 u12 u13 u14 (λb a=>some (pS b,a,s)):=by refine(evE (fn:=Tryz.f42) (by kernel_rfl)).trans ?_;generalize evC (TJ L) d=Q;unfold Ri;kernel_rfl
noncomputable def Zg(L:Nat):Cfg:=B4 L [16] (A2 []) [(42,RS),(40,Am3)] (A2 [(2,[2]),(1,[1,1,0]),(0,[1])]) [42] (A2 []) (some [2]) [] [] []
noncomputable def ED{R:Type}(L:Nat)(h i:By)(q:Int)(j:By)(l m n o u8 p b c d e:Int)(f:By)(r:Bool->(List Blk)->Option R):Option R:=cond (smU h i j f) (cond (ltN l 4294967296) (cond (ok8 m n o u8 p b c d) (cond (An e) (vl (X4 (mkU h i q j l (n8 m n o u8 p b c d) e f)) λg=>cond (A3 g.length) (vl (C0 g) λa=>cond ((uE a)==0) (r ((h==(uS a))&&((i==(uU a))&&((q==(uK a))&&((j==(uN a))&&((l==(uV a))&&((m==(uA a 0))&&((n==(uA a 1))&&((o==(uA a 2))&&((u8==(uA a 3))&&((p==(uA a 4))&&((b==(uA a 5))&&((c==(uA a 6))&&((d==(uA a 7))&&((e==(uP a))&&((f==(uR a))&&true))))))))))))))) [(bU h i q j l m n o u8 p b c d e f),(bQ a)]) (r false [(bU h i q j l m n o u8 p b c d e f),(bQ a)])) none) none) none) none) none
theorem A93(d:Nat)(u0 u1 u2 u3 u4 u5 u6 u7 u8 u9 u10 u11 u12 u13 u14):evC (Zg L) (d+1) Z Y 16 [(gU u0 u1 u2 u3 u4 u5 u6 u7 u8 u9 u10 u11 u12 u13 u14)] [] s=ED L u0 u1 u2 u3 u4 u5 u6 u7 u8 u9 u10 u11 u12 u13 u14 (λb a=>some (pB b,a,s)):=by refine(evE (fn:=Tryz.f16) (by kernel_rfl)).trans ?_;generalize evC (Zg L) d=Q;unfold ED;kernel_rfl
noncomputable def Ap5(L:Nat):Cfg:=B4 L [15] (A2 []) [(16,Pp),(42,RS)] (A2 [(3,[2]),(2,[2]),(1,[1,3]),(0,[1])]) [16,42] (A2 []) (some [2]) [] [] []
noncomputable def C01{R:Type}(L:Nat)(f g:By)(o:Int)(h:By)(i j l m u8 n a b c d:Int)(e:By)(q:By->(List Blk)->Option R):Option R:=cond (smU f g h e) (cond (ltN i 4294967296) (cond (ok8 j l m u8 n a b c) (cond (An d) (cond (not (Z7 (mkU f g o h i (n8 j l m u8 n a b c) d e))) (q ([]:List UInt8) [(bU f g o h i j l m u8 n a b c d e)]) (cond (smU f g h e) (cond (ltN i 4294967296) (cond (ok8 j l m u8 n a b c) (cond (An d) (vl (X4 (mkU f g o h i (n8 j l m u8 n a b c) d e)) λp=>q p [(bU f g o h i j l m u8 n a b c d e)]) none) none) none) none)) none) none) none) none
theorem C02(d:Nat)(u0 u1 u2 u3 u4 u5 u6 u7 u8 u9 u10 u11 u12 u13 u14):evC (Ap5 L) (d+1) Z Y 15 [(gU u0 u1 u2 u3 u4 u5 u6 u7 u8 u9 u10 u11 u12 u13 u14)] [] s=C01 L u0 u1 u2 u3 u4 u5 u6 u7 u8 u9 u10 u11 u12 u13 u14 (λb a=>some (pS b,a,s)):=by refine(evE (fn:=Tryz.f15) (by kernel_rfl)).trans ?_;generalize evC (Ap5 L) d=Q;unfold C01;kernel_rfl
end
section
variable {Z R : Type} (L : Nat) (Q : F7) (Y : Yh Z) (s : Z) (k : Out -> St Z -> Option R)
noncomputable def Ze(L:Nat):Cfg:=B4 L [76] (A2 []) [] (A2 [(1,[2]),(0,[0])]) [] (A2 []) (some [2]) [] [] []
noncomputable def WC{R:Type}(L:Nat)(a:Int)(b:Bool->Option R):Option R:=b (ltI (8:Int) a)
theorem A76(d:Nat)(a:Int):evC (Ze L) (d+1) Z Y 76 [.s (.int .i64 a)] [] s=WC L a (λb=>some (.s (.bool b),[],s)):=by refine(evE (fn:=Tryz.f76) (by kernel_rfl)).trans ?_;generalize evC (Ze L) d=Q;unfold WC;kernel_rfl
noncomputable abbrev Um:Code:=C4 ag5
noncomputable def Bl(L:Nat):Cfg:=B4 L [101] (A2 []) [] (A2 [(5,[2]),(2,[2]),(4,[2]),(3,[10]),(1,[0,2]),(0,[0])]) [] (A2 [(0,[])]) (some [2]) [] [] []
noncomputable def Km{R:Type}(a:Int)(d:Bool)(b:Unit->Option R)(c:Bool->Option R):Option R:=cond d (b ()) (cond (ltI (57343:Int) a) (cond (not (ltI (1114111:Int) a)) (b ()) (c (not (ltI (1114111:Int) a)))) (c false))
abbrev CT(b:Code):Prop:=∀(k:Out->St Z->Option R) (c:Int) (a:Bool),A9 (Bl L) Q Y b ⟨gp [(0,.s (.int .i32 c)),(2,.s (.bool a))] 13,[],s⟩ k=Km c a (λ_=>k .ret ⟨gp [(2,.s (.bool true))] 14,[],s⟩) (λd=>k .normal ⟨gp [(10,.s (.bool d))] 6,[],s⟩)
theorem WT:CT (R:=R) L Q Y s (cd [1,0,0,1] Um):=by intro k b a;unfold Km;kernel_rfl
noncomputable def KF{R:Type}(L:Nat)(b:Int)(a:Bool->Option R):Option R:=cond (not (ltI b (0:Int))) (Km b (ltI b (55296:Int)) (λ_=>a true) (λc=>a false)) (Km b false (λ_=>a true) (λd=>a false))
theorem By7(b:Code)(a:CT (R:=PV × List Blk × Z) L Q Y s b)(c:Int):A9 (Bl L) Q Y (cd [] (G5 [1,0,0,1] b Um)) ⟨[.s (.int .i32 c)]++tps 16,[],s⟩ (F5 (Bl L) ag5)=KF L c (λc=>some (.s (.bool c),[],s)):=by unfold KF;exact let d:=(E3 0 (E2 (Bl L) Q Y (cd [1,1] Um) (F5 (Bl L) ag5)));(o0 (by kernel_rfl) (A0 ((a d c (ltI c (55296:Int))).trans (by kernel_rfl)) ((a d c false).trans (by kernel_rfl))))
theorem By8(d:Nat)(a:Int):evC (Bl L) (d+1) Z Y 101 [.s (.int .i32 a)] [] s=KF L a (λa=>some (.s (.bool a),[],s)):=
 (evE (fn:=ag5) (by kernel_rfl)).trans (o0 (by kernel_rfl) (By7 L (evC (Bl L) d) Y s (cd [1,0,0,1] Um) (WT L (evC (Bl L) d) Y s) a))
noncomputable abbrev Aa:Code:=C4 ah7
noncomputable def K8(L:Nat):Cfg:=B4 L [75] (A2 [(38,[4,170]),(29,[0,3,2,0,0,4,0,0]),(25,[0,3,2,0,0,4,0]),(12,[0,3,2,0,0,2]),(5,[0,3,2,0,0])]) [(73,Ug),(101,GE)] (A2 [(35,[4]),(42,[4]),(41,[4]),(40,[5,169,5]),(39,[5,0,168]),(38,[175,0,0]),(37,[175]),(44,[4]),(33,[4]),(22,[4]),(21,[8,0,3,94]),(20,[8,0,3]),(26,[0,6,0,0,4,0]),(32,[4]),(30,[0,6,0,0,4,0,0]),(31,[0,6,0,0,4,0,0,139]),(29,[0,6,0,0,4,0,0,126]),(28,[0,6,0,0,4,0,0]),(27,[0,6,0,0,4,0,123]),(25,[0,6,0,0,4,0,108]),(24,[0,6,0,0,4,0]),(23,[0,6,0,0,4]),(19,[4]),(18,[0,6,0,0,88]),(17,[0,6,0,0,0]),(16,[0,6,0,0,0]),(15,[4]),(13,[0,6,0,0,2]),(14,[0,6,0,0,2,51]),(12,[0,6,0,0,2,38]),(11,[0,6,0,0,2]),(10,[0,6,0,0]),(9,[4]),(8,[0,6,0,0,1,31]),(7,[0,6,0,0,1]),(6,[0,6,0,0,23]),(5,[0,6,0,0,16]),(4,[0,6,0,0]),(3,[0,6,0,0]),(2,[0,6,0]),(1,[0,6]),(43,[0,0,181]),(36,[0,0,169]),(34,[0,0,158]),(0,[0,0])]) [73,101] (A2 [(0,[4]),(9,[]),(10,[175]),(5,[]),(6,[0,6,0,0,4,0]),(7,[8,0]),(8,[0,6,0,0,4,0,0]),(1,[]),(2,[0,6,0,0]),(3,[8,0]),(4,[0,6,0,0,2])]) (some [4]) [] [] []
noncomputable def Da{R:Type}(L n:Nat)(self:Nat->Option R)(a:Nat)(c:Int->Nat->Option R)(d:Nat->Option R):Option R:=cond (decide (a<3)) (vl ((w6 ⟨p7 (([47,63,35]:List UInt8))⟩ a)).1 λb=>cond (b==(65533:Int)) (c (↑a:Int) (a+((w6 ⟨p7 (([47,63,35]:List UInt8))⟩ a)).2)) (self (a+((w6 ⟨p7 (([47,63,35]:List UInt8))⟩ a)).2))) (d a)
noncomputable def Y5{R:Type}(L n:Nat)(a:Nat)(b:Int->Nat->Option R)(c:Nat->Option R):Option R:=Cb8 (α:=Nat->Option R) (λ_=>none) (λn self a=>Da L n self a b c) n a
theorem Dx{R:Type}(L n:Nat)(a:Nat)(b:Int->Nat->Option R)(c:Nat->Option R):Y5 L (n+1) a b c=Da L n (λa=>Y5 L n a b c) a b c:=rfl
theorem VZ(n:Nat)(a:Nat):C5 1 ((K8 L).keep 38) (bd (K8 L) Q Y (cd [1,0,1,1,1,0,0,1,0,0] Aa)) n ⟨gp [(175,.it 0)] 11,[.iter (([47,63,35]:List UInt8)) a],s⟩ k =
 Y5 L n a (λn0 c=>k .ret ⟨gp [(4,.s (.int .i64 n0))] 182,[.iter (([47,63,35]:List UInt8)) c],s⟩) (λa=>k (.exit 9) ⟨gp [] 187,[.iter (([47,63,35]:List UInt8)) a],s⟩):=by
 induction n generalizing a with
 | zero=>rfl
 | succ n b=>rw[Dx];unfold Da;exact(o0 (by kernel_rfl) (A0 (A4 λd=>(A0 rfl (b (a+((w6 ⟨p7 (([47,63,35]:List UInt8))⟩ a)).2)))) rfl))
noncomputable def Tv{R:Type}(L n:Nat)(self:By->Int->Int->Int->Option R)(b:By)(a f c:Int)(g:Int->Int->Option R):Option R:=cond (ltI c (↑(b8 b):Int)) (cond (inR (A1 (f-c)) 3) (vl (bAt (([47,63,35]:List UInt8)) (A1 (f-c))) λd=>cond (inR (A1 (a-c)) (b8 b)) (vl (bAt b (A1 (a-c))) λe=>cond (d !=e) (none) (self b a f (A1 (c+(1:Int))))) (none)) (none)) (g a f)
noncomputable def Kj{R:Type}(L n:Nat)(b:By)(a c d:Int)(e:Int->Int->Option R):Option R:=Cb8 (α:=By->Int->Int->Int->Option R) (λ_ _ _ _=>none) (λn self b a c d=>Tv L n self b a c d e) n b a c d
theorem Ah1{R:Type}(L n:Nat)(b:By)(a c d:Int)(e:Int->Int->Option R):Kj L (n+1) b a c d e=Tv L n (λb a c d=>Kj L n b a c d e) b a c d e:=rfl
theorem Xc(n:Nat)(b:By)(a d e:Int):C5 0 ((K8 L).keep 12) (bd (K8 L) Q Y (cd [1,0,1,1,1,1,1,1,0,1,1,1,1,0,0,0,1,0,0,1,0,1,0,0] Aa)) n ⟨gp [(0,.s (.str (([47,63,35]:List UInt8)))),(6,.s (.str b)),(0,.s (.int .i64 a)),(0,.s (.int .i64 d)),(2,.s (.int .i64 e))] 174,[],s⟩ k =
 Kj L n b a d e (λc h=>k (.exit 3) ⟨gp [(8,.s (.int .i64 c)),(0,.s (.int .i64 h))] 177,[],s⟩):=by
 induction n generalizing b a d e with
 | zero=>rfl
 | succ n i=>rw[Ah1];unfold Tv;exact(o0 (by kernel_rfl) (A0 (A0 (A4 λf=>(A0 (A4 λg=>(A0 rfl (i b a d (A1 (e+(1:Int)))))) rfl)) rfl) rfl))
noncomputable def Mj{R:Type}(L n:Nat)(self:By->Int->Option R)(b:By)(a:Int)(m:Int->Option R)(o:Unit->Option R):Option R:=cond (ltI a (3:Int)) (cond (inR a 3) (vl (bAt (([47,63,35]:List UInt8)) a) λj=>cond (inR a (b8 b)) (cond (j !=(bAt b a)) (vl (A1 (a+(1:Int))) λe=>cond (I2 e (3:Int) 3) (vl (cut (([47,63,35]:List UInt8)) e (3:Int)) λg=>cond (inR a (b8 b)) (cond (A3 (b8 g)) (cond (inR (bAt b a) 256) (vl (j8 g (u8n (bAt b a))) λf=>cond (ltI f (0:Int)) (m (-1)) (vl (A1 (f+(1:Int))) λl=>Kj L L b a (A1 (a+l)) 1 (λc h=>m (A1 (h-c))))) (none)) (none)) (none)) (none)) (Kj L L b a a 1 (λd i=>m (A1 (i-d))))) (none)) (none)) (o ())
noncomputable def Fr{R:Type}(L n:Nat)(b:By)(a:Int)(c:Int->Option R)(d:Unit->Option R):Option R:=Cb8 (α:=By->Int->Option R) (λ_ _=>none) (λn self b a=>Mj L n self b a c d) n b a
theorem CO{R:Type}(L n:Nat)(b:By)(a:Int)(c:Int->Option R)(d:Unit->Option R):Fr L (n+1) b a c d=Mj L n (λb a=>Fr L n b a c d) b a c d:=rfl
theorem WA(n:Nat)(b:By)(a:Int):C5 0 ((K8 L).keep 5) (bd (K8 L) Q Y (cd [1,0,1,1,1,1,1,1,0,1,1,1,1,0,0,0] Aa)) n ⟨gp [(0,.s (.str (([47,63,35]:List UInt8)))),(6,.s (.str b)),(0,.s (.int .i64 a)),(0,.s (.int .i64 a))] 177,[],s⟩ k =
 Fr L n b a (λn0=>k .ret ⟨gp [(4,.s (.int .i64 n0))] 182,[],s⟩) (λ_=>k (.exit 1) ⟨gp [] 187,[],s⟩):=by
 induction n generalizing b a with
 | zero=>rfl
 | succ n i=>rw[CO];unfold Mj;exact let d:=(E3 3 (E2 (K8 L) Q Y (cd [1,0,1,1,1,1,1,1,0,1,1,1,1,0,0,0,1,0,0,1,1] Aa) (E3 2 (lpK 0 ((K8 L).keep 5) (bd (K8 L) Q Y (cd [1,0,1,1,1,1,1,1,0,1,1,1,1,0,0,0] Aa)) n k))));(o0 (by kernel_rfl) (A0 (A0 (A4 λe=>(A0 (A0 (A4 λf=>(A0 (A4 λh=>(A0 (A0 (A0 (A4 λg=>(A0 rfl (A4 λc=>((Xc L Q Y s d L b a (A1 (a+c)) 1).trans (by kernel_rfl))))) rfl) rfl) rfl)) rfl)) ((Xc L Q Y s d L b a a 1).trans (by kernel_rfl))) rfl)) rfl) rfl))
noncomputable def Ki{R:Type}(L:Nat)(b:Int)(l:Bool)(d:Int->Option R)(j:Int->Nat->Option R):Option R:=cond l (cond (inR (wu8 b) 256) (vl (j8 (([47,63,35]:List UInt8)) (u8n (wu8 b))) λg=>d g) (none)) (cond (b==(65533:Int)) (Y5 L L 0 (λi e=>j i e) (λf=>j (-1) f)) (cond (not (KH b)) (d (-1)) (vl (aa7 b).data.toList λc=>vl (A1 ((↑(b8 c):Int)-(1:Int))) λh=>Fr L L c h (λa=>d a) (λ_=>d (-1)))))
abbrev CN(b:Code):Prop:=∀(k:Out->St Z->Option R) (c:Int) (a:Bool),A9 (K8 L) Q Y b ⟨gp [(0,.s (.str (([47,63,35]:List UInt8)))),(0,.s (.int .i32 c)),(158,.s (.bool a))] 26,[],s⟩ k=Ki L c a (λn0=>k .ret ⟨gp [(4,.s (.int .i64 n0))] 182,[],s⟩) (λn0 d=>k .ret ⟨gp [(4,.s (.int .i64 n0))] 182,[.iter (([47,63,35]:List UInt8)) d],s⟩)
theorem VY:CN (R:=R) L Q Y s (cd [1,0,1] Aa):=by intro k e d;unfold Ki;exact(o0 (by kernel_rfl) (A0 (A0 (A4 λc=>rfl) rfl) (A0 ((VZ L Q Y s (E3 9 (E2 (K8 L) Q Y (cd [1,0,1,1,1,0,1] Aa) k)) L 0).trans (by kernel_rfl)) (A0 rfl (A4 λb=>(A4 λa=>((WA L Q Y s (E3 1 (E2 (K8 L) Q Y (cd [1,0,1,1,1,1,1,1,0,1,1,1,1,1] Aa) k)) L b a).trans (by kernel_rfl))))))))
noncomputable def JX{R:Type}(L:Nat)(r:Int)(g:Int->Option R)(h:Int->Nat->Option R):Option R:=cond (not (ltI r (0:Int))) (Ki L r (ltI r (128:Int)) (λc=>g c) (λd a=>h d a)) (Ki L r false (λe=>g e) (λf b=>h f b))
theorem Bw3(b:Code)(a:CN (R:=PV × List Blk × Z) L Q Y s b)(r:Int):A9 (K8 L) Q Y (cd [] (G5 [1,0,1] b Aa)) ⟨[.s (.str (([47,63,35]:List UInt8))),.s (.int .i32 r)]++tps 185,[],s⟩ (F5 (K8 L) ah7)=JX L r (λc=>some (.s (.int .i64 c),[],s)) (λc e=>some (.s (.int .i64 c),[.iter (([47,63,35]:List UInt8)) e],s)):=by unfold JX;exact let d:=(E3 0 (F5 (K8 L) ah7));(o0 (by kernel_rfl) (A0 ((a d r (ltI r (128:Int))).trans (by kernel_rfl)) ((a d r false).trans (by kernel_rfl))))
theorem Bw4(d:Nat)(r:Int):evC (K8 L) (d+1) Z Y 75 [.s (.str (([47,63,35]:List UInt8))),.s (.int .i32 r)] [] s=JX L r (λa=>some (.s (.int .i64 a),[],s)) (λa b=>some (.s (.int .i64 a),[.iter (([47,63,35]:List UInt8)) b],s)):=
 (evE (fn:=ah7) (by kernel_rfl)).trans (o0 (by kernel_rfl) (Bw3 L (evC (K8 L) d) Y s (cd [1,0,1] Aa) (VY L (evC (K8 L) d) Y s) r))
noncomputable abbrev YB:Code:=C4 ah5
noncomputable def Fy(L:Nat):Cfg:=B4 L [58] (A2 [(18,[1,2,40]),(12,[0,3,1,1])]) [(75,FW),(76,Ym),(77,Nr)] (A2 [(22,[4]),(21,[4]),(20,[1,7,35,7]),(19,[1,7,0,34]),(18,[1,43,0,0]),(17,[1,43]),(16,[4]),(13,[0,5,1]),(15,[4]),(14,[0,5,1,33]),(12,[0,5,1,27]),(11,[0,5,1]),(10,[0,0,4,25]),(9,[0,0,4,0]),(8,[0,0,24]),(7,[4]),(6,[0,4]),(5,[0,4,14]),(4,[0,4]),(3,[0,0,13]),(2,[4]),(1,[0,0,10]),(0,[0,0])]) [75,76] (A2 [(2,[]),(3,[1,43]),(0,[]),(1,[0,5,1])]) (some [4]) [] [] []
noncomputable def X3{R:Type}(L n:Nat)(self:By->Nat->Option R)(b:By)(a:Nat)(d:Int->(List Blk)->Option R)(e:By->Nat->Option R):Option R:=cond (decide (a<(b8 b))) (vl ((w6 ⟨p7 b⟩ a)).1 λc=>cond (Zx (([47,63,35]:List UInt8))) (cond (ltN c 1114112) (cond (not (ltI (irn c) (0:Int))) (d (↑a:Int) [(Blk.iter b (a+((w6 ⟨p7 b⟩ a)).2))]) (self b (a+((w6 ⟨p7 b⟩ a)).2))) (none)) (none)) (e b a)
noncomputable def Kh{R:Type}(L n:Nat)(b:By)(a:Nat)(c:Int->(List Blk)->Option R)(d:By->Nat->Option R):Option R:=Cb8 (α:=By->Nat->Option R) (λ_ _=>none) (λn self b a=>X3 L n self b a c d) n b a
theorem Be{R:Type}(L n:Nat)(b:By)(a:Nat)(c:Int->(List Blk)->Option R)(d:By->Nat->Option R):Kh L (n+1) b a c d=X3 L n (λb a=>Kh L n b a c d) b a c d:=rfl
theorem VX(n:Nat)(b:By)(a:Nat):C5 1 ((Fy L).keep 18) (bd (Fy L) Q Y (cd [1,1,1,1,0,1,0,0] YB)) n ⟨gp [(1,.s (.str (([47,63,35]:List UInt8)))),(43,.it 0)] 9,[.iter b a],s⟩ k =
 Kh L n b a (λn0 c=>k .ret ⟨gp [(4,.s (.int .i64 n0))] 50,c,s⟩) (λb a=>k (.exit 2) ⟨gp [] 55,[.iter b a],s⟩):=by
 induction n generalizing b a with
 | zero=>rfl
 | succ n d=>rw[Be];unfold X3;exact(o0 (by kernel_rfl) (A0 (A4 λe=>(A0 (A0 (A0 rfl (d b (a+((w6 ⟨p7 b⟩ a)).2))) rfl) rfl)) rfl))
noncomputable def VW{R:Type}(L:Nat)(t:By)(e:Int->(List Blk)->Option R):Option R:=cond (ltI (8:Int) (↑(b8 t):Int)) (none) (Kh L L t 0 (λc a=>e c a) (λd b=>e (-1) [(Blk.iter d b)]))
theorem Bw1(d:Nat)(t:By):evC (Fy L) (d+1) Z Y 58 [.s (.str t),.s (.str (([47,63,35]:List UInt8)))] [] s=VW L t (λb a=>some (.s (.int .i64 b),a,s)):=by refine(evE (fn:=ah5) (by kernel_rfl)).trans ?_;generalize evC (Fy L) d=Q;unfold VW;exact(o0 (by kernel_rfl) (A0 rfl ((VX L Q Y s (E3 2 (E2 (Fy L) Q Y (cd [1,1,1,1,1] YB) (F5 (Fy L) ah5))) L t 0).trans (by kernel_rfl))))
end
end
section
open Go
theorem Pu{c:UInt8}{s:By}(h:c∉s):s8 s [c]=(s,[],false):=by unfold s8;rw[Sx h,if_neg (by decide)]
theorem Ab{c:UInt8}{p r:By}(h:c∉p):s8 (p++c::r) [c]=(p,r,true):=by unfold s8;rw[Zv h,R9,j9,ah3,j4];rw[show p++c::r=(p++[c])++r by simp,ag8 (by simp)]
def Wa:Int->By->Option Int
 | n,[]=>some n
 | n,b::r=>if 48<=b.toNat/\b.toNat<=57 then Wa (min (10*max n 0+((b.toNat-48:Nat):Int)) 65536) r else none
theorem UL:∀(s:By) (n:Int),Iz n s=(Wa n s).bind λm=>if m<65536 then some m else none
 | [],n=>rfl
 | b::r,n=>by
  rw[Iz,Wa];split
  ·exact UL r _
  ·rfl
theorem IT:∀(s:By) (n p:Int),-1<=n->Iz n s=some p->-1<=p/\p<65536
 | [],n,p,a,h=>by
  rw[Iz] at h;split at h
  ·rename_i c;obtain rfl:=j7 h;exact⟨a,c⟩
  ·cases h
 | b::r,n,p,a,h=>by
  rw[Iz] at h;split at h
  ·exact IT r _ p (by omega) h
  ·cases h
def Om(s:By):Prop:=∀b∈s,ctl b=false
def Di4(s:By):Prop:=∀b∈s,V4 b=false
structure CU (u:X6):Prop where
 ns:J3 u.sch=false->V8 u.sch=true/\B6 u.sch=u.sch/\u.user=[]/\u.host=K3/\u.port=-1/\Om u.rest
 sp:J3 u.sch=true->Om u.user/\Di4 u.user/\Ni u.host/\T8 u.host=true/\(u.port=-1\/(0<=u.port/\u.port<=65535/\u.port≠N8 u.sch))/\(∃r,u.rest=47::r)/\Om u.rest
theorem Co4{s:By}:s.any ctl=false↔Om s:=by unfold Om;rw[List.any_eq_false];exact⟨λh b a=>by simpa using h b a,λh b a=>by simp[h b a]⟩
theorem BO{e user c a:By}(h:(T9 e user c a).2=0):∃f b,(T9 e user c a).1=⟨e,user,f,b,c⟩/\Ni f/\T8 f=true/\(b=-1\/(0<=b/\b<=65535/\b≠N8 e)):=by
 unfold T9 at h ⊢;cases i:Jw a with
 | none=>rw[i] at h;simp at h
 | some q=>
  obtain⟨name,tail⟩:=q;rw[i] at h;simp only at h ⊢;by_cases g:tail≠[]/\tail.head?≠some 58
  ·rw[if_pos g] at h;simp at h
  ·rw[if_neg g] at h ⊢;by_cases d:(C7 name).2≠0
   ·rw[if_pos d] at h;exact absurd h d
   ·rw[if_neg d] at h ⊢;cases j:Iz (-1) (tail.drop 1) with
    | none=>rw[j] at h;simp at h
    | some p=>
     have o:=IT _ _ _ (by omega) j;obtain⟨m,n⟩:=Bq6 name;refine⟨_,_,rfl,m,n (by simpa using d),?_⟩;split
     ·exact .inl rfl
     ·rename_i l;by_cases k:p=-1
      ·exact .inl k
      ·exact .inr ⟨by omega,by omega,l⟩
theorem Vn{c user b a:By}(h:(T9 c user b a).2≠0):(T9 c user b a).1=Cc:=by
 unfold T9 at h ⊢;split
 ·rfl
 ·rename_i name tail f;rw[f] at h;simp only at h ⊢;split
  ·rfl
  ·rename_i d;rw[if_neg d] at h;split
   ·rfl
   ·rename_i e;rw[if_neg e] at h;split
    ·rfl
    ·rename_i p g;rw[g] at h;exact absurd rfl h
theorem Au7(s:By):B6 (B6 s)=B6 s:=by
 unfold B6;rw[ai7];apply List.map_congr_left;intro b _;show Bp (Bp b)=Bp b;rcases T3 b with⟨_,e⟩|⟨_,e⟩|⟨c,d,e⟩
 ·rw[e,e]
 ·rw[e,e]
 ·rcases T3 (Bp b) with⟨_,a⟩|⟨_,a⟩|⟨f,g,_⟩
  ·exact a
  ·exact a
  ·omega
theorem Au4(b:UInt8):O6 (Bp b)=O6 b:=by
 rw[o7,T2,T2];rcases T3 b with⟨_,e⟩|⟨_,e⟩|⟨a,c,e⟩
 ·rw[e]
 ·rw[e]
 ·omega
theorem UE{b c:UInt8}(f:c.toNat<65):Bp b=c↔b=c:=by
 rcases T3 b with⟨_,e⟩|⟨_,e⟩|⟨a,d,e⟩
 ·rw[e]
 ·rw[e]
 ·constructor
  ·intro h;rw[h] at e;omega
  ·intro h;subst h;omega
theorem Ag3(b:UInt8):N5 (Bp b)=N5 b:=by
 rw[o7,Ig,Ig,UE (by decide),UE (by decide),UE (by decide)];rcases T3 b with⟨_,e⟩|⟨_,e⟩|⟨a,c,e⟩
 ·rw[e]
 ·rw[e]
 ·constructor
  ·rintro(h|h|h|h)<;>first|omega|exact .inr (.inr (.inr h))
  ·rintro(h|h|h|h)<;>first|omega|exact .inr (.inr (.inr h))
theorem Ag5(s:By):V8 (B6 s)=V8 s:=by
 cases s with
 | nil=>rfl
 | cons b r=>
  show(O6 (Bp b)&&(r.map Bp).all N5)=(O6 b&&r.all N5)
  rw[Au4,List.all_map]
  congr 1
  apply List.all_congr rfl;intro b;exact Ag3 b
theorem WB(r:By):∃t,V9 r=47::t:=by
 unfold V9;split
 ·rename_i h;cases r with
  | nil=>cases h
  | cons b t=>
   obtain rfl:=j7 h;exact⟨t,rfl⟩
 ·exact⟨r,rfl⟩
theorem Ah2{r:By}(h:Om r):Om (V9 r):=by
 unfold V9;split
 ·exact h
 ·intro b a;rcases s9.1 a with rfl|a
  ·decide
  ·exact h b a
theorem Br2{j c a:By}(p:J3 j=true)(q:Om a)(i:Di4 a)(o:Om c)(f:∃r,c=47::r)(h:(H4 j c a).2=0):CU (H4 j c a).1:=by
 unfold H4 at h ⊢;by_cases n:0<=K9 64 a
 ·rw[if_pos n] at h ⊢;obtain⟨t,g,e,k,l,m⟩:=BO h;rw[e];exact⟨λh=>(by rw[p] at h;cases h),λ_=>⟨λb d=>q b (ab6 d),λb d=>i b (ab6 d),k,l,m,f,o⟩⟩
 ·rw[if_neg n] at h ⊢;obtain⟨t,g,e,k,l,m⟩:=BO h;rw[e];exact⟨λh=>(by rw[p] at h;cases h),λ_=>⟨λb d=>(by cases d),λb d=>(by cases d),k,l,m,f,o⟩⟩
theorem Ca6{s:By}(h:(C0 s).2=0):CU (C0 s).1:=by
 unfold C0 at h ⊢;cases f:s.any ctl with
 | true=>rw[f] at h;simp at h
 | false=>
  rw[f] at h;have j:=Co4.1 f;simp only[o9,if_false] at h ⊢;rcases S9 58 s with c|⟨p,r,rfl,c⟩
  ·rw[Pu c] at h;simp at h
  ·rw[Ab c] at h ⊢;have k:Om p:=λb d=>j b (by simp[d])
   have g:Om r:=λb d=>j b (by simp[d])
   cases a:V8 p with
   | false=>rw[a] at h;simp at h
   | true=>
    rw[a] at h;simp only[j2,Bool.or_self,o9,if_false] at h ⊢;cases e:J3 (B6 p) with
    | false=>
     simp only[o6,if_true];exact⟨λ_=>⟨by rw[Ag5];exact a,Au7 p,rfl,rfl,rfl,g⟩,λh=>(by simp only at h;rw[e] at h;cases h)⟩
    | true=>
     rw[e] at h;simp only[j2,o9,if_false] at h ⊢;cases i:([47,47]:By).isPrefixOf r with
     | false=>rw[i] at h;simp at h
     | true=>
      rw[i] at h;simp only[j2,o9,if_false] at h ⊢;exact Br2 e (λb d=>g b (v7 (ab6 d))) (A71 _) (Ah2 λb d=>g b (v7 (v7 d))) (WB _) h
theorem Ax7{d b a:By}(h:(H4 d b a).2≠0):(H4 d b a).1=Cc:=by
 unfold H4 at h ⊢;split
 ·rename_i c;rw[if_pos c] at h;exact Vn h
 ·rename_i c;rw[if_neg c] at h;exact Vn h
theorem Bq7{s:By}(h:(C0 s).2≠0):(C0 s).1=Cc:=by
 unfold C0 at h ⊢;split
 ·rfl
 ·rename_i b;rw[if_neg b] at h;split
  ·rfl
  ·rename_i c;rw[if_neg c] at h;split
   ·rename_i a;rw[if_pos a] at h;exact absurd rfl h
   ·rename_i a;rw[if_neg a] at h;split
    ·rfl
    ·rename_i d;rw[if_neg d] at h;exact Ax7 h
structure B06 (u:X6):Prop where
 host:Ni u.host
 port:-1<=u.port/\u.port<65536
theorem NO:Ni K3:=⟨by decide,Bl2,by decide⟩
theorem CU.ok{u:X6}(h:CU u):B06 u:=by
 cases hs:J3 u.sch with
 | false=>
  obtain⟨_,_,_,a4,a5,_⟩:=h.ns hs;exact⟨by rw[a4];exact NO,by omega⟩
 | true=>
  obtain⟨_,_,a3,_,a5,_⟩:=h.sp hs;exact⟨a3,by omega⟩
theorem Wc(s:By):B06 (C0 s).1:=by
 by_cases h:(C0 s).2=0
 ·exact(Ca6 h).ok
 ·rw[Bq7 h];exact⟨NO,by decide,by decide⟩
theorem BQ{s:By}(h:U2 s=true):s=Hm\/s=bWs:=by simpa[U2] using h
theorem Bj6{s:By}(h:U2 s=false)(a:Int):upS s=s/\upP s a=a:=by
 have e:(s==Hm)=false/\(s==bWs)=false:=by simpa[U2] using h
 unfold upS upP;rw[e.1,e.2,h];simp
theorem Vp{n:Int}:An n=true↔-9223372036854775808<=n/\n<9223372036854775808:=by unfold An;rw[D9];constructor<;>rintro⟨a,b⟩<;>constructor<;>omega
theorem Ix(c:UInt8):∀s:By,j8 s c=match Gk c s with|some k=>(k:Int)|none=>-1
 | []=>rfl
 | b::r=>by
  have a:=Ix c r;unfold j8 Gk;by_cases h:b=c
  ·rw[if_pos h,if_pos (by simpa using h)];rfl
  ·rw[if_neg h,if_neg (by simpa using h),a];cases Gk c r with
   | none=>rfl
   | some k=>
    have e:((k:Int)==-1)=false:=by rw[beq_eq_false_iff_ne];omega
    simp only[aa3,e,o9,if_false];rfl
theorem Bw6(b:UInt8):isl.contains b=V4 b:=by rw[o7];simp[isl,V4,or_assoc]
theorem He(b:UInt8)(r:By):J5 (b::r)=if V4 b then 0 else J5 r+1:=by unfold J5;rw[ae6];cases h:V4 b<;>simp
theorem Xf:∀s:By,J5 s<=s.length
 | []=>v8 _
 | b::r=>by
  have:=Xf r;rw[He,j1];split<;>omega
theorem Iw:∀s:By,y9 s isl=if J5 s<s.length then (J5 s:Int) else -1
 | []=>rfl
 | b::r=>by
  have c:=Iw r;have d:=Xf r;rw[y9,Bw6,He,j1,c];cases V4 b with
  | true=>simp
  | false=>
   simp only[o9,if_false];by_cases h:J5 r<r.length
   ·have e:((J5 r:Int)==-1)=false:=by rw[beq_eq_false_iff_ne];omega
    have a:J5 r+1<r.length+1:=by omega
    simp only[if_pos h,if_pos a,e,o9,if_false];rfl
   ·have a:¬J5 r+1<r.length+1:=by omega
    simp only[if_neg h,if_neg a];rfl
theorem C88(b:UInt8)(t:By)(g:128<=b.toNat):128<=(y8 (b::t)).1/\(y8 (b::t)).1<1114112/\1<=(y8 (b::t)).2/\(y8 (b::t)).2<=t.length+1/\∀i,i<(y8 (b::t)).2->128<=((b::t).getD i 0).toNat:=by
 have d:=Lib.decodeL_le (b::t) (by simp);have l:=Lib.decodeL_width (b::t);have n:=Lib.decodeL_rune (b::t);rw[j1] at d;refine⟨?_,by omega,l,d,?_⟩;all_goals
  clear d l n;rw[Lib.decodeL_N];rcases Lib.decodeN_shape (b::t).length ((b::t).getD 0 0).toNat ((b::t).getD 1 0).toNat ((b::t).getD 2 0).toNat ((b::t).getD 3 0).toNat with⟨c,e⟩|⟨h,j,k,f,e⟩|⟨h,j,k,m,f,p,e⟩|⟨h,j,k,m,o,f,q,e⟩|e
  all_goals rw[e]
 ·exact absurd g (by simp at c;omega)
 ·exact f
 ·simp only;omega
 ·simp only;omega
 ·simp only;omega
 ·exact absurd g (by simp at c;omega)
 ·intro i a;have:i=0\/i=1:=by simp only at a;omega
  rcases this with rfl|rfl<;>omega
 ·intro i a;have:i=0\/i=1\/i=2:=by simp only at a;omega
  rcases this with rfl|rfl|rfl<;>omega
 ·intro i a;have:i=0\/i=1\/i=2\/i=3:=by simp only at a;omega
  rcases this with rfl|rfl|rfl|rfl<;>omega
 ·intro i a;have:i=0:=by simp only at a;omega
  subst this;exact g
theorem Cg6{b:UInt8}(h:128<=b.toNat):V4 b=false:=by
 unfold V4;have n:∀c:UInt8,c.toNat<128->(b==c)=false:=λc a=>by
  rw[beq_eq_false_iff_ne];rintro rfl;omega
 rw[n 47 (by decide),n 63 (by decide),n 35 (by decide)];rfl
theorem B81{r:Int}(h:128<=r):irn r=-1:=by unfold irn;rw[F9,F9,F9]
theorem C99(b:UInt8):ltI (irn (b.toNat:Int)) 0 = !V4 b:=by
 have e:∀c:UInt8,((b.toNat:Int)=(c.toNat:Int))=(b=c):=λc=>propext ⟨λh=>ab9.1 (by omega),λh=>by rw[h]⟩
 have g:((b.toNat:Int)=47)=(b=47):=e 47;have i:((b.toNat:Int)=63)=(b=63):=e 63;have j:((b.toNat:Int)=35)=(b=35):=e 35;unfold irn V4;simp only[g,i,j];by_cases a:b=47
 ·subst a;rfl
 ·by_cases d:b=63
  ·subst d;rfl
  ·by_cases f:b=35
   ·subst f;rfl
   ·have n:∀c,b≠c->(b==c)=false:=λc h=>by rwa [beq_eq_false_iff_ne]
    rw[if_neg a,if_neg d,if_neg f,n _ a,n _ d,n _ f];rfl
end
section
open Go Go.Proofs
set_option maxRecDepth 100000
theorem Av1{R:Type}{b:By->Option R}(s p:By)(a:A3 s.length=true):Bg4 LF s p b=b (Gd s p):=by
 have:=L6 a;unfold Bg4 Gd;rw[a];cases h:p.isPrefixOf s with
 | false=>simp
 | true=>
  have:p.length<=s.length:=by rw[Ed] at h;simp at h;exact h.1
  simp (disch:=omega)
theorem Bx5{R:Type}{a:By->Option R}(s p:By)(b:A3 s.length=true):Cz8 LF s p a=a (Gd s p):=by unfold Cz8;rw[b];rfl
theorem A87{R:Type}{e:Int->Option R}(s:By):Bj8 LF s e=e (N8 s):=by unfold Bj8 N8 Hm bWs Ks RY;generalize (s==([104,116,116,112]:List UInt8))=a;generalize (s==([119,115]:List UInt8))=b;generalize (s==([104,116,116,112,115]:List UInt8))=c;generalize (s==([119,115,115]:List UInt8))=d;cases a<;>cases b<;>cases c<;>cases d<;>rfl
theorem Bm6(s:By):((N8 s)==(80:Int))=U2 s:=by
 unfold N8 U2;cases (s==Hm||s==bWs) with
 | true=>rfl
 | false=>cases (s==Ks||s==RY)<;>rfl
theorem A92{R:Type}{a:Bool->Option R}(s:By):Bj9 LF s a=a (J3 s):=by unfold Bj9;rw[Ll,KT]
theorem C05(a p:By)(k:Int)(l:By)(v4 c d e f g h i j m:Int)(o:By) :
  ∃r H,Db7 LF a p k l v4 c d e f g h i j m o (λn b=>rv (.s (.bool n)) b)=rv r H/\r.stab [] H = .s (.bool (U2 a)):=
 ⟨_,_,rfl,by rw[<-Bm6];rfl⟩
theorem C12(b q:By)(m:Int)(n:By)(v4 d e f g i j k l a:Int)(p:By) :
  ∃r H,C10 LF b q m n v4 d e f g i j k l a p (λo c=>rv (.s (.int .i64 o)) c)=rv r H/\r.stab [] H = .s (.int .i64 (prt b a)):=by
 unfold C10 prt;cases h:a==-1 with
 | true=>rw[show(a !=(-1:Int))=false by simp[bne,h]];exact⟨_,_,rfl,rfl⟩
 | false=>rw[show(a !=(-1:Int))=true by simp[bne,h]];exact⟨_,_,rfl,rfl⟩
def UK:By:=[48,49,50,51,52,53,54,55,56,57,43,45,46]
theorem Lg(c:UInt8):∀l:By,ltI (j8 l c) 0 = !l.contains c
 | []=>rfl
 | b::r=>by
  have f:=Lg c r;have g:=ag2 r c;unfold j8;by_cases h:b=c
  ·subst h;simp[E1]
  ·have e:(b==c)=false:=by simpa using h
   have d:(c==b)=false:=by simpa using af7 h
   rw[List.contains_cons,d,ai0,<-f,e];simp only[o9,if_false];by_cases a:j8 r c=-1
   ·rw[a];rfl
   ·have:(j8 r c==-1)=false:=by simpa using a
    rw[this,if_neg (by simp),A6,A6]
theorem Ag4:∀b:UInt8,N5 b=(O6 b||UK.contains b):=by
 have:∀n:Fin 256,N5 (ab8 n.val)=(O6 (ab8 n.val)||UK.contains (ab8 n.val)):=by decide +kernel
 intro b;have h:=this ⟨b.toNat,b.toNat_lt⟩;simpa using h
theorem Ai8{R:Type}{c:Unit->Option R}{d:By->Int->Int->Bool->Option R}(s:By)(i:Nat)(b:UInt8)(l:Bool)(n:Int):Fc s (i:Int) (b.toNat:Int) l n c d=if l then d s n i false else if i=0 then c () else if UK.contains b then d s n i false else c ():=by
 unfold Fc;cases l with
 | true=>rfl
 | false=>
  rw[o6,cond_true,if_neg (by simp)];by_cases a:i=0
  ·subst a;rfl
  ·have f:=b.toNat_lt;rw[show((i:Int)==0)=false by simpa using a,cond_false,E6,cond_true,if_neg a];simp only[vl];rw[Ik];have e:=Lg b UK;rw[show([48,49,50,51,52,53,54,55,56,57,43,45,46]:List UInt8)=UK from rfl,e];cases UK.contains b<;>rfl
theorem KD{R:Type}{a:Unit->Option R}{c:By->Option R}(s:By)(r:s.length<=1000000000)(n i:Nat)(p:i<s.length) :
  M9 LF (n+1) s (s.length:Int) (i:Int) a c=if O6 (s.getD i 0) then M9 LF n s s.length ((i+1:Nat):Int) a c else if i=0 then a () else if UK.contains (s.getD i 0) then M9 LF n s s.length ((i+1:Nat):Int) a c else a ():=by
 have k:A1 ((i:Int)+1)=((i+1:Nat):Int):=by rw[A7];rfl
 rw[M9,A8,E6,D0];simp only[cond_true];generalize s.getD i 0=b;have go:∀l,Fc s (i:Int) (b.toNat:Int) l (s.length:Int) (λ_=>a ()) (λj g h m=>M9 LF n j g (A1 (h+(1:Int))) a c)=if l then M9 LF n s s.length ((i+1:Nat):Int) a c else if i=0 then a () else if UK.contains b then M9 LF n s s.length ((i+1:Nat):Int) a c else a ():=λl=>by
  rw[Ai8,k]
 have q:O6 b=((x3 97 b.toNat&&x3 b.toNat 122)||(x3 65 b.toNat&&x3 b.toNat 90)):=rfl;by_cases f:97<=b.toNat
 ·rw[A6,o6,cond_true];by_cases d:b.toNat<=122
  ·rw[A6,o6,cond_true,if_pos (T2.2 (.inl ⟨f,d⟩))];unfold EC;simp only[k]
  ·rw[A8,j2,cond_false,A6,o6,cond_true,A8,j2];have e:O6 b=false:=by
    rw[<-ag1,T2];omega
   rw[e];exact go false
 ·rw[A8,j2,cond_false];by_cases o:65<=b.toNat
  ·rw[A6,o6,cond_true];have e:O6 b = !ltI 90 (b.toNat:Int):=by
    rw[o7,T2,aa9,Jv];omega
   rw[e];exact go _
  ·rw[A8,j2,cond_false];have e:O6 b=false:=by
    rw[<-ag1,T2];omega
   rw[e];exact go false
theorem By5{R:Type}{k0:Unit->Option R}{k1:By->Option R}(s:By)(d:s.length<=1000000000):∀(r i n:Nat),i+r=s.length->r<n->0<i->
  M9 LF n s (s.length:Int) (i:Int) k0 k1=if (s.drop i).all N5 then k1 s else k0 ():=by
 intro r
 induction r with
 | zero=>
  intro i n b c a;obtain⟨n,rfl⟩:∃m,n=m+1:=⟨n-1,by omega⟩
  rw[M9];rw[A6,p5 (by omega)];rfl
 | succ r e=>
  intro i n b c a;obtain⟨n,rfl⟩:∃m,n=m+1:=⟨n-1,by omega⟩
  rw[KD s d n i (by omega),e (i+1) n (by omega) (by omega) (by omega),D2 s i (by omega),ai1,Ag4,if_neg (by omega:¬i=0)];cases O6 (s.getD i 0) with
  | true=>simp
  | false=>
   cases UK.contains (s.getD i 0)<;>simp
theorem By6{R:Type}{k0:Bool->Option R}(s:By)(f:A3 s.length=true):Cj0 LF s k0=k0 (V8 s):=by
 have c:=L6 f;have g:=C2;unfold Cj0;obtain⟨n,d⟩:∃m,LF=m+1:=⟨LF-1,by omega⟩
 cases s with
 | nil=>
  rw[show @M9 R LF LF = @M9 R LF (n+1) by rw[<-d]];rfl
 | cons b t=>
  rw[show @M9 R LF LF = @M9 R LF (n+1) by rw[<-d]];refine o0 (KD (b::t) c n 0 (by simp)) ?_;have e:=By5 (k0:=λ_=>k0 false) (k1:=λa=>k0 (not (a==([]:List UInt8)))) (b::t) c t.length 1 n (by simp;omega) (by simp at c;omega) (by omega);rw[aa0];simp only[ad4,if_true];rw[show(((0+1:Nat):Int))=((1:Nat):Int) from rfl,e];rw[show(b::t).drop 1=t from rfl,show V8 (b::t)=(O6 b&&t.all N5) from rfl];cases O6 b with
  | false=>rfl
  | true=>cases t.all N5<;>rfl
theorem UM:∀(s:By) (n:Int),CY.go n s=(Wa n s).getD 0
 | [],n=>rfl
 | b::r,n=>by
  unfold CY.go Wa;split
  ·exact UM r _
  ·rfl
theorem Bx7{R:Type}{a:Unit->Option R}{c:Int->Option R}(s:By)(y:s.length<=1000000000):∀(r i n:Nat) (v:Int),i+r=s.length->r<n->-1<=v->v<=65536->
  Mn LF n s v (s.length:Int) (i:Int) a c=match Wa v (s.drop i) with|some m=>c m|none=>a ():=by
 intro r
 induction r with
 | zero=>
  intro i n v p q j k;obtain⟨n,rfl⟩:∃m,n=m+1:=⟨n-1,by omega⟩
  rw[Mn];rw[A6,p5 (by omega)];rfl
 | succ r t=>
  intro i n v p q j k;obtain⟨n,rfl⟩:∃m,n=m+1:=⟨n-1,by omega⟩
  have d:A1 ((i:Int)+1)=((i+1:Nat):Int):=by rw[A7];rfl
  rw[Mn];rw[A8,E6,D0,D2 s i (by omega),d];have x:=(s.getD i 0).toNat_lt;generalize s.getD i 0=b at *;unfold Wa;simp only[cond_true,vl];by_cases l:b.toNat<48
  ·rw[A8,cond_true,F9]
  ·rw[A6,cond_false];by_cases o:57<b.toNat
   ·rw[A8,cond_true,F9]
   ·rw[A6,cond_false,if_pos (show 48<=b.toNat/\b.toNat<=57 by omega)];have u:(if (0:Int) > v then (0:Int) else v)=max v 0:=by omega
    have e:A1 (10*max v 0)=10*max v 0:=A7;have f:wu8 ((b.toNat:Int)-48)=((b.toNat-48:Nat):Int):=by rw[L4];omega
    have g:A1 ((b.toNat-48:Nat):Int)=((b.toNat-48:Nat):Int):=A7;have h:A1 (10*max v 0+((b.toNat-48:Nat):Int))=10*max v 0+((b.toNat-48:Nat):Int):=A7;rw[u,e,f,g,h];have w:(if (65536:Int)<10*max v 0+((b.toNat-48:Nat):Int) then (65536:Int) else 10*max v 0+((b.toNat-48:Nat):Int))=min (10*max v 0+((b.toNat-48:Nat):Int)) 65536:=by omega
    rw[w];exact t (i+1) n _ (by omega) (by omega) (by omega) (by omega)
theorem Bx8{R:Type}{a:Int->Bool->Option R}(s:By)(b:A3 s.length=true):C06 LF s a=a (CY s) (Iz (-1) s).isSome:=by
 have d:=L6 b;have c:=C2;unfold C06;refine o0 (Bx7 s d s.length 0 LF (-1) (by omega) (by omega) (by omega) (by omega)) ?_;rw[ah2,UL,show CY s=CY.go (-1) s from rfl,UM];cases Wa (-1) s with
 | none=>rfl
 | some m=>
  simp only[ag4,ad2];rw[Ll];by_cases h:m<65536
  ·rw[decide_eq_true h,if_pos h];rfl
  ·rw[decide_eq_false h,if_neg h];rfl
theorem Ca0{s:By}{p:Int}(h:Iz (-1) s=some p):CY s=p:=by
 rw[UL] at h;rw[show CY s=CY.go (-1) s from rfl,UM];cases a:Wa (-1) s with
 | none=>rw[a] at h;cases h
 | some m=>
  rw[a] at h;simp only[ad2] at h;split at h
  ·exact j7 h
  ·cases h
def hpT(name tail b user a:By):X6 × Nat:=
 if (C7 name).2≠0 then (Cc,(C7 name).2)
 else match Iz (-1) (tail.drop 1) with
  | none=>(Cc,16)
  | some p=>(⟨b,user,(C7 name).1,if p=N8 b then -1 else p,a⟩,0)
def hpC(name tail b user a:By):X6 × Nat:=if tail≠[]/\tail.head?≠some 58 then (Cc,4) else hpT name tail b user a
theorem Vo(c user b a:By):T9 c user b a=match Jw a with|none=>(Cc,4)|some (name,tail)=>hpC name tail c user b:=by
 unfold T9;cases Jw a with
 | none=>rfl
 | some q=>
  obtain⟨name,tail⟩:=q;rfl
theorem Sr{t:By}(h:t=[]\/t.head? = some 58):Gd t [58]=t.drop 1:=by
 rcases h with rfl|h
 ·rfl
 ·cases t with
  | nil=>cases h
  | cons b r=>
   simp only[List.head?_cons,k9] at h;subst h;simp[Gd]
theorem Xo(name tail:By)(f:name.length<=1000000000)(j:tail.length<=1000000000)(h:tail=[]\/tail.head? = some 58)(d u:By)(v:Int)(y:By)(w n8 x k l m n o r:Int)(c:By) :
  ∃B H,∀(R:Type) (a:Int->Blk->By->By->Int->By->Int->Int->Int->Int->Int->Int->Int->Int->Int->Int->By->List Blk->Option R),U8 name tail d u v y w n8 x k l m n o r (-1) c a=(λq=>a (uE q) B (uS q) (uU q) (uK q) (uN q) (uV q) (uA q 0) (uA q 1) (uA q 2) (uA q 3) (uA q 4) (uA q 5) (uA q 6) (uA q 7) (uP q) (uR q) H) (hpT name tail d u c):=by
 have i:(tail.drop 1).length<=1000000000:=by rw[c9];omega
 by_cases b:(C7 name).2=0
 ·cases g:Iz (-1) (tail.drop 1) with
  | none=>
   apply o5;apply o5;intro R a;unfold U8 hpT;rw[E0 f,cond_true,Sr h,E0 j];simp only[vl,cond_true];rw[b,E0 i,g];rfl
  | some p=>
   have t:=Ca0 g;by_cases e:p=N8 d
   ·apply o5;apply o5;intro R a;unfold U8 hpT;rw[E0 f,cond_true,Sr h,E0 j];simp only[vl,cond_true];rw[b,E0 i,g,t,show(p !=N8 d)=false by simpa using e];simp only[e,if_true];rfl
   ·apply o5;apply o5;intro R a;unfold U8 hpT;rw[E0 f,cond_true,Sr h,E0 j];simp only[vl,cond_true];rw[b,E0 i,g,t,show(p !=N8 d)=true by simpa using e];simp only[e,if_false];rfl
 ·apply o5;apply o5;intro R a;unfold U8 hpT;rw[E0 f,cond_true];simp only[vl];rw[show(((C7 name).2:Int)!=0)=true by simpa using b,cond_true,if_pos b];rfl
theorem Mo(name tail:By)(w:name.length<=1000000000)(x:tail.length<=1000000000)(l m:By)(p:Int)(v:By)(t n8 u d f g i j k:Int)(a:By) :
  ∃B H,∀(R:Type) (c:Int->Blk->By->By->Int->By->Int->Int->Int->Int->Int->Int->Int->Int->Int->Int->By->List Blk->Option R),P3 name tail l m p v t n8 u d f g i j k (-1) a c=(λq=>c (uE q) B (uS q) (uU q) (uK q) (uN q) (uV q) (uA q 0) (uA q 1) (uA q 2) (uA q 3) (uA q 4) (uA q 5) (uA q 6) (uA q 7) (uP q) (uR q) H) (hpC name tail l m a):=by
 cases tail with
 | nil=>
  obtain⟨B,H,e⟩:=Xo name [] w x (.inl rfl) l m p v t n8 u d f g i j k a;refine⟨B,H,λR c=>?_⟩;unfold P3 hpC;exact e R c
 | cons b r=>
  by_cases n:b=58
  ·subst n;obtain⟨B,H,e⟩:=Xo name (58::r) w x (.inr rfl) l m p v t n8 u d f g i j k a;refine⟨B,H,λR c=>?_⟩;unfold P3 hpC;rw[J6 (by omega) (by simp),if_neg (by simp)];exact e R c
  ·apply o5;apply o5;intro R c;unfold P3 hpC;have o:(((b.toNat:Int))!=(58:Int))=true:=by
    rw[bne_iff_ne];intro h;have y:b.toNat=58:=by omega
    exact n (ab9.1 y)
   rw[J6 (by omega) (by simp),if_pos (by simpa using n),Z9,aa0,o];rfl
theorem Bf6{c:UInt8}{s:By}(h:Gk c s=none):j8 s c=-1:=by rw[Ix,h]
theorem TV{c:UInt8}{s:By}{k:Nat}(h:Gk c s=some k):j8 s c=(k:Int)/\k<s.length:=by obtain⟨p,r,rfl,_,rfl⟩:=Pz h;exact⟨by rw[Ix,h],by simp⟩
theorem Da6(c:UInt8)(s:By):([c]:By).isPrefixOf s=(s.head? == some c):=by
 cases s with
 | nil=>rfl
 | cons b r=>
  grind
abbrev KU(R:Type):=By->By->Int->By->Int->Int->Int->Int->Int->Int->Int->Int->Int->Int->By->Int->List Blk->Option R
abbrev HF{R:Type}(a:KU R)(q:X6 × Nat)(H:List Blk):Option R:=a (uS q) (uU q) (uK q) (uN q) (uV q) (uA q 0) (uA q 1) (uA q 2) (uA q 3) (uA q 4) (uA q 5) (uA q 6) (uA q 7) (uP q) (uR q) (uE q) H
theorem A85(u:By)(J:Int)(O:By)(v4 y z A C D F G I:Int)(t a:By)(h2:A3 a.length=true) :
  ∃H,∀(R:Type) (o:KU R),Tw LF u [] J O v4 y z A C D F G I (-1) t a o=HF o (H4 u t a) H:=by
 have ha:=L6 h2;have ge:=IH 64 a;have key:∀(x b:By),b.length<=1000000000->∃H,∀(R:Type) (o:KU R),(cond (A3 (b8 b)) (cond (w8 (([91]:List UInt8)) b)
   (cond (A3 (b8 b))
    (vl (j8 b (u8n (93:Int))) λc=>
    cond (ltI c (0:Int))
     (o ([]:List UInt8) ([]:List UInt8) 0 ([]:List UInt8) 0 0 0 0 0 0 0 0 0 0 ([]:List UInt8) 4 [(bU u x J O v4 y z A C D F G I (-1) t),bU0])
     (cond (I2 (0:Int) (A1 (c+(1:Int))) (b8 b))
      (cond (I2 (A1 (c+(1:Int))) (↑(b8 b):Int) (b8 b))
       (P3 (cut b (0:Int) (A1 (c+(1:Int)))) (cut b (A1 (c+(1:Int))) (↑(b8 b):Int)) u x J O v4 y z A C D F G I (-1) t (λn0 T P Q K S L M n8 N f g i j l m n q=>o P Q K S L M n8 N f g i j l m n n0 (T::((bU P Q K S L M n8 N f g i j l m n)::q))))
       (none))
      (none)))
    (none))
   (cond (A3 (b8 b))
    (vl (j8 b (u8n (58:Int))) λd=>
    cond (not (ltI d (0:Int)))
     (cond (I2 (0:Int) d (b8 b))
      (cond (I2 d (↑(b8 b):Int) (b8 b))
       (P3 (cut b (0:Int) d) (cut b d (↑(b8 b):Int)) u x J O v4 y z A C D F G I (-1) t (λn0 T P Q K S L M n8 N f g i j l m n q=>o P Q K S L M n8 N f g i j l m n n0 (T::((bU P Q K S L M n8 N f g i j l m n)::q))))
      (none))
     (none))
     (P3 b ([]:List UInt8) u x J O v4 y z A C D F G I (-1) t (λn0 T P Q K S L M n8 N f g i j l m n q=>o P Q K S L M n8 N f g i j l m n n0 (T::((bU P Q K S L M n8 N f g i j l m n)::q)))))
    (none))) none)=HF o (T9 u x t b) H:=by
  intro x b hb;rw[Vo];unfold Jw;have w:A3 b.length=true:=E0 hb;have W:u8n (93:Int)=93:=rfl;have U:u8n (58:Int)=58:=rfl;by_cases v:b.head? = some 91
  ·rw[if_pos v];have Z:([91]:By).isPrefixOf b=true:=by rw[Da6,v];rfl
   cases Y:Gk 93 b with
   | none=>
    apply o5;intro R o;rw[w,Z,W,Bf6 Y];rfl
   | some k=>
    obtain⟨e,hk⟩:=TV Y;have e1:A1 ((k:Int)+1)=((k+1:Nat):Int):=by rw[A7];rfl
    obtain⟨B,H,X⟩:=Mo (b.take (k+1)) (b.drop (k+1)) (by rw[j6];omega) (by rw[c9];omega) u x J O v4 y z A C D F G I t;apply o5;intro R o;rw[w,Z,W,e];simp only[vl,cond_true];rw[A6,cond_false,e1,H9,H9,cond_true,cond_true,J8,P8,j9,X]
  ·rw[if_neg v];have Z:([91]:By).isPrefixOf b=false:=by rw[Da6];simpa using v
   cases Y:Gk 58 b with
   | none=>
    obtain⟨B,H,X⟩:=Mo b [] hb (by simp) u x J O v4 y z A C D F G I t;apply o5;intro R o;rw[w,Z,U,Bf6 Y];simp only[vl,cond_true,cond_false];rw[A8,j2,cond_false,X]
   | some k=>
    obtain⟨e,hk⟩:=TV Y;obtain⟨B,H,X⟩:=Mo (b.take k) (b.drop k) (by rw[j6];omega) (by rw[c9];omega) u x J O v4 y z A C D F G I t;apply o5;intro R o;rw[w,Z,U,e];simp only[vl,cond_true,cond_false];rw[A6,o6,cond_true,H9,H9,cond_true,cond_true,J8,P8,j9,X]
 have V:u8n (64:Int)=64:=rfl;unfold H4;by_cases h:0<=K9 64 a
 ·obtain⟨p,r,rfl,_,hl⟩:=IJ h;rw[if_pos h,hl,j9];rw[j0,j1] at ha;obtain⟨H,e⟩:=key ((p++64::r).take p.length) ((p++64::r).drop (p.length+1)) (by rw[c9,j0,j1];omega);refine⟨H,λR o=>?_⟩;refine o0 ?_ (e R o);have e1:A1 ((p.length:Int)+1)=((p.length+1:Nat):Int):=by rw[A7];rfl
  have ln:(p++64::r).length=p.length+r.length+1:=by rw[j0,j1];omega
  unfold Tw;rw[h2,V,hl];simp only[vl,cond_true];rw[A6,o6,cond_true,e1,H9,H9,cond_true,cond_true,J8,P8,j9,j9];rfl
 ·rw[if_neg h];obtain⟨H,e⟩:=key [] a ha;refine⟨H,λR o=>?_⟩;refine o0 ?_ (e R o);unfold Tw;rw[h2,V];simp only[vl,cond_true];rw[A8,j2,cond_false];rfl
theorem Pa{x:SV}(h:(Ty.int .u16).of x):∃n,x = .int .u16 n/\ltN n 65536=true:=by obtain⟨n,rfl,a,b⟩:=h;simp[IntKind.min,IntKind.max,IntKind.signed,IntKind.bits] at a b;exact⟨n,rfl,D9.2 ⟨a,by omega⟩⟩
def Tru(x:Option (PV × List Blk × Unit)):Prop:=∃H,x=some (.s (.bool true),H,())
theorem eq8{v6:List Nat}(h:v6.length=8):∃a b c d e f g i,v6=[a,b,c,d,e,f,g,i]:=by
 match v6,h with
 | [a,b,c,d,e,f,g,i],_=>exact⟨a,b,c,d,e,f,g,i,rfl⟩
theorem Aj3{h:B2}(a:T8 h=true):h.name.length<=253:=by
 unfold T8 at a;split at a
 ·simp only[p4] at a;exact(KG.1 a.1.1).le
 ·split at a
  ·simp only[p4,ad0] at a;rw[a.1];simp
  ·split at a
   ·simp only[p4,ad0] at a;rw[a.1];simp
   ·cases a
theorem Vd{h:B2}(ok:Ni h):(Iv h).length<=300:=by
 cases a:T8 h with
 | false=>rw[HW a];simp
 | true=>
  have d:=Aj3 a;have c:=Cj7 _ ok.v6.1 ok.v6.2;have b:=Db9 _ ok.v4;unfold Iv;rw[if_pos a];split
  ·omega
  ·split
   ·omega
   ·simp only[j1,j0,y5];omega
theorem DL{h0 b c d e f g i j a:Int}{h1:By}(k:ltN b 4294967296=true)(l:ok8 c d e f g i j a=true):Ni (mkH h0 h1 b (n8 c d e f g i j a)):=by
 have⟨m,n⟩:=D9.1 k;refine⟨by show b.toNat<_;omega,C73 l,?_⟩;show(if ltN h0 4 then h0.toNat else 0)<4;split
 ·rename_i h;have:=D9.1 h;omega
 ·omega
theorem By3(c z:By)(x:Int)(y:By)(v4 m n o p t u v w k:Int)(b a:By)(O:A3 c.length=true)(P:A3 b.length=true)(A:A3 a.length=true)(B:z.isEmpty=true)(C:(k==-1)=true) :
  ∃r H,Tw LF c z x y v4 m n o p t u v w k b a (λL M D N F G I J n8 K f g h i l j d=>rv (.tup [gU L M D N F G I J n8 K f g h i l,.s (.int .i64 j)]) d)=rv r H/\
   r.stab [0,0] H=(λq=>.tup [gU (uS q) (uU q) (uK q) (uN q) (uV q) (uA q 0) (uA q 1) (uA q 2) (uA q 3) (uA q 4) (uA q 5) (uA q 6) (uA q 7) (uP q) (uR q),.s (.int .i64 (uE q))]) (H4 c b a):=by
 obtain rfl:=ad0.1 B;obtain rfl:k=-1:=by simpa using C
 obtain⟨H,e⟩:=A85 c x y v4 m n o p t u v w b a A;exact⟨_,_,e _ _,rfl⟩
theorem Be4(b:UInt8):ctl b=(!ltI 32 (b.toNat:Int)||((b.toNat:Int)==127)):=by rw[o7,Cp1,aa2,aa9,Jv,beq_iff_eq];omega
theorem By4{R:Type}{a:List Blk->Option R}{b:By->Option R}(s:By)(g:s.length<=1000000000):∀(r i n:Nat),i+r=s.length->r<n->
  Il LF n s (s.length:Int) (i:Int) a b=if (s.drop i).any ctl then a [] else b s:=by
 intro r
 induction r with
 | zero=>
  intro i n d e;obtain⟨n,rfl⟩:∃m,n=m+1:=⟨n-1,by omega⟩
  rw[Il];rw[A6,p5 (by omega)];rfl
 | succ r f=>
  intro i n d e;obtain⟨n,rfl⟩:∃m,n=m+1:=⟨n-1,by omega⟩
  have c:A1 ((i:Int)+1)=((i+1:Nat):Int):=by rw[A7];rfl
  rw[Il];rw[A8,E6,D0,D2 s i (by omega),c,List.any_cons,Be4];simp only[cond_true];rw[f (i+1) n (by omega) (by omega)];cases ltI 32 ((s.getD i 0).toNat:Int) with
  | false=>rfl
  | true=>cases (((s.getD i 0).toNat:Int)==127)<;>rfl
theorem Ci8(s:By)(i:A3 s.length=true):∃H,∀(R:Type) (a:KU R),LQ LF s a=HF a (C0 s) H:=by
 have y:=L6 i;have v:=C2;have L:∀{R:Type} (a:List Blk->Option R) (l:By->Option R),Il LF LF s (s.length:Int) 0 a l=if s.any ctl then a [] else l s:=λa l=>By4 s y s.length 0 LF (by omega) (by omega)
 unfold C0;by_cases h:s.any ctl=true
 ·rw[if_pos h];apply o5;intro R a;unfold LQ;rw[L,if_pos h];rfl
 rw[if_neg h];rcases S9 58 s with b|⟨p,r,rfl,b⟩
 ·apply o5;intro R a;unfold LQ;rw[L,if_neg h,i,Pu b];rfl
 have B:(p++58::r).length=p.length+r.length+1:=by rw[j0,j1];omega
 have sp:A3 p.length=true:=M8;have o:A3 r.length=true:=M8;rw[Ab b];simp only[j2,ai0];cases c:V8 p with
 | false=>
  apply o5;intro R a;unfold LQ;rw[L,if_neg h,i,Ab b];simp only[vl,cond_true,j2,cond_false];rw[sp,c];rfl
 | true=>
 rw[if_neg (by simp)];cases f:J3 (B6 p) with
 | false=>
  apply o5;intro R a;unfold LQ;rw[L,if_neg h,i,Ab b];simp only[vl,cond_true,j2,cond_false];rw[sp,c,f];rfl
 | true=>
 rw[if_neg (by simp)];cases Sw:([47,47]:By).isPrefixOf r with
 | false=>
  apply o5;intro R a;unfold LQ;rw[L,if_neg h,i,Ab b];simp only[vl,cond_true,j2,cond_false];rw[sp,c,f,o,Sw];rfl
 | true=>
 rw[if_neg (by simp)];have j:Gd r [47,47]=r.drop 2:=by unfold Gd;rw[Sw,if_pos rfl];rfl
 generalize m:r.drop 2=t;rw[m] at j;have lt:t.length<=r.length:=by rw[<-m,c9];omega
 have u:A3 t.length=true:=M8;have z:=Xf t;have sl:A3 (B6 p).length=true:=by rw[Fl];exact sp
 have tail:∀(R:Type) (a:KU R) (X d:By),X.length<=t.length->d.length<=t.length->
   (cond (A3 (b8 X))
    (cond (not (w8 (([47]:List UInt8)) X))
     (cond (E5 1 (b8 X))
     (cond (A3 (b8 (B6 p)))
      (cond (A3 (b8 (([47]:List UInt8)++X)))
       (cond (A3 (b8 d))
       (cond (((-1):Int)==((-1):Int))
        (HF a (H4 (B6 p) (([47]:List UInt8)++X) d) ((λq=>[bU (uS q) (uU q) (uK q) (uN q) (uV q) (uA q 0) (uA q 1) (uA q 2) (uA q 3) (uA q 4) (uA q 5) (uA q 6) (uA q 7) (uP q) (uR q),bU (B6 p) [] 0 [] 0 0 0 0 0 0 0 0 0 (-1) (([47]:List UInt8)++X)]) (H4 (B6 p) (([47]:List UInt8)++X) d)))
        (none))
       (none))
       (none))
      (none))
     (none))
     (cond (A3 (b8 (B6 p)))
     (cond (A3 (b8 X))
      (cond (A3 (b8 d))
      (cond (((-1):Int)==((-1):Int))
       (HF a (H4 (B6 p) X d) ((λq=>[bU (uS q) (uU q) (uK q) (uN q) (uV q) (uA q 0) (uA q 1) (uA q 2) (uA q 3) (uA q 4) (uA q 5) (uA q 6) (uA q 7) (uP q) (uR q),bU (B6 p) [] 0 [] 0 0 0 0 0 0 0 0 0 (-1) X]) (H4 (B6 p) X d)))
       (none))
      (none))
      (none))
     (none)))
    none)=HF a (H4 (B6 p) (V9 X) d) ((λq=>[bU (uS q) (uU q) (uK q) (uN q) (uV q) (uA q 0) (uA q 1) (uA q 2) (uA q 3) (uA q 4) (uA q 5) (uA q 6) (uA q 7) (uP q) (uR q),bU (B6 p) [] 0 [] 0 0 0 0 0 0 0 0 0 (-1) (V9 X)]) (H4 (B6 p) (V9 X) d)):=by
  intro R a X d A w;rw[M8,sl,Da6,E0 (n:=d.length) (by omega)];unfold V9;by_cases g:X.head? = some 47
  ·rw[if_pos g,g];rfl
  ·have e:(X.head? == some 47)=false:=by simpa using g
   rw[if_neg g,e,G2 (by omega),E0 (by simp;omega)];rfl
 refine⟨(λX=>(λq=>[bU (uS q) (uU q) (uK q) (uN q) (uV q) (uA q 0) (uA q 1) (uA q 2) (uA q 3) (uA q 4) (uA q 5) (uA q 6) (uA q 7) (uP q) (uR q),bU (B6 p) [] 0 [] 0 0 0 0 0 0 0 0 0 (-1) (V9 X)]) (H4 (B6 p) (V9 X) (t.take (J5 t)))) (t.drop (J5 t)),λR a=>?_⟩;refine o0 ?_ (tail R a (t.drop (J5 t)) (t.take (J5 t)) (by rw[c9];omega) (by rw[j6];omega));unfold LQ;rw[L,if_neg h,i,Ab b];simp only[vl,cond_true,j2,cond_false];rw[sp,c,f,o,Sw,j,u];rw[show Zx ([47,63,35]:List UInt8)=true from rfl,show([47,63,35]:List UInt8)=isl from rfl,Iw];simp only[cond_true,j2,cond_false];by_cases k:J5 t<t.length
 ·rw[if_pos k,A6,o6,cond_true,J8,j9,j6,Nat.min_eq_left (by omega),H9,H9,P8,j9];rfl
 ·have x:J5 t=t.length:=by omega
  rw[if_neg k,A8,j2,cond_false,H9,P8,j9,x,List.take_length,u];rfl
abbrev rvU(n o:By)(h:Int)(p:By)(i j k l n8 m b c d e:Int)(g:By)(f:Int)(a:List Blk):=rv (.tup [gU n o h p i j k l n8 m b c d e g,.s (.int .i64 f)]) a
abbrev pvU(q:X6 × Nat):PV:=.tup [gU (uS q) (uU q) (uK q) (uN q) (uV q) (uA q 0) (uA q 1) (uA q 2) (uA q 3) (uA q 4) (uA q 5) (uA q 6) (uA q 7) (uP q) (uR q),.s (.int .i64 (uE q))]
theorem C09(s:By)(a:A3 s.length=true):∃r H,LQ LF s rvU=rv r H/\r.stab [0,0] H=pvU (C0 s):=by obtain⟨H,e⟩:=Ci8 s a;exact⟨_,_,e _ _,rfl⟩
theorem By0(s:By)(a:A3 s.length=true):∃r H,WN LF s rvU=rv r H/\r.stab [0,0] H=pvU (V3 s):=by
 unfold WN V3;by_cases h:2048<s.length
 ·rw[A8,if_pos h];exact⟨_,_,rfl,rfl⟩
 ·rw[A6,if_neg h,a];exact⟨_,_,rfl,rfl⟩
theorem NG{p:Int}(h:An p=true):(Js p).length<=20:=by
 obtain⟨a,b⟩:=Vp.1 h;unfold Js;split
 ·have:=Fh 19 (-p).toNat (by omega) (by omega);rw[j1];omega
 ·have:=Fh 19 p.toNat (by omega) (by omega);omega
theorem BM(b:Int)(c:By)(v4:Int)(a:List Nat):Iv (mkH b c v4 a)=Iv (Ct8 b c v4 a):=by
 unfold mkH Ct8;cases h:ltN b 4 with
 | true=>rfl
 | false=>
  rw[if_neg (by simp),if_neg (by simp),HW (by rfl),HW (by rfl)]
theorem DZ{c d a b:By}(h:smU c d a b=true):c.length<=100000000/\d.length<=100000000/\a.length<=100000000/\b.length<=100000000:=by simp only[smU,p4,ac3,and_assoc] at h;exact h
theorem ON{l m:By}{kd:Int}{a:By}{v4 b c d e f g h i j:Int}{k:By}(h0:smU l m a k=true)(h1:ltN v4 4294967296=true)(n:ok8 b c d e f g h i=true)(o:An j=true) :
  (X4 (mkU l m kd a v4 (n8 b c d e f g h i) j k)).length<=400000000:=by
 obtain⟨r,t,u,v⟩:=DZ h0;have p:=Vd (DL (h0:=kd) (h1:=a) h1 n);rw[BM] at p;have q:=NG o;unfold X4 mkU GL;simp only;split
 ·split<;>split<;>simp only[j0,j1,y5]<;>omega
 ·simp only[j0,j1];omega
theorem Cj3(c n:By)(m:Int)(a:By)(v4 e f g h i j k l b:Int)(d:By)(h0:smU c n a d=true)(h1:ltN v4 4294967296=true)(t:ok8 e f g h i j k l=true)(x:An b=true) :
  ∃r H,Ri LF c n m a v4 e f g h i j k l b d (λu q=>rv (.s (.str u)) q)=rv r H/\r.stab [] H = .s (.str (X4 (mkU c n m a v4 (n8 e f g h i j k l) b d))):=by
 obtain⟨D,F,G,I⟩:=DZ h0;have A:=Vd (DL (h0:=m) (h1:=a) h1 t);have C:=NG x;have key:∀T:By,Ri LF c n m a v4 e f g h i j k l b d (λu q=>rv (.s (.str u)) q)=rv (.s (.str T)) [bU c n m a v4 e f g h i j k l b d]->T=X4 (mkU c n m a v4 (n8 e f g h i j k l) b d)->∃r H,Ri LF c n m a v4 e f g h i j k l b d (λu q=>rv (.s (.str u)) q)=rv r H/\r.stab [] H = .s (.str (X4 (mkU c n m a v4 (n8 e f g h i j k l) b d))):=λT y z=>⟨_,_,y,by rw[<-z];rfl⟩
 have w:A3 a.length=true:=M8;cases o:J3 c with
 | false=>
  refine key (c++[58]++d) ?_ ?_
  ·unfold Ri;rw[o,G2 (by omega)];simp only[vl,cond_true,o6];rw[G2 (by simp;omega)];rfl
  ·unfold X4 mkU;simp only[o];simp
 | true=>
  have B:=A;by_cases v:n=[]
  ·subst v;have e0:(([]:By)==([]:List UInt8))=true:=rfl;by_cases p:b=-1
   ·subst p;refine key (((c++[58,47,47])++Iv (mkH m a v4 (n8 e f g h i j k l)))++d) ?_ ?_
    ·unfold Ri;rw[o,w,h1,t,e0];simp only[vl,cond_true,cond_false,j2,show((-1:Int)!=-1)=false from rfl]
     repeat rw[G2 (by first|omega|(simp only[j0,j1,y5];omega))]
     rfl
    ·unfold X4 mkU GL;simp[o,BM]
   ·refine key (((c++[58,47,47])++Iv (mkH m a v4 (n8 e f g h i j k l)))++([58]++Js b)++d) ?_ ?_
    ·unfold Ri;rw[o,w,h1,t,x,e0];simp only[vl,cond_true,cond_false,j2,show(b !=-1)=true by simpa using p]
     repeat rw[G2 (by first|omega|(simp only[j0,j1,y5];omega))]
     rfl
    ·unfold X4 mkU GL;simp[o,BM,p]
  ·have e0:(n==([]:List UInt8))=false:=by simpa using v
   by_cases p:b=-1
   ·subst p;refine key (((c++[58,47,47])++(n++[64])++Iv (mkH m a v4 (n8 e f g h i j k l)))++d) ?_ ?_
    ·unfold Ri;rw[o,w,h1,t,e0];simp only[vl,cond_true,cond_false,j2,o6,show((-1:Int)!=-1)=false from rfl]
     repeat rw[G2 (by first|omega|(simp only[j0,j1,y5];omega))]
     rfl
    ·unfold X4 mkU GL;simp[o,BM,v]
   ·refine key (((c++[58,47,47])++(n++[64])++Iv (mkH m a v4 (n8 e f g h i j k l)))++([58]++Js b)++d) ?_ ?_
    ·unfold Ri;rw[o,w,h1,t,x,e0];simp only[vl,cond_true,cond_false,j2,o6,show(b !=-1)=true by simpa using p]
     repeat rw[G2 (by first|omega|(simp only[j0,j1,y5];omega))]
     rfl
    ·unfold X4 mkU GL;simp[o,BM,p,v]
theorem Cs3{a:Int}{k:Nat}(d:k<4):(a==(k:Int))=(k==(if ltN a 4 then a.toNat else 4)):=by
 rw[o7,beq_iff_eq,beq_iff_eq];cases h:ltN a 4 with
 | true=>
  obtain⟨b,c⟩:=D9.1 h;rw[if_pos rfl];omega
 | false=>
  rw[if_neg (by simp)];have:¬(0<=a/\a<4):=λq=>by
   have:=D9.2 q;rw[h] at this;cases this
  omega
theorem Nz(a b:By):(a==b)=(b==a):=by rw[o7,beq_iff_eq,beq_iff_eq];exact eq_comm
theorem Aj(a b:Int):(a==b)=(b==a):=by rw[o7,beq_iff_eq,beq_iff_eq];exact eq_comm
theorem Es(a b:Nat):((a:Int)==(b:Int))=(b==a):=by rw[o7,beq_iff_eq,beq_iff_eq];omega
theorem MM{sc us:By}{kd:Int}{nm:By}{v4 a b c d f g h i po:Int}{re:By}{p:X6 × Nat}(L:ltN v4 4294967296=true)(M:ok8 a b c d f g h i=true)(P:B06 p.1) :
  ((sc==(uS p))&&((us==(uU p))&&((kd==(uK p))&&((nm==(uN p))&&((v4==(uV p))&&((a==(uA p 0))&&((b==(uA p 1))&&((c==(uA p 2))&&((d==(uA p 3))&&((f==(uA p 4))&&((g==(uA p 5))&&((h==(uA p 6))&&((i==(uA p 7))&&((po==(uP p))&&((re==(uR p))&&true)))))))))))))))=eqU p.1 (mkU sc us kd nm v4 (n8 a b c d f g h i) po re):=by
 obtain⟨⟨s,u,⟨k,n,v,l⟩,q,t⟩,e⟩:=p;obtain⟨K,_⟩:=P;obtain⟨B,C,D,F,G,H,I,J,rfl⟩:=eq8 K.v6.1;obtain⟨j,m,o,r,x,y,z,A,rfl,rfl,rfl,rfl,rfl,rfl,rfl,rfl,_⟩:=Qc M;obtain⟨w,rfl⟩:=x6 (D9.1 L).1;have N:k<4:=K.kd;have O:(([B,C,D,F,G,H,I,J]:List Nat)==[j,m,o,r,x,y,z,A])=((B==j)&&((C==m)&&((D==o)&&((F==r)&&((G==x)&&((H==y)&&((I==z)&&((J==A)&&true)))))))):=rfl;simp only[eqU,eqH,mkU,Ct8,n8,j9,O,aa0,ae4];rw[Cs3 N,Nz sc,Nz us,Nz nm,Nz re,Aj po,Es w,Es j,Es m,Es o,Es r,Es x,Es y,Es z,Es A];simp only[Bool.and_assoc,ah9];rfl
theorem A94(m n:By)(kd:Int)(j:By)(v4 a b c d f g h i k:Int)(l:By)(u:smU m n j l=true)(o:ltN v4 4294967296=true)(q:ok8 a b c d f g h i=true)(v:An k=true) :
  ∃r H,ED LF m n kd j v4 a b c d f g h i k l (λz w=>rv (.s (.bool z)) w)=rv r H/\r.stab [] H = .s (.bool (Z7 (mkU m n kd j v4 (n8 a b c d f g h i) k l))):=by
 have A:=ON (kd:=kd) u o q v;unfold ED Z7;rw[u,o,q,v];simp only[vl,cond_true];rw[M8,cond_true];have x:=Wc (X4 (mkU m n kd j v4 (n8 a b c d f g h i) k l));rw[MM o q x];generalize C0 (X4 (mkU m n kd j v4 (n8 a b c d f g h i) k l))=p;obtain⟨y,e⟩:=p;by_cases t:e=0
 ·subst t;exact⟨_,_,rfl,rfl⟩
 ·rw[show(uE (y,e)==(0:Int))=false by simpa using t,show(e==0)=false by simpa using t];exact⟨_,_,rfl,rfl⟩
theorem C03(l m:By)(n:Int)(i:By)(v4 a b c d e f g h j:Int)(k:By)(p:smU l m i k=true)(q:ltN v4 4294967296=true)(t:ok8 a b c d e f g h=true)(u:An j=true) :
  ∃r H,C01 LF l m n i v4 a b c d e f g h j k (λv o=>rv (.s (.str v)) o)=rv r H/\r.stab [] H = .s (.str (ZA (mkU l m n i v4 (n8 a b c d e f g h) j k))):=by
 unfold C01 ZA;rw[p,q,t,u];cases Z7 (mkU l m n i v4 (n8 a b c d e f g h) j k) with
 | false=>exact⟨_,_,rfl,rfl⟩
 | true=>exact⟨_,_,rfl,rfl⟩
end
section
open Go Go.Proofs Go.Sort
set_option maxRecDepth 100000
theorem WZ:B0 a8 GX 73 Ug:=by
 refine B0.fix (pf:=FU) _ (G7 (fn:=Tryz.f73) (by kernel_rfl) (by kernel_rfl) (by kernel_rfl) ?_);intro args ret j h;unfold FU at h;split at h
 ·rename_i s c;obtain⟨l,h⟩:=B9 h;obtain⟨m,h⟩:=B9 h;obtain⟨rfl,rfl⟩:=I7 h;refine⟨rfl,rfl,λC o a p w k n d b=>?_⟩;obtain⟨U,V,rfl,f,g⟩:=b.arr2;obtain⟨i,rfl,rfl⟩:=f.inv_str;obtain rfl:=g.inv_int;refine(Any.strings_IndexByte Tryz.lays137 i c w).mono ?_;rintro e w' ⟨rfl,rfl⟩;exact⟨_,rfl,af8 _ _,VP.mk_int _ _⟩
 ·cases h
theorem Ba2:B0 a8 GX 53 EG:=KJ 9223372036854775808 (v8 _)
theorem C29:B0 a8 GX 51 Bb1:=by
 refine B0.fix (pf:=EM) _ (G7 (fn:=Tryz.f51) (by kernel_rfl) (by kernel_rfl) (by kernel_rfl) ?_);intro args ret l h;unfold EM at h;split at h
 ·rename_i n;obtain⟨b,h⟩:=B9 h;obtain⟨rfl,rfl⟩:=I7 h;refine⟨rfl,rfl,λC o a p w m c i g=>?_⟩;obtain⟨U,rfl,j⟩:=g.arr1;obtain rfl:=j.inv_int;obtain⟨d,f⟩:=Vp.1 b;refine(Any.strconv_Itoa Tryz.laysM171 n (by omega) (by omega) w (B67 c a)).mono ?_;rintro e w' ⟨rfl,k,os,rfl⟩;refine⟨_,rfl,(Ny w k).trans (show RowKit.Below w.heap.size _ _ from GO (w.drewN k) os),?_⟩;have:Lib.itoa n=Js n:=by
   unfold Lib.itoa Js;split
   ·rw[show n.natAbs=(-n).toNat by omega]
   ·rfl
  rw[this];exact VP.mk_str _
 ·cases h
theorem Cm2:B0 a8 GX 58 XO:=by
 refine B0.fix (pf:=Pm) _ (G7 (fn:=ah5) (by kernel_rfl) (by kernel_rfl) (by kernel_rfl) ?_);intro args ret A h;unfold Pm at h;split at h
 ·rename_i s p;obtain⟨i,h⟩:=B9 h;obtain⟨k,h⟩:=B9 h;obtain⟨l,h⟩:=B9 h;obtain⟨rfl,rfl⟩:=I7 h;refine⟨rfl,rfl,λC G m I w B F r q=>?_⟩;obtain⟨U,V,rfl,y,z⟩:=q.arr2;obtain⟨g,rfl,rfl⟩:=y.inv_str;obtain⟨d,rfl,a⟩:=z.inv_str;have H:=L6 i;have c:p=isl:=by simpa[Zx] using k
  have D:=ab5 l;have f:=zero_of_info (P:=a8) (t:=Tryz.lays153_ren.t 116) (v:=.agg (Array.replicate 256 (.bool false))) (n:=256) (by kernel_rfl);subst c;have u:d.size=3:=by have:=ag6 d;rw[a] at this;exact this
  have x:=ag6 g;refine(Any.strings_IndexAny_long Tryz.lays153 f.1 f.2 g d w (by omega) (by omega) (by omega) (by omega) ?_).mono ?_
  ·rw[a];intro j b o;have:b∈isl:=List.mem_of_getElem? o
   revert b
   simp only[isl,s9,ad1,or_false];rintro b _ (rfl|rfl|rfl)<;>decide
  ·rintro e w' ⟨rfl,rfl⟩;rw[a];exact⟨_,rfl,((af8 _ _).alloc (v8 _) _).alloc (by simp) _,VP.mk_int _ _⟩
 ·cases h
end
section
open Go Go.Proofs
set_option maxRecDepth 100000
theorem WD{R:Type}{a:Bool->Option R}(n:Int):WC LF n a=a (ltI 8 n):=rfl
theorem Ai9{R:Type}{a:Bool->Option R}(r:Int):KF LF r a=a (KH r):=by
 have b:ltN r 55296=(!ltI r 0&&ltI r 55296):=by
  rw[o7,D9,p4,aa9,Jv,Lm];omega
 have c:(ltI 57343 r&&ltN r 1114112)=(ltI 57343 r&&!ltI 1114111 r):=by
  rw[o7,p4,p4,D9,aa9,Jv,Lm];omega
 unfold KF Km KH;rw[b,c];cases ltI r 0<;>cases ltI r 55296<;>cases ltI 57343 r<;>cases ltI 1114111 r<;>rfl
theorem C98(b:UInt8):j8 isl b=irn (b.toNat:Int):=by
 by_cases a:b=47
 ·subst a;rfl
 ·by_cases d:b=63
  ·subst d;rfl
  ·by_cases f:b=35
   ·subst f;rfl
   ·have n:∀c:UInt8,b≠c->(c==b)=false:=λc h=>by rw[beq_eq_false_iff_ne];exact af7 h
    have e:∀c:UInt8,b≠c->¬(b.toNat:Int)=(c.toNat:Int):=λc h q=>h (ab9.1 (by omega))
    have g:¬(b.toNat:Int)=47:=e 47 a;have i:¬(b.toNat:Int)=63:=e 63 d;have j:¬(b.toNat:Int)=35:=e 35 f;unfold irn;rw[if_neg g,if_neg i,if_neg j];simp[isl,j8,n _ a,n _ d,n _ f]
theorem Di0{l:By}{x:UInt8}(h:∀b∈l,b.toNat<128)(d:128<=x.toNat):j8 l x=-1:=by
 have e:=Lg x l;have c:l.contains x=false:=by
  rw[af3];intro a;have:=h x (by simpa using a);omega
 rw[c,o6,Lm] at e;have:=ag2 l x;omega
theorem B62{r:Int}(g:KH r=true)(h:128<=r):2<=(aa7 r).data.toList.length/\(aa7 r).data.toList.length<=4/\128<=((aa7 r).data.toList.getD ((aa7 r).data.toList.length-1) 0).toNat:=by
 have a:Utf8.valid r=true:=by
  rw[validRune_eq];unfold validRune;simp only[KH,aa2,p4,D9,Lm] at g;exact decide_eq_true (by omega)
 obtain⟨b,c,d⟩:=encode_facts r a h;have f:=ag6 (aa7 r);rw[<-f];refine⟨b,c,?_⟩;have e:=d (by omega);rw[List.getD_eq_getElem?_getD,ac8 (by omega),ag4];exact e
theorem Bw5(r:Int)(h:ltN r 1114112=true):∃v H,JX LF r (λk=>rv (.s (.int .i64 k)) []) (λk I=>rv (.s (.int .i64 k)) [.iter [47,63,35] I])=rv v H/\v.stab [] H = .s (.int .i64 (irn r)):=by
 obtain⟨A,M⟩:=D9.1 h;have B:=C2;unfold JX;rw[A6,o6,cond_true];unfold Ki;by_cases p:r<128
 ·obtain⟨n,rfl⟩:=x6 A;have e:wu8 (n:Int)=(n:Int):=L4;have f:u8n (n:Int)=ab8 n:=by unfold u8n;simp
  have g:(((ab8 n).toNat:Nat):Int)=(n:Int):=by simp;omega
  rw[A8,cond_true,e,E6,f];have o:=C98 (ab8 n);rw[g] at o;rw[<-o];exact⟨_,_,rfl,rfl⟩
 ·rw[A6,cond_false,B81 (by omega)];by_cases t:r=65533
  ·subst t;obtain⟨m,i⟩:∃m,LF=m+1+1+1+1:=⟨LF-4,by omega⟩
   have w:w6 ⟨p7 ([47,63,35]:List UInt8)⟩ 0=(47,1):=rfl;have x:w6 ⟨p7 ([47,63,35]:List UInt8)⟩ 1=(63,1):=rfl;have y:w6 ⟨p7 ([47,63,35]:List UInt8)⟩ 2=(35,1):=rfl;have go:∀(R:Type) (c:Int->Nat->Option R) (a:Nat->Option R),Y5 LF LF 0 c a=a 3:=λR c a=>by
    have L:Y5 LF (m+1) 3 c a=a 3:=by rw[Dx];rfl
    have K:Y5 LF (m+1+1) 2 c a=a 3:=by rw[Dx];unfold Da;rw[y];exact L
    have J:Y5 LF (m+1+1+1) 1 c a=a 3:=by rw[Dx];unfold Da;rw[x];exact K
    have d:Y5 LF (m+1+1+1+1) 0 c a=a 3:=by rw[Dx];unfold Da;rw[w];exact J
    rw[<-i] at d;exact d
   rw[go];exact⟨_,_,rfl,rfl⟩
  ·rw[show(r==(65533:Int))=false by simpa using t,cond_false];cases F:KH r with
   | false=>exact⟨_,_,rfl,rfl⟩
   | true=>
    obtain⟨O,P,G⟩:=B62 F (by omega);simp only[vl,j2,cond_false];generalize (aa7 r).data.toList=l at *;obtain⟨m,i⟩:∃m,LF=m+1:=⟨LF-1,by omega⟩
    have z:A1 ((l.length:Int)-1)=((l.length-1:Nat):Int):=by rw[A7];omega
    have go:∀(R:Type) (c:Int->Option R) (a:Unit->Option R),a ()=c (-1)->Fr LF LF l ((l.length-1:Nat):Int) c a=c (-1):=λR c a C=>by
     have d:Fr LF (m+1) l ((l.length-1:Nat):Int) c a=c (-1):=by
      rw[CO];unfold Mj;by_cases N:l.length=4
      ·rw[A6];exact C
      ·rw[A8,E6,E6,D0,D0];simp only[vl,cond_true];have D:(([47,63,35]:List UInt8).getD (l.length-1) 0).toNat<128:=by
        have:l.length=2\/l.length=3:=by omega
        rcases this with q|q<;>rw[q]<;>decide
       have j:((((([47,63,35]:List UInt8).getD (l.length-1) 0).toNat:Nat):Int)!=(((l.getD (l.length-1) 0).toNat:Nat):Int))=true:=by
        rw[bne_iff_ne];omega
       have f:A1 (((l.length-1:Nat):Int)+1)=((l.length:Nat):Int):=by rw[A7];omega
       have g:cut ([47,63,35]:List UInt8) ((l.length:Nat):Int) 3=([47,63,35]:List UInt8).drop l.length:=by
        rw[show(3:Int)=((3:Nat):Int) from rfl,Ek];rfl
       have u:=(l.getD (l.length-1) 0).toNat_lt;rw[j,cond_true,f,H9,cond_true,g,E0 (by simp;omega),cond_true,E6,cond_true,Ik,Di0 (λb u=>?_) G]
       ·rfl
       ·have:=v7 u;simp only[s9,ad1,or_false] at this;rcases this with rfl|rfl|rfl<;>decide
     rw[<-i] at d;exact d
    rw[z,go _ _ _ rfl];exact⟨_,_,rfl,rfl⟩
theorem B01:B0 a8 GX 76 Ym:=by
 refine B0.fix (pf:=Rs) _ (I6 [] (C₀:=Ze LF) (L5.ok (l:=[]) rfl trivial) (I4 rfl (by kernel_rfl)) follows ?_);intro args ret a h;unfold Rs at h;split at h
 ·rename_i n;obtain⟨rfl,rfl⟩:=I7 h;have e:=(A76 LF noY () 0 n).trans (WD n);exact⟨rfl,rfl,rfl,1,_,_,e,rfl⟩
 ·cases h
theorem Cn3:B0 a8 GX 101 GE:=by
 refine B0.fix (pf:=Ys) _ (I6 [] (C₀:=Bl LF) (L5.ok (l:=[]) rfl trivial) (I4 rfl (by kernel_rfl)) follows ?_);intro args ret a h;unfold Ys at h;split at h
 ·rename_i n;obtain⟨rfl,rfl⟩:=I7 h;have e:=(By8 LF noY () 0 n).trans (Ai9 n);exact⟨rfl,rfl,rfl,1,_,_,e,rfl⟩
 ·cases h
theorem Cm5:B0 a8 GX 77 Nr:=λargs ret a h=>by
 have:L2 (Nr args)=none:=by unfold Nr LW;split<;>rfl
 rw[this] at h;cases h
theorem Cm4:B0 a8 GX 75 FW:=by
 refine B0.fix (pf:=Yl) _ (I6 [] (C₀:=K8 LF) (L5.ok (l:=[(73,Ug),(101,GE)]) rfl ⟨WZ,Cn3,trivial⟩) (I4 rfl (by kernel_rfl)) follows ?_);intro args ret f h;unfold Yl at h;split at h
 ·rename_i p r;obtain⟨a,h⟩:=B9 h;obtain⟨b,h⟩:=B9 h;obtain⟨rfl,rfl⟩:=I7 h;obtain rfl:p=isl:=by simpa[Zx] using a
  obtain⟨d,H,e,c⟩:=Bw5 r b;exact⟨rfl,rfl,rfl,1,d,H,(Bw4 LF noY () 0 r).trans e,c⟩
 ·cases h
theorem JZ:∀(w:Nat) (l:By),w<=l.length->(∀i,i<w->V4 (l.getD i 0)=false)->J5 l=w+J5 (l.drop w)
 | 0,l,_,_=>by simp
 | w+1,[],h,_=>by simp at h
 | w+1,b::l,h,hb=>by
  have a:=hb 0 (by omega);rw[aa0] at a;have d:=JZ w l (by simpa using h) (λi c=>by have:=hb (i+1) (by omega);rwa [ae4] at this);rw[He,a,List.drop_succ_cons];simp only[o9,if_false];omega
theorem Ah0(s:By)(O:s.length<=8):∀(f m n:Nat),s.length-m<=f->m<=s.length->f<n->∃H t,∀(R:Type) (j:Int->List Blk->Option R) (k:By->Nat->Option R),
  Kh LF n s m j k=if J5 (s.drop m)<(s.drop m).length then j ((m+J5 (s.drop m):Nat):Int) H else k s t:=by
 intro f
 induction f with
 | zero=>
  intro m n G K L;obtain⟨n,rfl⟩:∃q,n=q+1:=⟨n-1,by omega⟩
  refine⟨[],m,λR j k=>?_⟩;rw[Be];unfold X3;rw[decide_eq_false (by omega),cond_false,p5 (by omega),if_neg (by simp)]
 | succ f z=>
  intro m n G K L;obtain⟨n,rfl⟩:∃q,n=q+1:=⟨n-1,by omega⟩
  by_cases a:m<s.length
  ·have F:=Lib.decodeL_drop ⟨s.toArray⟩ m;have h:w6 ⟨p7 s⟩ m=y8 (s.drop m):=by rw[<-F]
   have p:=D2 s m a;have N:(s.drop m).length=s.length-m:=c9;generalize M:s.getD m 0=b at p;by_cases o:b.toNat<128
   ·have y:y8 (s.drop m)=(b.toNat,1):=by rw[p];exact Lib.decodeL_ascii b _ o
    have l:=C99 b;cases g:V4 b with
    | true=>
     rw[g,j2] at l;have u:J5 (s.drop m)=0:=by rw[p,He,g];rfl
     refine⟨[Blk.iter s (m+1)],m,λR j k=>?_⟩;rw[Be];unfold X3;rw[decide_eq_true a,h,y,u,R9];simp only[vl,cond_true];rw[show Zx ([47,63,35]:List UInt8)=true from rfl,cond_true,D9.2 ⟨by omega,by omega⟩,cond_true,l];rfl
    | false=>
     rw[g,o6] at l;have u:J5 (s.drop m)=J5 (s.drop (m+1))+1:=by rw[p,He,g];rfl
     have v:(s.drop (m+1)).length=s.length-(m+1):=c9;obtain⟨H,t,e⟩:=z (m+1) n (by omega) (by omega) (by omega);refine⟨H,t,λR j k=>?_⟩;rw[Be];unfold X3;rw[decide_eq_true a,h,y];simp only[vl,cond_true];rw[show Zx ([47,63,35]:List UInt8)=true from rfl,cond_true,D9.2 ⟨by omega,by omega⟩,cond_true,l,j2,cond_false,e,u];by_cases q:J5 (s.drop (m+1))<(s.drop (m+1)).length
     ·rw[if_pos q,R9,show m+1+J5 (s.drop (m+1))=m+(J5 (s.drop (m+1))+1) by omega]
     ·rw[if_neg q,F9]
   ·obtain⟨A,B,C,D,x⟩:=C88 b (s.drop (m+1)) (by omega);rw[<-p] at A B C D x;have v:(s.drop (m+1)).length=s.length-(m+1):=c9;generalize y8 (s.drop m)=d at *;obtain⟨c,w⟩:=d;simp only at A B C D x;have r:=JZ w (s.drop m) (by omega) (λi I=>Cg6 (x i I));rw[List.drop_drop] at r;have J:(s.drop (m+w)).length=s.length-(m+w):=c9;have l:ltI (irn (c:Int)) 0=true:=by rw[B81 (by omega)];rfl
    obtain⟨H,t,e⟩:=z (m+w) n (by omega) (by omega) (by omega);refine⟨H,t,λR j k=>?_⟩;rw[Be];unfold X3;rw[decide_eq_true a,h];simp only[vl,cond_true];rw[show Zx ([47,63,35]:List UInt8)=true from rfl,cond_true,D9.2 ⟨by omega,by omega⟩,cond_true,l,j2,cond_false,e,r];by_cases q:J5 (s.drop (m+w))<(s.drop (m+w)).length
    ·rw[if_pos q,R9,show m+w+J5 (s.drop (m+w))=m+(w+J5 (s.drop (m+w))) by omega]
    ·rw[if_neg q,F9]
  ·refine⟨[],m,λR j k=>?_⟩;rw[Be];unfold X3;rw[decide_eq_false a,cond_false,p5 (by omega),if_neg (by simp)]
theorem Bw2(s:By)(h:s.length<=8):∃r H,VW LF s (λc a=>rv (.s (.int .i64 c)) a)=rv r H/\r.stab [] H = .s (.int .i64 (y9 s isl)):=by
 have b:=C2;obtain⟨H,d,e⟩:=Ah0 s h s.length 0 LF (by omega) (by omega) (by omega);unfold VW;rw[A6,cond_false,e,Iw,ah2,ad4];by_cases q:J5 s<s.length
 ·rw[if_pos q,if_pos q];exact⟨_,_,rfl,rfl⟩
 ·rw[if_neg q,if_neg q];exact⟨_,_,rfl,rfl⟩
theorem Cm3:B0 a8 GX 58 XP:=by
 refine B0.fix (pf:=Pn) _ (I6 [] (C₀:=Fy LF) (L5.ok (l:=[(75,FW),(76,Ym),(77,Nr)]) rfl ⟨Cm4,B01,Cm5,trivial⟩) (I4 rfl (by kernel_rfl)) follows ?_);intro args ret f h;unfold Pn at h;split at h
 ·rename_i s p;obtain⟨a,h⟩:=B9 h;obtain⟨b,h⟩:=B9 h;obtain⟨rfl,rfl⟩:=I7 h;obtain rfl:p=isl:=by simpa[Zx] using a
  obtain⟨d,H,e,c⟩:=Bw2 s (ab5 b);exact⟨rfl,rfl,rfl,1,d,H,(Bw1 LF noY () 0 s).trans e,c⟩
 ·cases h
theorem Y6{c:Bool}{t:Tr}(h:c=true):L2 (.need c t)=L2 t:=by subst h;rfl
theorem C52:B0 a8 GX 58 RE:=λargs ret c h=>by
 have a:=Cm2 args ret c;have b:=Cm3 args ret c;unfold RE at h;unfold XO at a;unfold XP at b;generalize B8 [[0],[0]] args=l at h a b;unfold XN at h;split at h
 ·rename_i s p;obtain⟨e,h⟩:=B9 h;obtain⟨d,h⟩:=B9 h;by_cases f:s.length<=8
  ·refine b ?_;unfold Pn;rw[Y6 d,Y6 (ae0 f)];exact h
  ·refine a ?_;unfold Pm;rw[Y6 e,Y6 d,Y6 (ae0 (by omega))];exact h
 ·cases h
section
theorem C33:B0 a8 GX 112 Bb4:=xf [] (SP LF) ES rfl ⟨Ba3,trivial⟩ rfl (by kernel_rfl) follows λargs=>by
 unfold ES;split
 ·rename_i s p;exact λa=>⟨rfl,rfl,rfl,_,_,(B91 LF noY () 0 s p).trans (Av1 s p a),rfl⟩
 ·trivial
theorem Df7:B0 a8 GX 83 B28:=xf [] (Ap4 LF) RJ rfl ⟨C33,trivial⟩ rfl (by kernel_rfl) follows λargs=>by
 unfold RJ;split
 ·rename_i s p;exact λa=>⟨rfl,rfl,rfl,_,_,(Cz9 LF noY () 0 s p).trans (Bx5 s p a),rfl⟩
 ·trivial
theorem Xr:B0 a8 GX 44 Po:=xf [] (TG LF) GB rfl trivial rfl (by kernel_rfl) follows λargs=>by
 unfold GB;split
 ·rename_i s;exact⟨rfl,rfl,rfl,_,_,(Ci7 LF noY () 0 s).trans (A87 s ),rfl⟩
 ·trivial
theorem XA:B0 a8 GX 22 Ui:=xf [] (TH LF) GC rfl ⟨Xr,trivial⟩ rfl (by kernel_rfl) follows λargs=>by
 unfold GC;split
 ·rename_i s;exact⟨rfl,rfl,rfl,_,_,(Cj1 LF noY () 0 s).trans (A92 s ),rfl⟩
 ·trivial
theorem Cm8:B0 a8 GX 24 RL:=xf [] (Ap6 LF) RM rfl ⟨Xr,trivial⟩ rfl (by kernel_rfl) follows λargs=>by
 unfold RM;split
 ·rename_i n o j k v4 a b c d f g h i l m;exact(let⟨r,H,e,q⟩:=C05 n o j k v4 a b c d f g h i l m ; ⟨rfl,rfl,rfl,r,H,(C04 LF noY () 0 n o j k v4 a b c d f g h i l m).trans e,q⟩)
 ·trivial
theorem Df9:B0 a8 GX 26 Am4:=xf [] (Ap7 LF) RP rfl ⟨Xr,trivial⟩ rfl (by kernel_rfl) follows λargs=>by
 unfold RP;split
 ·rename_i n o j k v4 a b c d f g h i l m;exact(let⟨r,H,e,q⟩:=C12 n o j k v4 a b c d f g h i l m ; ⟨rfl,rfl,rfl,r,H,(C11 LF noY () 0 n o j k v4 a b c d f g h i l m).trans e,q⟩)
 ·trivial
theorem Dg0:B0 a8 GX 55 B31:=xf [] (Z3 LF) RQ rfl ⟨WZ,trivial⟩ rfl (by kernel_rfl) follows λargs=>by
 unfold RQ;split
 ·rename_i s;exact λa=>⟨rfl,rfl,rfl,_,_,(C14 LF noY () 0 s).trans (By6 s a),rfl⟩
 ·trivial
theorem Df8:B0 a8 GX 82 B30:=xf [0,0] (Sp LF) RN rfl trivial rfl (by kernel_rfl) follows λargs=>by
 unfold RN;split
 ·rename_i s;exact λa=>⟨rfl,rfl,rfl,_,_,(C07 LF noY () 0 s).trans (Bx8 s a),rfl⟩
 ·trivial
theorem Cn0:B0 a8 GX 60 XR:=xf [0,0] (W6 LF) Yq rfl ⟨Bk4,WY,WZ,Ck7,Df7,Df8,Xr,trivial⟩ rfl (by kernel_rfl) follows λargs=>by
 unfold Yq;split
 ·rename_i o p k l v4 b c d f g h i j m n a;exact λt=>λu=>λv=>λw=>λx=>(let⟨r,H,e,q⟩:=By3 o p k l v4 b c d f g h i j m n a t u v w x;⟨rfl,rfl,rfl,r,H,(By2 LF noY () 0 o p k l v4 b c d f g h i j m n a).trans e,q⟩)
 ·trivial
theorem Cn1:B0 a8 GX 40 Am3:=xf [0,0] (Sq LF) RO rfl ⟨Cm1,Dg0,Cl2,XA,Ck4,C52,WY,Cn0,trivial⟩ rfl (by kernel_rfl) follows λargs=>by
 unfold RO;split
 ·rename_i s;exact λa=>(let⟨r,H,e,q⟩:=C09 s a;⟨rfl,rfl,rfl,r,H,(C08 LF noY () 0 s).trans e,q⟩)
 ·trivial
theorem Cm9:B0 a8 GX 13 GA:=xf [0,0] (HA LF) Yp rfl ⟨Cn1,trivial⟩ rfl (by kernel_rfl) follows λargs=>by
 unfold Yp;split
 ·rename_i s;exact λa=>(let⟨r,H,e,q⟩:=By0 s a;⟨rfl,rfl,rfl,r,H,(Bx9 LF noY () 0 s).trans e,q⟩)
 ·trivial
theorem Bl0:B0 a8 GX 42 RS:=xf [] (TJ LF) GD rfl ⟨XA,Dd7,C29,trivial⟩ rfl (by kernel_rfl) follows λargs=>by
 unfold GD;split
 ·rename_i n o j k v4 a b c d f g h i l m;exact λp=>λt=>λu=>λv=>(let⟨r,H,e,q⟩:=Cj3 n o j k v4 a b c d f g h i l m p t u v;⟨rfl,rfl,rfl,r,H,(Cj2 LF noY () 0 n o j k v4 a b c d f g h i l m).trans e,q⟩)
 ·trivial
theorem OT:B0 a8 GX 16 Pp:=xf [] (Zg LF) Ru rfl ⟨Bl0,Cn1,trivial⟩ rfl (by kernel_rfl) follows λargs=>by
 unfold Ru;split
 ·rename_i n o j k v4 a b c d f g h i l m;exact λp=>λt=>λu=>λv=>(let⟨r,H,e,q⟩:=A94 n o j k v4 a b c d f g h i l m p t u v;⟨rfl,rfl,rfl,r,H,(A93 LF noY () 0 n o j k v4 a b c d f g h i l m).trans e,q⟩)
 ·trivial
theorem Cm7:B0 a8 GX 15 FZ:=xf [] (Ap5 LF) RK rfl ⟨OT,Bl0,trivial⟩ rfl (by kernel_rfl) follows λargs=>by
 unfold RK;split
 ·rename_i n o j k v4 a b c d f g h i l m;exact λp=>λt=>λu=>λv=>(let⟨r,H,e,q⟩:=C03 n o j k v4 a b c d f g h i l m p t u v;⟨rfl,rfl,rfl,r,H,(C02 LF noY () 0 n o j k v4 a b c d f g h i l m).trans e,q⟩)
 ·trivial
end
end
section
open Go Go.Proofs Go.RowKit
set_option maxRecDepth 100000
abbrev Z6(m n:ByteArray)(i:Int)(j:ByteArray)(v4 a b c d e f g h k:Int)(l:ByteArray):Array Value:=#[.string m,.string n,.int .i64 i,.string j,.int .u32 v4,.int .u16 a,.int .u16 b,.int .u16 c,.int .u16 d,.int .u16 e,.int .u16 f,.int .u16 g,.int .u16 h,.int .i64 k,.string l]
abbrev Ie:ByteArray:=⟨#[104,116,116,112]⟩
abbrev Jd:ByteArray:=⟨#[104,116,116,112,115]⟩
abbrev sWs:ByteArray:=⟨#[119,115]⟩
abbrev VT:ByteArray:=⟨#[119,115,115]⟩
abbrev Hk:MapEntry:={ key:=.string Ie,val:=.string Jd,born:=0 }
abbrev Su:MapEntry:={ key:=.string sWs,val:=.string VT,born:=1 }
theorem Uj(w:World)(o:Obj):(w.alloc o).heap[w.heap.size]? = some o:=(MapKept.heap_alloc w o).1
theorem MC(w:World)(o p:Obj):({ (w.alloc o) with heap:=(w.alloc o).heap.setIfInBounds w.heap.size p }:World)=w.alloc p:=by
 have e:(w.heap.push o).setIfInBounds w.heap.size p=w.heap.push p:=by
  apply ag0.1;rw[Array.toList_setIfInBounds,af2,af2,<-w9,List.set_append_right _ _ (v8 _),af6];rfl
 show({ w with heap:=(w.heap.push o).setIfInBounds w.heap.size p }:World) = { w with heap:=w.heap.push p }
 rw[e]
theorem B93{P:Program}{t k e:TypeId}(b:P.underlying t=some (.map k e))(a:P.underlying k=some .string)(w:World):(ad8 t (.map (some w.heap.size)) (.string Ie) (.string Jd)).run P (w.alloc (.map #[] 0)) = .ok () (w.alloc (.map #[Hk] 1)):=by rw[run_mapUpdate_first (w:=w.alloc (.map #[] 0)) t k e w.heap.size 0 Ie (.string Jd) b a (Uj w _),MC]
theorem B94{P:Program}{t k e:TypeId}(f:P.underlying t=some (.map k e))(b:P.underlying k=some .string)(w:World):(ad8 t (.map (some w.heap.size)) (.string sWs) (.string VT)).run P (w.alloc (.map #[Hk] 1)) = .ok () (w.alloc (.map #[Hk,Su] 2)):=by have a:=Uj w (.map #[Hk] 1);have d:ae7 .string (.string sWs) (#[Hk]:Array MapEntry).toList 0=some none:=rfl;have c:(ah1 false 10000 k (.string sWs)).run P (w.alloc (.map #[Hk] 1)) = .ok () (w.alloc (.map #[Hk] 1)):=ae2 (k:=.string sWs) b (by simp[ai2]) false 9999;simp only[ad8,Sem.run_bind,run_underlying f,ab3 a,c,ac0 b d,MapKept.run_setObj_map _ a,ae3];exact congrArg (Result.ok ()) (MC w (.map #[Hk] 1) (.map #[Hk,Su] 2))
theorem UI{P:Program}{t k e:TypeId}(g:P.underlying t=some (.map k e))(c:P.underlying k=some .string)(w:World):(ab0 t (.map (some w.heap.size)) (.string Ie) false).run P (w.alloc (.map #[Hk,Su] 2)) = .ok (.string Jd) (w.alloc (.map #[Hk,Su] 2))/\(ab0 t (.map (some w.heap.size)) (.string sWs) false).run P (w.alloc (.map #[Hk,Su] 2)) = .ok (.string VT) (w.alloc (.map #[Hk,Su] 2)):=by
 have d:=Uj w (.map #[Hk,Su] 2);have h:ae7 .string (.string Ie) (#[Hk,Su]:Array MapEntry).toList 0=some (some (0,.string Jd)):=rfl;have a:ae7 .string (.string sWs) (#[Hk,Su]:Array MapEntry).toList 0=some (some (1,.string VT)):=rfl;have f:∀s b,(ah1 b 10000 k (.string s)).run P (w.alloc (.map #[Hk,Su] 2)) = .ok () (w.alloc (.map #[Hk,Su] 2)):=λs b=>ae2 (k:=.string s) c (by simp[ai2]) b 9999
 constructor
 ·simp[ab0,run_underlying g,ab3 d,f,ac0 c h,ae3]
 ·simp[ab0,run_underlying g,ab3 d,f,ac0 c a,ae3]
theorem size_alloc(w:World)(o:Obj):(w.alloc o).heap.size=w.heap.size+1:=ad7 ..
theorem Vm(w:World)(A B C D:Obj):((((w.alloc A).alloc B).alloc C).alloc D).heap[w.heap.size+1]? = some B:=by
 have e:∀(w:World) (o:Obj) (i:Nat),i<w.heap.size->(w.alloc o).heap[i]? = w.heap[i]?:=λw o i h=>by
  show(w.heap.push o)[i]? = w.heap[i]?;rw[Array.getElem?_push,if_neg (Nat.ne_of_lt h)]
 rw[e _ _ _ (by simp only[size_alloc];omega),e _ _ _ (by simp only[size_alloc];omega),<-size_alloc w A];exact Uj (w.alloc A) B
theorem YP(w:World)(o:Obj)(n:Nat):(w.alloc o).drewN n=(w.drewN n).alloc o:=rfl
theorem Br5(w:World):Calls a8 44 #[.string Ie] w λe w'=>e = .returned (.int .i64 80)/\w'=w:=by
 go_enter ab7,ad5
 go_wp2
 go_ret
 exact⟨rfl,rfl⟩
theorem Ay0(w:World):Calls a8 44 #[.string Jd] w λe w'=>e = .returned (.int .i64 443)/\w'=w:=by
 go_enter ab7,ad5
 go_wp2
 go_ret
 exact⟨rfl,rfl⟩
theorem Cv3(w:World):Calls a8 44 #[.string sWs] w λe w'=>e = .returned (.int .i64 80)/\w'=w:=by
 go_enter ab7,ad5
 go_wp2
 go_ret
 exact⟨rfl,rfl⟩
theorem Cb2(w:World):Calls a8 44 #[.string VT] w λe w'=>e = .returned (.int .i64 443)/\w'=w:=by
 go_enter ab7,ad5
 go_wp2
 go_ret
 exact⟨rfl,rfl⟩
theorem B79(a o l n:ByteArray)(k v4 b c d f g h i j m:Int)(q:∀w,Calls a8 44 #[.string a] w λe w'=>e = .returned (.int .i64 80)/\w'=w)(w:World):Calls a8 24 #[.agg (Z6 a o k l v4 b c d f g h i j m n)] w λe w'=>e = .returned (.bool true)/\w'=w.alloc (.cells (Z6 a o k l v4 b c d f g h i j m n) 29):=by
 have p:∀args w,(callFunc 44 args).run a8 w = .ok (.enter 44 args) w:=enters_of ab7 (by kernel_rfl) rfl
 go_enter aj5,Tryz.ntmps24
 go_wp2_with (go_at_fn 44;refine(q _).mono ?_;rintro e w' ⟨rfl,r⟩;rw[r])
 go_ret
 exact⟨rfl,rfl⟩
theorem Bj7(x g y u v:ByteArray)(t v4 i j k l m n o p c f:Int)(L:c=443->f=-1)(M:¬c=443->f=c)
  (b:∀w,Calls a8 24 #[.agg (Z6 x y t u v4 i j k l m n o p c v)] w λe w'=>e = .returned (.bool true)/\w'=w.alloc (.cells (Z6 x y t u v4 i j k l m n o p c v) 29))
  (J:∀w:World,(ab0 52 (.map (some w.heap.size)) (.string x) false).run a8 (w.alloc (.map #[Hk,Su] 2)) = .ok (.string g) (w.alloc (.map #[Hk,Su] 2)))
  (d:∀w,Calls a8 44 #[.string g] w λe w'=>e = .returned (.int .i64 443)/\w'=w) (w:World) :
  Calls a8 28 #[.agg (Z6 x y t u v4 i j k l m n o p c v)] w λe w'=>e = .returned (.agg (Z6 g y t u v4 i j k l m n o p f v))/\Below w.heap.size w w':=by
 have z:∀args w,(callFunc 24 args).run a8 w = .ok (.enter 24 args) w:=enters_of aj5 (by kernel_rfl) rfl;have K:∀args w,(callFunc 44 args).run a8 w = .ok (.enter 44 args) w:=enters_of ab7 (by kernel_rfl) rfl;have H:=@run_makeMap a8;have q:∀(w:World) A B C,(((w.alloc A).alloc B).alloc C).heap.size=w.heap.size+1+1+1:=λw A B C=>by simp only[aj6,ad7]
 have D:∀(w:World) A B C,_:=λw A B C=>q w A B C▸B93 (P:=a8) p9 s7 (((w.alloc A).alloc B).alloc C)
 have F:∀(w:World) A B C,_:=λw A B C=>q w A B C▸B94 (P:=a8) p9 s7 (((w.alloc A).alloc B).alloc C)
 have G:∀(w:World) A B C,_:=λw A B C=>q w A B C▸J (((w.alloc A).alloc B).alloc C)
 clear J
 go_enter Tryz.func28,Tryz.ntmps28
 go_wp2_with (go_at_fn 24;refine(b _).mono ?_;rintro e w' ⟨rfl,N⟩;rw[N])
 clear b H z
 go_quiet (first|(go_at_call 44;exact Calls.quiet_of_same (d _)))
 obtain⟨h,a⟩:∃h,h=w.drewN nq:=⟨_,rfl⟩
 have r:w.heap.size=h.heap.size:=by rw[a];rfl
 have I:Below h.heap.size w h:=by rw[<-r,a];exact⟨rfl,rfl,rfl,v8 _,λ_ _=>rfl⟩
 simp only[YP,<-a,r];clear D F G q a
 go_wp2
 all_goals (try simp only[Exit.inBlock,Exit.then])
 ·have e:=L (by first|rfl|simpa using ‹(c==443)=true›);subst e;refine bodyPost_ret (results_cell_row rfl _ _ (h.heap.size+1) 29 _ _ _ rfl (Vm _ _ _ _ _) ab4 rfl (by kernel_rfl)) rfl ⟨rfl,?_⟩;rw[r];exact(((I.alloc (v8 _) _).alloc (by simp only[size_alloc];omega) _).alloc (by simp only[size_alloc];omega) _).alloc (by simp only[size_alloc];omega) _
 ·have e:=M (by first|assumption|simpa using ‹(c==443)=false›);subst e;refine bodyPost_ret (results_cell_row rfl _ _ (h.heap.size+1) 29 _ _ _ rfl (Vm _ _ _ _ _) ab4 rfl (by kernel_rfl)) rfl ⟨rfl,?_⟩;rw[r];exact(((I.alloc (v8 _) _).alloc (by simp only[size_alloc];omega) _).alloc (by simp only[size_alloc];omega) _).alloc (by simp only[size_alloc];omega) _
end
section
open Go Go.Proofs
set_option maxRecDepth 100000
section
variable {Z R : Type} (L : Nat) (Y : F7) (Q : Yh Z) (s : Z) (k : Out -> St Z -> Option R)
noncomputable def Ap8(L:Nat):Cfg:=B4 L [28] (A2 []) [(24,RL),(44,Po)] (A2 [(6,[2]),(5,[1,0]),(4,[1,0,15]),(3,[1,0]),(2,[2]),(1,[1,0,2]),(0,[1,0])]) [24,44] (A2 []) (some [2]) [] [] []
noncomputable def C15{R:Type}(L:Nat)(f g:By)(h:Int)(i:By)(j l m n u8 o a b c d:Int)(e:By)(p:By->By->Int->By->Int->Int->Int->Int->Int->Int->Int->Int->Int->Int->By->(List Blk)->Option R):Option R:=cond (not (U2 f)) (p f g h i j l m n u8 o a b c d e [(bU f g h i j l m n u8 o a b c d e),(bU f g h i j l m n u8 o a b c d e)]) none
theorem C16(d:Nat)(u0 u1 u2 u3 u4 u5 u6 u7 u8 u9 u10 u11 u12 u13 u14):evC (Ap8 L) (d+1) Z Q 28 [(gU u0 u1 u2 u3 u4 u5 u6 u7 u8 u9 u10 u11 u12 u13 u14)] [] s=C15 L u0 u1 u2 u3 u4 u5 u6 u7 u8 u9 u10 u11 u12 u13 u14 (λh i j l m n o p r8 q b c e f g a=>some ((gU h i j l m n o p r8 q b c e f g),a,s)):=by refine(evE (fn:=Tryz.f28) (by kernel_rfl)).trans ?_;generalize evC (Ap8 L) d=Y;unfold C15;kernel_rfl
end
end
section
open Go Go.Proofs Go.RowKit
set_option maxRecDepth 100000
theorem B80{Γ:Ctx}{sh:Nat->Option Shp}{w:World}{V:Value}{I J:By}{D:Int}{F:By}{v4 t u v x y z B C G:Int}{H:By}(h:VP Γ sh w (gU I J D F v4 t u v x y z B C G H) V) :
  ∃d e b c:ByteArray,I=d.data.toList/\J=e.data.toList/\F=b.data.toList/\H=c.data.toList/\V = .agg (Z6 d e D b v4 t u v x y z B C G c):=by
 obtain⟨A,rfl,hA,a⟩:=h.inv_agg;have hs:A.size=15:=hA;obtain⟨_,e0,T⟩:=a 0 (show 0<15 by omega);obtain⟨_,K,U⟩:=a 1 (show 1<15 by omega);obtain⟨_,L,W⟩:=a 2 (show 2<15 by omega);obtain⟨_,M,X⟩:=a 3 (show 3<15 by omega);obtain⟨_,N,Y⟩:=a 4 (show 4<15 by omega);obtain⟨_,O,Z⟩:=a 5 (show 5<15 by omega);obtain⟨_,P,q6⟩:=a 6 (show 6<15 by omega);obtain⟨_,Q,q7⟩:=a 7 (show 7<15 by omega);obtain⟨_,R,q8⟩:=a 8 (show 8<15 by omega);obtain⟨_,S,q9⟩:=a 9 (show 9<15 by omega);obtain⟨_,f,m⟩:=a 10 (show 10<15 by omega);obtain⟨_,g,o⟩:=a 11 (show 11<15 by omega);obtain⟨_,j,p⟩:=a 12 (show 12<15 by omega);obtain⟨_,k,q⟩:=a 13 (show 13<15 by omega);obtain⟨_,l,r⟩:=a 14 (show 14<15 by omega);obtain⟨d,rfl,rfl⟩:=VP.inv_str T;obtain⟨e,rfl,rfl⟩:=VP.inv_str U;obtain rfl:=VP.inv_int W;obtain⟨b,rfl,rfl⟩:=VP.inv_str X;obtain rfl:=VP.inv_int Y;obtain rfl:=VP.inv_int Z;obtain rfl:=VP.inv_int q6;obtain rfl:=VP.inv_int q7;obtain rfl:=VP.inv_int q8;obtain rfl:=VP.inv_int q9;obtain rfl:=VP.inv_int m;obtain rfl:=VP.inv_int o;obtain rfl:=VP.inv_int p;obtain rfl:=VP.inv_int q;obtain⟨c,rfl,rfl⟩:=VP.inv_str r;refine⟨d,e,b,c,rfl,rfl,rfl,rfl,?_⟩
 congr 1
 apply Array.ext_getElem?;intro i
 match i with
 | 0=>exact e0
 | 1=>exact K
 | 2=>exact L
 | 3=>exact M
 | 4=>exact N
 | 5=>exact O
 | 6=>exact P
 | 7=>exact Q
 | 8=>exact R
 | 9=>exact S
 | 10=>exact f
 | 11=>exact g
 | 12=>exact j
 | 13=>exact k
 | 14=>exact l
 | n+15=>rw[aa8 (by omega),aa8 (by simp)]
theorem Bg9{t:Ctx}{sh:Nat->Option Shp}{w:World}(c d:ByteArray)(p:Int)(a:ByteArray)(v4 e f g i k l m o q:Int)(b:ByteArray) :
  VP t sh w (gU c.data.toList d.data.toList p a.data.toList v4 e f g i k l m o q b.data.toList) (.agg (Z6 c d p a v4 e f g i k l m o q b)):=by
 refine VP.mk_agg rfl λj r=>?_
 match j,r with
 | 0,_=>exact⟨_,rfl,VP.mk_str c.data.toList⟩
 | 1,_=>exact⟨_,rfl,VP.mk_str d.data.toList⟩
 | 2,_=>exact⟨_,rfl,VP.mk_int _ _⟩
 | 3,_=>exact⟨_,rfl,VP.mk_str a.data.toList⟩
 | 4,_=>exact⟨_,rfl,VP.mk_int _ _⟩
 | 5,_=>exact⟨_,rfl,VP.mk_int _ _⟩
 | 6,_=>exact⟨_,rfl,VP.mk_int _ _⟩
 | 7,_=>exact⟨_,rfl,VP.mk_int _ _⟩
 | 8,_=>exact⟨_,rfl,VP.mk_int _ _⟩
 | 9,_=>exact⟨_,rfl,VP.mk_int _ _⟩
 | 10,_=>exact⟨_,rfl,VP.mk_int _ _⟩
 | 11,_=>exact⟨_,rfl,VP.mk_int _ _⟩
 | 12,_=>exact⟨_,rfl,VP.mk_int _ _⟩
 | 13,_=>exact⟨_,rfl,VP.mk_int _ _⟩
 | 14,_=>exact⟨_,rfl,VP.mk_str b.data.toList⟩
 | n+15,h=>exact absurd h (by simp)
theorem Un{s t:ByteArray}(h:s.data.toList=t.data.toList):s=t:=by
 cases s with
 | mk a=>cases t with
  | mk b=>congr 1;exact ag0.1 h
theorem Ci6{s:By}{a:Int}(h:U2 s=true):upP s a=if a=443 then -1 else a:=by
 unfold upP;rw[h,Bool.true_and];by_cases q:a=443
 ·rw[if_pos q,q];rfl
 ·rw[if_neg q,show(a==443)=false by simpa using q];rfl
theorem Dg1:B0 a8 GX 28 B33:=by
 refine B0.fix (pf:=DG) _ (G7 (fn:=Tryz.f28) (by kernel_rfl) (by kernel_rfl) (by kernel_rfl) ?_);intro args ret B h;unfold DG at h;split at h
 ·rename_i J K p H v4 g i j k l m n o d I;obtain⟨v,h⟩:=B9 h;obtain⟨rfl,rfl⟩:=I7 h;refine⟨rfl,rfl,λC G x L w D F z y=>?_⟩;obtain⟨U,rfl,A⟩:=y.arr1;obtain⟨f,c,a,b,rfl,rfl,rfl,rfl,rfl⟩:=B80 A;rw[Ci6 v];rcases BQ v with u|u
  ·obtain rfl:f=Ie:=Un (t:=Ie) u;have W:=Bj7 Ie Jd c a b p v4 g i j k l m n o d (if d=443 then -1 else d) (λq=>if_pos q) (λq=>if_neg q) (λw=>B79 _ _ _ _ _ _ _ _ _ _ _ _ _ _ _ Br5 w) (λw=>(UI p9 s7 w).1) Ay0 w;refine W.mono ?_;rintro e w' ⟨rfl,r⟩;exact⟨_,rfl,r,Bg9 Jd c p a v4 g i j k l m n o _ b⟩
  ·obtain rfl:f=sWs:=Un (t:=sWs) u;have W:=Bj7 sWs VT c a b p v4 g i j k l m n o d (if d=443 then -1 else d) (λq=>if_pos q) (λq=>if_neg q) (λw=>B79 _ _ _ _ _ _ _ _ _ _ _ _ _ _ _ Cv3 w) (λw=>(UI p9 s7 w).2) Cb2 w;refine W.mono ?_;rintro e w' ⟨rfl,r⟩;exact⟨_,rfl,r,Bg9 VT c p a v4 g i j k l m n o _ b⟩
 ·cases h
theorem C17(g v:By)(p:Int)(q:By)(v4 h i j k l m n o t:Int)(u:By)(w:(not (U2 g))=true) :
  ∃r H,C15 LF g v p q v4 h i j k l m n o t u (λD F x G y z A B n8 C b c d e f a=>rv (gU D F x G y z A B n8 C b c d e f) a)=rv r H/\r.stab [] H=gU g v p q v4 h i j k l m n o t u:=by
 unfold C15;rw[w];exact⟨_,_,rfl,rfl⟩
end
section
open Go Go.Proofs
set_option maxRecDepth 100000
section
theorem Dg2:B0 a8 GX 28 B34:=xf [] (Ap8 LF) DH rfl ⟨Cm8,Xr,trivial⟩ rfl (by kernel_rfl) follows λargs=>by
 unfold DH;split
 ·rename_i n o j k v4 a b c d f g h i l m;exact λp=>(let⟨r,H,e,q⟩:=C17 n o j k v4 a b c d f g h i l m p;⟨rfl,rfl,rfl,r,H,(C16 LF noY () 0 n o j k v4 a b c d f g h i l m).trans e,q⟩)
 ·trivial
end
end
section
open Go Go.Proofs Go.RowKit
set_option maxRecDepth 100000
theorem C77:B0 a8 GX 28 LY:=λargs ret d h=>by
 have a:=Dg1 args ret d;have b:=Dg2 args ret d;unfold LY at h;unfold B33 at a;unfold B34 at b;generalize B8 _ args=l at h a b;unfold B32 at h;split at h
 ·rename_i i w t u v4 j k m n o p q r g v;cases c:U2 i with
  | true=>
   refine a ?_;unfold DG;rw[Y6 c];exact h
  | false=>
   refine b ?_;unfold DH;rw[Y6 (by rw[c];rfl)];obtain⟨e,f⟩:=Bj6 c g;rw[e,f] at h;exact h
 ·cases h
end
section
open Go Go.Proofs
set_option maxRecDepth 100000
section
variable {Z R : Type} (L : Nat) (Y : F7) (Q : Yh Z) (s : Z) (k : Out -> St Z -> Option R)
noncomputable def MK(L:Nat):Cfg:=B4 L [12] (A2 []) [(13,GA),(28,LY),(15,FZ)] (A2 [(4,[0]),(3,[1,0,0,0,1]),(2,[1,0,0,0]),(1,[1,0]),(0,[])]) [15] (A2 []) (some [0]) [] [] []
end
section
variable {Z R : Type} (L : Nat) (Y : F7) (Q : Yh Z) (s : Z) (k : Out -> St Z -> Option R)
noncomputable def TE(L:Nat):Cfg:=B4 L [29] (A2 []) [(25,DE)] (A2 [(6,[2]),(5,[1,0]),(4,[1,0,12]),(3,[1,0]),(2,[2]),(1,[1,0,2]),(0,[1,0])]) [25] (A2 []) (some [2]) [] [] []
noncomputable def Bj1{R:Type}(L:Nat)(f g:By)(h:Int)(i:By)(j l m n u8 o a b c d:Int)(e:By)(p:By->By->Int->By->Int->Int->Int->Int->Int->Int->Int->Int->Int->Int->By->(List Blk)->Option R):Option R:=cond (not (U2 f)) (p f g h i j l m n u8 o a b c d e [(bU f g h i j l m n u8 o a b c d e),(bU f g h i j l m n u8 o a b c d e)]) none
theorem Cf8(d:Nat)(u0 u1 u2 u3 u4 u5 u6 u7 u8 u9 u10 u11 u12 u13 u14):evC (TE L) (d+1) Z Q 29 [(gU u0 u1 u2 u3 u4 u5 u6 u7 u8 u9 u10 u11 u12 u13 u14)] [] s=Bj1 L u0 u1 u2 u3 u4 u5 u6 u7 u8 u9 u10 u11 u12 u13 u14 (λh i j l m n o p r8 q b c e f g a=>some ((gU h i j l m n o p r8 q b c e f g),a,s)):=by refine(evE (fn:=Tryz.f29) (by kernel_rfl)).trans ?_;generalize evC (TE L) d=Y;unfold Bj1;kernel_rfl
end
end
section
open Go Go.Proofs Go.RowKit
set_option maxRecDepth 100000
theorem Bt5(n k m:ByteArray)(j v4 a b c d f g h i l:Int)(w:World):Calls a8 25 #[.agg (Z6 Ie n j k v4 a b c d f g h i l m)] w λe w'=>e = .returned (.bool true)/\w'=w.alloc (.cells (Z6 Ie n j k v4 a b c d f g h i l m) 29):=by
 go_enter ag7,aj1
 go_wp2
 go_ret
 exact⟨rfl,rfl⟩
theorem Cx1(n k m:ByteArray)(j v4 a b c d f g h i l:Int)(w:World):Calls a8 25 #[.agg (Z6 sWs n j k v4 a b c d f g h i l m)] w λe w'=>e = .returned (.bool true)/\w'=w.alloc (.cells (Z6 sWs n j k v4 a b c d f g h i l m) 29):=by
 go_enter ag7,aj1
 go_wp2
 go_ret
 exact⟨rfl,rfl⟩
theorem Ad9(q d r o p:ByteArray)(n v4 f g h i j k l m a b:Int)(x:a=443->b=-1)(y:¬a=443->b=a)
  (c:∀w,Calls a8 25 #[.agg (Z6 q r n o v4 f g h i j k l m a p)] w λe w'=>e = .returned (.bool true)/\w'=w.alloc (.cells (Z6 q r n o v4 f g h i j k l m a p) 29))
  (u:∀w:World,(ab0 52 (.map (some w.heap.size)) (.string q) false).run a8 (w.alloc (.map #[Hk,Su] 2)) = .ok (.string d) (w.alloc (.map #[Hk,Su] 2))) (w:World) :
  Calls a8 29 #[.agg (Z6 q r n o v4 f g h i j k l m a p)] w λe w'=>e = .returned (.agg (Z6 d r n o v4 f g h i j k l m b p))/\Below w.heap.size w w':=by
 have v:∀args w,(callFunc 25 args).run a8 w = .ok (.enter 25 args) w:=enters_of ag7 (by kernel_rfl) rfl;have G:=@run_makeMap a8;have t:∀(w:World) A B C,(((w.alloc A).alloc B).alloc C).heap.size=w.heap.size+1+1+1:=λw A B C=>by simp only[aj6,ad7]
 have z:∀(w:World) A B C,_:=λw A B C=>t w A B C▸B93 (P:=a8) p9 s7 (((w.alloc A).alloc B).alloc C)
 have D:∀(w:World) A B C,_:=λw A B C=>t w A B C▸B94 (P:=a8) p9 s7 (((w.alloc A).alloc B).alloc C)
 have F:∀(w:World) A B C,_:=λw A B C=>t w A B C▸u (((w.alloc A).alloc B).alloc C)
 clear u
 go_enter Tryz.func29,Tryz.ntmps29
 go_wp2_with (go_at_fn 25;refine(c _).mono ?_;rintro e w' ⟨rfl,H⟩;rw[H])
 ·have e:=x (by simpa using ‹(a==443)=true›);subst e;refine bodyPost_ret (results_cell_row rfl _ _ (w.heap.size+1) 29 _ _ _ rfl (Vm _ _ _ _ _) ab4 rfl (by kernel_rfl)) rfl ⟨rfl,?_⟩;exact((((Below.refl _ _).alloc (v8 _) _).alloc (by simp only[size_alloc];omega) _).alloc (by simp only[size_alloc];omega) _).alloc (by simp only[size_alloc];omega) _
 ·have e:=y (by simpa using ‹(a==443)=false›);subst e;refine bodyPost_ret (results_cell_row rfl _ _ (w.heap.size+1) 29 _ _ _ rfl (Vm _ _ _ _ _) ab4 rfl (by kernel_rfl)) rfl ⟨rfl,?_⟩;exact((((Below.refl _ _).alloc (v8 _) _).alloc (by simp only[size_alloc];omega) _).alloc (by simp only[size_alloc];omega) _).alloc (by simp only[size_alloc];omega) _
theorem C50:B0 a8 GX 29 Bd0:=by
 refine B0.fix (pf:=Ue) _ (G7 (fn:=Tryz.f29) (by kernel_rfl) (by kernel_rfl) (by kernel_rfl) ?_);intro args ret B h;unfold Ue at h;split at h
 ·rename_i J K p H v4 g i j k l m n o d I;obtain⟨v,h⟩:=B9 h;obtain⟨rfl,rfl⟩:=I7 h;refine⟨rfl,rfl,λC G x L w D F z y=>?_⟩;obtain⟨U,rfl,A⟩:=y.arr1;obtain⟨f,c,a,b,rfl,rfl,rfl,rfl,rfl⟩:=B80 A;rw[Ci6 v];rcases BQ v with u|u
  ·obtain rfl:f=Ie:=Un (t:=Ie) u;refine(Ad9 Ie Jd c a b p v4 g i j k l m n o d (if d=443 then -1 else d) (λq=>if_pos q) (λq=>if_neg q) (Bt5 _ _ _ _ _ _ _ _ _ _ _ _ _ _) (λw=>(UI p9 s7 w).1) w).mono ?_;rintro e w' ⟨rfl,r⟩;exact⟨_,rfl,r,Bg9 Jd c p a v4 g i j k l m n o _ b⟩
  ·obtain rfl:f=sWs:=Un (t:=sWs) u;refine(Ad9 sWs VT c a b p v4 g i j k l m n o d (if d=443 then -1 else d) (λq=>if_pos q) (λq=>if_neg q) (Cx1 _ _ _ _ _ _ _ _ _ _ _ _ _ _) (λw=>(UI p9 s7 w).2) w).mono ?_;rintro e w' ⟨rfl,r⟩;exact⟨_,rfl,r,Bg9 VT c p a v4 g i j k l m n o _ b⟩
 ·cases h
end
section
open Go
abbrev hK(p:B2 × Nat):Int:=(p.1.kind:Int)
abbrev hN(p:B2 × Nat):By:=p.1.name
abbrev hV(p:B2 × Nat):Int:=(p.1.v4:Int)
abbrev hA(p:B2 × Nat)(i:Nat):Int:=(p.1.v6.getD i 0:Int)
abbrev e0:By:=[]
end
end Go.Proofs.YtcfingekgbbclaaGreatDoor.E
