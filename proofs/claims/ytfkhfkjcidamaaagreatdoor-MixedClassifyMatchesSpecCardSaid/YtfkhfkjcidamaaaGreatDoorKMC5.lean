/-
  Parts of the proof, merged by a program of the prover's own; no condition.
-/
import Derived.Test.YtfkhfkjcidamaaaGreatDoorKMC4
import Derived.BigQuiet
import Derived.Deep.QuietTactic
import Derived.LaidMore
import Derived.LaidSub
import Derived.Laws.Runes
import Derived.Lay
import Derived.Lib.IndexAny
import Derived.Lib.MapLaws
import Derived.OpenShut
import Derived.ProofKit
import Derived.Shelf.Abstract
import Derived.Shelf.Vars
import Derived.Test.YtfkhfkjcidamaaaGreatDoorChecked
import Derived.Test.YtfkhfkjcidamaaaGreatDoorProg
import Derived.Test.YtfkhfkjcidamaaaGreatDoorRows
import Derived.WalkKit
import Derived.WideMake
open Go.Proofs.Tryz renaming prog->a8,underlying125->p6,underlying9->v7,func124->ab7,underlying55->ab8,ntmps124->ad2,checked->ag2,f115->ag8,f119->ag9,f121->ah0,f159->ah1,f196->ah2,func29->ah4,f165->ai8,ntmps29->aj5,f82->aj7,func84->aj8
open List renaming length->b8,getD->b9,length_drop->c9,length_append->j0,length_cons->j1,length_singleton->j4,length_take->j6,size_toArray->o8,drop_of_length_le->p5,getElem?_append_right->p7,toArray->p9,mem_cons->w6,mem_of_mem_drop->w8,isPrefixOf->x4,getElem?_take_of_lt->x8,getElem?_cons_zero->y5,getElem?_take->y8,length_nil->y9,getElem?_toArray->z7,getElem?_append_left->aa2,getD_cons_zero->aa3,getElem?_cons_succ->aa8,length_eq_zero_iff->aa9,mem_of_mem_take->ac0,getElem?_eq_some_iff->ac8,getElem?_eq_getElem->ad1,isEmpty_iff->ad4,not_mem_nil->ad5,take_of_length_le->ad7,getElem?_eq_none->ae2,getD_cons_succ->ae7,getElem?_range->ae8,takeWhile_cons->ae9,map_cons->af2,getElem?_drop->af3,getElem?_map->af8,cons_append->ag6,drop_left'->ah5,nil_append->ah6,drop_zero->ah9,take_left->ai0,all_cons->ai4,map_map->aj1,map_nil->aj2
open Bool renaming not_true->j2,not_false->o6,eq_iff_iff->o7,false_eq_true->o9,and_eq_true->p4,or_eq_true->aa5,not_eq_true'->ab2,eq_false_iff->af6,not_eq_true->ag4,and_true->ai2,false_or->ai3
open Go.Value renaming int->j5
open Option.some renaming inj->j7,injEq->k9
open Go.Lib renaming indexByte->j8,cut->v8,decodeL->aa0,indexAny->aa1,tabData->aa7,VarReads->ab4,acceptData->ae4,decDigits->af1,deBruijn64tab->af7,indexByte_ge->ag5,size_eq->ah3,firstTab->ai9,pow10Tab->aj0
open Int renaming toNat_natCast->j9,eq_ofNat_of_zero_le->x9
open Eq renaming trans->o0
open Exists renaming intro->o5
open Nat renaming le_refl->w9,ble->x6,eq_of_beq_eq_true->x7,mul_one->y7,le_of_ble_eq_true->ab9,ble_eq->ac6,zero_add->ad8,ble_eq_true_of_le->ae3,sub_self->af9,add_zero->aj3,beq->aj4
open Go.Utf8 renaming decode->x3,encode->ab0
open Array renaming length_toList->x5,getElem?_eq_none->ab1,getElem?_append_left->ac4,getElem?_eq_some_iff->ac5,getElem?_eq_getElem->ac7,size_push->ae0,size_append->af4,toList_push->af5,toList_inj->ag3
open Go.World renaming laidAll->aa4,cell?->ad0,frozen?->ad3,shape?->ad9,alloc->aj9
open Option renaming map_some->aa6,bind_some->ad6,getD_some->ag7,isSome->ai6
open Go.Instr renaming lookup->ab3,mapUpdate->ae1,findNow->af0,checkKey->ah8
open Go.Lib.laidMet renaming reads->ab5
open Go.MapKept renaming run_getObj_map->ab6,run_findKey->ac3,run_checkKey->ae5,IsKey->ai5
open UInt8 renaming ofNat->ac1,toNat_inj->ac2
open Go.MakeChecks renaming laidMetH_plain->ac9
open Go.Result renaming andThen->ae6
open Ne renaming symm->ag0
open Go.RowKit.Below renaming refl->ag1
open Go.DataW renaming trod->ah7
open Prod.mk renaming injEq->ai7
namespace Go.Proofs.YtfkhfkjcidamaaaGreatDoor.E
set_option linter.all false
section
open Go Go.Proofs
theorem Ah8{R:Type}{k0 k1:Unit->Option R}:∀l:List By,(∀x∈l,x.length<=1000000000)->KX LF l k0 k1=if l.all L2 then k0 () else k1 ()
 | [],_=>rfl
 | x::r,h=>by
  rw[Ah7];unfold FT;rw[E6 (h x (by simp)),cond_true,ai4];have b:=Ah8 (k0:=k0) (k1:=k1) r (λy a=>h y (by simp[a]));grind
theorem Dt3(s:By)(a:A3 s.length=true):∃r H,hvn LF s (λ_=>rv (.s (.bool false)) [.box [.s (.bool false)]]) (λd b=>rv (.s (.bool d)) [.box [.s (.bool b)],.box [.bad],.box [.bad],.box [.bad]])=rv r H/\r.stab [] H = .s (.bool (T7 s)):=by
 have h:=K7 a;unfold hvn XI T7;by_cases e:253<s.length
 ·rw[A8,show x6 s.length 253=false by rw[af6,ne_eq,ac6];omega];exact⟨_,_,rfl,rfl⟩
 ·rw[A6,cond_false,a,cond_true,show x6 s.length 253=true by rw[ac6];omega];cases f:G4 s with
  | true=>exact⟨_,_,rfl,rfl⟩
  | false=>
   rw[cond_false,show((1:Nat)==1&&(0:Int)==(0:Int))=true from rfl,show([46]:By).getD 0 0=46 from rfl,ai2,cond_true,Ah8 _ (λx c=>by have:=(Dx c).2;omega)];cases g:(pcs 46 s).all L2 with
   | true=>exact⟨_,_,rfl,rfl⟩
   | false=>exact⟨_,_,rfl,rfl⟩
theorem D18(a c d f g h i j:Nat):(n8 (a:Int) c d f g h i j==z8)=(((a:Int)==0)&&(((c:Int)==0)&&(((d:Int)==0)&&(((f:Int)==0)&&(((g:Int)==0)&&(((h:Int)==0)&&(((i:Int)==0)&&(((j:Int)==0)&&true)))))))):=by
 have e:n8 (a:Int) c d f g h i j=[a,c,d,f,g,h,i,j]:=rfl;have q:∀b:Nat,((b:Int)==0)=(b==0):=λb=>by grind
 rw[e];simp only[q,z8];rfl
theorem Bt0(a:Int)(b:By)(v4 l m n o p q t u:Int)(D:A3 b.length=true)(F:ltN v4 4294967296=true)(G:ok8 l m n o p q t u=true) :
  ∃r H,Ok LF a b v4 l m n o p q t u (λV M W N O P Q R n8 S y z x=>rv (.s (.bool V)) [.box (Sb M W N O P Q R n8 S y z),.arr false 26 1 x])=rv r H/\
   r.stab [] H = .s (.bool (M0 (mkH a b v4 (n8 l m n o p q t u)))):=by
 obtain⟨c,d,e,f,g,i,j,k,rfl,rfl,rfl,rfl,rfl,rfl,rfl,rfl,X⟩:=Rk G;obtain⟨v0,v1⟩:=E5.1 F;obtain⟨v,rfl⟩:=x9 v0;have U:((v:Int)==0)=(v==0):=by
  rw[o7,beq_iff_eq,beq_iff_eq];omega
 have T:(b==([]:By))=b.isEmpty:=by cases b<;>rfl
 have J:(mkH a b (v:Int) (n8 (c:Int) d e f g i j k)).kind=if ltN a 4 then a.toNat else 0:=rfl
 have K:(mkH a b (v:Int) (n8 (c:Int) d e f g i j k)).name=b:=rfl;have L:(mkH a b (v:Int) (n8 (c:Int) d e f g i j k)).v4=v:=j9 v;have I:(mkH a b (v:Int) (n8 (c:Int) d e f g i j k)).v6=n8 (c:Int) d e f g i j k:=rfl;unfold Ok M0;rw[J,K,L,I,D18,U,T];by_cases A:a=1
 ·subst A;rw[show((1:Int)==1)=true from rfl,cond_true,D,cond_true,if_pos (by decide)];cases T7 b with
  | false=>exact⟨_,_,rfl,rfl⟩
  | true=>
   cases (v==0) with
   | false=>exact⟨_,_,rfl,rfl⟩
   | true=>exact⟨_,_,rfl,rfl⟩
 ·rw[show(a==(1:Int))=false by simpa using A,cond_false];by_cases B:a=2
  ·subst B;rw[show((2:Int)==2)=true from rfl,cond_true,if_neg (by decide),if_pos (by decide)];cases b.isEmpty with
   | false=>exact⟨_,_,rfl,rfl⟩
   | true=>exact⟨_,_,rfl,rfl⟩
  ·rw[show(a==(2:Int))=false by simpa using B,cond_false];by_cases C:a=3
   ·subst C;rw[show((3:Int)==3)=true from rfl,cond_true,if_neg (by decide),if_neg (by decide),if_pos (by decide)];cases b.isEmpty with
    | false=>exact⟨_,_,rfl,rfl⟩
    | true=>exact⟨_,_,rfl,rfl⟩
   ·rw[show(a==(3:Int))=false by simpa using C,cond_false];have w:(if ltN a 4 then a.toNat else 0)=0:=by
     split
     ·rename_i h;have:=E5.1 h;omega
     ·rfl
    rw[w];exact⟨_,_,rfl,rfl⟩
theorem Dq9{a b c d e f g i:Int}(h:ok8 a b c d e f g i=true):(n8 a b c d e f g i).length=8/\∀x∈n8 a b c d e f g i,x<65536:=by obtain⟨k,l,m,n,o,p,q,r,rfl,rfl,rfl,rfl,rfl,rfl,rfl,rfl,t⟩:=Rk h;refine⟨rfl,λx j=>?_⟩;simp only[n8,j9,w6,ad5,or_false] at j;omega
theorem Bs9(a:Int)(j:By)(v4 b c d e f g h i:Int)(q:A3 j.length=true)(t:ltN v4 4294967296=true)(n:ok8 b c d e f g h i=true) :
  ∃r H,Da2 LF a j v4 b c d e f g h i (λI k J y z A B C n8 D l m=>rv (.s (.str I)) [.box (Sb k J y z A B C n8 D l m)])=rv r H/\
   r.stab [] H = .s (.str (Bt (mkH a j v4 (n8 b c d e f g h i)))):=by
 obtain⟨F,G⟩:=Dq9 n;have v:=C10 _ F G;unfold Da2 Bt;rw[q,t,n];simp only[cond_true,vl];have u:(mkH a j v4 (n8 b c d e f g h i)).kind=if ltN a 4 then a.toNat else 0:=rfl
 cases w:M0 (mkH a j v4 (n8 b c d e f g h i)) with
 | false=>exact⟨_,_,rfl,rfl⟩
 | true=>
  rw[if_pos rfl,j2,cond_false,u];by_cases o:a=1
  ·subst o;rw[if_pos (by decide)];exact⟨_,_,rfl,rfl⟩
  ·rw[show(a==(1:Int))=false by simpa using o,cond_false];have k:¬(if ltN a 4 then a.toNat else 0)=1:=by grind
   rw[if_neg k];by_cases p:a=2
   ·subst p;rw[if_pos (by decide)];exact⟨_,_,rfl,rfl⟩
   ·rw[show(a==(2:Int))=false by simpa using p,cond_false];have x:¬(if ltN a 4 then a.toNat else 0)=2:=by grind
    rw[if_neg x,G0 (by omega),cond_true,G0 (by rw[j0,j4];omega),cond_true];exact⟨_,_,rfl,rfl⟩
theorem B15{R:Type}{b:Bool->Option R}(p s:By)(a:A3 p.length=true)(c:A3 s.length=true):C94 LF p s b=b (Fc p s):=by have d:=K7 a;unfold C94 Fc;rw[a,c,G0 (by omega)];grind
theorem A65{R:Type}{a:By->By->Int->Option R}(t p:By)(n:Int):Co7 LF t p n a=a t p n:=rfl
theorem Cb9{R:Type}{a:By->By->Option R}(t p:By):Dv0 LF t p a=a t p:=rfl
theorem Bj8{Z R:Type}(g:Yh Z)(c:UInt8):∀(m:Nat) (t:By) (n:Nat) (s i:Z),t.length<=m->t.length<=1000000000->m<n->Dq g ((pcs c t).map λx=>([.s (.str x)]:List PV)) s=some i->
  ∃o , (∃v:Z,∃b:Bool,g [.s (.str o)] v=some (b,i)/\∀(a d:By->By->Int->Z->Option R),T6 g LF n [c] t 0 s a d=a [c] o 0 v)\/(∀(a d:By->By->Int->Z->Option R),T6 g LF n [c] t 0 s a d=d [c] o 0 i):=by
 intro m
 induction m with
 | zero=>
  intro t n s i y l D h;obtain rfl:=aa9.1 (Nat.le_zero.1 y);obtain⟨n,rfl⟩:∃m,n=m+1:=⟨n-1,by omega⟩
  rw[Qa (by simp)] at h;simp only[af2,aj2,Dq] at h;refine⟨[],.inl ⟨s,?_⟩⟩;have e:∀(a d:By->By->Int->Z->Option R),T6 g LF (n+1) [c] [] 0 s a d=a [c] [] 0 s:=λa d=>by
   rw[T6];rw[Un (by simp)];rfl
  cases k:g [.s (.str [])] s with
  | none=>rw[k] at h;cases h
  | some q=>
   obtain⟨b,j⟩:=q;rw[k] at h;have:j=i:=by cases b<;>simpa using h
   subst this;exact⟨b,rfl,e⟩
 | succ m F=>
  intro t n s i y l D h;obtain⟨n,rfl⟩:∃m,n=m+1:=⟨n-1,by omega⟩
  rcases U0 c t with u|⟨p,r,rfl,u⟩
  ·rw[Qa u] at h;simp only[af2,aj2,Dq] at h;refine⟨t,.inl ⟨s,?_⟩⟩;have e:∀(a d:By->By->Int->Z->Option R),T6 g LF (n+1) [c] t 0 s a d=a [c] t 0 s:=λa d=>by
    rw[T6];rw[Un u,E6 l];rfl
   cases k:g [.s (.str t)] s with
   | none=>rw[k] at h;cases h
   | some q=>
    obtain⟨b,j⟩:=q;rw[k] at h;have:j=i:=by cases b<;>simpa using h
    subst this;exact⟨b,rfl,e⟩
  ·rw[YK u] at h;simp only[af2,Dq] at h;have w:(p++c::r).length=p.length+r.length+1:=by rw[j0,j1];omega
   have z:A1 ((p.length:Int)+0)=((p.length:Nat):Int):=by rw[A7];omega
   have A:A1 ((p.length:Int)+(([c]:By).length:Int))=((p.length+1:Nat):Int):=by
    rw[C8 (by simp;omega) (by simp;omega)];simp
   have B:cut (p++c::r) 0 (p.length:Int)=p:=by rw[K6,j9,ai0]
   have C:cut (p++c::r) ((p.length+1:Nat):Int) ((p++c::r).length:Int)=r:=by
    rw[P4,j9,show p++c::r=(p++[c])++r by simp,ah5 (by simp)]
   have top:∀(a d:By->By->Int->Z->Option R),T6 g LF (n+1) [c] (p++c::r) 0 s a d=ydK (g [.s (.str p)] s) λb j=>cond (not b) (d [c] (p++c::r) 0 j) (T6 g LF n [c] r 0 j a d):=λa d=>by
    rw[T6];rw[BU u,E6 l,cond_true,A6,cond_false];simp only[vl,z,A,B,C];rw[I1,cond_true,I1];rfl
   cases k:g [.s (.str p)] s with
   | none=>rw[k] at h;cases h
   | some q=>
    obtain⟨b,j⟩:=q;rw[k] at h top;cases b with
    | false=>
     have:j=i:=by simpa using h
     subst this;exact⟨p++c::r,.inr λa d=>by rw[top];rfl⟩
    | true=>
     simp only at h;obtain⟨o,⟨v,b,e,f⟩|f⟩:=F r n j i (by omega) (by omega) (by omega) h
     ·exact⟨o,.inl ⟨v,b,e,λa d=>by rw[top];exact f a d⟩⟩
     ·exact⟨o,.inr λa d=>by rw[top];exact f a d⟩
theorem Bj9{Z R:Type}(i:Yh Z)(p t:By)(n:Int)(s g:Z)(h:(A3 t.length&&(p.length==1&&n==0))=true)(m:Dq i ((pcs (p.getD 0 0) t).map λx=>([.s (.str x)]:List PV)) s=some g) :
  ∃d,∀(a:By->By->Int->Z->Option R),As0 i LF p t n s a=a p d n g:=by
 have l:=C2;simp only[p4,beq_iff_eq] at h;obtain⟨j,k,rfl⟩:=h;obtain⟨c,rfl⟩:=List.length_eq_one_iff.1 k;have o:=K7 j;obtain⟨d,⟨q,b,e,f⟩|f⟩:=Bj8 (R:=R) i c t.length t LF s g (w9 _) o (by omega) m
 ·refine⟨d,λa=>?_⟩;unfold As0;rw[show(((([c]:By).length:Nat):Int)==0)=false from rfl,cond_false];refine o0 (f _ _) ?_;rw[e];rfl
 ·refine⟨d,λa=>?_⟩;unfold As0;rw[show(((([c]:By).length:Nat):Int)==0)=false from rfl,cond_false];exact f _ _
end
section
open Go Go.ChangeAt Go.ChangeShapes Go.Proofs Go.RowKit Go.WideShapes
set_option maxRecDepth 100000
theorem own:ownKnob a8.godebug=none:=by kernel_rfl
theorem Db2:laidOutB a8=true:=by kernel_rfl
noncomputable def gTy(g:Nat):Nat:=match a8.globals[g]? with|some x=>x.type|none=>0
noncomputable def dbT:Nat:=gTy 5
noncomputable def De5:Nat:=gTy 3
noncomputable def VG:Nat:=gTy 2
noncomputable def C85:Nat:=gTy 1
noncomputable def VF:Nat:=match a8.underlying VG with|some (.array _ e)=>e|_=>0
noncomputable def AP:Array Field:=match a8.underlying VF with|some (.struct a)=>a|_=>#[]
noncomputable def PA:Field:=match AP.toList with|a::_=>a|_=>default
noncomputable def PB:Field:=match AP.toList with|_::a::_=>a|_=>default
theorem Dr6:AP[0]? = some PA:=by unfold PA AP VF VG gTy;kernel_rfl
theorem Dr7:AP[1]? = some PB:=by unfold PB AP VF VG gTy;kernel_rfl
def Ew:List (String × DataW Unit):=[("math/bits.deBruijn32tab", Rows.laid_math_bits_deBruijn32tab), ("math/bits.deBruijn64tab", Rows.laid_math_bits_deBruijn64tab), ("internal/strconv.uint64pow10", Rows.laid_internal_strconv_uint64pow10), ("unicode/utf8.acceptRanges", Rows.laid_unicode_utf8_acceptRanges), ("unicode/utf8.first", Rows.laid_unicode_utf8_first)]
theorem RX{W:World}{n:String}{g:Nat}{a:Array Value}(b:a8.globalNamed n=some g)(h:W.var? a8 n=some a):∃e x,W.heap[g]? = some (.cells a e x):=by
 unfold World.var? at h;rw[b,ad6] at h;split at h
 ·rename_i c e x d;simp only[k9] at h;subst h;exact⟨e,x,d⟩
 ·cases h
theorem CW{W:World}{n:String}{g t e m:Nat}{k:IntKind}{f:List Int}(l:a8.globalNamed n=some g)(d:(a8.globals[g]?).map (·.type)=some t)(w:a8.underlying t=some (.array m e))(v:a8.underlying e=some (.int k))(a:a8.cellsOf e=1)(c:a8.cellsOf t=m)
  (h:ab4 a8 W n (aa7 k f)):∃e x,W.heap[g]? = some (.cells (f.map λz=>j5 k z).toArray e x):=by
 obtain⟨y,A,o,i,p,q,r,j,u⟩:=h;obtain rfl:=j7 (l.symm.trans q);obtain rfl:=j7 (d.symm.trans r);have b:=Lib.cells_of_tab w v a c u;have:o=(f.map λz=>j5 k z).toArray:=by rw[<-b]
 rw[this] at j;exact RX l j
theorem NG{H:Type}{enc:TypeId × Value->H}{P:Program}{w:World}{base:Nat}{sp:Nat->Bool}{held:Bool}{a:Nat}{t e:TypeId}{n:Nat}{b:List Value}{d:DataW H}{p:List MemPlace}(f:P.underlying t=some (.array n e))
  (h:ah7 enc P w base sp held a t b=some (d,p)):b.length=P.cellsOf t:=by
 cases a with
 | zero=>simp[ah7] at h
 | succ a=>
  simp only[ah7,f] at h;split at h
  ·rename_i c;simpa using c
  ·cases h
theorem Bz5{W:World}(C : a8.globalNamed "unicode/utf8.acceptRanges" = some 2)(h:ab4 a8 W "unicode/utf8.acceptRanges" ae4) :
  ∃e x,W.heap[2]? = some (.cells (Gp.map λz=>j5 .u8 z).toArray e x):=by
 obtain⟨M,t,v,w,p,H,a,y,A⟩:=h;obtain rfl:=j7 (C.symm.trans H);have n:(a8.globals[2]?).map (·.type)=some VG:=by unfold VG;kernel_rfl
 obtain rfl:=j7 (n.symm.trans a);have F:a8.underlying VG=some (.array 16 VF):=by unfold VG VF;kernel_rfl
 have N:=NG F A;have I:a8.cellsOf VG=32:=by unfold VG;kernel_rfl
 have b:a8.cellsOf VF=2:=by unfold VF;kernel_rfl
 have K:∃j,a8.underlying VF=some (.struct j)/\j.size=2/\∀(i:Nat) (f:Field),j[i]? = some f->a8.underlying f.type=some (.int .u8)/\f.offset=i/\a8.cellsOf f.type=1:=by
  refine⟨AP,by unfold VF AP;kernel_rfl,by unfold AP;kernel_rfl,λi f m=>?_⟩;have:i<2:=by
   have:=(ac5.1 m).1;rwa [show AP.size=2 by unfold AP;kernel_rfl] at this
  match i,this with
  | 0,_=>
   obtain rfl:=j7 (m.symm.trans (show AP[0]? = some PA from Dr6));exact⟨by unfold PA;kernel_rfl,by unfold PA;kernel_rfl,by unfold PA;kernel_rfl⟩
  | 1,_=>
   obtain rfl:=j7 (m.symm.trans (show AP[1]? = some PB from Dr7));exact⟨by unfold PB;kernel_rfl,by unfold PB;kernel_rfl,by unfold PB;kernel_rfl⟩
 obtain⟨j,o,r,u⟩:=K;have l:v.toList=Gp.map λz=>j5 .u8 z:=by
  have D:(Gp.map λz=>j5 .u8 z).length=32:=by rw[List.length_map];rfl
  apply List.ext_getElem?;intro q;by_cases J:q<32
  ·obtain⟨k,d,O,c,B⟩:=Lib.array_elem F A (q / 2) (by omega);simp only[af8,ae8 (show q / 2<16 by omega),aa6,k9] at c;subst c;rw[b] at B;have L:=Lib.ints_of_struct o u (by rw[b,r]) B;have e0:=congrArg (·[q % 2]?) L;simp only[y8,af3] at e0;rw[T5,show q / 2*2+q % 2=q by omega] at e0;rw[e0];unfold Gp;have G:∀g:Nat->Value,(List.map g (List.range 32))[q]? = some (g q):=λg=>by
    rw[af8,ae8 J];rfl
   rw[aj1,G];rcases Nat.mod_two_eq_zero_or_one q with a|a
   ·simp[a]
   ·simp[a]
  ·rw[ae2 (by omega),ae2 (by omega)]
 have:v=(Gp.map λz=>j5 .u8 z).toArray:=by rw[<-l]
 rw[this] at y;exact RX C y
theorem A42{C:Cfg}(r:C.G=GX){W:World}(b:laidMet a8 Ew W)(p:W.ShapedOpen a8):GOK C (· < W.heap.size) W:=by
 have lt:∀{g:Nat} {o:Obj},W.heap[g]? = some o->g<W.heap.size:=λh=>(ac5.1 h).1
 have I:ab4 a8 W "math/bits.deBruijn64tab" (aa7 .u8 (af7.map λn:Nat=>(n:Int))):=ab5 b (by rw [show (aa7 .u8 (af7.map λn:Nat=>(n:Int)):DataW Unit)=Rows.laid_math_bits_deBruijn64tab by kernel_rfl];simp [Ew])
 have J:ab4 a8 W "internal/strconv.uint64pow10" (aa7 .u64 aj0):=ab5 b (by rw [show (aa7 .u64 aj0:DataW Unit)=Rows.laid_internal_strconv_uint64pow10 by kernel_rfl];simp [Ew])
 have K:ab4 a8 W "unicode/utf8.acceptRanges" ae4:=ab5 b (by rw [show ae4=Rows.laid_unicode_utf8_acceptRanges by kernel_rfl];simp [Ew])
 have L:ab4 a8 W "unicode/utf8.first" (aa7 .u8 ai9):=ab5 b (by rw [show (aa7 .u8 ai9:DataW Unit)=Rows.laid_unicode_utf8_first by kernel_rfl];simp [Ew])
 have y:=CW (g:=5) (t:=dbT) (e:=5) (m:=64) (by kernel_rfl) (by unfold dbT;kernel_rfl) (by unfold dbT;kernel_rfl) (by kernel_rfl) (by kernel_rfl) (by unfold dbT;kernel_rfl) I;have A:=CW (g:=3) (t:=De5) (e:=167) (m:=20) (by kernel_rfl) (by unfold De5;kernel_rfl) (by unfold De5;kernel_rfl) (by kernel_rfl) (by kernel_rfl) (by unfold De5;kernel_rfl) J;have B:=Bz5 (by kernel_rfl) K;have D:=CW (g:=1) (t:=C85) (e:=5) (m:=256) (by kernel_rfl) (by unfold C85;kernel_rfl) (by unfold C85;kernel_rfl) (by kernel_rfl) (by kernel_rfl) (by unfold C85;kernel_rfl) L;have F:=cell_of_shapedOpen_int (k:=.i64) (g:=0) (t:=3) (zero:=#[.int .i64 0]) p (of_decide_eq_true (by kernel_rfl)) (by kernel_rfl) rfl (by kernel_rfl) (by kernel_rfl) (by kernel_rfl);refine⟨λg k w h=>?_,λg h=>?_⟩
 ·rw[r] at h;simp only[GX] at h;have key:∀{q:Nat} {v:IntKind} {a:List Int},(∃e x,W.heap[q]? = some (.cells (a.map λz=>j5 v z).toArray e x))->g=q->(v,a)=(k,w)->g<W.heap.size/\∃e x,W.heap[g]? = some (.cells (w.map λz=>j5 k z).toArray e x):=λc G H=>by
   subst G;cases H;obtain⟨e,x,c⟩:=c;exact⟨lt c,e,x,c⟩
  cases d:aj4 g 1 with
  | true=>rw[d,cond_true] at h;exact key D (x7 d) (j7 h)
  | false=>
   rw[d,cond_false] at h;cases f:aj4 g 2 with
   | true=>rw[f,cond_true] at h;exact key B (x7 f) (j7 h)
   | false=>
    rw[f,cond_false] at h;cases i:aj4 g 3 with
    | true=>rw[i,cond_true] at h;exact key A (x7 i) (j7 h)
    | false=>
     rw[i,cond_false] at h;cases j:aj4 g 5 with
     | true=>rw[j,cond_true] at h;exact key y (x7 j) (j7 h)
     | false=>rw[j,cond_false] at h;cases h
 ·rw[r] at h;have e:=x7 h;subst e;obtain⟨m,u⟩:=F;refine⟨?_,m,u⟩;apply Classical.byContradiction;intro l;simp[ad0,ab1 (Nat.le_of_not_lt l)] at u
theorem BZ(os:Os)(args:Array Value):((aa4 a8 os Ew).forCall (λ_ _=>0) ⟨#[],args,[]⟩).Shaped a8:=
 World.shaped_of_ZipB (by kernel_rfl) (by kernel_rfl)
theorem NW(os:Os)(args:Array Value):laidMetH a8 Ew ((aa4 a8 os Ew).forCall (λ_ _=>0) ⟨#[],args,[]⟩).memory:=by rw[ac9 _ _ _ (by kernel_rfl)];exact laidMet_laidAll _ (by kernel_rfl) (by kernel_rfl)
theorem A53{H:Type}{enc:TypeId × Value->H}{os:Os}(j:os.Started){C:Cfg}(u:C.P=a8)(r:C.G=GX)(Z:XOK C)(W:Oo C){f tb:Nat}{fn:Func}{c:Code}{s:ChangeSpec}{g:List PathCond}{apart fresh handsOn again:Bool}(l:a8.inits.idxOf? f=none)(x:a8.funcs[f]? = some fn)(hb:fn.body=some c)(n:(fn.name == "runtime.NumGoroutine")=false)
  (F:∀t∈fn.params.toList,(a8.readableRec t=true/\t<a8.types.size)/\(Ep a8 20 t).isSome=true) (z:fn.resultTypes = #[tb]) (m:a8.underlying tb=some .bool) (q:s.vars=[])
  (p:∀ds:List (DataW H),ds.length=fn.params.toList.length->s.fn H ds = { results:=[.lit (.bool true)],args:=ds })
  (a:Array Value) (h:Nat) (o:Input.okWideB a8 ((aa4 a8 os Ew).forCall (λ_ _=>0) ⟨#[],a,[]⟩) f ⟨#[],a,[]⟩=true)
  (Um:s.preB enc a8 fn g apart ((aa4 a8 os Ew).forCall (λ_ _=>0) ⟨#[],a,[]⟩).memory a h=true)
  (J:s.sizedB enc a8 fn apart ((aa4 a8 os Ew).forCall (λ_ _=>0) ⟨#[],a,[]⟩).memory a h=true)
  (D:∀args,Lp a8 fn.params.toList args->∃d T,evC C d Unit noY f args [] ()=some (.s (.bool true),T,())) :
  ReturnsInHanded {} ag2 os f .any (λw args=>(s.pre enc a8 fn g apart w args/\laidMetH a8 Ew w)/\sizedMet enc a8 fn (OpenSpec.ofChange s) apart w args) (s.post enc a8 fn apart fresh handsOn again):=by
 obtain⟨P,G,X,R,a0,lf,Q,M,xp,L,N,Y,S,nt,a1⟩:=C;simp only at u r;subst u;refine returnsInHanded_of_calls (C:=ag2) own j l
  (ChangeSpec.witness_shaped (enc:=enc) (C:=ag2) (os:=os) (X:=λw _=>laidMetH a8 Ew w) false (aa4 a8 os Ew) a h (World.laidAll_os _ _ _) (BZ os a) o Um J (NW os a)) ?_
 intro w b i _ I _ o Um A;obtain⟨_,_,_,B,y,_,_,_,_,Ok⟩:=o;have e:B=fn:=j7 (y.symm.trans x);subst e;obtain⟨⟨⟨ds,U,k,hw,hc⟩,O⟩,hz⟩:=Um;have K:=DataW.Whole.of_heap (w':=w.forCall b i) (by rfl) hw;have V:laidMet a8 Ew (w.forCall b i):=by
  rw[ac9 _ _ _ (by kernel_rfl)] at O;exact laidMet.of_heap (w':=w.forCall b i) (by rfl) O
 refine(Cl1 (apart:=apart) (fresh:=fresh) (handsOn:=handsOn) (again:=again) Z W follows Db2 x hb n F z m q p D (w.forCall b i) (A42 r V I) w.heap.size i.args ds U k Ok K).mono λe W' ⟨v,he,F⟩=>?_
 subst he;exact ChangeSpec.post_blind F
end
section
open Go Go.Proofs
set_option maxRecDepth 100000
section
theorem RY:B3 a8 GX 234 Kh:=λargs ret a h=>by
 have:L9 (Kh args)=none:=by unfold Kh GP;split<;>rfl
 rw[this] at h;cases h
theorem Bn0:B3 a8 GX 163 TH:=xf [] (A01 LF) TJ rfl trivial rfl (by kernel_rfl) follows λargs=>by
 unfold TJ;split
 ·rename_i s p;exact λa=>⟨rfl,rfl,rfl,_,_,(Dc1 LF noY () 0 s p).trans (B43 s p a),rfl⟩
 ·trivial
theorem Ab1:B3 a8 GX 120 GV:=xf [] (Az8 LF) SY rfl ⟨Bn0,trivial⟩ rfl (by kernel_rfl) follows λargs=>by
 unfold SY;split
 ·rename_i s p;exact λa=>⟨rfl,rfl,rfl,_,_,(Da4 LF noY () 0 s p).trans (B22 s p a),rfl⟩
 ·trivial
theorem C26:B3 a8 GX 232 Av9:=xf [] (A02 LF) TM rfl trivial rfl (by kernel_rfl) follows λargs=>by
 unfold TM;split
 ·rename_i s p;exact λa=>⟨rfl,rfl,rfl,_,_,(Dc3 LF noY () 0 s p).trans (B44 s p a),rfl⟩
 ·trivial
theorem Dx6:B3 a8 GX 207 Cg5:=xf [] (Az9 LF) SZ rfl ⟨C26,trivial⟩ rfl (by kernel_rfl) follows λargs=>by
 unfold SZ;split
 ·rename_i s p;exact λa=>⟨rfl,rfl,rfl,_,_,(Da6 LF noY () 0 s p).trans (B23 s p a),rfl⟩
 ·trivial
theorem Dm5:B3 a8 GX 221 Bo2:=xf [] (WC LF) HJ rfl ⟨C26,trivial⟩ rfl (by kernel_rfl) follows λargs=>by
 unfold HJ;split
 ·rename_i s p;exact λa=>⟨rfl,rfl,rfl,_,_,(Cp0 LF noY () 0 s p).trans (A67 s p a),rfl⟩
 ·trivial
theorem Do9:B3 a8 GX 199 Bq5:=xf [] (WS LF) IV rfl ⟨Dm5,trivial⟩ rfl (by kernel_rfl) follows λargs=>by
 unfold IV;split
 ·rename_i s p;exact λa=>⟨rfl,rfl,rfl,_,_,(Cz2 LF noY () 0 s p).trans (Bk6 s p a),rfl⟩
 ·trivial
theorem Dm0:B3 a8 GX 158 Bn9:=xf [0,0] (VY LF) HD rfl ⟨Bn0,trivial⟩ rfl (by kernel_rfl) follows λargs=>by
 unfold HD;split
 ·rename_i s p;exact λa=>⟨rfl,rfl,rfl,_,_,(Co3 LF noY () 0 s p).trans (A55 s p a),rfl⟩
 ·trivial
theorem C17:B3 a8 GX 118 Av2:=xf [0,0] (Az2 LF) SH rfl ⟨Dm0,trivial⟩ rfl (by kernel_rfl) follows λargs=>by
 unfold SH;split
 ·rename_i s p;exact λa=>⟨rfl,rfl,rfl,_,_,(C71 LF noY () 0 s p).trans (Bz9 s p a),rfl⟩
 ·trivial
theorem C18:B3 a8 GX 210 Ac2:=xf [1] (Ec LF) Zq rfl ⟨RY,C38,Bn1,trivial⟩ rfl (by kernel_rfl) follows λargs=>by
 unfold Zq;split
 ·rename_i s p v n;exact λa=>λb=>λc=>λd=>(let⟨r,H,e,q⟩:=Ah4 s p v n a b c d;⟨rfl,rfl,rfl,r,H,(QD LF noY () 0 s p v n).trans e,q⟩)
 ·trivial
theorem NP:B3 a8 GX 176 Wa:=xf [1] (JT LF) AK rfl ⟨C18,trivial⟩ rfl (by kernel_rfl) follows λargs=>by
 unfold AK;split
 ·rename_i s p;exact λa=>λb=>⟨rfl,rfl,rfl,_,_,(Cc0 LF noY () 0 s p).trans (As4 s p a b),rfl⟩
 ·trivial
theorem C25:B3 a8 GX 116 Av8:=xf [] (Tw LF) TG rfl trivial rfl (by kernel_rfl) follows λargs=>by
 unfold TG;split
 ·rename_i s;exact λa=>⟨rfl,rfl,rfl,_,_,(Db9 LF noY () 0 s).trans (B41 s a),rfl⟩
 ·trivial
theorem C19:B3 a8 GX 137 Av4:=xf [] (Az6 LF) SW rfl ⟨Ab1,trivial⟩ rfl (by kernel_rfl) follows λargs=>by
 unfold SW;split
 ·rename_i s;exact λa=>⟨rfl,rfl,rfl,_,_,(Da1 LF noY () 0 s).trans (B19 s a),rfl⟩
 ·trivial
theorem Bm7:B3 a8 GX 139 SK:=xf [0,0] (W3 LF) SL rfl trivial rfl (by kernel_rfl) follows λargs=>by
 unfold SL;split
 ·rename_i s base;exact λa=>λb=>⟨rfl,rfl,rfl,_,_,(C81 LF noY () 0 s base).trans (B05 s base a b),rfl⟩
 ·trivial
theorem Dr3:B3 a8 GX 138 Cg8:=xf [0,0] (Ck7 LF) Aw0 rfl ⟨C19,Bm7,trivial⟩ rfl (by kernel_rfl) follows λargs=>by
 unfold Aw0;split
 ·rename_i s;exact λa=>⟨rfl,rfl,rfl,_,_,(Dt8 LF noY () 0 s).trans (Cq2 s a),rfl⟩
 ·trivial
theorem By5:B3 a8 GX 136 TR:=xf [1] (WE LF) HN rfl ⟨NP,trivial⟩ rfl (by kernel_rfl) follows λargs=>by
 unfold HN;split
 ·rename_i s;exact λa=>⟨rfl,rfl,rfl,_,_,(Cr0 LF noY () 0 s).trans (A79 s a),rfl⟩
 ·trivial
theorem SC:B3 a8 GX 102 Qs:=xf [] (AY LF) Sy rfl ⟨By5,C19,Dr3,Bm7,trivial⟩ rfl (by kernel_rfl) follows λargs=>by
 unfold Sy;split
 ·rename_i s;exact λa=>⟨rfl,rfl,rfl,_,_,(A74 LF noY () 0 s).trans (YC s a),rfl⟩
 ·trivial
theorem Dy0:B3 a8 GX 200 Ch0:=xf [0,0] (Tz LF) TV rfl ⟨By5,Dr3,trivial⟩ rfl (by kernel_rfl) follows λargs=>by
 unfold TV;split
 ·rename_i s;exact λa=>⟨rfl,rfl,rfl,_,_,(De3 LF noY () 0 s).trans (B63 s a),rfl⟩
 ·trivial
theorem D33:B3 a8 GX 255 Dp6:=xf [0,0] (JV LF) Ax6 rfl ⟨NP,Bm7,C23,trivial⟩ rfl (by kernel_rfl) follows λargs=>by
 unfold Ax6;split
 ·rename_i s;exact λa=>⟨rfl,rfl,rfl,_,_,(Dv7 LF noY () 0 s).trans (C09 s a),rfl⟩
 ·trivial
theorem D32:B3 a8 GX 167 Dp5:=xf [] (JU LF) Ax5 rfl ⟨C23,trivial⟩ rfl (by kernel_rfl) follows λargs=>by
 unfold Ax5;split
 ·rename_i v;exact λa=>⟨rfl,rfl,rfl,_,_,(Dv6 LF noY () 0 v).trans (C07 v a),rfl⟩
 ·trivial
theorem Ce7:B3 a8 GX 111 OT:=xf [] (Cw LF) Sz rfl trivial rfl (by kernel_rfl) follows λargs=>by
 unfold Sz;split
 ·rename_i s;exact λa=>⟨rfl,rfl,rfl,_,_,(Ba7 LF noY () 0 s).trans (YS s a),rfl⟩
 ·trivial
theorem C34:B3 a8 GX 127 Aw7:=xf [] (Uc LF) UE rfl trivial rfl (by kernel_rfl) follows λargs=>by
 unfold UE;split
 ·rename_i s;exact λa=>⟨rfl,rfl,rfl,_,_,(Dg4 LF noY () 0 s).trans (B86 s a),rfl⟩
 ·trivial
theorem Qp:B3 a8 GX 76 Ki:=xf [1] (Gt LF) AE rfl trivial rfl (by kernel_rfl) follows λargs=>by
 unfold AE;split
 ·rename_i s c;exact λa=>λb=>(let⟨r,H,e,q⟩:=An8 s c a b;⟨rfl,rfl,rfl,r,H,(B98 LF noY () 0 s c).trans e,q⟩)
 ·trivial
theorem Dy3:B3 a8 GX 153 Ch2:=xf [] (Jq LF) TZ rfl trivial rfl (by kernel_rfl) follows λargs=>by
 unfold TZ;split
 ·rename_i b;exact λa=>⟨rfl,rfl,rfl,_,_,(Df3 LF noY () 0 b).trans (B74 b a),rfl⟩
 ·trivial
theorem C35:B3 a8 GX 112 Aw8:=xf [0,0] (P3 LF) UH rfl ⟨Dy3,trivial⟩ rfl (by kernel_rfl) follows λargs=>by
 unfold UH;split
 ·rename_i s;exact λa=>⟨rfl,rfl,rfl,_,_,(Dg6 LF noY () 0 s).trans (B87 s a),rfl⟩
 ·trivial
theorem Au6:B3 a8 GX 110 ID:=xf [1] (JP LF) AC rfl ⟨Qp,trivial⟩ rfl (by kernel_rfl) follows λargs=>by
 unfold AC;split
 ·rename_i s;exact λa=>⟨rfl,rfl,rfl,_,_,(B92 LF noY () 0 s).trans (Am8 s a),rfl⟩
 ·trivial
theorem NN:B3 a8 GX 75 Td:=xf [] (Ud LF) Ow rfl ⟨Au6,Ce7,C35,trivial⟩ rfl (by kernel_rfl) follows λargs=>by
 unfold Ow;split
 ·rename_i s;exact λa=>⟨rfl,rfl,rfl,_,_,(Am7 LF noY () 0 s).trans (OK s a),rfl⟩
 ·trivial
theorem Dn8:B3 a8 GX 130 Bp4:=xf [0,0] (Mc LF) IF rfl ⟨Au6,C35,trivial⟩ rfl (by kernel_rfl) follows λargs=>by
 unfold IF;split
 ·rename_i s;exact λa=>⟨rfl,rfl,rfl,_,_,(Cv1 LF noY () 0 s).trans (Bg0 s a),rfl⟩
 ·trivial
theorem Dy2:B3 a8 GX 233 Ch1:=xf [0,0] (Ua LF) TY rfl ⟨RZ,trivial⟩ rfl (by kernel_rfl) follows λargs=>by
 unfold TY;split
 ·rename_i s;exact λa=>⟨rfl,rfl,rfl,_,_,(Df1 LF noY () 0 s).trans (B73 s a),rfl⟩
 ·trivial
theorem Dy8:B3 a8 GX 208 Ch6:=xf [0,0] (Uf LF) UN rfl ⟨Qp,Dy2,trivial⟩ rfl (by kernel_rfl) follows λargs=>by
 unfold UN;split
 ·rename_i s;exact λa=>⟨rfl,rfl,rfl,_,_,(Dh7 LF noY () 0 s).trans (Ca7 s a),rfl⟩
 ·trivial
theorem Dy7:B3 a8 GX 96 Ch5:=xf [] (A07 LF) UM rfl ⟨RZ,trivial⟩ rfl (by kernel_rfl) follows λargs=>by
 unfold UM;split
 ·rename_i v;exact λa=>⟨rfl,rfl,rfl,_,_,(Dh5 LF noY () 0 v).trans (Ca5 v a),rfl⟩
 ·trivial
theorem Ce6:B3 a8 GX 210 Zr:=by
 refine B3.fix (pf:=Sx) _ (Cm (C₀:=Ec LF) (M5.ok (l:=[(234,Kh),(235,Ax1),(179,IP)]) rfl ⟨RY,C38,Bn1,trivial⟩) (I9 rfl (by kernel_rfl)) follows ?_);intro args ret f h;unfold Sx at h;split at h
 ·rename_i s p v n;obtain⟨a,h⟩:=C1 h;obtain⟨b,h⟩:=C1 h;obtain⟨c,h⟩:=C1 h;obtain⟨d,h⟩:=C1 h;obtain⟨rfl,rfl⟩:=J3 h;have e:=(QD LF noY () 0 s p v n).trans (KT s p v n a b c d);exact⟨rfl,1,_,[],e,rfl,rfl⟩
 ·cases h
theorem Cf3:B3 a8 GX 176 OZ:=by
 refine B3.fix (pf:=Th) _ (Cm (C₀:=BD LF) (M5.ok (l:=[(210,Zr)]) rfl ⟨Ce6,trivial⟩) (I9 rfl (by kernel_rfl)) follows ?_);intro args ret c h;unfold Th at h;split at h
 ·rename_i s p;obtain⟨a,h⟩:=C1 h;obtain⟨b,h⟩:=C1 h;obtain⟨rfl,rfl⟩:=J3 h;have e:=(Bk3 LF noY () 0 s p).trans (ZU s p a b);exact⟨rfl,1,_,[],e,rfl,rfl⟩
 ·cases h
end
section
theorem Dx2:B3 a8 GX 254 Cg1:=xf [0,0] (Z9 LF) SP rfl trivial rfl (by kernel_rfl) follows λargs=>by
 unfold SP;split
 ·rename_i s;exact λa=>⟨rfl,rfl,rfl,_,_,(C93 LF noY () 0 s).trans (B14 s a),rfl⟩
 ·trivial
theorem Dl5:B3 a8 GX 240 Bn6:=xf [1,0] (Lw LF) GS rfl ⟨NP,Dx2,D33,trivial⟩ rfl (by kernel_rfl) follows λargs=>by
 unfold GS;split
 ·rename_i s last;exact λa=>(let⟨r,H,e,q⟩:=A41 s last a;⟨rfl,rfl,rfl,r,H,(Cm7 LF noY () 0 s last).trans e,q⟩)
 ·trivial
theorem D36:B3 a8 GX 219 Dp9:=xf [0,0] (DJ LF) Ax9 rfl ⟨C39,Dl5,trivial⟩ rfl (by kernel_rfl) follows λargs=>by
 unfold Ax9;split
 ·rename_i s;exact λa=>(let⟨r,H,e,q⟩:=Dw5 s a;⟨rfl,rfl,rfl,r,H,(Dw4 LF noY () 0 s).trans e,q⟩)
 ·trivial
theorem Dp0:B3 a8 GX 204 Bq6:=xf [0,0] (Y8 LF) JA rfl trivial rfl (by kernel_rfl) follows λargs=>by
 unfold JA;split
 ·rename_i a b c d e f g h;exact λi=>⟨rfl,rfl,rfl,_,_,(C50 LF noY () 0 a b c d e f g h).trans (Bn4 a b c d e f g h i),rfl⟩
 ·trivial
theorem D35:B3 a8 GX 205 Dp8:=xf [] (JW LF) Ax8 rfl ⟨Dx1,Bz0,trivial⟩ rfl (by kernel_rfl) follows λargs=>by
 unfold Ax8;split
 ·rename_i b a l;exact λc=>λd=>(let⟨r,H,e,q⟩:=Dw2 b a l c d;⟨rfl,rfl,rfl,r,H,(Dw1 LF noY () 0 b a l).trans e,q⟩)
 ·trivial
theorem D34:B3 a8 GX 168 Dp7:=xf [] (Ck8 LF) Ax7 rfl ⟨Dp0,D35,trivial⟩ rfl (by kernel_rfl) follows λargs=>by
 unfold Ax7;split
 ·rename_i a b c d f g h i;exact λj=>(let⟨r,H,e,q⟩:=Dw0 a b c d f g h i j;⟨rfl,rfl,rfl,r,H,(Dv9 LF noY () 0 a b c d f g h i).trans e,q⟩)
 ·trivial
theorem Dy4:B3 a8 GX 209 Ch3:=xf [0,0] (Ab LF) UB rfl trivial rfl (by kernel_rfl) follows λargs=>by
 unfold UB;split
 ·rename_i s;exact λa=>⟨rfl,rfl,rfl,_,_,(Df9 LF noY () 0 s).trans (B78 s a),rfl⟩
 ·trivial
theorem Dn1:B3 a8 GX 173 Bo8:=xf [1,0] (R4 LF) HU rfl ⟨Qp,Dy8,Dy4,trivial⟩ rfl (by kernel_rfl) follows λargs=>by
 unfold HU;split
 ·rename_i s last;exact λa=>(let⟨r,H,e,q⟩:=Bc8 s last a;⟨rfl,rfl,rfl,r,H,(Ct0 LF noY () 0 s last).trans e,q⟩)
 ·trivial
theorem Ce8:B3 a8 GX 172 OU:=xf [] (Cx LF) Ta rfl trivial rfl (by kernel_rfl) follows λargs=>by
 unfold Ta;split
 ·rename_i s;exact λa=>⟨rfl,rfl,rfl,_,_,(Ba8 LF noY () 0 s).trans (YU s a),rfl⟩
 ·trivial
theorem Dz0:B3 a8 GX 128 Ch8:=xf [0,0] (Ac LF) UP rfl ⟨Ce8,Dn1,trivial⟩ rfl (by kernel_rfl) follows λargs=>by
 unfold UP;split
 ·rename_i s;exact λa=>(let⟨r,H,e,q⟩:=Di2 s a;⟨rfl,rfl,rfl,r,H,(Di1 LF noY () 0 s).trans e,q⟩)
 ·trivial
theorem Dn4:B3 a8 GX 132 Bp1:=xf [] (Ma LF) HX rfl trivial rfl (by kernel_rfl) follows λargs=>by
 unfold HX;split
 ·rename_i v;exact λa=>⟨rfl,rfl,rfl,_,_,(Ct4 LF noY () 0 v).trans (Bd2 v a),rfl⟩
 ·trivial
theorem Dy9:B3 a8 GX 97 Ch7:=xf [] (X7 LF) UO rfl ⟨Dn4,trivial⟩ rfl (by kernel_rfl) follows λargs=>by
 unfold UO;split
 ·rename_i a b c d e f g h;exact λi=>⟨rfl,rfl,rfl,_,_,(Dh9 LF noY () 0 a b c d e f g h).trans (Ca8 a b c d e f g h i),rfl⟩
 ·trivial
theorem Au4:B3 a8 GX 213 Ov:=xf [] (JN LF) Zy rfl trivial rfl (by kernel_rfl) follows λargs=>by
 unfold Zy;split
 ·rename_i n;exact⟨rfl,rfl,rfl,_,_,(B65 LF noY () 0 n).trans (Ak5 n ),rfl⟩
 ·trivial
theorem Au3:B3 a8 GX 215 Ou:=xf [] (X5 LF) Zx rfl trivial rfl (by kernel_rfl) follows λargs=>by
 unfold Zx;split
 ·rename_i d c f;exact λa=>λb=>λe=>⟨rfl,rfl,rfl,_,_,(B52 LF noY () 0 d c f).trans (Ak1 d c f a b e),rfl⟩
 ·trivial
theorem Dx9:B3 a8 GX 239 Aw1:=xf [] (A04 LF) TT rfl trivial rfl (by kernel_rfl) follows λargs=>by
 unfold TT;split
 ·rename_i d;exact λa=>⟨rfl,rfl,rfl,_,_,(Dd8 LF noY () 0 d).trans (B60 d a),rfl⟩
 ·trivial
theorem Dy1:B3 a8 GX 250 Aw3:=xf [] (Jp LF) TX rfl trivial rfl (by kernel_rfl) follows λargs=>by
 unfold TX;split
 ·rename_i b;exact λa=>⟨rfl,rfl,rfl,_,_,(De9 LF noY () 0 b).trans (B68 b a),rfl⟩
 ·trivial
end
section
theorem C31:B3 a8 GX 238 HO:=by
 refine B3.fix (pf:=TW) _ (Cm (C₀:=A05 LF) (M5.ok (l:=[]) rfl trivial) (I9 rfl (by kernel_rfl)) follows ?_);intro args ret a h;unfold TW at h;split at h
 ·rename_i b;obtain⟨rfl,rfl⟩:=J3 h;have e:=(De6 LF noY () 0 b).trans (B66 b );exact⟨rfl,1,_,[],e,rfl,rfl⟩
 ·cases h
theorem Bz2:DG a8 GX 253 Qt:=by
 refine Fy (C₀:=WF LF) (M5.ok (l:=[]) rfl trivial) (I9 rfl (by kernel_rfl)) follows ?_;intro args H ret f h;unfold Qt at h;split at h
 ·rename_i k b;obtain⟨a,h⟩:=C1 h;obtain⟨c,h⟩:=C1 h;obtain⟨rfl,rfl⟩:=J3 h;refine⟨rfl,rfl,λZ d s=>?_⟩;have e:=(Cr4 LF d s 0 k b).trans (A92 k b a c);exact⟨1,_,e,rfl⟩
 ·cases h
theorem D01:DG a8 GX 214 TQ:=by
 refine Fy (C₀:=AZ LF) (Vt (lx:=[(238,HO),(239,Aw1)]) (ly:=[(253,Qt)]) (ls:=[]) rfl rfl rfl ⟨C31,Dx9,trivial⟩ ⟨Bz2,trivial⟩ trivial) (I9 rfl (by kernel_rfl)) follows ?_;intro args H ret f h;unfold TQ at h;split at h
 ·rename_i q b z l;obtain⟨a,h⟩:=C1 h;obtain⟨c,h⟩:=C1 h;obtain⟨d,h⟩:=C1 h;obtain⟨rfl,rfl⟩:=J3 h;obtain⟨g,i,e0⟩:=B54 q b z l a c d;exact⟨rfl,rfl,λZ e s=>⟨1,_,(Dd4 LF e s 0 q b z l).trans (e0 _ _),rfl⟩⟩
 ·cases h
theorem C30:B3 a8 GX 181 Aw2:=by
 refine B3.fix (pf:=TU) _ (J2 [0,0] (C₀:=Q5 LF) (Vt (lx:=[(213,Ov),(215,Ou)]) (ly:=[(214,TQ)]) (ls:=[]) rfl rfl rfl ⟨Au4,Au3,trivial⟩ ⟨D01,trivial⟩ trivial) (I9 rfl (by kernel_rfl)) follows ?_);intro args ret f h;unfold TU at h;split at h
 ·rename_i b a p;obtain⟨c,h⟩:=C1 h;obtain⟨rfl,rfl⟩:=J3 h;obtain⟨r,H,e,d⟩:=De0 b a p c;exact⟨rfl,rfl,rfl,1,r,H,(Dd9 LF noY () 0 b a p).trans e,d⟩
 ·cases h
end
section
theorem D00:DG a8 GX 236 SM:=by
 refine Fy (C₀:=AW LF) (Vt (lx:=[(238,HO),(250,Aw3)]) (ly:=[(253,Qt)]) (ls:=[]) rfl rfl rfl ⟨C31,Dy1,trivial⟩ ⟨Bz2,trivial⟩ trivial) (I9 rfl (by kernel_rfl)) follows ?_;intro args H ret j h;unfold SM at h;split at h
 ·rename_i a n i b c z l;obtain⟨d,h⟩:=C1 h;obtain⟨e,h⟩:=C1 h;obtain⟨f,h⟩:=C1 h;obtain⟨rfl,rfl⟩:=J3 h;obtain⟨k,e0⟩:=B07 a n i b c z l d e f;exact⟨rfl,rfl,λZ g s=>⟨1,_,(C82 LF g s 0 a n i b c z l).trans (e0 _ _),rfl⟩⟩
 ·cases h
theorem C22:B3 a8 GX 133 Ac4:=xf [] (Gr LF) Zt rfl trivial rfl (by kernel_rfl) follows λargs=>by
 unfold Zt;split
 ·rename_i s c;exact λa=>λb=>⟨rfl,rfl,rfl,_,_,(B29 LF noY () 0 s c).trans (Ai1 s c a b),rfl⟩
 ·trivial
theorem By4:B3 a8 GX 98 FJ:=xf [] (VX LF) HC rfl ⟨C22,trivial⟩ rfl (by kernel_rfl) follows λargs=>by
 unfold HC;split
 ·rename_i s c;exact λa=>λb=>⟨rfl,rfl,rfl,_,_,(Co2 LF noY () 0 s c).trans (A52 s c a b),rfl⟩
 ·trivial
end
end
section
open Go Go.Proofs Go.Sort
set_option maxRecDepth 100000
theorem NA{C:Cfg}{Z:Type}{I:Z->(Nat->Prop)->(Nat->Prop)->World->Prop}(J:HI I){f:Ctx}{u:Nat->Prop}{w w':World}{z v1:Bool}{E o r:Nat}{l l' m:LL}{s:Z}(g cap:Nat)(H:List Value)(i:Array Value)
  (P:Pp C E=false) (j:HR f [.arr z E 1 l,.arr v1 o r m] w) (K:I s f.St u w) (M:∀b g,f.nm b=some g->¬u g)
  (d:f.nm 0=some g\/g=w.heap.size) (O:g<w'.heap.size) (e:∀k,k<w.heap.size->f.nm 0≠some k->w'.heap[k]? = w.heap[k]?) (p:w.heap.size<=w'.heap.size) (R:w'.os=w.os) (S:w'.tape=w.tape) (T:w'.output=w.output)
  (n:w'.heap[g]? = some (.cells i E (0,0))) (X:Els f.St w' 1 l' H) (D:l'≠[]) (t:∀q,q<H.length->i[q]? = H[q]?) (Y:H.length<=i.size) (B:l'.length<=cap) (hm:cap<=maxLen) (L:i.size=cap) :
  Eb C I f [.arr z E 1 l,.arr v1 o r m] w u (.fl 0) [.arr z E 1 l',.arr v1 o r m] s (.slice (some ⟨g,0,none⟩) l'.length cap) w':=by
 have x:0<[Blk.arr z E 1 l,.arr v1 o r m].length:=by simp
 have G:(f.re 0 (some g)).nm 0=some g:=by simp[Ctx.re]
 have F:¬Mh C (A5 [Blk.arr z E 1 l,.arr v1 o r m] 0):=by simp[A5,Blk.shp,Mh,P]
 have a:([Blk.arr z E 1 l,.arr v1 o r m].map (Blk.kill 0)).set 0 (.arr z E 1 l')=[.arr z E 1 l',.arr v1 o r m]:=rfl;have N:¬f.St g:=by
  rcases d with h|h
  ·exact(j.lt 0 g h).2.2
  ·intro hs;have:=j.stlt g hs;omega
 obtain⟨U,V,q3⟩:=YX (C:=C) (y:=.arr z E 1 l') (ng:=some g) (w':=w') j x F (λk a=>by
   simp only[k9] at a;subst a;refine⟨O,N,λc t A=>?_⟩;rcases d with h|h
   ·exact t (j.inj c 0 _ A h)
   ·have:=(j.lt c _ A).2.1;omega)
  (λk a=>by
   simp only[k9] at a;subst a;rcases d with h|h
   ·exact .inl h
   ·exact .inr (by omega)) e p R S T
  (BR.els G n X (by rintro⟨_,h⟩;exact D h) t Y) rfl
 rw[a] at U V;refine⟨_,u,U.lift u,V,?_,λc t=>?_,?_,λb W v=>?_⟩
 ·refine .fl 0 g z E 1 l'.length cap rfl (λ_ h=>D (aa9.1 h)) G B hm ?_;simp only[ad9,n,L,y7]
 ·simp only[PV.nms,List.mem_singleton] at t;subst t;simp
 ·refine J.mono s f.St u w f.St w' K (λ_ h=>h) (λk a Q=>(J.foot _ _ _ _ K k Q).2 a) (λk a=>Nat.lt_of_lt_of_le (j.stlt k a) p) (λk a=>?_) p R S T;rcases a with a|a
  ·exact e k (j.stlt k a) (λh=>(j.lt 0 k h).2.2 a)
  ·exact e k (J.foot _ _ _ _ K k a).1 (λh=>M 0 k h a)
 ·simp only[Ctx.re] at v;split at v
  ·simp only[k9] at v;subst v;rcases d with h|h
   ·exact M 0 _ h
   ·intro Q;have:=(J.foot _ _ _ _ K _ Q).1;omega
  ·exact M b W v
theorem Ck{w:World}{g o e:Nat}{vs:List Value}{a:Array Value}(c:w.heap[g]? = some (.cells a e (0,0)))(f:o+vs.length<=a.size)(l:∀v∈vs,v.oneCell'=true) :
  (w.setCells g o vs).heap[g]? = some (.cells (G1 a.toList o vs).toArray e (0,0))/\(∀k,k≠g->(w.setCells g o vs).heap[k]? = w.heap[k]?)/\(w.setCells g o vs).heap.size=w.heap.size/\(w.setCells g o vs).os=w.os/\(w.setCells g o vs).tape=w.tape/\(w.setCells g o vs).output=w.output:=by
 obtain⟨w',i,m,n,p,q,t,u,_⟩:=N3 (P:=a8) (o:=o) c f l;have b:∀j,j<vs.length->∃v,w.cell? ⟨g,o+0+j,none⟩=some v:=λj d=>by
  refine⟨a[o+j]'(by omega),?_⟩;simp[ad0,c,ac7 (show o+j<a.size by omega)]
 have r:=run_storeCells_cells (P:=a8) g o vs 0 w (λj d=>by obtain⟨v,h⟩:=b j d;rw[h];rfl) (λj d=>by simp[ad3,c]) l;rw[r] at i;simp only[aj3,Result.ok.injEq,true_and] at i;rw[i];exact⟨m,n,p,q,t,u⟩
theorem KY{St:Nat->Prop}{w:World}{l:LL}{d:List Value}{i:Nat}{n:Int}(h:Els St w 1 l d)(q:i<=l.length):Els St w 1 (Mm l i n) (d.take i++j5 .i64 n::d.drop i):=by
 have c:=h.1;rw[y7] at c;have m:Els St w 1 (l.take i) (d.take i):=by
  refine⟨by rw[j6,j6,c,y7],λj f=>?_⟩;rw[j6] at f;rw[List.getElem_take];obtain⟨a,b⟩:=h.2 j (by omega);refine⟨a,λk g=>?_⟩;obtain⟨U,e,v⟩:=b k g;exact⟨U,by rw[x8 (by omega)];exact e,v⟩
 have o:Els St w 1 [[SV.int .i64 n]] [j5 .i64 n]:=by
  refine⟨rfl,λj f=>?_⟩;have:j=0:=by simpa using f
  subst this;refine⟨rfl,λk g=>?_⟩;have:k=0:=by simpa using g
  subst this;exact⟨_,rfl,.int _ _⟩
 have p:Els St w 1 (l.drop i) (d.drop i):=by
  refine⟨by rw[c9,c9,c,y7],λj f=>?_⟩;rw[c9] at f;rw[List.getElem_drop];obtain⟨a,b⟩:=h.2 (i+j) (by omega);refine⟨a,λk g=>?_⟩;obtain⟨U,e,v⟩:=b k g;exact⟨U,by rw[af3];rw[show i+(j*1+k)=(i+j)*1+k by omega];exact e,v⟩
 have:=(m.append o).append p;unfold Mm;simpa using this
theorem KZ(l:LL)(i:Nat)(n:Int)(h:i<=l.length):(Mm l i n).length=l.length+1:=by unfold Mm;rw[j0,j1,j6,c9];omega
theorem XN(l:LL)(i:Nat)(n:Int):Mm l i n≠[]:=by unfold Mm;simp
theorem D02:DG a8 GX 237 UV:=by
 intro C hP hG Z I yh yv hI hy args H s ret Hc G Γ Φ w Vs g2 hH hg hi hd hc hn;unfold UV at G;split at G
 ·rename_i i z l d;obtain⟨h0,G⟩:=C1 G;obtain⟨h1,G⟩:=C1 G;obtain⟨rfl,rfl⟩:=J3 G;obtain⟨i0,i1⟩:=E5.1 h0;obtain⟨i,rfl⟩:=x9 i0;have hl:=ab9 h1;have X:i<=l.length:=by
   have:(i:Int)<((l.length+1:Nat):Int):=i1;omega
  obtain⟨S,X0,V,rfl,hs,hx,hv⟩:=hc.arr3;obtain rfl:=hx.inv_int;have c0:Pp C 3=false:=by
   unfold Pp Cfg.sh;rw[hP];kernel_rfl
  obtain⟨g1,d0,n1,n2,n3,n4,n5⟩:=hH.arr' (b:=1) rfl (by simp);have f5:∃cap,V = .slice (some ⟨g1,0,none⟩) 1 cap:=by
   cases hv with
   | flv _ e sz h=>simp[A5,Blk.shp] at h
   | fl _ g v e sz n cap h e8 y R hm e6=>
    rw[n1] at y;simp only[k9] at y;subst y;simp only[A5,aa8,y5,aa6,Blk.shp,k9,Shp.arr.injEq] at h;obtain⟨_,_,_,h4⟩:=h;subst h4;exact⟨cap,rfl⟩
  obtain⟨A,rfl⟩:=f5;obtain⟨V1,p1,p2⟩:=n5 0 (by simp) 0 (by simp);have p3:V1 = .int .i64 d:=by cases p2;rfl
  subst p3;have t:∀j v,[j5 .i64 d][j]? = some v->w.cell? ⟨g1,0+j,none⟩=some v:=by
   intro j v x;have:j=0:=by
    have:=(ac8.1 x).1;simpa using this
   subst this;simp only[y5,k9] at x;subst x;simpa[ad0,n2] using p1
  have M:∀v∈[j5 .i64 d],v.oneCell'=true:=by simp[Value.oneCell']
  rw[j9];refine Ss (fn:=Tryz.f237) (by kernel_rfl) (by kernel_rfl) (by kernel_rfl) ?_;have B:∀(base:Option Addr) (c:Nat) (f:List Value),l.length<=c->c<l.length+1->f.length=l.length->(base=none->l.length=0)->(∀a,base=some a->∀j v,f[j]? = some v->w.cell? (a.add j)=some v)->Els Γ.St w 1 l f->
    Calls a8 237 #[.slice base l.length c,.int .i64 (l.length:Int),.slice (some ⟨g1,0,none⟩) 1 A] w λe w'=>∃V,e = .returned V/\Eb C I Γ [.arr z 3 1 l,.arr false 3 1 [[SV.int .i64 d]]] w Φ (.fl 0) [.arr z 3 1 (Mm l l.length d),.arr false 3 1 [[SV.int .i64 d]]] s V w':=by
   intro base c f a1 a2 a3 a4 a5 a6;refine(Any2.slices_Insert_int_end_grow Tryz.lays2_21 base l.length c g1 0 1 A f [.int .i64 d] w (by omega) a1 a2 (by omega) a3 rfl a4 a5 t M).mono ?_;rintro e w' ⟨rfl,rfl⟩;refine⟨_,rfl,?_⟩;obtain⟨T,b7⟩:=Iw (w:=w) (need:=l.length+1) (cap:=c) (e:=3) (by omega);have hE:=KY (n:=d) a6 (w9 l.length);have d8:f.take l.length++j5 .i64 d::f.drop l.length=f++[j5 .i64 d]:=by
    rw[ad7 (by omega),p5 (by omega)]
   rw[d8] at hE;have r:=KZ l l.length d (w9 _);obtain⟨r1,r2⟩:=BN (olds:=f) (Vs:=[j5 .i64 d]) (z:=(j5 .i64 0).cells) (k:=grownCap w (l.length+1) c 3) (n:=l.length) (m:=1) (size:=1) rfl (by omega) rfl T;have c7:(f.toArray++[j5 .i64 d].toArray)=(f++[j5 .i64 d]).toArray:=by simp
   rw[c7] at r1 r2;have key:∀(row:Array Value) (O:Nat),row.size=O->(∀q,q<(f++[j5 .i64 d]).length->row[q]? = (f++[j5 .i64 d])[q]?)->l.length+1<=O->O<=maxLen->
     Eb C I Γ [.arr z 3 1 l,.arr false 3 1 [[SV.int .i64 d]]] w Φ (.fl 0) [.arr z 3 1 (Mm l l.length d),.arr false 3 1 [[SV.int .i64 d]]] s (.slice (some ⟨w.heap.size,0,none⟩) (l.length+1) O) (w.drew.alloc (.cells row 3)):=by
    intro row O b1 b2 b3 b4;have D:(w.drew.alloc (.cells row 3)).heap=w.heap.push (.cells row 3):=rfl;have:=NA (C:=C) (w':=w.drew.alloc (.cells row 3)) (l':=Mm l l.length d) hI w.heap.size O (f++[j5 .i64 d]) row c0 hH hi hd (.inr rfl) (by rw[D];simp) (λk N _=>I5 D N) (by rw[D];simp) rfl rfl rfl (I4 D) (hE.mono (λg hg=>I5 D (hH.stlt g hg)) (λ_ h=>h)) (XN _ _ _) b2 (by rw[b1,j0,j4];omega) (by rw[r];exact b3) b4 b1;rw[r] at this;exact this
   exact key _ _ (r1.trans (y7 _)) r2 T b7
  have f9:∀(row:Array Value) (f:List Value),f.length=l.length->i<l.length->l.length+1<=row.size->(∀q,q<i->row[q]? = f[q]?)->
    ∀q,q<(f.take i++j5 .i64 d::f.drop i).length->(G1 (G1 row.toList i [j5 .i64 d]) (i+1) (f.drop i)).toArray[q]? = (f.take i++j5 .i64 d::f.drop i)[q]?:=by
   intro row f a1 a2 a3 a4 q hq;have f3:q<l.length+1:=by
    rw[j0,j1,j6,c9] at hq;omega
   have ht:(f.take i).length=i:=by rw[j6];omega
   have Y:row.toList.length=row.size:=x5;simp only[z7];rw[N2 _ _ _ (by rw[D7,c9,Y];omega),N2 _ _ _ (by rw[j4,Y];omega)];by_cases h1:q<i
   ·rw[G3,G3,aa2 (by omega),x8 h1];simpa using a4 q h1
   ·by_cases h2:q=i
    ·subst h2;rw[G3,if_pos (by rw[j4];omega),p7 (by omega),ht,af9];rfl
    ·rw[if_pos (by rw[c9];omega),p7 (by omega),ht,show q-i=(q-(i+1))+1 by omega,aa8]
  have P:∀(g c:Nat) (f:List Value),i<l.length->l.length<=c->c<l.length+1->f.length=l.length->(∀j v,f[j]? = some v->w.cell? ⟨g,0+j,none⟩=some v)->(∀v∈f,v.oneCell'=true)->Els Γ.St w 1 l f->
    Calls a8 237 #[.slice (some ⟨g,0,none⟩) l.length c,.int .i64 (i:Int),.slice (some ⟨g1,0,none⟩) 1 A] w λe w'=>∃V,e = .returned V/\Eb C I Γ [.arr z 3 1 l,.arr false 3 1 [[SV.int .i64 d]]] w Φ (.fl 0) [.arr z 3 1 (Mm l i d),.arr false 3 1 [[SV.int .i64 d]]] s V w':=by
   intro g c f W a1 a2 a3 a4 a5 a6;refine(Any2.slices_Insert_int_grow Tryz.lays2_21 g 0 l.length c i g1 0 1 A f [.int .i64 d] w W (by omega) a1 a2 (by omega) a3 rfl a4 t a5 M).mono ?_;rintro e w' ⟨rfl,rfl⟩;refine⟨_,rfl,?_⟩;obtain⟨T,b7⟩:=Iw (w:=w) (need:=l.length+1) (cap:=c) (e:=3) (by omega);have hE:=KY (n:=d) a6 X;have r:=KZ l i d X;have key:∀(row:Array Value) (O:Nat),row.size=O->(∀q,q<i->row[q]? = f[q]?)->l.length+1<=O->O<=maxLen->
     Eb C I Γ [.arr z 3 1 l,.arr false 3 1 [[SV.int .i64 d]]] w Φ (.fl 0) [.arr z 3 1 (Mm l i d),.arr false 3 1 [[SV.int .i64 d]]] s (.slice (some ⟨w.heap.size,0,none⟩) (l.length+1) O) (((w.alloc (.cells row 3)).drew.setCells w.heap.size i [j5 .i64 d]).drew.setCells w.heap.size (i+1) (f.drop i)):=by
    intro row O b1 b2 b3 b4;have D:(w.alloc (.cells row 3)).drew.heap=w.heap.push (.cells row 3):=rfl;obtain⟨c1,c2,c3,c4,c5,c6⟩:=Ck (w:=(w.alloc (.cells row 3)).drew) (o:=i) (vs:=[j5 .i64 d]) (I4 D) (by rw[j4];omega) M;generalize f6:(w.alloc (.cells row 3)).drew.setCells w.heap.size i [j5 .i64 d]=w1 at *;have Q:(G1 row.toList i [j5 .i64 d]).toArray.size=O:=by rw[o8,D7];simpa using b1
    obtain⟨d1,d2,d3,d4,d5,d6⟩:=Ck (w:=w1.drew) (o:=i+1) (vs:=f.drop i) c1 (by rw[Q,c9];omega) (λv hv=>a5 v (w8 hv));have b0:∀k,k<w.heap.size->(w1.drew.setCells w.heap.size (i+1) (f.drop i)).heap[k]? = w.heap[k]?:=λk N=>by
     rw[d2 k (by omega)];exact(c2 k (by omega)).trans (I5 D N)
    have e7:(w1.drew.setCells w.heap.size (i+1) (f.drop i)).heap.size=w.heap.size+1:=by
     rw[d3];show w1.heap.size=_;rw[c3,D];simp
    have:=NA (C:=C) (w':=w1.drew.setCells w.heap.size (i+1) (f.drop i)) (l':=Mm l i d) hI w.heap.size O (f.take i++j5 .i64 d::f.drop i) _ c0 hH hi hd (.inr rfl) (by rw[e7];omega) (λk N _=>b0 k N) (by rw[e7];omega) (d4.trans c4) (d5.trans c5) (d6.trans c6) d1 (hE.mono (λg hg=>b0 g (hH.stlt g hg)) (λ_ h=>h)) (XN _ _ _) (f9 row f a3 W (by omega) b2) (by rw[o8,D7,j0,j1,j6,c9];simp only[o8,D7] at Q ⊢;omega) (by rw[r];exact b3) b4 (by rw[o8,D7];simpa using Q);rw[r] at this;exact this
   have f7:(j5 .i64 0).cells.size=1:=rfl;have ht:(f.take i).length=i:=by rw[j6];omega
   refine key _ _ ?_ (λq hq=>?_) T b7
   ·simp only[af4,o8,size_zeroCells,f7,y7,ht];have:l.length+1<=grownCap w (l.length+1) c 3:=T;show i+(l.length+1-i)+(grownCap w (l.length+1) c 3-(l.length+1))=grownCap w (l.length+1) c 3;omega
   ·rw[ac4 (by simp only[af4,o8,ht];omega),ac4 (by simp only[o8,ht];omega),z7,x8 hq]
  have e9:∀(row:Array Value) (f:List Value),f.length=l.length->i<l.length->l.length+1<=row.size->(∀q,q<i->row[q]? = f[q]?)->
    ∀q,q<(f.take i++j5 .i64 d::f.drop i).length->(G1 (G1 row.toList (i+1) (f.drop i)) i [j5 .i64 d]).toArray[q]? = (f.take i++j5 .i64 d::f.drop i)[q]?:=by
   intro row f a1 a2 a3 a4 q hq;have f3:q<l.length+1:=by
    rw[j0,j1,j6,c9] at hq;omega
   have ht:(f.take i).length=i:=by rw[j6];omega
   have Y:row.toList.length=row.size:=x5;simp only[z7];rw[N2 _ _ _ (by rw[D7,j4,Y];omega),N2 _ _ _ (by rw[c9,Y];omega)];by_cases h1:q<i
   ·rw[G3,G3,aa2 (by omega),x8 h1];simpa using a4 q h1
   ·by_cases h2:q=i
    ·subst h2;rw[if_pos (by rw[j4];omega),p7 (by omega),ht,af9];rfl
    ·rw[if_neg (by rw[j4];omega),if_pos (by rw[c9];omega),p7 (by omega),ht,show q-i=(q-(i+1))+1 by omega,aa8]
  cases hs with
  | flv _ e2 f8 h'=>
   simp only[A5,y5,aa6,Blk.shp,k9,Shp.arr.injEq] at h';obtain⟨q1,q2,q3,h4⟩:=h';obtain rfl:=aa9.1 h4;obtain rfl:i=0:=by simpa using X
   exact B none 0 [] (by simp) (by simp) rfl (λ_=>rfl) (λa h=>by cases h) ⟨rfl,λj x=>by simp at x⟩
  | fl _ g z' e2 f8 n' cap h' e8 y R hm e6=>
   simp only[A5,y5,aa6,Blk.shp,k9,Shp.arr.injEq] at h';obtain⟨rfl,rfl,rfl,rfl⟩:=h';have f2:¬(z=true/\l=[]):=by rintro⟨q1,q2⟩;exact e8 q1 (by rw[q2];rfl)
   obtain⟨g',p,e3,hh,c8,K,d9⟩:=hH.arr' (b:=0) rfl f2;obtain rfl:g=g':=by
    rw[y] at e3;exact j7 e3
   have d7:p.size=cap:=by
    have:=e6;simp only[ad9,hh,k9,ai7,true_and,y7] at this;exact this
   rw[y7] at c8;have hO:Els Γ.St w 1 l (p.toList.take l.length):=by
    refine⟨by rw[j6,x5 (xs:=p)];omega,λj x=>⟨K j x,λk N=>?_⟩⟩;obtain⟨U,e1,u⟩:=d9 j x k N;refine⟨U,?_,u⟩;have g0:k<1:=by rw[<-K j x];exact N
    rw[y8,T5];simpa using e1
   have F:(p.toList.take l.length).length=l.length:=by rw[j6,x5 (xs:=p)];omega
   have J:∀j v,(p.toList.take l.length)[j]? = some v->w.cell? ⟨g,0+j,none⟩=some v:=by
    intro j v x;have a7:j<l.length:=by
     have:=(ac8.1 x).1;omega
    rw[y8,if_pos a7] at x;simpa[ad0,hh] using x
   have b5:∀v∈p.toList.take l.length,v.oneCell'=true:=by
    intro v hv;obtain⟨j,x,rfl⟩:=List.getElem_of_mem hv;have a7:j<l.length:=by omega
    obtain⟨_,u⟩:=hO.2 j a7;obtain⟨U,e1,u2⟩:=u 0 (by rw[K j a7];exact Nat.one_pos);rw[y7,aj3,ad1 x] at e1;cases e1;exact u2.oneCell
   have r:=KZ l i d X;have hE:=KY (n:=d) hO X;have a0:∀j,j<cap->(w.cell? ⟨g,j,none⟩).isSome=true:=by
    intro j x;simp only[ad0,hh];rw[ac7 (by omega)];rfl
   have a9:∀j,w.frozen? ⟨g,j,none⟩=false:=λj=>by simp[ad3,hh]
   have e5:g1≠g:=λe=>by
    have:=hH.inj 1 0 g (by rw[<-e];exact n1) y;omega
   have e4:cap<=9223372036854775807:=by
    simp only[maxLen] at hm;omega
   by_cases L:l.length+1<=cap
   ·have key:∀(w':World) (row:List Value),w'.heap[g]? = some (.cells row.toArray 3 (0,0))->(∀k,k≠g->w'.heap[k]? = w.heap[k]?)->w'.heap.size=w.heap.size->w'.os=w.os->w'.tape=w.tape->w'.output=w.output->row.length=cap->
      (∀q,q<((p.toList.take l.length).take i++j5 .i64 d::(p.toList.take l.length).drop i).length->row.toArray[q]? = ((p.toList.take l.length).take i++j5 .i64 d::(p.toList.take l.length).drop i)[q]?)->
      Eb C I Γ [.arr z 3 1 l,.arr false 3 1 [[SV.int .i64 d]]] w Φ (.fl 0) [.arr z 3 1 (Mm l i d),.arr false 3 1 [[SV.int .i64 d]]] s (.slice (some ⟨g,0,none⟩) (l.length+1) cap) w':=by
     intro w' row k1 k2 k3 k4 k5 k6 k7 k8;have f0:¬ Γ.St g:=(hH.lt 0 g y).2.2;have:=NA (C:=C) (w':=w') (l':=Mm l i d) hI g cap ((p.toList.take l.length).take i++j5 .i64 d::(p.toList.take l.length).drop i) row.toArray c0 hH hi hd (.inl y) (by rw[k3];exact(hH.lt 0 g y).2.1) (λk N f1=>k2 k (λe=>f1 (e▸y))) (by omega) k4 k5 k6 k1
      (hE.mono (λk N=>k2 k (λe=>f0 (e▸N))) (λ_ h=>h)) (XN _ _ _) k8
      (by rw[o8,k7,j0,j1,j6,c9,F];omega) (by rw[r];exact L) hm (by rw[o8,k7])
     rw[r] at this;exact this
    by_cases b6:i=l.length
    ·subst b6;refine(Any2.slices_Insert_int_end_room Tryz.lays2_21 g 0 l.length cap g1 0 1 A [.int .i64 d] w (by omega) L e4 rfl (λj x=>a0 _ (by omega)) (λj x=>a9 _) t M).mono ?_;rintro e w' ⟨rfl,rfl⟩;refine⟨_,rfl,?_⟩;obtain⟨c1,c2,c3,c4,c5,c6⟩:=Ck (w:=w) (o:=0+l.length) (vs:=[j5 .i64 d]) hh (by rw[j4];omega) M;refine key _ _ c1 c2 c3 c4 c5 c6 (by rw[D7];simpa using d7) (λq hq=>?_);rw[ad7 (by omega),p5 (by omega)] at hq ⊢;rw[j0,F,j4] at hq;simp only[z7];rw[N2 _ _ _ (by rw[j4,x5 (xs:=p)];omega)];by_cases f4:q<l.length
     ·rw[G3,aa2 (by omega),y8,if_pos f4]
     ·obtain rfl:q=l.length:=by omega
      rw[if_pos (by rw[j4];omega),p7 (by omega),F];simp
    ·have W:i<l.length:=by omega
     refine(Any2.slices_Insert_int_shift Tryz.lays2_21 g 0 l.length cap i g1 0 1 A (p.toList.take l.length) [.int .i64 d] w W (by omega) L e4 e5 F rfl J (λj x=>a0 _ (by omega)) (λj x=>a9 _) t b5 M 3 3 d0.size p.size (by simp[ad9,n2]) (by simp[ad9,hh]) (by omega) (by simp[ad3,n2]) (by simp[ad3,n2])).mono ?_;rintro e w' ⟨rfl,rfl⟩;refine⟨_,rfl,?_⟩;obtain⟨c1,c2,c3,c4,c5,c6⟩:=Ck (w:=w.drew) (o:=0+(i+1)) (vs:=(p.toList.take l.length).drop i) hh (by rw[c9,F];omega) (λv hv=>b5 v (w8 hv));generalize f6:w.drew.setCells g (0+(i+1)) ((p.toList.take l.length).drop i)=w1 at *;have Q:(G1 p.toList (0+(i+1)) ((p.toList.take l.length).drop i)).toArray.size=cap:=by rw[o8,D7];simpa using d7
     obtain⟨d1,d2,d3,d4,d5,d6⟩:=Ck (w:=w1) (o:=0+i) (vs:=[j5 .i64 d]) c1 (by rw[Q,j4];omega) M;refine key _ _ d1 (λk N=>(d2 k N).trans (c2 k N)) (d3.trans c3) (d4.trans c4) (d5.trans c5) (d6.trans c6) (by rw[D7];simpa using Q) ?_;rw[ad8,ad8];exact e9 p _ F W (by omega) (λq hq=>by rw[y8,T5];simp)
   ·by_cases b6:i=l.length
    ·subst b6;exact B (some ⟨g,0,none⟩) cap (p.toList.take l.length) R (by omega) F (λh=>by cases h) (λa h j v x=>by
      obtain rfl:=j7 h;rw[M7];exact J j v x) hO
    ·exact P g cap _ (by omega) R (by omega) F J b5 hO
 ·cases G
end
section
open Go Go.Proofs
set_option maxRecDepth 100000
section
theorem Dp1:DG a8 GX 212 FI:=by
 refine Fy (C₀:=VT LF) (Vt (lx:=[(215,Ou),(213,Ov)]) (ly:=[(236,SM),(237,UV)]) (ls:=[]) rfl rfl rfl ⟨Au3,Au4,trivial⟩ ⟨D00,D02,trivial⟩ trivial) (I9 rfl (by kernel_rfl)) follows ?_;intro args H ret o h;unfold FI at h;split at h
 ·rename_i a n i b c z l;obtain⟨d,h⟩:=C1 h;obtain⟨f,h⟩:=C1 h;obtain⟨g,h⟩:=C1 h;obtain⟨j,h⟩:=C1 h;obtain⟨k,h⟩:=C1 h;obtain⟨rfl,rfl⟩:=J3 h;refine⟨rfl,rfl,λZ m s=>?_⟩;have e:=(Cl6 LF m s 0 a n i b c z l).trans (A25 a n i b c z l d f g j k);exact⟨1,_,e,rfl⟩
 ·cases h
theorem Dx8:B3 a8 GX 180 Cg9:=by
 refine B3.fix (pf:=TS) _ (J2 [1,0] (C₀:=Aa LF) (Vt (lx:=[(98,FJ)]) (ly:=[(212,FI)]) (ls:=[]) rfl rfl rfl ⟨By4,trivial⟩ ⟨Dp1,trivial⟩ trivial) (I9 rfl (by kernel_rfl)) follows ?_);intro args ret c h;unfold TS at h;split at h
 ·rename_i s;obtain⟨a,h⟩:=C1 h;obtain⟨rfl,rfl⟩:=J3 h;obtain⟨r,H,e,b⟩:=Dd6 s a;exact⟨rfl,rfl,rfl,1,r,H,(Dd5 LF noY () 0 s).trans e,b⟩
 ·cases h
end
end
section
open Go Go.Proofs Go.Sort
set_option maxRecDepth 100000
theorem C47:B3 a8 GX 222 Ad2:=by
 refine B3.fix (pf:=AN) _ (G9 (fn:=Tryz.f222) (by kernel_rfl) (by kernel_rfl) (by kernel_rfl) ?_);intro args ret l h;unfold AN at h;split at h
 ·rename_i s;obtain⟨b,h⟩:=C1 h;obtain⟨rfl,rfl⟩:=J3 h;refine⟨rfl,rfl,λC n a o w m c g f=>?_⟩;obtain⟨U,rfl,j⟩:=f.arr1;obtain⟨k,rfl,rfl⟩:=j.inv_str;have i:=K7 b;refine(Any.utf8_ValidString Tryz.lays196 k w (by simp at i;omega) (C91 c a)).mono ?_;rintro e w' ⟨rfl,d⟩;rw[<-Bm3];exact⟨_,rfl,d,VP.mk_bool _⟩
 ·cases h
theorem C44:B3 a8 GX 223 Ad0:=by
 refine B3.fix (pf:=AL) _ (G9 (fn:=Tryz.f223) (by kernel_rfl) (by kernel_rfl) (by kernel_rfl) ?_);intro args ret j h;unfold AL at h;split at h
 ·rename_i s;obtain⟨a,h⟩:=C1 h;obtain⟨rfl,rfl⟩:=J3 h;refine⟨rfl,rfl,λC m b n w k l d c=>?_⟩;obtain⟨U,rfl,g⟩:=c.arr1;obtain⟨i,rfl,rfl⟩:=g.inv_str;have f:=K7 a;refine(Any.utf8_RuneCountInString Tryz.lays195 i w (by simp at f;omega)).mono ?_;rintro e w' ⟨rfl,pos,rfl⟩;rw[Lib.runeCountL_eq];exact⟨_,rfl,Ay6 _ _ _,VP.mk_int _ _⟩
 ·cases h
theorem Dl3:B3 a8 GX 178 Vv:=λargs ret a h=>by
 have:L9 (Vv args)=none:=by unfold Vv Ac0;split<;>rfl
 rw[this] at h;cases h
theorem Dp2:Bn5 a8 GX 177 FL:=by
 refine Ar0 (C₀:=Ar LF) ((M5.ok (l:=[(178,Vv),(179,IP)]) rfl ⟨Dl3,Bn1,trivial⟩)) (I9 rfl (by kernel_rfl)) follows ?_;intro args H L h Z a s d c;unfold FL at h;split at h
 ·rename_i p t n;simp only[k9,ai7] at h;obtain⟨b,rfl⟩:=h;obtain⟨e,f⟩:=Bj9 (R:=PV × List Blk × Z) a p t n s d b c;exact⟨1,_,(Cx7 LF a 0 p t n s).trans (f _)⟩
 ·cases h
end
section
open Go Go.Proofs
set_option maxRecDepth 100000
section
theorem Dm1:B3 a8 GX 141 Bo0:=xf [] (Lx LF) HE rfl ⟨Dx8,C30,trivial⟩ rfl (by kernel_rfl) follows λargs=>by
 unfold HE;split
 ·rename_i s;exact λa=>⟨rfl,rfl,rfl,_,_,(Co4 LF noY () 0 s).trans (A64 s a),rfl⟩
 ·trivial
theorem C27:B3 a8 GX 104 TN:=xf [] (Tx LF) TO rfl ⟨C17,Dm1,trivial⟩ rfl (by kernel_rfl) follows λargs=>by
 unfold TO;split
 ·rename_i s;exact λa=>⟨rfl,rfl,rfl,_,_,(Dc5 LF noY () 0 s).trans (B46 s a),rfl⟩
 ·trivial
theorem Dx7:B3 a8 GX 201 Cg7:=xf [0,0] (Pk LF) TF rfl ⟨C47,C44,C25,C30,C27,trivial⟩ rfl (by kernel_rfl) follows λargs=>by
 unfold TF;split
 ·rename_i s;exact λa=>(let⟨r,H,e,q⟩:=Db4 s a;⟨rfl,rfl,rfl,r,H,(Db3 LF noY () 0 s).trans e,q⟩)
 ·trivial
theorem Dx5:B3 a8 GX 220 Cg4:=xf [] (Jo LF) SU rfl trivial rfl (by kernel_rfl) follows λargs=>by
 unfold SU;split
 ·rename_i b;exact λa=>⟨rfl,rfl,rfl,_,_,(C99 LF noY () 0 b).trans (B17 b a),rfl⟩
 ·trivial
theorem Dx4:B3 a8 GX 198 Cg3:=xf [0,0] (Tv LF) ST rfl ⟨Dx5,trivial⟩ rfl (by kernel_rfl) follows λargs=>by
 unfold ST;split
 ·rename_i s;exact λa=>(let⟨r,H,e,q⟩:=C97 s a;⟨rfl,rfl,rfl,r,H,(C96 LF noY () 0 s).trans e,q⟩)
 ·trivial
theorem Dl6:B3 a8 GX 197 Bn7:=xf [0,0] (VU LF) GU rfl ⟨D36,trivial⟩ rfl (by kernel_rfl) follows λargs=>by
 unfold GU;split
 ·rename_i s;exact λa=>λb=>(let⟨r,H,e,q⟩:=Cm9 s a b;⟨rfl,rfl,rfl,r,H,(Cm8 LF noY () 0 s).trans e,q⟩)
 ·trivial
theorem C21:B3 a8 GX 164 Ac3:=xf [0,0] (Gq LF) Zs rfl ⟨Ab1,Dl6,Dx4,Do9,SC,Dy0,Cf3,Dx7,Bz0,trivial⟩ rfl (by kernel_rfl) follows λargs=>by
 unfold Zs;split
 ·rename_i s;exact λa=>(let⟨r,H,e,q⟩:=B21 s a;⟨rfl,rfl,rfl,r,H,(B20 LF noY () 0 s).trans e,q⟩)
 ·trivial
theorem Dm3:B3 a8 GX 140 TL:=by
 refine B3.fix (pf:=HG) _ (Cm (C₀:=WA LF) (M5.ok (l:=[]) rfl trivial) (I9 rfl (by kernel_rfl)) follows ?_);intro args ret a h;unfold HG at h;split at h
 ·rename_i t p n;obtain⟨rfl,rfl⟩:=J3 h;have e:=(Co8 LF noY () 0 t p n).trans (A65 t p n );exact⟨rfl,1,_,[],e,rfl,rfl⟩
 ·cases h
theorem Dz2:B3 a8 GX 103 Ax3:=by
 refine B3.fix (pf:=UX) _ (Cm (C₀:=A08 LF) (M5.ok (l:=[(140,TL)]) rfl ⟨Dm3,trivial⟩) (I9 rfl (by kernel_rfl)) follows ?_);intro args ret a h;unfold UX at h;split at h
 ·rename_i t p;obtain⟨rfl,rfl⟩:=J3 h;have e:=(Di7 LF noY () 0 t p).trans (Cb9 t p );exact⟨rfl,1,_,[],e,rfl,rfl⟩
 ·cases h
theorem Dr2:B3 a8 GX 65 Cg6:=by
 refine B3.fix (pf:=Av6) _ (J2 [] (C₀:=Pj LF) (Vt (lx:=[(102,Qs),(103,Ax3),(104,TN)]) (ly:=[]) (ls:=[(177,FL)]) rfl rfl rfl ⟨SC,Dz2,C27,trivial⟩ trivial ⟨Dp2,trivial⟩) (I9 rfl (by kernel_rfl)) follows ?_);intro args ret c h;unfold Av6 at h;split at h
 ·rename_i s;obtain⟨a,h⟩:=C1 h;obtain⟨rfl,rfl⟩:=J3 h;obtain⟨r,H,e,b⟩:=Dt3 s a;exact⟨rfl,rfl,rfl,1,r,H,(Dt2 LF noY () 0 s).trans e,b⟩
 ·cases h
theorem Bm9:B3 a8 GX 39 TA:=xf [] (A00 LF) TB rfl ⟨Dr2,trivial⟩ rfl (by kernel_rfl) follows λargs=>by
 unfold TB;split
 ·rename_i j k v4 a b c d f g h i;exact λl=>λm=>λn=>(let⟨r,H,e,q⟩:=Bt0 j k v4 a b c d f g h i l m n;⟨rfl,rfl,rfl,r,H,(Da7 LF noY () 0 j k v4 a b c d f g h i).trans e,q⟩)
 ·trivial
theorem C20:B3 a8 GX 122 Av5:=xf [] (Az7 LF) SX rfl ⟨Bm9,D32,D34,trivial⟩ rfl (by kernel_rfl) follows λargs=>by
 unfold SX;split
 ·rename_i j k v4 a b c d f g h i;exact λl=>λm=>λn=>(let⟨r,H,e,q⟩:=Bs9 j k v4 a b c d f g h i l m n;⟨rfl,rfl,rfl,r,H,(Da3 LF noY () 0 j k v4 a b c d f g h i).trans e,q⟩)
 ·trivial
theorem Dx3:B3 a8 GX 170 Cg2:=xf [] (Az5 LF) SQ rfl ⟨Dr2,Dx6,trivial⟩ rfl (by kernel_rfl) follows λargs=>by
 unfold SQ;split
 ·rename_i p s;exact λa=>λb=>⟨rfl,rfl,rfl,_,_,(C95 LF noY () 0 p s).trans (B15 p s a b),rfl⟩
 ·trivial
end
end
section
open Go
structure X2 where
 sch:By
 user:By
 host:B4
 port:Int
 rest:By
def Cq:X2:=⟨[],[],L0,0,[]⟩
def Cp:By:=[104,116,116,112]
def Ay:By:=[104,116,116,112,115]
def bWs:By:=[119,115]
def Tm:By:=[119,115,115]
def Q6(s:By):Int:=if s==Cp||s==bWs then 80 else if s==Ay||s==Tm then 443 else -1
def J1(s:By):Bool:=s==Cp||s==bWs||(s==Ay||s==Tm)
def M9(s:By):Bool:=s==Cp||s==bWs
def ctl(b:UInt8):Bool:=x6 b.toNat 32||b==127
def P7(b:UInt8):Bool:=(x6 97 b.toNat&&x6 b.toNat 122)||(x6 65 b.toNat&&x6 b.toNat 90)
def O5(b:UInt8):Bool:=P7 b||(x6 48 b.toNat&&x6 b.toNat 57)||b==43||b==45||b==46
def W9:By->Bool
 | []=>false
 | b::r=>P7 b&&r.all O5
def W6(b:UInt8):Bool:=b==47||b==63||b==35
def K4(s:By):Nat:=(s.takeWhile λb=>!W6 b).length
def Hh(c:UInt8):By->Option Nat
 | []=>none
 | b::r=>if b=c then some 0 else (Hh c r).map (· + 1)
def Jy:Int->By->Option Int
 | n,[]=>if n<65536 then some n else none
 | n,b::r=>if 48<=b.toNat/\b.toNat<=57 then Jy (min (10*max n 0+((b.toNat-48:Nat):Int)) 65536) r else none
def Kx(a:By):Option (By × By):=
 if a.head? = some 91 then (match Hh 93 a with
  | some k=>some (a.take (k+1),a.drop (k+1))
  | none=>none)
 else match Hh 58 a with
  | some k=>some (a.take k,a.drop k)
  | none=>some (a,[])
def U9(c user b:By)(a:By):X2 × Nat:=
 match Kx a with
 | none=>(Cq,4)
 | some (name,tail)=>
  if tail≠[]/\tail.head?≠some 58 then (Cq,4)
  else if (C9 name).2≠0 then (Cq,(C9 name).2)
  else match Jy (-1) (tail.drop 1) with
   | none=>(Cq,16)
   | some p=>(⟨c,user,(C9 name).1,if p=Q6 c then -1 else p,b⟩,0)
def H9(c b a:By):X2 × Nat:=
 if 0<=L6 64 a then U9 c (a.take (L6 64 a).toNat) b (a.drop ((L6 64 a).toNat+1)) else U9 c [] b a
def X1(r:By):By:=if r.head? = some 47 then r else 47::r
def C4(s:By):X2 × Nat:=
 if s.any ctl then (Cq,4)
 else if !(v8 s [58]).2.2||!W9 (v8 s [58]).1 then (Cq,15)
 else if !J1 (B9 (v8 s [58]).1) then (⟨B9 (v8 s [58]).1,[],L0,-1,(v8 s [58]).2.1⟩,0)
 else if !([47,47]:By).isPrefixOf (v8 s [58]).2.1 then (Cq,4)
 else H9 (B9 (v8 s [58]).1) (X1 (((v8 s [58]).2.1.drop 2).drop (K4 ((v8 s [58]).2.1.drop 2)))) (((v8 s [58]).2.1.drop 2).take (K4 ((v8 s [58]).2.1.drop 2)))
def W5(s:By):X2 × Nat:=if 2048<s.length then (Cq,3) else C4 s
def Ks(p:Int):By:=if p<0 then 45::af1 (-p).toNat else af1 p.toNat
def JF(u:X2):By:=(if u.user=[] then [] else u.user++[64])++(Bt u.host++(if u.port=-1 then [] else 58::Ks u.port))
def Y5(u:X2):By:=if J1 u.sch then u.sch++58::47::47::(JF u++u.rest) else u.sch++58::u.rest
def Ez(u:X2):By:=if u.port < -1 then (if J1 u.sch then u.sch++58::47::47::(((if u.user=[] then [] else u.user++[64])++(Bt u.host++[58,120]))++u.rest) else u.sch++58::u.rest) else Y5 u
def Dc9(b:Int)(c:By)(v4:Int)(a:List Nat):B4:=⟨if ltN b 4 then b.toNat else 4,c,v4.toNat,a⟩
def mkU(f g:By)(b:Int)(c:By)(v4:Int)(a:List Nat)(d:Int)(e:By):X2:=⟨f,g,Dc9 b c v4 a,d,e⟩
def smU(c d a b:By):Bool:=x6 c.length 100000000&&x6 d.length 100000000&&x6 a.length 100000000&&x6 b.length 100000000
def eqH(a b:B4):Bool:=a.kind==b.kind&&a.name==b.name&&a.v4==b.v4&&a.v6==b.v6
def eqU(a b:X2):Bool:=a.sch==b.sch&&a.user==b.user&&eqH a.host b.host&&a.port==b.port&&a.rest==b.rest
def O8(u:X2):Bool:=(C4 (Y5 u)).2==0&&eqU (C4 (Y5 u)).1 u
def CS(c d a b:By):Bool:=Bf 1500 [c,d,a,b]
def Im(u:X2):By:=if O8 u then Y5 u else []
def prt(b:By)(a:Int):Int:=if a==-1 then Q6 b else a
def upS(a:By):By:=if a==Cp then Ay else if a==bWs then Tm else a
def upP(b:By)(a:Int):Int:=if M9 b&&a==443 then -1 else a
def FF:By->Int
 | s=>let rec go:Int->By->Int
   | n,[]=>n
   | n,b::r=>if 48<=b.toNat/\b.toNat<=57 then go (min (10*max n 0+((b.toNat-48:Nat):Int)) 65536) r else 0
  go (-1) s
def Q9(s t:By):Nat:=(s.takeWhile λb=>!t.contains b).length
def Dp(s:By):By × By × Bool:=if (v8 s [58]).2.2&&W9 (v8 s [58]).1 then (B9 (v8 s [58]).1,(v8 s [58]).2.1,true) else ([],[],false)
def isl:By:=[47,63,35]
def BX(p:By):Bool:=p==isl
def NK(r:Int):Bool:=ltN r 55296||(ltI 57343 r&&ltN r 1114112)
def irn(r:Int):Int:=if r=47 then 0 else if r=63 then 1 else if r=35 then 2 else -1
def M8(n:Int):Bool:=ltN (n+9223372036854775808) 18446744073709551616
abbrev uS(p:X2 × Nat):By:=p.1.sch
abbrev uU(p:X2 × Nat):By:=p.1.user
abbrev uK(p:X2 × Nat):Int:=p.1.host.kind
abbrev uN(p:X2 × Nat):By:=p.1.host.name
abbrev uV(p:X2 × Nat):Int:=p.1.host.v4
abbrev uA(p:X2 × Nat)(i:Nat):Int:=(p.1.host.v6.getD i 0:Nat)
abbrev uP(p:X2 × Nat):Int:=p.1.port
abbrev uR(p:X2 × Nat):By:=p.1.rest
abbrev uE(p:X2 × Nat):Int:=p.2
theorem NT(s:By):decide (0<Q6 s)=J1 s:=by
 unfold Q6 J1;cases (s==Cp||s==bWs) with
 | true=>rfl
 | false=>cases (s==Ay||s==Tm)<;>rfl
theorem C52{s:By}(h:J1 s=true):s=Cp\/s=bWs\/s=Ay\/s=Tm:=by simp only[J1,aa5,beq_iff_eq] at h;rcases h with(h|h)|(h|h)<;>simp[h]
theorem B26{c:UInt8}:∀{s:By},c∉s->Hh c s=none
 | [],_=>rfl
 | b::r,h=>by
  simp only[w6,not_or] at h;rw[Hh,if_neg (ag0 h.1),B26 h.2];rfl
theorem Ah9{c:UInt8}:∀{p:By} (r:By),c∉p->Hh c (p++c::r)=some p.length
 | [],r,_=>by rw[ah6,Hh,if_pos rfl];rfl
 | b::p,r,h=>by
  simp only[w6,not_or] at h;rw[ag6,Hh,if_neg (ag0 h.1),Ah9 r h.2];rfl
theorem Rh{c:UInt8}:∀{s:By} {k:Nat},Hh c s=some k->∃p r,s=p++c::r/\c∉p/\p.length=k
 | [],k,h=>by cases h
 | b::s,k,h=>by
  rw[Hh] at h;split at h
  ·rename_i a;obtain rfl:=j7 h;exact⟨[],s,by rw[a];rfl,by simp,rfl⟩
  ·rename_i a;cases d:Hh c s with
   | none=>rw[d] at h;cases h
   | some j=>
    rw[d] at h;obtain rfl:=j7 h;obtain⟨p,r,rfl,e,rfl⟩:=Rh d;exact⟨b::p,r,rfl,by simp only[w6,not_or];exact⟨ag0 a,e⟩,rfl⟩
theorem Up{c:UInt8}:∀{s:By},c∉s->L6 c s=-1
 | [],_=>rfl
 | b::r,h=>by
  simp only[w6,not_or] at h;rw[L6,Up h.2,if_pos (by decide),if_neg (ag0 h.1)]
theorem CB{c:UInt8}:∀(p:By) {r:By},c∉r->L6 c (p++c::r)=(p.length:Int)
 | [],r,h=>by rw[ah6,L6,Up h,if_pos (by decide),if_pos rfl];rfl
 | b::p,r,h=>by
  rw[ag6,L6,CB p h,G3,j1];omega
theorem CC{c:UInt8}:∀{s:By},c∈s->∃p r,s=p++c::r/\c∉r
 | [],h=>by cases h
 | b::s,h=>by
  by_cases a:c∈s
  ·obtain⟨p,r,rfl,d⟩:=CC a;exact⟨b::p,r,rfl,d⟩
  ·simp only[w6,a,or_false] at h;subst h;exact⟨[],s,rfl,a⟩
theorem LE{c:UInt8}{s:By}(h:0<=L6 c s):∃p r,s=p++c::r/\c∉r/\L6 c s=(p.length:Int):=by
 by_cases b:c∈s
 ·obtain⟨p,r,rfl,a⟩:=CC b;exact⟨p,r,rfl,a,CB p a⟩
 ·rw[Up b] at h;omega
theorem Bj4(s:By):∀b∈s.take (K4 s),W6 b=false:=by
 intro b a;have h:s.take (K4 s)=s.takeWhile λb=>!W6 b:=by
  unfold K4;exact(List.prefix_iff_eq_take.1 (List.takeWhile_prefix _)).symm
 rw[h] at a;have:∀l:By,b∈l.takeWhile (λb=>!W6 b)->W6 b=false:=by
  intro l
  induction l with
  | nil=>intro h;cases h
  | cons x l d=>
   intro h;rw[ae9] at h;split at h
   ·rename_i c;rcases w6.1 h with rfl|h
    ·simpa using c
    ·exact d h
   ·cases h
 exact this s a
theorem U3{b:UInt8}:P7 b=true↔(97<=b.toNat/\b.toNat<=122)\/(65<=b.toNat/\b.toNat<=90):=by simp[P7,ac6]
theorem C72{b:UInt8}:ctl b=true↔b.toNat<=32\/b.toNat=127:=by
 unfold ctl;rw[aa5,ac6,beq_iff_eq];have:b=127↔b.toNat=127:=⟨λh=>by rw[h];rfl,λh=>ac2.1 h⟩
 rw[this]
theorem Ji{b:UInt8}:O5 b=true↔(97<=b.toNat/\b.toNat<=122)\/(65<=b.toNat/\b.toNat<=90)\/(48<=b.toNat/\b.toNat<=57)\/b=43\/b=45\/b=46:=by simp only[O5,aa5,U3,p4,ac6,beq_iff_eq,or_assoc]
abbrev clU(a b:By)(k:Int)(n:By)(v c d e f g h i j p:Int)(r:By):List PV:=[.s (.str a),.s (.str b),.s (.int .i64 k),.s (.str n),.s (.int .u32 v),.s (.int .u16 c),.s (.int .u16 d),.s (.int .u16 e),.s (.int .u16 f),.s (.int .u16 g),.s (.int .u16 h),.s (.int .u16 i),.s (.int .u16 j),.s (.int .i64 p),.s (.str r)]
abbrev clH(k:Int)(n:By)(v c d e f g h i j:Int):List PV:=[.s (.int .i64 k),.s (.str n),.s (.int .u32 v),.s (.int .u16 c),.s (.int .u16 d),.s (.int .u16 e),.s (.int .u16 f),.s (.int .u16 g),.s (.int .u16 h),.s (.int .u16 i),.s (.int .u16 j)]
abbrev bU(a b:By)(k:Int)(n:By)(v c d e f g h i j p:Int)(r:By):Blk:=.box (clU a b k n v c d e f g h i j p r)
abbrev gU(a b:By)(k:Int)(n:By)(v c d e f g h i j p:Int)(r:By):PV:=.agg (clU a b k n v c d e f g h i j p r)
abbrev bH(k:Int)(n:By)(v c d e f g h i j:Int):Blk:=.box (clH k n v c d e f g h i j)
abbrev gH(k:Int)(n:By)(v c d e f g h i j:Int):PV:=.agg (clH k n v c d e f g h i j)
abbrev bCx(a b c d z t:Bool)(l:LL):Blk:=.box [.s (.bool a),.s (.bool b),.s (.bool c),.s (.bool d),.s (.sl z t 1 l)]
abbrev gCx(a b c d z t:Bool)(l:LL):PV:=.agg [.s (.bool a),.s (.bool b),.s (.bool c),.s (.bool d),.s (.sl z t 1 l)]
abbrev bCv(a:Int)(s:By)(b:Bool):Blk:=.box [.s (.int .i64 a),.s (.str s),.s (.bool b)]
abbrev gCv(a:Int)(s:By)(b:Bool):PV:=.agg [.s (.int .i64 a),.s (.str s),.s (.bool b)]
abbrev bU0:Blk:=bU [] [] 0 [] 0 0 0 0 0 0 0 0 0 0 []
abbrev bQ(p:X2 × Nat):Blk:=bU (uS p) (uU p) (uK p) (uN p) (uV p) (uA p 0) (uA p 1) (uA p 2) (uA p 3) (uA p 4) (uA p 5) (uA p 6) (uA p 7) (uP p) (uR p)
end
section
open Go Go.Proofs
set_option maxRecDepth 100000
section
def IW:List PV->Tr
 | [.s (.str s)]=>.ret (.s (.int .i64 (Q6 s))) []
 | _=>.fail
def Wb(args:List PV):Tr:=IW (B8 [[0]] args)
def IX:List PV->Tr
 | [.s (.str s)]=>.ret (.s (.bool (J1 s))) []
 | _=>.fail
def FM(args:List PV):Tr:=IX (B8 [[0]] args)
def VA:List PV->Tr
 | [.agg [.s (.str a),.s (.str n),.s (.int .i64 j),.s (.str k),.s (.int .u32 v4),.s (.int .u16 b),.s (.int .u16 c),.s (.int .u16 d),.s (.int .u16 e),.s (.int .u16 f),.s (.int .u16 g),.s (.int .u16 h),.s (.int .u16 i),.s (.int .i64 l),.s (.str m)]]=>.ret (.s (.bool (M9 a))) []
 | _=>.fail
def Ax4(args:List PV):Tr:=VA (B8 [[0,0,0,0,0,0,0,0,0,0,0,0,0,0,0]] args)
def VD:List PV->Tr
 | [.s (.str s)]=>.need (A3 (b8 s)) (.ret (.s (.bool (W9 s))) [])
 | _=>.fail
def Ci5(args:List PV):Tr:=VD (B8 [[0]] args)
def VB:List PV->Tr
 | [.s (.str s)]=>.need (A3 (b8 s)) (.ret (.tup [.s (.int .i64 (FF s)),.s (.bool (ai6 (Jy ((-1):Int) s)))]) [])
 | _=>.fail
def Ci3(args:List PV):Tr:=VB (B8 [[0]] args)
def AM:List PV->Tr
 | [.agg [.s (.str c),.s (.str e),.s (.int .i64 n),.s (.str o),.s (.int .u32 v4),.s (.int .u16 f),.s (.int .u16 g),.s (.int .u16 h),.s (.int .u16 i),.s (.int .u16 j),.s (.int .u16 k),.s (.int .u16 l),.s (.int .u16 m),.s (.int .i64 d),.s (.str b)],.s (.str a)]=>.need (A3 (b8 c)) (.need (A3 (b8 b)) (.need (A3 (b8 a)) (.need (List.isEmpty e) (.need (d==((-1):Int)) (.ret (.tup [.agg [.s (.str (uS (H9 c b a))),.s (.str (uU (H9 c b a))),.s (.int .i64 (uK (H9 c b a))),.s (.str (uN (H9 c b a))),.s (.int .u32 (uV (H9 c b a))),.s (.int .u16 (uA (H9 c b a) 0)),.s (.int .u16 (uA (H9 c b a) 1)),.s (.int .u16 (uA (H9 c b a) 2)),.s (.int .u16 (uA (H9 c b a) 3)),.s (.int .u16 (uA (H9 c b a) 4)),.s (.int .u16 (uA (H9 c b a) 5)),.s (.int .u16 (uA (H9 c b a) 6)),.s (.int .u16 (uA (H9 c b a) 7)),.s (.int .i64 (uP (H9 c b a))),.s (.str (uR (H9 c b a)))],.s (.int .i64 (uE (H9 c b a)))]) [])))))
 | _=>.fail
def Ad1(args:List PV):Tr:=AM (B8 [[0,0,0,0,0,0,0,0,0,0,0,0,0,0,0],[0]] args)
def VC:List PV->Tr
 | [.s (.str s)]=>.need (A3 (b8 s)) (.ret (.tup [.agg [.s (.str (uS (C4 s))),.s (.str (uU (C4 s))),.s (.int .i64 (uK (C4 s))),.s (.str (uN (C4 s))),.s (.int .u32 (uV (C4 s))),.s (.int .u16 (uA (C4 s) 0)),.s (.int .u16 (uA (C4 s) 1)),.s (.int .u16 (uA (C4 s) 2)),.s (.int .u16 (uA (C4 s) 3)),.s (.int .u16 (uA (C4 s) 4)),.s (.int .u16 (uA (C4 s) 5)),.s (.int .u16 (uA (C4 s) 6)),.s (.int .u16 (uA (C4 s) 7)),.s (.int .i64 (uP (C4 s))),.s (.str (uR (C4 s)))],.s (.int .i64 (uE (C4 s)))]) [])
 | _=>.fail
def Ci4(args:List PV):Tr:=VC (B8 [[0]] args)
def IY:List PV->Tr
 | [.agg [.s (.str l),.s (.str m),.s (.int .i64 n),.s (.str i),.s (.int .u32 v4),.s (.int .u16 a),.s (.int .u16 b),.s (.int .u16 c),.s (.int .u16 d),.s (.int .u16 e),.s (.int .u16 f),.s (.int .u16 g),.s (.int .u16 h),.s (.int .i64 j),.s (.str k)]]=>.need (smU l m i k) (.need (ltN v4 4294967296) (.need (ok8 a b c d e f g h) (.need (M8 j) (.ret (.s (.str (Y5 (mkU l m n i v4 (n8 a b c d e f g h) j k)))) []))))
 | _=>.fail
def VE(args:List PV):Tr:=IY (B8 [[0,0,0,0,0,0,0,0,0,0,0,0,0,0,0]] args)
def Ti:List PV->Tr
 | [.agg [.s (.str l),.s (.str m),.s (.int .i64 n),.s (.str i),.s (.int .u32 v4),.s (.int .u16 a),.s (.int .u16 b),.s (.int .u16 c),.s (.int .u16 d),.s (.int .u16 e),.s (.int .u16 f),.s (.int .u16 g),.s (.int .u16 h),.s (.int .i64 j),.s (.str k)]]=>.need (smU l m i k) (.need (ltN v4 4294967296) (.need (ok8 a b c d e f g h) (.need (M8 j) (.ret (.s (.bool (O8 (mkU l m n i v4 (n8 a b c d e f g h) j k)))) []))))
 | _=>.fail
def Qw(args:List PV):Tr:=Ti (B8 [[0,0,0,0,0,0,0,0,0,0,0,0,0,0,0]] args)
def UZ:List PV->Tr
 | [.agg [.s (.str l),.s (.str m),.s (.int .i64 n),.s (.str i),.s (.int .u32 v4),.s (.int .u16 a),.s (.int .u16 b),.s (.int .u16 c),.s (.int .u16 d),.s (.int .u16 e),.s (.int .u16 f),.s (.int .u16 g),.s (.int .u16 h),.s (.int .i64 j),.s (.str k)]]=>.need (smU l m i k) (.need (ltN v4 4294967296) (.need (ok8 a b c d e f g h) (.need (M8 j) (.ret (.s (.str (Im (mkU l m n i v4 (n8 a b c d e f g h) j k)))) []))))
 | _=>.fail
def Ci2(args:List PV):Tr:=UZ (B8 [[0,0,0,0,0,0,0,0,0,0,0,0,0,0,0]] args)
def Ci7:List PV->Tr
 | [.agg [.s (.str a),.s (.str n),.s (.int .i64 j),.s (.str k),.s (.int .u32 v4),.s (.int .u16 b),.s (.int .u16 c),.s (.int .u16 d),.s (.int .u16 e),.s (.int .u16 f),.s (.int .u16 g),.s (.int .u16 h),.s (.int .u16 i),.s (.int .i64 l),.s (.str m)]]=>.ret (.agg [.s (.str (upS a)),.s (.str n),.s (.int .i64 j),.s (.str k),.s (.int .u32 v4),.s (.int .u16 b),.s (.int .u16 c),.s (.int .u16 d),.s (.int .u16 e),.s (.int .u16 f),.s (.int .u16 g),.s (.int .u16 h),.s (.int .u16 i),.s (.int .i64 (upP a l)),.s (.str m)]) []
 | _=>.fail
def Ci6(args:List PV):Tr:=Ci7 (B8 [[0,0,0,0,0,0,0,0,0,0,0,0,0,0,0]] args)
def AG:List PV->Tr
 | [.s (.str s)]=>.ret (.s (.bool (J1 s))) []
 | _=>.fail
def IM(args:List PV):Tr:=AG (B8 [[0]] args)
def IN:List PV->Tr
 | [.s (.str s)]=>.ret (.s (.int .i64 (Q6 s))) []
 | _=>.fail
def Bp9(args:List PV):Tr:=IN (B8 [[0]] args)
def II:List PV->Tr
 | [.s (.str s),.s (.str t)]=>.need (A3 (b8 s)) (.need (A3 (b8 t)) (.ret (.s (.int .i64 (↑(Q9 s t):Int))) []))
 | _=>.fail
def Bp7(args:List PV):Tr:=II (B8 [[0],[0]] args)
def IL:List PV->Tr
 | [.s (.str s)]=>.need (A3 (b8 s)) (.ret (.tup [.s (.str ((Dp s)).1),.s (.str (((Dp s)).2).1),.s (.bool (((Dp s)).2).2)]) [])
 | _=>.fail
def Bp8(args:List PV):Tr:=IL (B8 [[0]] args)
def IK:List PV->Tr
 | [.s (.str s)]=>.need (A3 (b8 s)) (.ret (.tup [.agg [.s (.str (uS (C4 s))),.s (.str (uU (C4 s))),.s (.int .i64 (uK (C4 s))),.s (.str (uN (C4 s))),.s (.int .u32 (uV (C4 s))),.s (.int .u16 (uA (C4 s) 0)),.s (.int .u16 (uA (C4 s) 1)),.s (.int .u16 (uA (C4 s) 2)),.s (.int .u16 (uA (C4 s) 3)),.s (.int .u16 (uA (C4 s) 4)),.s (.int .u16 (uA (C4 s) 5)),.s (.int .u16 (uA (C4 s) 6)),.s (.int .u16 (uA (C4 s) 7)),.s (.int .i64 (uP (C4 s))),.s (.str (uR (C4 s)))],.s (.int .i64 (uE (C4 s)))]) [])
 | _=>.fail
def UL(args:List PV):Tr:=IK (B8 [[0]] args)
def Tf:List PV->Tr
 | [.s (.str s)]=>.need (A3 (b8 s)) (.ret (.tup [.agg [.s (.str (uS (W5 s))),.s (.str (uU (W5 s))),.s (.int .i64 (uK (W5 s))),.s (.str (uN (W5 s))),.s (.int .u32 (uV (W5 s))),.s (.int .u16 (uA (W5 s) 0)),.s (.int .u16 (uA (W5 s) 1)),.s (.int .u16 (uA (W5 s) 2)),.s (.int .u16 (uA (W5 s) 3)),.s (.int .u16 (uA (W5 s) 4)),.s (.int .u16 (uA (W5 s) 5)),.s (.int .u16 (uA (W5 s) 6)),.s (.int .u16 (uA (W5 s) 7)),.s (.int .i64 (uP (W5 s))),.s (.str (uR (W5 s)))],.s (.int .i64 (uE (W5 s)))]) [])
 | _=>.fail
def AF(args:List PV):Tr:=Tf (B8 [[0]] args)
def AH:List PV->Tr
 | [.agg [.s (.str l),.s (.str m),.s (.int .i64 n),.s (.str i),.s (.int .u32 v4),.s (.int .u16 a),.s (.int .u16 b),.s (.int .u16 c),.s (.int .u16 d),.s (.int .u16 e),.s (.int .u16 f),.s (.int .u16 g),.s (.int .u16 h),.s (.int .i64 j),.s (.str k)]]=>.need (smU l m i k) (.need (ltN v4 4294967296) (.need (ok8 a b c d e f g h) (.need (M8 j) (.ret (.s (.str (Ez (mkU l m n i v4 (n8 a b c d e f g h) j k)))) []))))
 | _=>.fail
def IO(args:List PV):Tr:=AH (B8 [[0,0,0,0,0,0,0,0,0,0,0,0,0,0,0]] args)
def Ox:List PV->Tr
 | [.agg [.s (.str l),.s (.str m),.s (.int .i64 n),.s (.str i),.s (.int .u32 v4),.s (.int .u16 a),.s (.int .u16 b),.s (.int .u16 c),.s (.int .u16 d),.s (.int .u16 e),.s (.int .u16 f),.s (.int .u16 g),.s (.int .u16 h),.s (.int .i64 j),.s (.str k)]]=>.need (smU l m i k) (.need (ltN v4 4294967296) (.need (ok8 a b c d e f g h) (.need (M8 j) (.ret (.s (.bool (O8 (mkU l m n i v4 (n8 a b c d e f g h) j k)))) []))))
 | _=>.fail
def Lr(args:List PV):Tr:=Ox (B8 [[0,0,0,0,0,0,0,0,0,0,0,0,0,0,0]] args)
def IH:List PV->Tr
 | [.agg [.s (.str l),.s (.str m),.s (.int .i64 n),.s (.str i),.s (.int .u32 v4),.s (.int .u16 a),.s (.int .u16 b),.s (.int .u16 c),.s (.int .u16 d),.s (.int .u16 e),.s (.int .u16 f),.s (.int .u16 g),.s (.int .u16 h),.s (.int .i64 j),.s (.str k)]]=>.need (smU l m i k) (.need (ltN v4 4294967296) (.need (ok8 a b c d e f g h) (.need (M8 j) (.ret (.s (.str (Im (mkU l m n i v4 (n8 a b c d e f g h) j k)))) []))))
 | _=>.fail
def Bp6(args:List PV):Tr:=IH (B8 [[0,0,0,0,0,0,0,0,0,0,0,0,0,0,0]] args)
def IJ:List PV->Tr
 | [.agg [.s (.str a),.s (.str n),.s (.int .i64 j),.s (.str k),.s (.int .u32 v4),.s (.int .u16 b),.s (.int .u16 c),.s (.int .u16 d),.s (.int .u16 e),.s (.int .u16 f),.s (.int .u16 g),.s (.int .u16 h),.s (.int .u16 i),.s (.int .i64 l),.s (.str m)]]=>.ret (.s (.bool (M9 a))) []
 | _=>.fail
def UK(args:List PV):Tr:=IJ (B8 [[0,0,0,0,0,0,0,0,0,0,0,0,0,0,0]] args)
def Bq0:List PV->Tr
 | [.agg [.s (.str a),.s (.str n),.s (.int .i64 j),.s (.str k),.s (.int .u32 v4),.s (.int .u16 b),.s (.int .u16 c),.s (.int .u16 d),.s (.int .u16 e),.s (.int .u16 f),.s (.int .u16 g),.s (.int .u16 h),.s (.int .u16 i),.s (.int .i64 l),.s (.str m)]]=>.ret (.agg [.s (.str (upS a)),.s (.str n),.s (.int .i64 j),.s (.str k),.s (.int .u32 v4),.s (.int .u16 b),.s (.int .u16 c),.s (.int .u16 d),.s (.int .u16 e),.s (.int .u16 f),.s (.int .u16 g),.s (.int .u16 h),.s (.int .u16 i),.s (.int .i64 (upP a l)),.s (.str m)]) []
 | _=>.fail
def Ax0(args:List PV):Tr:=Bq0 (B8 [[0,0,0,0,0,0,0,0,0,0,0,0,0,0,0]] args)
def Ac1:List PV->Tr
 | [.s (.int .i64 n)]=>.need (ltN n 9223372036854775808) (.ret (.s (.str (af1 (Int.toNat n)))) [])
 | _=>.fail
def GR(args:List PV):Tr:=Ac1 (B8 [[0]] args)
def GZ:List PV->Tr
 | [.s (.int .i64 n)]=>.need (M8 n) (.ret (.s (.str (Ks n))) [])
 | _=>.fail
def Bn8(args:List PV):Tr:=GZ (B8 [[0]] args)
def IQ:List PV->Tr
 | [.s (.str s),.s (.int .u8 c)]=>.need (A3 (b8 s)) (.need (inR c 256) (.ret (.s (.int .i64 (j8 s (u8n c)))) []))
 | _=>.fail
def Vz(args:List PV):Tr:=IQ (B8 [[0],[0]] args)
def HH:List PV->Tr
 | [.s (.str s),.s (.str p)]=>.need (A3 (b8 s)) (.ret (.s (.str (Gz s p))) [])
 | _=>.fail
def Bo1(args:List PV):Tr:=HH (B8 [[0],[0]] args)
def UY:List PV->Tr
 | [.s (.str s),.s (.str p)]=>.need (A3 (b8 s)) (.ret (.s (.str (Gz s p))) [])
 | _=>.fail
def Ci0(args:List PV):Tr:=UY (B8 [[0],[0]] args)
def Ac7:List PV->Tr
 | [.s (.str s),.s (.str p)]=>.need (A3 (b8 s)) (.need (BX p) (.ret (.s (.int .i64 (aa1 s p))) []))
 | _=>.fail
def UU(args:List PV):Tr:=Ac7 (B8 [[0],[0]] args)
def Zv:List PV->Tr
 | [.agg [.s (.str c),.s (.str d),.s (.int .i64 m),.s (.str a),.s (.int .u32 v4),.s (.int .u16 e),.s (.int .u16 f),.s (.int .u16 g),.s (.int .u16 h),.s (.int .u16 i),.s (.int .u16 j),.s (.int .u16 k),.s (.int .u16 l),.s (.int .i64 n),.s (.str b)]]=>.ret (.s (.bool (CS c d a b))) []
 | _=>.fail
def HB(args:List PV):Tr:=Zv (B8 [[0,0,0,0,0,0,0,0,0,0,0,0,0,0,0]] args)
def FN:List PV->Tr
 | [.agg [.s (.str a),.s (.str n),.s (.int .i64 j),.s (.str k),.s (.int .u32 v4),.s (.int .u16 b),.s (.int .u16 c),.s (.int .u16 d),.s (.int .u16 e),.s (.int .u16 f),.s (.int .u16 g),.s (.int .u16 h),.s (.int .u16 i),.s (.int .i64 l),.s (.str m)]]=>.need (M9 a) (.ret (.agg [.s (.str (upS a)),.s (.str n),.s (.int .i64 j),.s (.str k),.s (.int .u32 v4),.s (.int .u16 b),.s (.int .u16 c),.s (.int .u16 d),.s (.int .u16 e),.s (.int .u16 f),.s (.int .u16 g),.s (.int .u16 h),.s (.int .u16 i),.s (.int .i64 (upP a l)),.s (.str m)]) [])
 | _=>.fail
def Ci8(args:List PV):Tr:=FN (B8 [[0,0,0,0,0,0,0,0,0,0,0,0,0,0,0]] args)
def FO:List PV->Tr
 | [.agg [.s (.str a),.s (.str n),.s (.int .i64 j),.s (.str k),.s (.int .u32 v4),.s (.int .u16 b),.s (.int .u16 c),.s (.int .u16 d),.s (.int .u16 e),.s (.int .u16 f),.s (.int .u16 g),.s (.int .u16 h),.s (.int .u16 i),.s (.int .i64 l),.s (.str m)]]=>.need (not (M9 a)) (.ret (.agg [.s (.str a),.s (.str n),.s (.int .i64 j),.s (.str k),.s (.int .u32 v4),.s (.int .u16 b),.s (.int .u16 c),.s (.int .u16 d),.s (.int .u16 e),.s (.int .u16 f),.s (.int .u16 g),.s (.int .u16 h),.s (.int .u16 i),.s (.int .i64 l),.s (.str m)]) [])
 | _=>.fail
def Ci9(args:List PV):Tr:=FO (B8 [[0,0,0,0,0,0,0,0,0,0,0,0,0,0,0]] args)
def Vx:List PV->Tr
 | [.agg [.s (.str a),.s (.str n),.s (.int .i64 j),.s (.str k),.s (.int .u32 v4),.s (.int .u16 b),.s (.int .u16 c),.s (.int .u16 d),.s (.int .u16 e),.s (.int .u16 f),.s (.int .u16 g),.s (.int .u16 h),.s (.int .u16 i),.s (.int .i64 l),.s (.str m)]]=>.need (M9 a) (.ret (.agg [.s (.str (upS a)),.s (.str n),.s (.int .i64 j),.s (.str k),.s (.int .u32 v4),.s (.int .u16 b),.s (.int .u16 c),.s (.int .u16 d),.s (.int .u16 e),.s (.int .u16 f),.s (.int .u16 g),.s (.int .u16 h),.s (.int .u16 i),.s (.int .i64 (upP a l)),.s (.str m)]) [])
 | _=>.fail
def Bq1(args:List PV):Tr:=Vx (B8 [[0,0,0,0,0,0,0,0,0,0,0,0,0,0,0]] args)
def Vy:List PV->Tr
 | [.agg [.s (.str a),.s (.str n),.s (.int .i64 j),.s (.str k),.s (.int .u32 v4),.s (.int .u16 b),.s (.int .u16 c),.s (.int .u16 d),.s (.int .u16 e),.s (.int .u16 f),.s (.int .u16 g),.s (.int .u16 h),.s (.int .u16 i),.s (.int .i64 l),.s (.str m)]]=>.need (not (M9 a)) (.ret (.agg [.s (.str a),.s (.str n),.s (.int .i64 j),.s (.str k),.s (.int .u32 v4),.s (.int .u16 b),.s (.int .u16 c),.s (.int .u16 d),.s (.int .u16 e),.s (.int .u16 f),.s (.int .u16 g),.s (.int .u16 h),.s (.int .u16 i),.s (.int .i64 l),.s (.str m)]) [])
 | _=>.fail
def Bq2(args:List PV):Tr:=Vy (B8 [[0,0,0,0,0,0,0,0,0,0,0,0,0,0,0]] args)
def Qu:List PV->Tr
 | [.s (.str s),.s (.str p)]=>.need (A3 (b8 s)) (.need (BX p) (.need (x6 9 (b8 s)) (.ret (.s (.int .i64 (aa1 s p))) [])))
 | _=>.fail
def Ac8(args:List PV):Tr:=Qu (B8 [[0],[0]] args)
def Qv:List PV->Tr
 | [.s (.str s),.s (.str p)]=>.need (BX p) (.need (x6 (b8 s) 8) (.ret (.s (.int .i64 (aa1 s p))) []))
 | _=>.fail
def Ac9(args:List PV):Tr:=Qv (B8 [[0],[0]] args)
def Tg:List PV->Tr
 | [.s (.int .i64 n)]=>.ret (.s (.bool (ltI (8:Int) n))) []
 | _=>.fail
def AJ(args:List PV):Tr:=Tg (B8 [[0]] args)
def AI:List PV->Tr
 | [.s (.str p),.s (.int .i32 r)]=>.need (BX p) (.need (ltN r 1114112) (.ret (.s (.int .i64 (irn r))) []))
 | _=>.fail
def IR(args:List PV):Tr:=AI (B8 [[0],[0]] args)
def OY:List PV->Tr
 | [.s (.str s)]=>.fail
 | _=>.fail
def Oy(args:List PV):Tr:=OY (B8 [[0]] args)
def AO:List PV->Tr
 | [.s (.int .i32 r)]=>.ret (.s (.bool (NK r))) []
 | _=>.fail
def IZ(args:List PV):Tr:=AO (B8 [[0]] args)
end
section
variable {Z R : Type} (L : Nat) (Q : F8) (Y : Yh Z) (s : Z) (k : Out -> St Z -> Option R)
noncomputable def WB(L:Nat):Cfg:=B5 L [203] (A2 []) [(163,TH)] (A2 [(3,[4]),(2,[4]),(1,[0,0,5]),(0,[0,0])]) [163] (A2 []) (some [4]) [] [] []
noncomputable def Bu1{R:Type}(L:Nat)(b a:By)(d:By->Option R):Option R:=cond (A3 b.length) (cond (x4 a b) (cond (I6 (a.length:Int) (b.length:Int) b.length) (vl (cut b (a.length:Int) (b.length:Int)) λc=>d c) none) (d b)) none
theorem Co9(d:Nat)(s0 prefix1):evC (WB L) (d+1) Z Y 203 [pS s0,pS prefix1] [] s=Bu1 L s0 prefix1 (λa=>some (pS a,[],s)):=by refine(evE (fn:=Tryz.f203) (by kernel_rfl)).trans ?_;generalize evC (WB L) d=Q;unfold Bu1;kernel_rfl
noncomputable def A09(L:Nat):Cfg:=B5 L [166] (A2 []) [(203,Bo1)] (A2 [(1,[4]),(0,[0,0])]) [203] (A2 []) (some [4]) [] [] []
noncomputable def Dj1{R:Type}(L:Nat)(b a:By)(c:By->Option R):Option R:=cond (A3 b.length) (c (Gz b a)) none
theorem Dj2(d:Nat)(s0 prefix1):evC (A09 L) (d+1) Z Y 166 [pS s0,pS prefix1] [] s=Dj1 L s0 prefix1 (λa=>some (pS a,[],s)):=by refine(evE (fn:=Tryz.f166) (by kernel_rfl)).trans ?_;generalize evC (A09 L) d=Q;unfold Dj1;kernel_rfl
noncomputable def WT(L:Nat):Cfg:=B5 L [124] (A2 []) [] (A2 [(8,[2]),(4,[2]),(7,[2]),(6,[7]),(5,[3,3]),(3,[3,0]),(2,[3,0]),(1,[3]),(0,[0])]) [] (A2 [(0,[])]) (some [2]) [] [] []
noncomputable def Bx8{R:Type}(L:Nat)(a:By)(b:Int->Option R):Option R:=cond (a==[104,116,116,112]) (cond (a==[104,116,116,112]) (b 80) (cond (a==[104,116,116,112,115]) (cond (a==[104,116,116,112,115]) (b 443) (b (-1))) (cond (a==[119,115,115]) (b 443) (b (-1))))) (cond (a==[119,115]) (b 80) (cond (a==[104,116,116,112,115]) (cond (a==[104,116,116,112,115]) (b 443) (b (-1))) (cond (a==[119,115,115]) (b 443) (b (-1)))))
theorem C00(d:Nat)(scheme0):evC (WT L) (d+1) Z Y 124 [pS scheme0] [] s=Bx8 L scheme0 (λa=>some (pI a,[],s)):=by refine(evE (fn:=Tryz.f124) (by kernel_rfl)).trans ?_;generalize evC (WT L) d=Q;unfold Bx8;kernel_rfl
noncomputable def WU(L:Nat):Cfg:=B5 L [117] (A2 []) [(124,Wb)] (A2 [(1,[2]),(0,[0])]) [124] (A2 []) (some [2]) [] [] []
noncomputable def Bx9{R:Type}(L:Nat)(a:By)(b:Bool->Option R):Option R:=b (ltI 0 (Q6 a))
theorem C04(d:Nat)(scheme0):evC (WU L) (d+1) Z Y 117 [pS scheme0] [] s=Bx9 L scheme0 (λa=>some (pB a,[],s)):=by refine(evE (fn:=Tryz.f117) (by kernel_rfl)).trans ?_;generalize evC (WU L) d=Q;unfold Bx9;kernel_rfl
noncomputable def A11(L:Nat):Cfg:=B5 L [84] (A2 []) [(124,Wb)] (A2 [(1,[2]),(0,[1])]) [124] (A2 []) (some [2]) [] [] []
noncomputable def Dv3{R:Type}(L:Nat)(f h:By)(i:Int)(j:By)(l m n o u8 p a b c d:Int)(e:By)(g:Bool->(List Blk)->Option R):Option R:=g ((Q6 f)==80) [(bU f h i j l m n o u8 p a b c d e)]
theorem Dj7(d:Nat)(u0 u1 u2 u3 u4 u5 u6 u7 u8 u9 u10 u11 u12 u13 u14):evC (A11 L) (d+1) Z Y 84 [(gU u0 u1 u2 u3 u4 u5 u6 u7 u8 u9 u10 u11 u12 u13 u14)] [] s=Dv3 L u0 u1 u2 u3 u4 u5 u6 u7 u8 u9 u10 u11 u12 u13 u14 (λb a=>some (pB b,a,s)):=by refine(evE (fn:=Tryz.f84) (by kernel_rfl)).trans ?_;generalize evC (A11 L) d=Q;unfold Dv3;kernel_rfl
noncomputable abbrev Pf:Code:=C3 ag8
noncomputable def Ad(L:Nat):Cfg:=B5 L [115] (A2 [(2,[0,1,4,0])]) [(157,Vz)] (A2 [(9,[2]),(8,[0,6,0]),(7,[2]),(6,[0,6,0,29]),(5,[0,2,0,0,1,0]),(4,[0,2,0,2,0]),(3,[0,2,3,0]),(2,[0,6,0,0]),(1,[0,6,0]),(0,[0])]) [157] (A2 [(0,[0]),(1,[0,6,0])]) (some [2]) [] [] []
noncomputable def GL{R:Type}(d:By)(a c:Int)(b:By->Int->Int->Option R):Option R:=b d c a
abbrev CZ(b:Code):Prop:=∀(k:Out->St Z->Option R) a i1 b2 n3,A9 (Ad L) Q Y b ⟨gp [(0,pS a),(2,pI i1),(0,p8 b2),(0,pB true),(1,pI n3),(0,pI i1)] 33,[],s⟩ k=GL a i1 n3 (λa c d=>k .normal ⟨gp [(0,pS a),(6,pI c),(0,pI d),(29,pB false)] 3,[],s⟩)
theorem Bl5:CZ (R:=R) L Q Y s (cd [1,0,1,0,0,1,1,0,0,1,1,1] Pf):=by intro k d b a c;unfold GL;kernel_rfl
noncomputable def Fw{R:Type}(h:By)(c d:Int)(a:Bool)(g:Int)(e:Unit->Option R)(f:By->Int->Int->Bool->Option R):Option R:=cond (not a) (cond (c==0) (e ()) (cond (inR d 256) (vl (j8 ([48,49,50,51,52,53,54,55,56,57,43,45,46]:List UInt8) (u8n d)) λb=>cond (ltI b 0) (e ()) (f h g c (ltI b 0))) none)) (f h g c false)
abbrev DA(b:Code):Prop:=∀(k:Out->St Z->Option R) a i1 b2 letter3 n4,A9 (Ad L) Q Y b ⟨gp [(0,pS a),(2,pI i1),(0,p8 b2),(0,pB letter3),(1,pI n4),(0,pI i1)] 33,[],s⟩ k=Fw a i1 b2 letter3 n4 (λ_=>k .ret ⟨gp [(2,pB false)] 39,[],s⟩) (λa d e c=>k .normal ⟨gp [(0,pS a),(6,pI d),(0,pI e),(29,pB c)] 3,[],s⟩)
theorem Bl6:DA (R:=R) L Q Y s (cd [1,0,1,0,0,1,1,0,0,1,1,1] Pf):=by intro k e c b a d;unfold Fw;kernel_rfl
noncomputable def N7{R:Type}(L n:Nat)(b:By)(e a:Int)(c:Unit->Option R)(d:By->Option R):Option R:=match n with|0=>none|n+1=>cond (ltI a e) (cond (inR a b.length) (cond (not (ltI (bAt b a) (97:Int))) (cond (not (ltI 122 (bAt b a))) (GL b a e (λx r t=>N7 L n x r (A1 (t+1)) c d)) (cond (not (ltI (bAt b a) (65:Int))) (Fw b a (bAt b a) (not (ltI 90 (bAt b a))) e (λ_=>c ()) (λy u v D=>N7 L n y u (A1 (v+1)) c d)) (Fw b a (bAt b a) false e (λ_=>c ()) (λz w f A=>vl (A1 (f+1)) λg=>N7 L n z w g c d)))) (cond (not (ltI (bAt b a) (65:Int))) (Fw b a (bAt b a) (not (ltI 90 (bAt b a))) e (λ_=>c ()) (λp h i B=>vl (A1 (i+1)) λj=>N7 L n p h j c d)) (Fw b a (bAt b a) false e (λ_=>c ()) (λq l m C=>vl (A1 (m+1)) λo=>N7 L n q l o c d)))) none) (d b)
theorem Bl7(a:Code)(d:CZ (R:=R) L Q Y s a)(b:DA (R:=R) L Q Y s a)(n:Nat)(c:By)(f e:Int):C7 0 ((Ad L).keep 2) (bd (Ad L) Q Y (cd [1,0,1,0,0] (G2 [1,0,1,0,0,1,1,0,0,1,1,1] a Pf))) n ⟨gp [(0,pS c),(6,pI f),(0,pI e)] 33,[],s⟩ k =
 N7 L n c f e (λ_=>k .ret ⟨gp [(2,pB false)] 39,[],s⟩) (λc=>k (.exit 0) ⟨gp [(0,pS c)] 41,[],s⟩):=by
 induction n generalizing c f e with
 | zero=>rfl
 | succ n h=>rw[N7];exact let g:=(E0 1 (D9 (Ad L) Q Y (cd [1,0,1,0,0,1,1,1] Pf) (lpK 0 ((Ad L).keep 2) (bd (Ad L) Q Y (cd [1,0,1,0,0] (G2 [1,0,1,0,0,1,1,0,0,1,1,1] a Pf))) n k)));(o0 (by kernel_rfl) (A0 (A0 (A0 (A0 ((d g c e (bAt c e) f).trans (congr rfl (fx3 λx r t=>(o0 (by kernel_rfl) (h x r (A1 (t+1))))))) (A0 ((b g c e (bAt c e) (not (ltI 90 (bAt c e))) f).trans (congr (congr rfl (by kernel_rfl)) (fx4 λy u v H=>(o0 (by kernel_rfl) (h y u (A1 (v+1))))))) ((b g c e (bAt c e) false f).trans (congr (congr rfl (by kernel_rfl)) (fx4 λz w D A=>(o0 (by kernel_rfl) (A4 λi=>(h z w i)))))))) (A0 ((b g c e (bAt c e) (not (ltI 90 (bAt c e))) f).trans (congr (congr rfl (by kernel_rfl)) (fx4 λp j F B=>(o0 (by kernel_rfl) (A4 λl=>(h p j l)))))) ((b g c e (bAt c e) false f).trans (congr (congr rfl (by kernel_rfl)) (fx4 λq m G C=>(o0 (by kernel_rfl) (A4 λo=>(h q m o)))))))) rfl) rfl))
noncomputable def C03{R:Type}(L:Nat)(c:By)(b:Bool->Option R):Option R:=N7 L L c (c.length:Int) 0 (λ_=>b false) (λa=>b (not (a==[])))
theorem Dk3(a:Code)(b:CZ (R:=PV × List Blk × Z) L Q Y s a)(c:DA (R:=PV × List Blk × Z) L Q Y s a)(d:By):A9 (Ad L) Q Y (cd [] (G2 [1,0,1,0,0,1,1,0,0,1,1,1] a Pf)) ⟨[pS d]++tps 41,[],s⟩ (F0 (Ad L) ag8)=C03 L d (λe=>some (pB e,[],s)):=by unfold C03;exact(o0 (by kernel_rfl) ((Bl7 L Q Y s (E0 0 (D9 (Ad L) Q Y (cd [1,1] Pf) (F0 (Ad L) ag8))) a b c L d (d.length:Int) 0).trans (by kernel_rfl)))
theorem Dk4(d:Nat)(s0):evC (Ad L) (d+1) Z Y 115 [pS s0] [] s=C03 L s0 (λa=>some (pB a,[],s)):=
 (evE (fn:=ag8) (by kernel_rfl)).trans (o0 (by kernel_rfl) (Dk3 L (evC (Ad L) d) Y s (cd [1,0,1,0,0,1,1,0,0,1,1,1] Pf) (Bl5 L (evC (Ad L) d) Y s) (Bl6 L (evC (Ad L) d) Y s) s0))
noncomputable abbrev Ck1:Code:=C3 ai8
noncomputable def Ug(L:Nat):Cfg:=B5 L [165] (A2 [(3,[0,1,0,0,2,0])]) [] (A2 [(9,[2,0]),(8,[0,3,2,0]),(7,[0,3,2,0]),(6,[2,0]),(5,[0,3,0,1,0,11]),(4,[0,3,0,1,0]),(3,[0,3,2,0,0]),(2,[0,3,2,0]),(1,[0,3]),(0,[0])]) [] (A2 [(0,[4]),(1,[0,3,2,0])]) (some [2,0]) [] [] []
noncomputable def Ns{R:Type}(L n:Nat)(b:By)(h j a:Int)(d:Unit->Option R)(i:Int->Option R):Option R:=match n with|0=>none|n+1=>cond (ltI a j) (cond (inR a b.length) (cond (ltI (bAt b a) (48:Int)) (d ()) (cond (inR a b.length) (cond (ltI 57 (bAt b a)) (d ()) (vl (A1 ((10:Int)*(if ((0:Int) > h) then (0:Int) else h))) λe=>cond (inR a b.length) (vl (wu8 ((bAt b a)-48)) λf=>vl (A1 (e+(A1 f))) λc=>vl (if ((65536:Int)<c) then (65536:Int) else c) λg=>Ns L n b g j (A1 (a+1)) d i) none)) none)) none) (i h)
theorem Bl0(n s0 n1 n2 n3):C7 0 ((Ug L).keep 3) (bd (Ug L) Q Y (cd [1,1,0,1,0,0] Ck1)) n ⟨gp [(0,pS s0),(3,pI n1),(2,pI n2),(0,pI n3)] 26,[],s⟩ k =
 Ns L n s0 n1 n2 n3 (λ_=>k .ret ⟨gp [(2,pI (0:Int)),(0,pB false)] 31,[],s⟩) (λn0=>k (.exit 0) ⟨gp [(4,pI n0)] 30,[],s⟩):=by
 induction n generalizing s0 n1 n2 n3 with
 | zero=>rfl
 | succ n a=>rw[Ns];simp only[<-a];kernel_rfl
noncomputable def Dj9{R:Type}(L:Nat)(c:By)(b:Int->Bool->Option R):Option R:=Ns L L c (-1) (c.length:Int) 0 (λ_=>b 0 false) (λa=>b a (ltI a 65536))
theorem Dk0(d:Nat)(s0):evC (Ug L) (d+1) Z Y 165 [pS s0] [] s=Dj9 L s0 (λa b=>some (.tup [pI a,pB b],[],s)):=by refine(evE (fn:=ai8) (by kernel_rfl)).trans ?_;generalize evC (Ug L) d=Q;unfold Dj9;exact(o0 (by kernel_rfl) ((Bl0 L Q Y s (E0 0 (D9 (Ug L) Q Y (cd [1,1,1] Ck1) (F0 (Ug L) ai8))) L s0 (-1) (s0.length:Int) 0).trans (by kernel_rfl)))
noncomputable abbrev Bx:Code:=C3 ah0
noncomputable def X8(L:Nat):Cfg:=B5 L [121] (A2 []) [(98,FJ),(120,GV),(157,Vz),(164,Ac3),(166,Ci0),(165,Ci3),(124,Wb)] (A2 [(24,[4,0]),(23,[2,1]),(22,[2,1,8,71]),(21,[2,1,8]),(20,[4,0]),(19,[2,1,6,1,63]),(18,[2,1,6,1,0]),(17,[4,0]),(16,[2,1,3,2,0,54]),(15,[2,1,3,2,0]),(14,[4,0]),(13,[2,1,2,0,50]),(9,[2,1,2,0]),(8,[4,0]),(7,[1,0,1,4,23]),(6,[1,0,1,4]),(12,[2,1,2,0]),(11,[1,0,1,2,0,1,35]),(10,[1,0,1,2,0,1]),(5,[1,0,1,2,0,20]),(4,[1,0,1,2,0]),(3,[1,0,1]),(2,[1,0,1,1,11]),(1,[1,0,1,1]),(0,[1,0,1])]) [98,120,157,166,165,124] (A2 []) (some [4,0]) [] [] []
noncomputable def V9{R:Type}(d e g h:By)(r:Int)(v:By)(t p u i j l m n o f:Int)(c:By)(q:Int->Blk->By->By->Int->By->Int->Int->Int->Int->Int->Int->Int->Int->Int->Int->By->(List Blk)->Option R):Option R:=cond (A3 d.length) (vl (C9 d) λa=>cond ((↑(a).2:Int)!=0) (q (↑(a).2:Int) (bU g h r v t p u i j l m n o f c) ([]:List UInt8) ([]:List UInt8) 0 ([]:List UInt8) 0 0 0 0 0 0 0 0 0 0 ([]:List UInt8) [(bH (↑(B4.kind (a).1):Int) (B4.name (a).1) (↑(B4.v4 (a).1):Int) (↑(b9 (B4.v6 (a).1) 0 0):Int) (↑(b9 (B4.v6 (a).1) 1 0):Int) (↑(b9 (B4.v6 (a).1) 2 0):Int) (↑(b9 (B4.v6 (a).1) 3 0):Int) (↑(b9 (B4.v6 (a).1) 4 0):Int) (↑(b9 (B4.v6 (a).1) 5 0):Int) (↑(b9 (B4.v6 (a).1) 6 0):Int) (↑(b9 (B4.v6 (a).1) 7 0):Int))]) (cond (A3 e.length) (vl (Gz e ([58]:List UInt8)) λb=>cond (A3 b.length) (cond (not (ai6 (Jy ((-1):Int) b))) (q 16 (bU g h r v t p u i j l m n o f c) ([]:List UInt8) ([]:List UInt8) 0 ([]:List UInt8) 0 0 0 0 0 0 0 0 0 0 ([]:List UInt8) [(bH (↑(B4.kind (a).1):Int) (B4.name (a).1) (↑(B4.v4 (a).1):Int) (↑(b9 (B4.v6 (a).1) 0 0):Int) (↑(b9 (B4.v6 (a).1) 1 0):Int) (↑(b9 (B4.v6 (a).1) 2 0):Int) (↑(b9 (B4.v6 (a).1) 3 0):Int) (↑(b9 (B4.v6 (a).1) 4 0):Int) (↑(b9 (B4.v6 (a).1) 5 0):Int) (↑(b9 (B4.v6 (a).1) 6 0):Int) (↑(b9 (B4.v6 (a).1) 7 0):Int))]) (cond ((FF b)!=(Q6 g)) (q 0 (bU g h (↑(B4.kind (a).1):Int) (B4.name (a).1) (↑(B4.v4 (a).1):Int) (↑(b9 (B4.v6 (a).1) 0 0):Int) (↑(b9 (B4.v6 (a).1) 1 0):Int) (↑(b9 (B4.v6 (a).1) 2 0):Int) (↑(b9 (B4.v6 (a).1) 3 0):Int) (↑(b9 (B4.v6 (a).1) 4 0):Int) (↑(b9 (B4.v6 (a).1) 5 0):Int) (↑(b9 (B4.v6 (a).1) 6 0):Int) (↑(b9 (B4.v6 (a).1) 7 0):Int) (FF b) c) g h (↑(B4.kind (a).1):Int) (B4.name (a).1) (↑(B4.v4 (a).1):Int) (↑(b9 (B4.v6 (a).1) 0 0):Int) (↑(b9 (B4.v6 (a).1) 1 0):Int) (↑(b9 (B4.v6 (a).1) 2 0):Int) (↑(b9 (B4.v6 (a).1) 3 0):Int) (↑(b9 (B4.v6 (a).1) 4 0):Int) (↑(b9 (B4.v6 (a).1) 5 0):Int) (↑(b9 (B4.v6 (a).1) 6 0):Int) (↑(b9 (B4.v6 (a).1) 7 0):Int) (FF b) c [(bH (↑(B4.kind (a).1):Int) (B4.name (a).1) (↑(B4.v4 (a).1):Int) (↑(b9 (B4.v6 (a).1) 0 0):Int) (↑(b9 (B4.v6 (a).1) 1 0):Int) (↑(b9 (B4.v6 (a).1) 2 0):Int) (↑(b9 (B4.v6 (a).1) 3 0):Int) (↑(b9 (B4.v6 (a).1) 4 0):Int) (↑(b9 (B4.v6 (a).1) 5 0):Int) (↑(b9 (B4.v6 (a).1) 6 0):Int) (↑(b9 (B4.v6 (a).1) 7 0):Int))]) (q 0 (bU g h (↑(B4.kind (a).1):Int) (B4.name (a).1) (↑(B4.v4 (a).1):Int) (↑(b9 (B4.v6 (a).1) 0 0):Int) (↑(b9 (B4.v6 (a).1) 1 0):Int) (↑(b9 (B4.v6 (a).1) 2 0):Int) (↑(b9 (B4.v6 (a).1) 3 0):Int) (↑(b9 (B4.v6 (a).1) 4 0):Int) (↑(b9 (B4.v6 (a).1) 5 0):Int) (↑(b9 (B4.v6 (a).1) 6 0):Int) (↑(b9 (B4.v6 (a).1) 7 0):Int) f c) g h (↑(B4.kind (a).1):Int) (B4.name (a).1) (↑(B4.v4 (a).1):Int) (↑(b9 (B4.v6 (a).1) 0 0):Int) (↑(b9 (B4.v6 (a).1) 1 0):Int) (↑(b9 (B4.v6 (a).1) 2 0):Int) (↑(b9 (B4.v6 (a).1) 3 0):Int) (↑(b9 (B4.v6 (a).1) 4 0):Int) (↑(b9 (B4.v6 (a).1) 5 0):Int) (↑(b9 (B4.v6 (a).1) 6 0):Int) (↑(b9 (B4.v6 (a).1) 7 0):Int) f c [(bH (↑(B4.kind (a).1):Int) (B4.name (a).1) (↑(B4.v4 (a).1):Int) (↑(b9 (B4.v6 (a).1) 0 0):Int) (↑(b9 (B4.v6 (a).1) 1 0):Int) (↑(b9 (B4.v6 (a).1) 2 0):Int) (↑(b9 (B4.v6 (a).1) 3 0):Int) (↑(b9 (B4.v6 (a).1) 4 0):Int) (↑(b9 (B4.v6 (a).1) 5 0):Int) (↑(b9 (B4.v6 (a).1) 6 0):Int) (↑(b9 (B4.v6 (a).1) 7 0):Int))]))) none) none)) none
abbrev Qj(b:Code):Prop:=∀(k:Out->St Z->Option R) name0 tail1 b2 l s4 n5 s6 i h j a c d e f g n16 s17,A9 (X8 L) Q Y b ⟨gp [(2,.ptr 0 0 0),(1,.ptr 1 0 0),(2,pS name0),(0,pS tail1),(50,pB b2)] 29,[(bU l s4 n5 s6 i h j a c d e f g n16 s17),bU0],s⟩ k=V9 name0 tail1 l s4 n5 s6 i h j a c d e f g n16 s17 (λn0 o r l p t q i h j a c d e f g n m=>k .ret ⟨gp [(4,.ptr 1 0 0),(0,pI n0)] 83,(o::(bU r l p t q i h j a c d e f g n)::m),s⟩)
theorem Zh:Qj (R:=R) L Q Y s (cd [1,1,1,1,1] Bx):=by intro k a b m q r n t o j p c d e f g h i l;unfold V9;kernel_rfl
noncomputable def Q3{R:Type}(b a s2 s3:By)(n4:Int)(s5:By)(n6 n7 i n9 c d e f g h:Int)(j:By)(k0:Int->Blk->By->By->Int->By->Int->Int->Int->Int->Int->Int->Int->Int->Int->Int->By->(List Blk)->Option R):Option R:=cond (not (a==[])) (cond (inR 0 a.length) (cond ((bAt a (0:Int))!=58) (k0 4 (bU s2 s3 n4 s5 n6 n7 i n9 c d e f g h j) ([]:List UInt8) ([]:List UInt8) 0 ([]:List UInt8) 0 0 0 0 0 0 0 0 0 0 ([]:List UInt8) []) (V9 b a s2 s3 n4 s5 n6 n7 i n9 c d e f g h j (λp l S T q U r t u v w x y z A B V n=>k0 p l S T q U r t u v w x y z A B V n))) none) (V9 b a s2 s3 n4 s5 n6 n7 i n9 c d e f g h j (λC m W X D a0 F G H I J K M N O P a1 o=>k0 C m W X D a0 F G H I J K M N O P a1 o))
abbrev Qk(b:Code):Prop:=∀(k:Out->St Z->Option R) name0 tail1 o p j q l m h n a c d e f g i,A9 (X8 L) Q Y b ⟨gp [(2,.ptr 0 0 0),(1,.ptr 1 0 0),(2,pS name0),(0,pS tail1)] 80,[(bU o p j q l m h n a c d e f g i),bU0],s⟩ k=Q3 name0 tail1 o p j q l m h n a c d e f g i (λn0 t o p j q l m h n a c d e f g i r=>k .ret ⟨gp [(4,.ptr 1 0 0),(0,pI n0)] 83,(t::(bU o p j q l m h n a c d e f g i)::r),s⟩)
theorem Aa3(b:Code)(a:Qj (R:=R) L Q Y s b):Qk (R:=R) L Q Y s (cd [1,1,1,1] (G2 [1,1,1,1,1] b Bx)):=by intro k d c r t n u o p l q e f g h i j m;unfold Q3;exact(o0 (by kernel_rfl) (A0 (A0 (A0 rfl ((a k d c ((bAt c (0:Int))!=58) r t n u o p l q e f g h i j m).trans (by kernel_rfl))) rfl) ((a k d c false r t n u o p l q e f g h i j m).trans (by kernel_rfl))))
theorem Aa4:Qk (R:=R) L Q Y s (cd [1,1,1,1] Bx):=by intro k a b p q l r m n i o c d e f g h j;exact o0 (by kernel_rfl) (Aa3 L Q Y s (cd [1,1,1,1,1] Bx) (Zh L Q Y s) k a b p q l r m n i o c d e f g h j)
noncomputable def Rz{R:Type}(a J K:By)(G:Int)(M:By)(H C I v w x y z A B:Int)(D:By)(F:Int->Blk->By->By->Int->By->Int->Int->Int->Int->Int->Int->Int->Int->Int->Int->By->(List Blk)->Option R):Option R:=V9 a ([]:List UInt8) J K G M H C I v w x y z A B D (λd b q r e t f g h i j l m n o p u c=>F d b q r e t f g h i j l m n o p u c)
abbrev Ql(b:Code):Prop:=∀(k:Out->St Z->Option R) authority0 kk1 b2 l s4 n5 s6 i h j a c d e f g n16 s17,A9 (X8 L) Q Y b ⟨gp [(1,pS authority0),(0,.ptr 0 0 0),(1,.ptr 1 0 0),(2,pS authority0),(0,pS ([]:List UInt8)),(1,pI kk1),(35,pB b2)] 42,[(bU l s4 n5 s6 i h j a c d e f g n16 s17),bU0],s⟩ k=Rz authority0 l s4 n5 s6 i h j a c d e f g n16 s17 (λn0 o r l p t q i h j a c d e f g n m=>k .ret ⟨gp [(4,.ptr 1 0 0),(0,pI n0)] 83,(o::(bU r l p t q i h j a c d e f g n)::m),s⟩)
theorem Aa5(c:Code)(a:Qj (R:=R) L Q Y s c):Ql (R:=R) L Q Y s (cd [1,1,1,1] (G2 [1,1,1,1,1] c Bx)):=by intro k b n v r t o u p l q d e f g h i j m;unfold Rz;exact(o0 (by kernel_rfl) ((a k b ([]:List UInt8) false r t o u p l q d e f g h i j m).trans (by kernel_rfl)))
theorem Aa6:Ql (R:=R) L Q Y s (cd [1,1,1,1] Bx):=by intro k a b m q r n t o j p c d e f g h i l;exact o0 (by kernel_rfl) (Aa5 L Q Y s (cd [1,1,1,1,1] Bx) (Zh L Q Y s) k a b m q r n t o j p c d e f g h i l)
noncomputable def Vo{R:Type}(L:Nat)(u0 u1:By)(u2:Int)(u3:By)(u4 u5 u6 u7 u8 u9 e f g h:Int)(i a:By)(k0:By->By->Int->By->Int->Int->Int->Int->Int->Int->Int->Int->Int->Int->By->Int->(List Blk)->Option R):Option R:=cond (A3 a.length) (vl (L6 (u8n (64:Int)) a) λc5=>cond (not (ltI c5 0)) (cond (I6 0 c5 a.length) (vl (cut a 0 c5) λe8=>cond (I6 (A1 (c5+1)) (a.length:Int) a.length) (vl (cut a (A1 (c5+1)) (a.length:Int)) λb=>cond (A3 b.length) (cond (x4 ([91]:List UInt8) b) (cond (A3 b.length) (vl (j8 b (u8n (93:Int))) λJ=>cond (ltI J 0) (k0 ([]:List UInt8) ([]:List UInt8) 0 ([]:List UInt8) 0 0 0 0 0 0 0 0 0 0 ([]:List UInt8) 4 [(bU u0 e8 u2 u3 u4 u5 u6 u7 u8 u9 e f g h i),bU0]) (vl (A1 (J+1)) λe9=>cond (I6 0 e9 b.length) (vl (A1 (J+1)) λf0=>cond (I6 f0 (b.length:Int) b.length) (vl (cut b f0 (b.length:Int)) λi6=>Q3 (cut b 0 e9) i6 u0 e8 u2 u3 u4 u5 u6 u7 u8 u9 e f g h i (λi5 i4 g4 g5 f3 g6 f4 f5 f6 f7 f8 f9 g0 g1 g2 g3 g7 h3=>k0 g4 g5 f3 g6 f4 f5 f6 f7 f8 f9 g0 g1 g2 g3 g7 i5 (i4::((bU g4 g5 f3 g6 f4 f5 f6 f7 f8 f9 g0 g1 g2 g3 g7)::h3)))) none) none)) none) (cond (A3 b.length) (vl (j8 b (u8n (58:Int))) λc=>cond (not (ltI c 0)) (cond (I6 0 c b.length) (cond (I6 c (b.length:Int) b.length) (vl (cut b c (b.length:Int)) λi7=>Q3 (cut b 0 c) i7 u0 e8 u2 u3 u4 u5 u6 u7 u8 u9 e f g h i (λh9 g8 c6 c7 j c8 l m n o p q r t u v d0 h4=>k0 c6 c7 j c8 l m n o p q r t u v d0 h9 (g8::((bU c6 c7 j c8 l m n o p q r t u v d0)::h4)))) none) none) (Rz b u0 e8 u2 u3 u4 u5 u6 u7 u8 u9 e f g h i (λi0 g9 d1 d2 w d3 x y z A B C D F G H d4 h5=>k0 d1 d2 w d3 x y z A B C D F G H d4 i0 (g9::((bU d1 d2 w d3 x y z A B C D F G H d4)::h5))))) none)) none) none) none) (cond (A3 a.length) (cond (x4 ([91]:List UInt8) a) (cond (A3 a.length) (vl (j8 a (u8n (93:Int))) λc4=>cond (ltI c4 0) (k0 ([]:List UInt8) ([]:List UInt8) 0 ([]:List UInt8) 0 0 0 0 0 0 0 0 0 0 ([]:List UInt8) 4 [(bU u0 u1 u2 u3 u4 u5 u6 u7 u8 u9 e f g h i),bU0]) (vl (A1 (c4+1)) λf1=>cond (I6 0 f1 a.length) (vl (cut a 0 f1) λi9=>vl (A1 (c4+1)) λf2=>cond (I6 f2 (a.length:Int) a.length) (vl (cut a f2 (a.length:Int)) λj3=>Q3 i9 j3 u0 u1 u2 u3 u4 u5 u6 u7 u8 u9 e f g h i (λi1 h0 d5 d6 I d7 K M N O P S T U V W d8 h6=>k0 d5 d6 I d7 K M N O P S T U V W d8 i1 (h0::((bU d5 d6 I d7 K M N O P S T U V W d8)::h6)))) none) none)) none) (cond (A3 a.length) (vl (j8 a (u8n (58:Int))) λd=>cond (not (ltI d 0)) (cond (I6 0 d a.length) (vl (cut a 0 d) λk1=>cond (I6 d (a.length:Int) a.length) (vl (cut a d (a.length:Int)) λk2=>Q3 k1 k2 u0 u1 u2 u3 u4 u5 u6 u7 u8 u9 e f g h i (λi2 h1 d9 e1 X e2 a0 a1 a2 a3 a4 a5 a6 a7 a9 b0 e3 h7=>k0 d9 e1 X e2 a0 a1 a2 a3 a4 a5 a6 a7 a9 b0 e3 i2 (h1::((bU d9 e1 X e2 a0 a1 a2 a3 a4 a5 a6 a7 a9 b0 e3)::h7)))) none) none) (Rz a u0 u1 u2 u3 u4 u5 u6 u7 u8 u9 e f g h i (λi3 h2 e4 e5 b1 e6 b2 b3 b4 b5 b6 b7 c0 c1 c2 c3 e7 h8=>k0 e4 e5 b1 e6 b2 b3 b4 b5 b6 b7 c0 c1 c2 c3 e7 i3 (h2::((bU e4 e5 b1 e6 b2 b3 b4 b5 b6 b7 c0 c1 c2 c3 e7)::h8))))) none)) none)) none
theorem Cd0(d:Code)(a:Qk (R:=PV × List Blk × Z) L Q Y s d)(c:Ql (R:=PV × List Blk × Z) L Q Y s d)(m G:By)(n:Int)(o:By)(p q r t u8 u e f g h:Int)(i b:By):A9 (X8 L) Q Y (cd [] (G2 [1,1,1,1] d Bx)) ⟨[(gU m G n o p q r t u8 u e f g h i),pS b]++tps 87,[],s⟩ (F0 (X8 L) ah0)=Vo L m G n o p q r t u8 u e f g h i b (λX r1 r2 r3 r4 r5 r6 r7 r8 r9 I J K M N O H=>some (.tup [(gU X r1 r2 r3 r4 r5 r6 r7 r8 r9 I J K M N),pI O],H,s)):=by unfold Vo;exact let x:=(F0 (X8 L) ah0);(o0 (by kernel_rfl) (A0 (A4 λW=>(A0 (A0 (A4 λv=>(A0 (A4 λw=>(A0 (A0 (A0 (A4 λP=>(A0 rfl (A4 λy=>(A0 (A4 λS=>(A0 (A4 λz=>((a x (cut w 0 y) z m v n o p q r t u8 u e f g h i).trans (by kernel_rfl))) rfl)) rfl)))) rfl) (A0 (A4 λj=>(A0 (A0 (A0 (A4 λA=>((a x (cut w 0 j) A m v n o p q r t u8 u e f g h i).trans (by kernel_rfl))) rfl) rfl) ((c x w j (not (ltI j 0)) m v n o p q r t u8 u e f g h i).trans (by kernel_rfl)))) rfl)) rfl)) rfl)) rfl) (A0 (A0 (A0 (A4 λT=>(A0 rfl (A4 λU=>(A0 (A4 λB=>(A4 λV=>(A0 (A4 λC=>((a x B C m G n o p q r t u8 u e f g h i).trans (by kernel_rfl))) rfl))) rfl)))) rfl) (A0 (A4 λl=>(A0 (A0 (A4 λD=>(A0 (A4 λF=>((a x D F m G n o p q r t u8 u e f g h i).trans (by kernel_rfl))) rfl)) rfl) ((c x b l (not (ltI l 0)) m G n o p q r t u8 u e f g h i).trans (by kernel_rfl)))) rfl)) rfl))) rfl))
theorem Cd1(d:Nat)(u0 u1 u2 u3 u4 u5 u6 u7 u8 u9 u10 u11 u12 u13 u14 authority15):evC (X8 L) (d+1) Z Y 121 [(gU u0 u1 u2 u3 u4 u5 u6 u7 u8 u9 u10 u11 u12 u13 u14),pS authority15] [] s=Vo L u0 u1 u2 u3 u4 u5 u6 u7 u8 u9 u10 u11 u12 u13 u14 authority15 (λi j l m n o p q r8 r b c e f g h a=>some (.tup [(gU i j l m n o p q r8 r b c e f g),pI h],a,s)):=
 (evE (fn:=ah0) (by kernel_rfl)).trans (o0 (by kernel_rfl) (Cd0 L (evC (X8 L) d) Y s (cd [1,1,1,1] Bx) (Aa4 L (evC (X8 L) d) Y s) (Aa6 L (evC (X8 L) d) Y s) u0 u1 u2 u3 u4 u5 u6 u7 u8 u9 u10 u11 u12 u13 u14 authority15))
noncomputable abbrev Ck2:Code:=C3 aj7
noncomputable def Uh(L:Nat):Cfg:=B5 L [82] (A2 [(2,[0,1,0,8,0])]) [(73,Ax2),(115,Ci5),(116,Av8),(117,FM),(118,Av2),(119,UU),(120,GV),(121,Ad1)] (A2 [(23,[2,0]),(22,[2,5,0]),(21,[2,5,0,65]),(20,[2,5,0]),(19,[2,3,1,0]),(18,[2,3,1,0,0,52]),(17,[2,3,1,0,0]),(16,[2,3,1,0]),(15,[2,0]),(14,[2,3,1,48]),(13,[2,3,0,0]),(12,[2,0]),(11,[2,3,1,40]),(10,[2,3,1]),(9,[2,0]),(8,[2,2,0,33]),(7,[2,2,0,0]),(6,[0,1,9,0]),(5,[2,0]),(4,[0,1,9,0,11]),(3,[0,1,1,7,0]),(2,[0,1,9,0,0]),(1,[0,1,9,0]),(0,[0,1])]) [73,115,116,117,118,119,120] (A2 [(0,[0,1]),(1,[0,1,9,0])]) (some [2,0]) [] [] []
noncomputable def Jn{R:Type}(L n:Nat)(b:By)(e a:Int)(c:(List Blk)->Option R)(d:By->Option R):Option R:=match n with|0=>none|n+1=>cond (ltI a e) (cond (inR a b.length) (cond (not (ltI 32 (bAt b a))) (c []) (cond (inR a b.length) (cond ((bAt b a)==127) (c []) (Jn L n b e (A1 (a+1)) c d)) none)) none) (d b)
theorem Bl4(n a n1 n2):C7 1 ((Uh L).keep 2) (bd (Uh L) Q Y (cd [1,0,1,0,0] Ck2)) n ⟨gp [(0,pS a),(1,.ptr 0 0 0),(9,pI n1),(0,pI n2)] 71,[bU0],s⟩ k =
 Jn L n a n1 n2 (λb=>k .ret ⟨gp [(2,.ptr 0 0 0),(0,pI (4:Int))] 81,(bU0::b),s⟩) (λa=>k (.exit 0) ⟨gp [(0,pS a),(1,.ptr 0 0 0)] 82,[bU0],s⟩):=by
 induction n generalizing a n1 n2 with
 | zero=>rfl
 | succ n c=>rw[Jn];simp only[<-c];kernel_rfl
noncomputable def OR{R:Type}(L:Nat)(q:By)(n:By->By->Int->By->Int->Int->Int->Int->Int->Int->Int->Int->Int->Int->By->Int->(List Blk)->Option R):Option R:=Jn L L q (q.length:Int) 0 (λp=>n ([]:List UInt8) ([]:List UInt8) 0 ([]:List UInt8) 0 0 0 0 0 0 0 0 0 0 ([]:List UInt8) 4 (bU0::p)) (λo=>cond (A3 o.length) (vl ((v8 o ([58]:List UInt8))).1 λf=>vl (((v8 o ([58]:List UInt8))).2).1 λj=>cond (not (((v8 o ([58]:List UInt8))).2).2) (n ([]:List UInt8) ([]:List UInt8) 0 ([]:List UInt8) 0 0 0 0 0 0 0 0 0 0 ([]:List UInt8) 15 [bU0]) (cond (A3 f.length) (cond (not (W9 f)) (n ([]:List UInt8) ([]:List UInt8) 0 ([]:List UInt8) 0 0 0 0 0 0 0 0 0 0 ([]:List UInt8) 15 [bU0]) (cond (A3 f.length) (cond (not (J1 (B9 f))) (n (B9 f) ([]:List UInt8) 0 ([]:List UInt8) 0 0 0 0 0 0 0 0 0 (-1) j 0 [(bU (B9 f) ([]:List UInt8) (0:Int) ([]:List UInt8) (0:Int) (0:Int) (0:Int) (0:Int) (0:Int) (0:Int) (0:Int) (0:Int) (0:Int) ((-1):Int) j),(bU (B9 f) ([]:List UInt8) (0:Int) ([]:List UInt8) (0:Int) (0:Int) (0:Int) (0:Int) (0:Int) (0:Int) (0:Int) (0:Int) (0:Int) ((-1):Int) j)]) (cond (A3 j.length) (vl (Gz j ([47,47]:List UInt8)) λe=>cond (not (x4 ([47,47]:List UInt8) j)) (n ([]:List UInt8) ([]:List UInt8) 0 ([]:List UInt8) 0 0 0 0 0 0 0 0 0 0 ([]:List UInt8) 4 [bU0,(bU (B9 f) ([]:List UInt8) (0:Int) ([]:List UInt8) (0:Int) (0:Int) (0:Int) (0:Int) (0:Int) (0:Int) (0:Int) (0:Int) (0:Int) ((-1):Int) j)]) (cond (A3 e.length) (cond (BX ([47,63,35]:List UInt8)) (vl (aa1 e ([47,63,35]:List UInt8)) λi=>cond (not (ltI i 0)) (cond (I6 0 i e.length) (cond (I6 (↑(b8 (cut e 0 i)):Int) (e.length:Int) e.length) (vl (cut e (↑(b8 (cut e 0 i)):Int) (e.length:Int)) λg=>cond (A3 g.length) (cond (not (x4 ([47]:List UInt8) g)) (cond (E7 1 g.length) (vl (([47]:List UInt8)++g) λl=>cond (A3 (b8 (B9 f))) (cond (A3 l.length) (cond (A3 (b8 (cut e 0 i))) (cond (((-1):Int)==((-1):Int)) (vl (H9 (B9 f) l (cut e 0 i)) λa=>n (uS a) (uU a) (uK a) (uN a) (uV a) (uA a 0) (uA a 1) (uA a 2) (uA a 3) (uA a 4) (uA a 5) (uA a 6) (uA a 7) (uP a) (uR a) (uE a) [(bQ a),(bU (B9 f) ([]:List UInt8) (0:Int) ([]:List UInt8) (0:Int) (0:Int) (0:Int) (0:Int) (0:Int) (0:Int) (0:Int) (0:Int) (0:Int) ((-1):Int) l)]) none) none) none) none) none) (cond (A3 (b8 (B9 f))) (cond (A3 g.length) (cond (A3 (b8 (cut e 0 i))) (cond (((-1):Int)==((-1):Int)) (vl (H9 (B9 f) g (cut e 0 i)) λb=>n (uS b) (uU b) (uK b) (uN b) (uV b) (uA b 0) (uA b 1) (uA b 2) (uA b 3) (uA b 4) (uA b 5) (uA b 6) (uA b 7) (uP b) (uR b) (uE b) [(bQ b),(bU (B9 f) ([]:List UInt8) (0:Int) ([]:List UInt8) (0:Int) (0:Int) (0:Int) (0:Int) (0:Int) (0:Int) (0:Int) (0:Int) (0:Int) ((-1):Int) g)]) none) none) none) none)) none) none) none) (cond (I6 (e.length:Int) (e.length:Int) e.length) (vl (cut e (e.length:Int) (e.length:Int)) λh=>cond (A3 h.length) (cond (not (x4 ([47]:List UInt8) h)) (cond (E7 1 h.length) (vl (([47]:List UInt8)++h) λm=>cond (A3 (b8 (B9 f))) (cond (A3 m.length) (cond (A3 e.length) (cond (((-1):Int)==((-1):Int)) (vl (H9 (B9 f) m e) λc=>n (uS c) (uU c) (uK c) (uN c) (uV c) (uA c 0) (uA c 1) (uA c 2) (uA c 3) (uA c 4) (uA c 5) (uA c 6) (uA c 7) (uP c) (uR c) (uE c) [(bQ c),(bU (B9 f) ([]:List UInt8) (0:Int) ([]:List UInt8) (0:Int) (0:Int) (0:Int) (0:Int) (0:Int) (0:Int) (0:Int) (0:Int) (0:Int) ((-1):Int) m)]) none) none) none) none) none) (cond (A3 (b8 (B9 f))) (cond (A3 h.length) (cond (A3 e.length) (cond (((-1):Int)==((-1):Int)) (vl (H9 (B9 f) h e) λd=>n (uS d) (uU d) (uK d) (uN d) (uV d) (uA d 0) (uA d 1) (uA d 2) (uA d 3) (uA d 4) (uA d 5) (uA d 6) (uA d 7) (uP d) (uR d) (uE d) [(bQ d),(bU (B9 f) ([]:List UInt8) (0:Int) ([]:List UInt8) (0:Int) (0:Int) (0:Int) (0:Int) (0:Int) (0:Int) (0:Int) (0:Int) (0:Int) ((-1):Int) h)]) none) none) none) none)) none) none)) none) none)) none)) none)) none)) none)
theorem Dk1(d:Nat)(s0):evC (Uh L) (d+1) Z Y 82 [pS s0] [] s=OR L s0 (λi j l m n o p q r8 r b c e f g h a=>some (.tup [(gU i j l m n o p q r8 r b c e f g),pI h],a,s)):=by refine(evE (fn:=aj7) (by kernel_rfl)).trans ?_;generalize evC (Uh L) d=Q;unfold OR;exact(o0 (by kernel_rfl) ((Bl4 L Q Y s (E0 0 (D9 (Uh L) Q Y (cd [1,1] Ck2) (F0 (Uh L) aj7))) L s0 (s0.length:Int) 0).trans (by kernel_rfl)))
noncomputable def WW(L:Nat):Cfg:=B5 L [83] (A2 []) [(117,FM),(122,Av5),(123,Bn8)] (A2 [(9,[2]),(8,[1,1]),(7,[1,1,28]),(6,[1,1]),(5,[1,1]),(4,[1,1,15]),(3,[1,1]),(2,[2]),(1,[1,5]),(0,[1])]) [117,122,123] (A2 []) (some [2]) [] [] []
noncomputable def Su{R:Type}(L:Nat)(l t:By)(u:Int)(m:By)(n o p q u8 r e f g b:Int)(a:By)(v:By->(List Blk)->Option R):Option R:=cond (not (J1 l)) (cond (E7 l.length 1) (vl (l++[58]) λw=>cond (E7 w.length a.length) (v (w++a) [(bU l t u m n o p q u8 r e f g b a)]) none) none) (cond (E7 l.length 3) (vl (l++[58,47,47]) λc=>cond (not (t==[])) (cond (E7 t.length 1) (vl (t++[64]) λh=>cond (E7 c.length h.length) (cond (A3 m.length) (cond (ltN n 4294967296) (cond (ok8 o p q u8 r e f g) (vl (Bt (mkH u m n (n8 o p q u8 r e f g))) λj=>cond (E7 (b8 (c++h)) j.length) (cond (b !=((-1):Int)) (cond (M8 b) (cond (E7 1 (b8 (Ks b))) (vl (([58]:List UInt8)++(Ks b)) λz=>cond (E7 (b8 ((c++h)++j)) z.length) (vl (((c++h)++j)++z) λA=>cond (E7 A.length a.length) (v (A++a) [(bU l t u m n o p q u8 r e f g b a)]) none) none) none) none) (cond (E7 (b8 ((c++h)++j)) a.length) (vl (((c++h)++j)++a) λx=>v x [(bU l t u m n o p q u8 r e f g b a)]) none)) none) none) none) none) none) none) (cond (A3 m.length) (cond (ltN n 4294967296) (cond (ok8 o p q u8 r e f g) (vl (Bt (mkH u m n (n8 o p q u8 r e f g))) λd=>cond (E7 c.length d.length) (cond (b !=((-1):Int)) (cond (M8 b) (cond (E7 1 (b8 (Ks b))) (vl (([58]:List UInt8)++(Ks b)) λi=>cond (E7 (b8 (c++d)) i.length) (cond (E7 (b8 ((c++d)++i)) a.length) (vl (((c++d)++i)++a) λy=>v y [(bU l t u m n o p q u8 r e f g b a)]) none) none) none) none) (cond (E7 (b8 (c++d)) a.length) (v ((c++d)++a) [(bU l t u m n o p q u8 r e f g b a)]) none)) none) none) none) none)) none)
theorem C05(d:Nat)(u0 u1 u2 u3 u4 u5 u6 u7 u8 u9 u10 u11 u12 u13 u14):evC (WW L) (d+1) Z Y 83 [(gU u0 u1 u2 u3 u4 u5 u6 u7 u8 u9 u10 u11 u12 u13 u14)] [] s=Su L u0 u1 u2 u3 u4 u5 u6 u7 u8 u9 u10 u11 u12 u13 u14 (λb a=>some (pS b,a,s)):=by refine(evE (fn:=Tryz.f83) (by kernel_rfl)).trans ?_;generalize evC (WW L) d=Q;unfold Su;kernel_rfl
noncomputable def BE(L:Nat):Cfg:=B5 L [51] (A2 []) [(83,VE),(82,Ci4)] (A2 [(2,[2]),(1,[1,1,0]),(0,[1])]) [83] (A2 []) (some [2]) [] [] []
noncomputable def GM{R:Type}(L:Nat)(h i:By)(q:Int)(j:By)(l m n o u8 p b c d e:Int)(f:By)(r:Bool->(List Blk)->Option R):Option R:=cond (smU h i j f) (cond (ltN l 4294967296) (cond (ok8 m n o u8 p b c d) (cond (M8 e) (vl (Y5 (mkU h i q j l (n8 m n o u8 p b c d) e f)) λg=>cond (A3 g.length) (vl (C4 g) λa=>cond ((uE a)==0) (r ((h==(uS a))&&((i==(uU a))&&((q==(uK a))&&((j==(uN a))&&((l==(uV a))&&((m==(uA a 0))&&((n==(uA a 1))&&((o==(uA a 2))&&((u8==(uA a 3))&&((p==(uA a 4))&&((b==(uA a 5))&&((c==(uA a 6))&&((d==(uA a 7))&&((e==(uP a))&&((f==(uR a))&&true))))))))))))))) [(bU h i q j l m n o u8 p b c d e f),(bQ a)]) (r false [(bU h i q j l m n o u8 p b c d e f),(bQ a)])) none) none) none) none) none
theorem Bl9(d:Nat)(u0 u1 u2 u3 u4 u5 u6 u7 u8 u9 u10 u11 u12 u13 u14):evC (BE L) (d+1) Z Y 51 [(gU u0 u1 u2 u3 u4 u5 u6 u7 u8 u9 u10 u11 u12 u13 u14)] [] s=GM L u0 u1 u2 u3 u4 u5 u6 u7 u8 u9 u10 u11 u12 u13 u14 (λb a=>some (pB b,a,s)):=by refine(evE (fn:=Tryz.f51) (by kernel_rfl)).trans ?_;generalize evC (BE L) d=Q;unfold GM;kernel_rfl
noncomputable def A10(L:Nat):Cfg:=B5 L [85] (A2 []) [(51,Qw),(83,VE)] (A2 [(3,[2]),(2,[2]),(1,[1,3]),(0,[1])]) [51,83] (A2 []) (some [2]) [] [] []
noncomputable def Dj4{R:Type}(L:Nat)(f g:By)(o:Int)(h:By)(i j l m u8 n a b c d:Int)(e:By)(q:By->(List Blk)->Option R):Option R:=cond (smU f g h e) (cond (ltN i 4294967296) (cond (ok8 j l m u8 n a b c) (cond (M8 d) (cond (not (O8 (mkU f g o h i (n8 j l m u8 n a b c) d e))) (q ([]:List UInt8) [(bU f g o h i j l m u8 n a b c d e)]) (cond (smU f g h e) (cond (ltN i 4294967296) (cond (ok8 j l m u8 n a b c) (cond (M8 d) (vl (Y5 (mkU f g o h i (n8 j l m u8 n a b c) d e)) λp=>q p [(bU f g o h i j l m u8 n a b c d e)]) none) none) none) none)) none) none) none) none
theorem Dj5(d:Nat)(u0 u1 u2 u3 u4 u5 u6 u7 u8 u9 u10 u11 u12 u13 u14):evC (A10 L) (d+1) Z Y 85 [(gU u0 u1 u2 u3 u4 u5 u6 u7 u8 u9 u10 u11 u12 u13 u14)] [] s=Dj4 L u0 u1 u2 u3 u4 u5 u6 u7 u8 u9 u10 u11 u12 u13 u14 (λb a=>some (pS b,a,s)):=by refine(evE (fn:=Tryz.f85) (by kernel_rfl)).trans ?_;generalize evC (A10 L) d=Q;unfold Dj4;kernel_rfl
end
section
variable {Z R : Type} (L : Nat) (Q : F8) (Y : Yh Z) (s : Z) (k : Out -> St Z -> Option R)
noncomputable def BC(L:Nat):Cfg:=B5 L [160] (A2 []) [] (A2 [(1,[2]),(0,[0])]) [] (A2 []) (some [2]) [] [] []
noncomputable def ZR{R:Type}(L:Nat)(a:Int)(b:Bool->Option R):Option R:=b (ltI (8:Int) a)
theorem Bk0(d:Nat)(a:Int):evC (BC L) (d+1) Z Y 160 [.s (.int .i64 a)] [] s=ZR L a (λb=>some (.s (.bool b),[],s)):=by refine(evE (fn:=Tryz.f160) (by kernel_rfl)).trans ?_;generalize evC (BC L) d=Q;unfold ZR;kernel_rfl
noncomputable abbrev Wf:Code:=C3 ah2
noncomputable def Ca(L:Nat):Cfg:=B5 L [196] (A2 []) [] (A2 [(5,[2]),(2,[2]),(4,[2]),(3,[10]),(1,[0,2]),(0,[0])]) [] (A2 [(0,[])]) (some [2]) [] [] []
noncomputable def Lo{R:Type}(a:Int)(d:Bool)(b:Unit->Option R)(c:Bool->Option R):Option R:=cond d (b ()) (cond (ltI (57343:Int) a) (cond (not (ltI (1114111:Int) a)) (b ()) (c (not (ltI (1114111:Int) a)))) (c false))
abbrev EZ(b:Code):Prop:=∀(k:Out->St Z->Option R) (c:Int) (a:Bool),A9 (Ca L) Q Y b ⟨gp [(0,.s (.int .i32 c)),(2,.s (.bool a))] 13,[],s⟩ k=Lo c a (λ_=>k .ret ⟨gp [(2,.s (.bool true))] 14,[],s⟩) (λd=>k .normal ⟨gp [(10,.s (.bool d))] 6,[],s⟩)
theorem Aa7:EZ (R:=R) L Q Y s (cd [1,0,0,1] Wf):=by intro k b a;unfold Lo;kernel_rfl
noncomputable def NI{R:Type}(L:Nat)(b:Int)(a:Bool->Option R):Option R:=cond (not (ltI b (0:Int))) (Lo b (ltI b (55296:Int)) (λ_=>a true) (λc=>a false)) (Lo b false (λ_=>a true) (λd=>a false))
theorem Cd6(b:Code)(a:EZ (R:=PV × List Blk × Z) L Q Y s b)(c:Int):A9 (Ca L) Q Y (cd [] (G2 [1,0,0,1] b Wf)) ⟨[.s (.int .i32 c)]++tps 16,[],s⟩ (F0 (Ca L) ah2)=NI L c (λc=>some (.s (.bool c),[],s)):=by unfold NI;exact let d:=(E0 0 (D9 (Ca L) Q Y (cd [1,1] Wf) (F0 (Ca L) ah2)));(o0 (by kernel_rfl) (A0 ((a d c (ltI c (55296:Int))).trans (by kernel_rfl)) ((a d c false).trans (by kernel_rfl))))
theorem Cd7(d:Nat)(a:Int):evC (Ca L) (d+1) Z Y 196 [.s (.int .i32 a)] [] s=NI L a (λa=>some (.s (.bool a),[],s)):=
 (evE (fn:=ah2) (by kernel_rfl)).trans (o0 (by kernel_rfl) (Cd6 L (evC (Ca L) d) Y s (cd [1,0,0,1] Wf) (Aa7 L (evC (Ca L) d) Y s) a))
noncomputable abbrev Aj:Code:=C3 ah1
noncomputable def L5(L:Nat):Cfg:=B5 L [159] (A2 [(38,[4,170]),(29,[0,3,2,0,0,4,0,0]),(25,[0,3,2,0,0,4,0]),(12,[0,3,2,0,0,2]),(5,[0,3,2,0,0])]) [(157,Vz),(196,IZ)] (A2 [(35,[4]),(42,[4]),(41,[4]),(40,[5,169,5]),(39,[5,0,168]),(38,[175,0,0]),(37,[175]),(44,[4]),(33,[4]),(22,[4]),(21,[8,0,3,94]),(20,[8,0,3]),(26,[0,6,0,0,4,0]),(32,[4]),(30,[0,6,0,0,4,0,0]),(31,[0,6,0,0,4,0,0,139]),(29,[0,6,0,0,4,0,0,126]),(28,[0,6,0,0,4,0,0]),(27,[0,6,0,0,4,0,123]),(25,[0,6,0,0,4,0,108]),(24,[0,6,0,0,4,0]),(23,[0,6,0,0,4]),(19,[4]),(18,[0,6,0,0,88]),(17,[0,6,0,0,0]),(16,[0,6,0,0,0]),(15,[4]),(13,[0,6,0,0,2]),(14,[0,6,0,0,2,51]),(12,[0,6,0,0,2,38]),(11,[0,6,0,0,2]),(10,[0,6,0,0]),(9,[4]),(8,[0,6,0,0,1,31]),(7,[0,6,0,0,1]),(6,[0,6,0,0,23]),(5,[0,6,0,0,16]),(4,[0,6,0,0]),(3,[0,6,0,0]),(2,[0,6,0]),(1,[0,6]),(43,[0,0,181]),(36,[0,0,169]),(34,[0,0,158]),(0,[0,0])]) [157,196] (A2 [(0,[4]),(9,[]),(10,[175]),(5,[]),(6,[0,6,0,0,4,0]),(7,[8,0]),(8,[0,6,0,0,4,0,0]),(1,[]),(2,[0,6,0,0]),(3,[8,0]),(4,[0,6,0,0,2])]) (some [4]) [] [] []
noncomputable def Dr{R:Type}(L n:Nat)(self:Nat->Option R)(a:Nat)(c:Int->Nat->Option R)(d:Nat->Option R):Option R:=cond (decide (a<3)) (vl ((x3 ⟨p9 (([47,63,35]:List UInt8))⟩ a)).1 λb=>cond (b==(65533:Int)) (c (↑a:Int) (a+((x3 ⟨p9 (([47,63,35]:List UInt8))⟩ a)).2)) (self (a+((x3 ⟨p9 (([47,63,35]:List UInt8))⟩ a)).2))) (d a)
noncomputable def Z5{R:Type}(L n:Nat)(a:Nat)(b:Int->Nat->Option R)(c:Nat->Option R):Option R:=Cs4 (α:=Nat->Option R) (λ_=>none) (λn self a=>Dr L n self a b c) n a
theorem En{R:Type}(L n:Nat)(a:Nat)(b:Int->Nat->Option R)(c:Nat->Option R):Z5 L (n+1) a b c=Dr L n (λa=>Z5 L n a b c) a b c:=rfl
theorem ZO(n:Nat)(a:Nat):C7 1 ((L5 L).keep 38) (bd (L5 L) Q Y (cd [1,0,1,1,1,0,0,1,0,0] Aj)) n ⟨gp [(175,.it 0)] 11,[.iter (([47,63,35]:List UInt8)) a],s⟩ k =
 Z5 L n a (λn0 c=>k .ret ⟨gp [(4,.s (.int .i64 n0))] 182,[.iter (([47,63,35]:List UInt8)) c],s⟩) (λa=>k (.exit 9) ⟨gp [] 187,[.iter (([47,63,35]:List UInt8)) a],s⟩):=by
 induction n generalizing a with
 | zero=>rfl
 | succ n b=>rw[En];unfold Dr;exact(o0 (by kernel_rfl) (A0 (A4 λd=>(A0 rfl (b (a+((x3 ⟨p9 (([47,63,35]:List UInt8))⟩ a)).2)))) rfl))
noncomputable def Vn{R:Type}(L n:Nat)(self:By->Int->Int->Int->Option R)(b:By)(a f c:Int)(g:Int->Int->Option R):Option R:=cond (ltI c (↑(b8 b):Int)) (cond (inR (A1 (f-c)) 3) (vl (bAt (([47,63,35]:List UInt8)) (A1 (f-c))) λd=>cond (inR (A1 (a-c)) (b8 b)) (vl (bAt b (A1 (a-c))) λe=>cond (d !=e) (none) (self b a f (A1 (c+(1:Int))))) (none)) (none)) (g a f)
noncomputable def Ll{R:Type}(L n:Nat)(b:By)(a c d:Int)(e:Int->Int->Option R):Option R:=Cs4 (α:=By->Int->Int->Int->Option R) (λ_ _ _ _=>none) (λn self b a c d=>Vn L n self b a c d e) n b a c d
theorem Ar4{R:Type}(L n:Nat)(b:By)(a c d:Int)(e:Int->Int->Option R):Ll L (n+1) b a c d e=Vn L n (λb a c d=>Ll L n b a c d e) b a c d e:=rfl
theorem Yw(n:Nat)(b:By)(a d e:Int):C7 0 ((L5 L).keep 12) (bd (L5 L) Q Y (cd [1,0,1,1,1,1,1,1,0,1,1,1,1,0,0,0,1,0,0,1,0,1,0,0] Aj)) n ⟨gp [(0,.s (.str (([47,63,35]:List UInt8)))),(6,.s (.str b)),(0,.s (.int .i64 a)),(0,.s (.int .i64 d)),(2,.s (.int .i64 e))] 174,[],s⟩ k =
 Ll L n b a d e (λc h=>k (.exit 3) ⟨gp [(8,.s (.int .i64 c)),(0,.s (.int .i64 h))] 177,[],s⟩):=by
 induction n generalizing b a d e with
 | zero=>rfl
 | succ n i=>rw[Ar4];unfold Vn;exact(o0 (by kernel_rfl) (A0 (A0 (A4 λf=>(A0 (A4 λg=>(A0 rfl (i b a d (A1 (e+(1:Int)))))) rfl)) rfl) rfl))
noncomputable def No{R:Type}(L n:Nat)(self:By->Int->Option R)(b:By)(a:Int)(m:Int->Option R)(o:Unit->Option R):Option R:=cond (ltI a (3:Int)) (cond (inR a 3) (vl (bAt (([47,63,35]:List UInt8)) a) λj=>cond (inR a (b8 b)) (cond (j !=(bAt b a)) (vl (A1 (a+(1:Int))) λe=>cond (I6 e (3:Int) 3) (vl (cut (([47,63,35]:List UInt8)) e (3:Int)) λg=>cond (inR a (b8 b)) (cond (A3 (b8 g)) (cond (inR (bAt b a) 256) (vl (j8 g (u8n (bAt b a))) λf=>cond (ltI f (0:Int)) (m (-1)) (vl (A1 (f+(1:Int))) λl=>Ll L L b a (A1 (a+l)) 1 (λc h=>m (A1 (h-c))))) (none)) (none)) (none)) (none)) (Ll L L b a a 1 (λd i=>m (A1 (i-d))))) (none)) (none)) (o ())
noncomputable def Gm{R:Type}(L n:Nat)(b:By)(a:Int)(c:Int->Option R)(d:Unit->Option R):Option R:=Cs4 (α:=By->Int->Option R) (λ_ _=>none) (λn self b a=>No L n self b a c d) n b a
theorem EV{R:Type}(L n:Nat)(b:By)(a:Int)(c:Int->Option R)(d:Unit->Option R):Gm L (n+1) b a c d=No L n (λb a=>Gm L n b a c d) b a c d:=rfl
theorem ZP(n:Nat)(b:By)(a:Int):C7 0 ((L5 L).keep 5) (bd (L5 L) Q Y (cd [1,0,1,1,1,1,1,1,0,1,1,1,1,0,0,0] Aj)) n ⟨gp [(0,.s (.str (([47,63,35]:List UInt8)))),(6,.s (.str b)),(0,.s (.int .i64 a)),(0,.s (.int .i64 a))] 177,[],s⟩ k =
 Gm L n b a (λn0=>k .ret ⟨gp [(4,.s (.int .i64 n0))] 182,[],s⟩) (λ_=>k (.exit 1) ⟨gp [] 187,[],s⟩):=by
 induction n generalizing b a with
 | zero=>rfl
 | succ n i=>rw[EV];unfold No;exact let d:=(E0 3 (D9 (L5 L) Q Y (cd [1,0,1,1,1,1,1,1,0,1,1,1,1,0,0,0,1,0,0,1,1] Aj) (E0 2 (lpK 0 ((L5 L).keep 5) (bd (L5 L) Q Y (cd [1,0,1,1,1,1,1,1,0,1,1,1,1,0,0,0] Aj)) n k))));(o0 (by kernel_rfl) (A0 (A0 (A4 λe=>(A0 (A0 (A4 λf=>(A0 (A4 λh=>(A0 (A0 (A0 (A4 λg=>(A0 rfl (A4 λc=>((Yw L Q Y s d L b a (A1 (a+c)) 1).trans (by kernel_rfl))))) rfl) rfl) rfl)) rfl)) ((Yw L Q Y s d L b a a 1).trans (by kernel_rfl))) rfl)) rfl) rfl))
noncomputable def Lk{R:Type}(L:Nat)(b:Int)(l:Bool)(d:Int->Option R)(j:Int->Nat->Option R):Option R:=cond l (cond (inR (wu8 b) 256) (vl (j8 (([47,63,35]:List UInt8)) (u8n (wu8 b))) λg=>d g) (none)) (cond (b==(65533:Int)) (Z5 L L 0 (λi e=>j i e) (λf=>j (-1) f)) (cond (not (NK b)) (d (-1)) (vl (ab0 b).data.toList λc=>vl (A1 ((↑(b8 c):Int)-(1:Int))) λh=>Gm L L c h (λa=>d a) (λ_=>d (-1)))))
abbrev EU(b:Code):Prop:=∀(k:Out->St Z->Option R) (c:Int) (a:Bool),A9 (L5 L) Q Y b ⟨gp [(0,.s (.str (([47,63,35]:List UInt8)))),(0,.s (.int .i32 c)),(158,.s (.bool a))] 26,[],s⟩ k=Lk L c a (λn0=>k .ret ⟨gp [(4,.s (.int .i64 n0))] 182,[],s⟩) (λn0 d=>k .ret ⟨gp [(4,.s (.int .i64 n0))] 182,[.iter (([47,63,35]:List UInt8)) d],s⟩)
theorem ZN:EU (R:=R) L Q Y s (cd [1,0,1] Aj):=by intro k e d;unfold Lk;exact(o0 (by kernel_rfl) (A0 (A0 (A4 λc=>rfl) rfl) (A0 ((ZO L Q Y s (E0 9 (D9 (L5 L) Q Y (cd [1,0,1,1,1,0,1] Aj) k)) L 0).trans (by kernel_rfl)) (A0 rfl (A4 λb=>(A4 λa=>((ZP L Q Y s (E0 1 (D9 (L5 L) Q Y (cd [1,0,1,1,1,1,1,1,0,1,1,1,1,1] Aj) k)) L b a).trans (by kernel_rfl))))))))
noncomputable def NB{R:Type}(L:Nat)(r:Int)(g:Int->Option R)(h:Int->Nat->Option R):Option R:=cond (not (ltI r (0:Int))) (Lk L r (ltI r (128:Int)) (λc=>g c) (λd a=>h d a)) (Lk L r false (λe=>g e) (λf b=>h f b))
theorem Cb4(b:Code)(a:EU (R:=PV × List Blk × Z) L Q Y s b)(r:Int):A9 (L5 L) Q Y (cd [] (G2 [1,0,1] b Aj)) ⟨[.s (.str (([47,63,35]:List UInt8))),.s (.int .i32 r)]++tps 185,[],s⟩ (F0 (L5 L) ah1)=NB L r (λc=>some (.s (.int .i64 c),[],s)) (λc e=>some (.s (.int .i64 c),[.iter (([47,63,35]:List UInt8)) e],s)):=by unfold NB;exact let d:=(E0 0 (F0 (L5 L) ah1));(o0 (by kernel_rfl) (A0 ((a d r (ltI r (128:Int))).trans (by kernel_rfl)) ((a d r false).trans (by kernel_rfl))))
theorem Cb5(d:Nat)(r:Int):evC (L5 L) (d+1) Z Y 159 [.s (.str (([47,63,35]:List UInt8))),.s (.int .i32 r)] [] s=NB L r (λa=>some (.s (.int .i64 a),[],s)) (λa b=>some (.s (.int .i64 a),[.iter (([47,63,35]:List UInt8)) b],s)):=
 (evE (fn:=ah1) (by kernel_rfl)).trans (o0 (by kernel_rfl) (Cb4 L (evC (L5 L) d) Y s (cd [1,0,1] Aj) (ZN L (evC (L5 L) d) Y s) r))
noncomputable abbrev Ae3:Code:=C3 ag9
noncomputable def Gu(L:Nat):Cfg:=B5 L [119] (A2 [(18,[1,2,40]),(12,[0,3,1,1])]) [(159,IR),(160,AJ),(161,Oy)] (A2 [(22,[4]),(21,[4]),(20,[1,7,35,7]),(19,[1,7,0,34]),(18,[1,43,0,0]),(17,[1,43]),(16,[4]),(13,[0,5,1]),(15,[4]),(14,[0,5,1,33]),(12,[0,5,1,27]),(11,[0,5,1]),(10,[0,0,4,25]),(9,[0,0,4,0]),(8,[0,0,24]),(7,[4]),(6,[0,4]),(5,[0,4,14]),(4,[0,4]),(3,[0,0,13]),(2,[4]),(1,[0,0,10]),(0,[0,0])]) [159,160] (A2 [(2,[]),(3,[1,43]),(0,[]),(1,[0,5,1])]) (some [4]) [] [] []
noncomputable def Y4{R:Type}(L n:Nat)(self:By->Nat->Option R)(b:By)(a:Nat)(d:Int->(List Blk)->Option R)(e:By->Nat->Option R):Option R:=cond (decide (a<(b8 b))) (vl ((x3 ⟨p9 b⟩ a)).1 λc=>cond (BX (([47,63,35]:List UInt8))) (cond (ltN c 1114112) (cond (not (ltI (irn c) (0:Int))) (d (↑a:Int) [(Blk.iter b (a+((x3 ⟨p9 b⟩ a)).2))]) (self b (a+((x3 ⟨p9 b⟩ a)).2))) (none)) (none)) (e b a)
noncomputable def Lj{R:Type}(L n:Nat)(b:By)(a:Nat)(c:Int->(List Blk)->Option R)(d:By->Nat->Option R):Option R:=Cs4 (α:=By->Nat->Option R) (λ_ _=>none) (λn self b a=>Y4 L n self b a c d) n b a
theorem Bp{R:Type}(L n:Nat)(b:By)(a:Nat)(c:Int->(List Blk)->Option R)(d:By->Nat->Option R):Lj L (n+1) b a c d=Y4 L n (λb a=>Lj L n b a c d) b a c d:=rfl
theorem ZM(n:Nat)(b:By)(a:Nat):C7 1 ((Gu L).keep 18) (bd (Gu L) Q Y (cd [1,1,1,1,0,1,0,0] Ae3)) n ⟨gp [(1,.s (.str (([47,63,35]:List UInt8)))),(43,.it 0)] 9,[.iter b a],s⟩ k =
 Lj L n b a (λn0 c=>k .ret ⟨gp [(4,.s (.int .i64 n0))] 50,c,s⟩) (λb a=>k (.exit 2) ⟨gp [] 55,[.iter b a],s⟩):=by
 induction n generalizing b a with
 | zero=>rfl
 | succ n d=>rw[Bp];unfold Y4;exact(o0 (by kernel_rfl) (A0 (A4 λe=>(A0 (A0 (A0 rfl (d b (a+((x3 ⟨p9 b⟩ a)).2))) rfl) rfl)) rfl))
noncomputable def ZL{R:Type}(L:Nat)(t:By)(e:Int->(List Blk)->Option R):Option R:=cond (ltI (8:Int) (↑(b8 t):Int)) (none) (Lj L L t 0 (λc a=>e c a) (λd b=>e (-1) [(Blk.iter d b)]))
theorem Cb2(d:Nat)(t:By):evC (Gu L) (d+1) Z Y 119 [.s (.str t),.s (.str (([47,63,35]:List UInt8)))] [] s=ZL L t (λb a=>some (.s (.int .i64 b),a,s)):=by refine(evE (fn:=ag9) (by kernel_rfl)).trans ?_;generalize evC (Gu L) d=Q;unfold ZL;exact(o0 (by kernel_rfl) (A0 rfl ((ZM L Q Y s (E0 2 (D9 (Gu L) Q Y (cd [1,1,1,1,1] Ae3) (F0 (Gu L) ag9))) L t 0).trans (by kernel_rfl))))
end
end
section
open Go
theorem Rc{c:UInt8}{s:By}(h:c∉s):v8 s [c]=(s,[],false):=by unfold v8;rw[Un h,if_neg (by decide)]
theorem Ak{c:UInt8}{p r:By}(h:c∉p):v8 (p++c::r) [c]=(p,r,true):=by unfold v8;rw[BU h,T5,j9,ai0,j4];rw[show p++c::r=(p++[c])++r by simp,ah5 (by simp)]
def Xr:Int->By->Option Int
 | n,[]=>some n
 | n,b::r=>if 48<=b.toNat/\b.toNat<=57 then Xr (min (10*max n 0+((b.toNat-48:Nat):Int)) 65536) r else none
theorem XZ:∀(s:By) (n:Int),Jy n s=(Xr n s).bind λm=>if m<65536 then some m else none
 | [],n=>rfl
 | b::r,n=>by
  rw[Jy,Xr];split
  ·exact XZ r _
  ·rfl
theorem LU:∀(s:By) (n p:Int),-1<=n->Jy n s=some p->-1<=p/\p<65536
 | [],n,p,a,h=>by
  rw[Jy] at h;split at h
  ·rename_i c;obtain rfl:=j7 h;exact⟨a,c⟩
  ·cases h
 | b::r,n,p,a,h=>by
  rw[Jy] at h;split at h
  ·exact LU r _ p (by omega) h
  ·cases h
def Px(s:By):Prop:=∀b∈s,ctl b=false
def D21(s:By):Prop:=∀b∈s,W6 b=false
structure CU (u:X2):Prop where
 ns:J1 u.sch=false->W9 u.sch=true/\B9 u.sch=u.sch/\u.user=[]/\u.host=L0/\u.port=-1/\Px u.rest
 sp:J1 u.sch=true->Px u.user/\D21 u.user/\On u.host/\M0 u.host=true/\(u.port=-1\/(0<=u.port/\u.port<=65535/\u.port≠Q6 u.sch))/\(∃r,u.rest=47::r)/\Px u.rest
theorem C59{s:By}:s.any ctl=false↔Px s:=by unfold Px;rw[List.any_eq_false];exact⟨λh b a=>by simpa using h b a,λh b a=>by simp[h b a]⟩
theorem DW{e user c a:By}(h:(U9 e user c a).2=0):∃f b,(U9 e user c a).1=⟨e,user,f,b,c⟩/\On f/\M0 f=true/\(b=-1\/(0<=b/\b<=65535/\b≠Q6 e)):=by
 unfold U9 at h ⊢;cases i:Kx a with
 | none=>rw[i] at h;simp at h
 | some q=>
  obtain⟨name,tail⟩:=q;rw[i] at h;simp only at h ⊢;by_cases g:tail≠[]/\tail.head?≠some 58
  ·rw[if_pos g] at h;simp at h
  ·rw[if_neg g] at h ⊢;by_cases d:(C9 name).2≠0
   ·rw[if_pos d] at h;exact absurd h d
   ·rw[if_neg d] at h ⊢;cases j:Jy (-1) (tail.drop 1) with
    | none=>rw[j] at h;simp at h
    | some p=>
     have o:=LU _ _ _ (by omega) j;obtain⟨m,n⟩:=B55 name;refine⟨_,_,rfl,m,n (by simpa using d),?_⟩;split
     ·exact .inl rfl
     ·rename_i l;by_cases k:p=-1
      ·exact .inl k
      ·exact .inr ⟨by omega,by omega,l⟩
theorem Xe{c user b a:By}(h:(U9 c user b a).2≠0):(U9 c user b a).1=Cq:=by
 unfold U9 at h ⊢;split
 ·rfl
 ·rename_i name tail f;rw[f] at h;simp only at h ⊢;split
  ·rfl
  ·rename_i d;rw[if_neg d] at h;split
   ·rfl
   ·rename_i e;rw[if_neg e] at h;split
    ·rfl
    ·rename_i p g;rw[g] at h;exact absurd rfl h
theorem A62(s:By):B9 (B9 s)=B9 s:=by
 unfold B9;rw[aj1];apply List.map_congr_left;intro b _;show Ce (Ce b)=Ce b;rcases U4 b with⟨_,e⟩|⟨_,e⟩|⟨c,d,e⟩
 ·rw[e,e]
 ·rw[e,e]
 ·rcases U4 (Ce b) with⟨_,a⟩|⟨_,a⟩|⟨f,g,_⟩
  ·exact a
  ·exact a
  ·omega
theorem A58(b:UInt8):P7 (Ce b)=P7 b:=by
 rw[o7,U3,U3];rcases U4 b with⟨_,e⟩|⟨_,e⟩|⟨a,c,e⟩
 ·rw[e]
 ·rw[e]
 ·omega
theorem XS{b c:UInt8}(f:c.toNat<65):Ce b=c↔b=c:=by
 rcases U4 b with⟨_,e⟩|⟨_,e⟩|⟨a,d,e⟩
 ·rw[e]
 ·rw[e]
 ·constructor
  ·intro h;rw[h] at e;omega
  ·intro h;subst h;omega
theorem Aq6(b:UInt8):O5 (Ce b)=O5 b:=by
 rw[o7,Ji,Ji,XS (by decide),XS (by decide),XS (by decide)];rcases U4 b with⟨_,e⟩|⟨_,e⟩|⟨a,c,e⟩
 ·rw[e]
 ·rw[e]
 ·constructor
  ·rintro(h|h|h|h)<;>first|omega|exact .inr (.inr (.inr h))
  ·rintro(h|h|h|h)<;>first|omega|exact .inr (.inr (.inr h))
theorem Aq8(s:By):W9 (B9 s)=W9 s:=by
 cases s with
 | nil=>rfl
 | cons b r=>
  show(P7 (Ce b)&&(r.map Ce).all O5)=(P7 b&&r.all O5)
  rw[A58,List.all_map]
  congr 1
  apply List.all_congr rfl;intro b;exact Aq6 b
theorem ZQ(r:By):∃t,X1 r=47::t:=by
 unfold X1;split
 ·rename_i h;cases r with
  | nil=>cases h
  | cons b t=>
   obtain rfl:=j7 h;exact⟨t,rfl⟩
 ·exact⟨r,rfl⟩
theorem Ar5{r:By}(h:Px r):Px (X1 r):=by
 unfold X1;split
 ·exact h
 ·intro b a;rcases w6.1 a with rfl|a
  ·decide
  ·exact h b a
theorem B61{j c a:By}(p:J1 j=true)(q:Px a)(i:D21 a)(o:Px c)(f:∃r,c=47::r)(h:(H9 j c a).2=0):CU (H9 j c a).1:=by
 unfold H9 at h ⊢;by_cases n:0<=L6 64 a
 ·rw[if_pos n] at h ⊢;obtain⟨t,g,e,k,l,m⟩:=DW h;rw[e];exact⟨λh=>(by rw[p] at h;cases h),λ_=>⟨λb d=>q b (ac0 d),λb d=>i b (ac0 d),k,l,m,f,o⟩⟩
 ·rw[if_neg n] at h ⊢;obtain⟨t,g,e,k,l,m⟩:=DW h;rw[e];exact⟨λh=>(by rw[p] at h;cases h),λ_=>⟨λb d=>(by cases d),λb d=>(by cases d),k,l,m,f,o⟩⟩
theorem Cq9{s:By}(h:(C4 s).2=0):CU (C4 s).1:=by
 unfold C4 at h ⊢;cases f:s.any ctl with
 | true=>rw[f] at h;simp at h
 | false=>
  rw[f] at h;have j:=C59.1 f;simp only[o9,if_false] at h ⊢;rcases U0 58 s with c|⟨p,r,rfl,c⟩
  ·rw[Rc c] at h;simp at h
  ·rw[Ak c] at h ⊢;have k:Px p:=λb d=>j b (by simp[d])
   have g:Px r:=λb d=>j b (by simp[d])
   cases a:W9 p with
   | false=>rw[a] at h;simp at h
   | true=>
    rw[a] at h;simp only[j2,Bool.or_self,o9,if_false] at h ⊢;cases e:J1 (B9 p) with
    | false=>
     simp only[o6,if_true];exact⟨λ_=>⟨by rw[Aq8];exact a,A62 p,rfl,rfl,rfl,g⟩,λh=>(by simp only at h;rw[e] at h;cases h)⟩
    | true=>
     rw[e] at h;simp only[j2,o9,if_false] at h ⊢;cases i:([47,47]:By).isPrefixOf r with
     | false=>rw[i] at h;simp at h
     | true=>
      rw[i] at h;simp only[j2,o9,if_false] at h ⊢;exact B61 e (λb d=>g b (w8 (ac0 d))) (Bj4 _) (Ar5 λb d=>g b (w8 (w8 d))) (ZQ _) h
theorem A91{d b a:By}(h:(H9 d b a).2≠0):(H9 d b a).1=Cq:=by
 unfold H9 at h ⊢;split
 ·rename_i c;rw[if_pos c] at h;exact Xe h
 ·rename_i c;rw[if_neg c] at h;exact Xe h
theorem B56{s:By}(h:(C4 s).2≠0):(C4 s).1=Cq:=by
 unfold C4 at h ⊢;split
 ·rfl
 ·rename_i b;rw[if_neg b] at h;split
  ·rfl
  ·rename_i c;rw[if_neg c] at h;split
   ·rename_i a;rw[if_pos a] at h;exact absurd rfl h
   ·rename_i a;rw[if_neg a] at h;split
    ·rfl
    ·rename_i d;rw[if_neg d] at h;exact A91 h
structure Cf7 (u:X2):Prop where
 host:On u.host
 port:-1<=u.port/\u.port<65536
theorem QS:On L0:=⟨by decide,Bz3,by decide⟩
theorem CU.ok{u:X2}(h:CU u):Cf7 u:=by
 cases hs:J1 u.sch with
 | false=>
  obtain⟨_,_,_,a4,a5,_⟩:=h.ns hs;exact⟨by rw[a4];exact QS,by omega⟩
 | true=>
  obtain⟨_,_,a3,_,a5,_⟩:=h.sp hs;exact⟨a3,by omega⟩
theorem Xt(s:By):Cf7 (C4 s).1:=by
 by_cases h:(C4 s).2=0
 ·exact(Cq9 h).ok
 ·rw[B56 h];exact⟨QS,by decide,by decide⟩
theorem Pq{s:By}(h:M9 s=true):s=Cp\/s=bWs:=by simpa[M9] using h
theorem Aa2{s:By}(h:M9 s=false)(a:Int):upS s=s/\upP s a=a:=by
 have e:(s==Cp)=false/\(s==bWs)=false:=by simpa[M9] using h
 unfold upS upP;rw[e.1,e.2,h];simp
theorem Xg{n:Int}:M8 n=true↔-9223372036854775808<=n/\n<9223372036854775808:=by unfold M8;rw[E5];constructor<;>rintro⟨a,b⟩<;>constructor<;>omega
theorem Jw(c:UInt8):∀s:By,j8 s c=match Hh c s with|some k=>(k:Int)|none=>-1
 | []=>rfl
 | b::r=>by
  have a:=Jw c r;unfold j8 Hh;by_cases h:b=c
  ·rw[if_pos h,if_pos (by simpa using h)];rfl
  ·rw[if_neg h,if_neg (by simpa using h),a];cases Hh c r with
   | none=>rfl
   | some k=>
    have e:((k:Int)==-1)=false:=by rw[beq_eq_false_iff_ne];omega
    simp only[aa6,e,o9,if_false];rfl
theorem Cb7(b:UInt8):isl.contains b=W6 b:=by rw[o7];simp[isl,W6,or_assoc]
theorem Ib(b:UInt8)(r:By):K4 (b::r)=if W6 b then 0 else K4 r+1:=by unfold K4;rw[ae9];cases h:W6 b<;>simp
theorem Yz:∀s:By,K4 s<=s.length
 | []=>w9 _
 | b::r=>by
  have:=Yz r;rw[Ib,j1];split<;>omega
theorem Jv:∀s:By,aa1 s isl=if K4 s<s.length then (K4 s:Int) else -1
 | []=>rfl
 | b::r=>by
  have c:=Jv r;have d:=Yz r;rw[aa1,Cb7,Ib,j1,c];cases W6 b with
  | true=>simp
  | false=>
   simp only[o9,if_false];by_cases h:K4 r<r.length
   ·have e:((K4 r:Int)==-1)=false:=by rw[beq_eq_false_iff_ne];omega
    have a:K4 r+1<r.length+1:=by omega
    simp only[if_pos h,if_pos a,e,o9,if_false];rfl
   ·have a:¬K4 r+1<r.length+1:=by omega
    simp only[if_neg h,if_neg a];rfl
theorem Ds4(b:UInt8)(t:By)(g:128<=b.toNat):128<=(aa0 (b::t)).1/\(aa0 (b::t)).1<1114112/\1<=(aa0 (b::t)).2/\(aa0 (b::t)).2<=t.length+1/\∀i,i<(aa0 (b::t)).2->128<=((b::t).getD i 0).toNat:=by
 have d:=Lib.decodeL_le (b::t) (by simp);have l:=Lib.decodeL_width (b::t);have n:=Lib.decodeL_rune (b::t);rw[j1] at d;refine⟨?_,by omega,l,d,?_⟩;all_goals
  clear d l n;rw[Lib.decodeL_N];rcases Lib.decodeN_shape (b::t).length ((b::t).getD 0 0).toNat ((b::t).getD 1 0).toNat ((b::t).getD 2 0).toNat ((b::t).getD 3 0).toNat with⟨c,e⟩|⟨h,j,k,f,e⟩|⟨h,j,k,m,f,p,e⟩|⟨h,j,k,m,o,f,q,e⟩|e
  all_goals rw[e]
 ·exact absurd g (by simp at c;omega)
 ·exact f
 ·simp only;omega
 ·simp only;omega
 ·simp only;omega
 ·exact absurd g (by simp at c;omega)
 ·intro i a;have:i=0\/i=1:=by simp only at a;omega
  rcases this with rfl|rfl<;>omega
 ·intro i a;have:i=0\/i=1\/i=2:=by simp only at a;omega
  rcases this with rfl|rfl|rfl<;>omega
 ·intro i a;have:i=0\/i=1\/i=2\/i=3:=by simp only at a;omega
  rcases this with rfl|rfl|rfl|rfl<;>omega
 ·intro i a;have:i=0:=by simp only at a;omega
  subst this;exact g
theorem Cx4{b:UInt8}(h:128<=b.toNat):W6 b=false:=by
 unfold W6;have n:∀c:UInt8,c.toNat<128->(b==c)=false:=λc a=>by
  rw[beq_eq_false_iff_ne];rintro rfl;omega
 rw[n 47 (by decide),n 63 (by decide),n 35 (by decide)];rfl
theorem Cn7{r:Int}(h:128<=r):irn r=-1:=by unfold irn;rw[G3,G3,G3]
theorem Dt5(b:UInt8):ltI (irn (b.toNat:Int)) 0 = !W6 b:=by
 have e:∀c:UInt8,((b.toNat:Int)=(c.toNat:Int))=(b=c):=λc=>propext ⟨λh=>ac2.1 (by omega),λh=>by rw[h]⟩
 have g:((b.toNat:Int)=47)=(b=47):=e 47;have i:((b.toNat:Int)=63)=(b=63):=e 63;have j:((b.toNat:Int)=35)=(b=35):=e 35;unfold irn W6;simp only[g,i,j];by_cases a:b=47
 ·subst a;rfl
 ·by_cases d:b=63
  ·subst d;rfl
  ·by_cases f:b=35
   ·subst f;rfl
   ·have n:∀c,b≠c->(b==c)=false:=λc h=>by rwa [beq_eq_false_iff_ne]
    rw[if_neg a,if_neg d,if_neg f,n _ a,n _ d,n _ f];rfl
end
section
open Go Go.Proofs
set_option maxRecDepth 100000
theorem A66{R:Type}{b:By->Option R}(s p:By)(a:A3 s.length=true):Bu1 LF s p b=b (Gz s p):=by
 have:=K7 a;unfold Bu1 Gz;rw[a];cases h:p.isPrefixOf s with
 | false=>simp
 | true=>
  have:p.length<=s.length:=by rw[Ev] at h;simp at h;exact h.1
  simp (disch:=omega)
theorem Cc6{R:Type}{a:By->Option R}(s p:By)(b:A3 s.length=true):Dj1 LF s p a=a (Gz s p):=by unfold Dj1;rw[b];rfl
theorem Bl3{R:Type}{e:Int->Option R}(s:By):Bx8 LF s e=e (Q6 s):=by unfold Bx8 Q6 Cp bWs Ay Tm;generalize (s==([104,116,116,112]:List UInt8))=a;generalize (s==([119,115]:List UInt8))=b;generalize (s==([104,116,116,112,115]:List UInt8))=c;generalize (s==([119,115,115]:List UInt8))=d;cases a<;>cases b<;>cases c<;>cases d<;>rfl
theorem B08(s:By):((Q6 s)==(80:Int))=M9 s:=by
 unfold Q6 M9;cases (s==Cp||s==bWs) with
 | true=>rfl
 | false=>cases (s==Ay||s==Tm)<;>rfl
theorem Bl8{R:Type}{a:Bool->Option R}(s:By):Bx9 LF s a=a (J1 s):=by unfold Bx9;rw[Mq,NT]
theorem Dj8(a p:By)(k:Int)(l:By)(v4 c d e f g h i j m:Int)(o:By) :
  ∃r H,Dv3 LF a p k l v4 c d e f g h i j m o (λn b=>rv (.s (.bool n)) b)=rv r H/\r.stab [] H = .s (.bool (M9 a)):=
 ⟨_,_,rfl,by rw[<-B08];rfl⟩
def XY:By:=[48,49,50,51,52,53,54,55,56,57,43,45,46]
theorem Ml(c:UInt8):∀l:By,ltI (j8 l c) 0 = !l.contains c
 | []=>rfl
 | b::r=>by
  have f:=Ml c r;have g:=ag5 r c;unfold j8;by_cases h:b=c
  ·subst h;simp[E4]
  ·have e:(b==c)=false:=by simpa using h
   have d:(c==b)=false:=by simpa using ag0 h
   rw[List.contains_cons,d,ai3,<-f,e];simp only[o9,if_false];by_cases a:j8 r c=-1
   ·rw[a];rfl
   ·have:(j8 r c==-1)=false:=by simpa using a
    rw[this,if_neg (by simp),A6,A6]
theorem Aq7:∀b:UInt8,O5 b=(P7 b||XY.contains b):=by
 have:∀n:Fin 256,O5 (ac1 n.val)=(P7 (ac1 n.val)||XY.contains (ac1 n.val)):=by decide +kernel
 intro b;have h:=this ⟨b.toNat,b.toNat_lt⟩;simpa using h
theorem At2{R:Type}{c:Unit->Option R}{d:By->Int->Int->Bool->Option R}(s:By)(i:Nat)(b:UInt8)(l:Bool)(n:Int):Fw s (i:Int) (b.toNat:Int) l n c d=if l then d s n i false else if i=0 then c () else if XY.contains b then d s n i false else c ():=by
 unfold Fw;cases l with
 | true=>rfl
 | false=>
  rw[o6,cond_true,if_neg (by simp)];by_cases a:i=0
  ·subst a;rfl
  ·have f:=b.toNat_lt;rw[show((i:Int)==0)=false by simpa using a,cond_false,E9,cond_true,if_neg a];simp only[vl];rw[Jm];have e:=Ml b XY;rw[show([48,49,50,51,52,53,54,55,56,57,43,45,46]:List UInt8)=XY from rfl,e];cases XY.contains b<;>rfl
theorem NH{R:Type}{a:Unit->Option R}{c:By->Option R}(s:By)(r:s.length<=1000000000)(n i:Nat)(p:i<s.length) :
  N7 LF (n+1) s (s.length:Int) (i:Int) a c=if P7 (s.getD i 0) then N7 LF n s s.length ((i+1:Nat):Int) a c else if i=0 then a () else if XY.contains (s.getD i 0) then N7 LF n s s.length ((i+1:Nat):Int) a c else a ():=by
 have k:A1 ((i:Int)+1)=((i+1:Nat):Int):=by rw[A7];rfl
 rw[N7,A8,E9,D3];simp only[cond_true];generalize s.getD i 0=b;have go:∀l,Fw s (i:Int) (b.toNat:Int) l (s.length:Int) (λ_=>a ()) (λj g h m=>N7 LF n j g (A1 (h+(1:Int))) a c)=if l then N7 LF n s s.length ((i+1:Nat):Int) a c else if i=0 then a () else if XY.contains b then N7 LF n s s.length ((i+1:Nat):Int) a c else a ():=λl=>by
  rw[At2,k]
 have q:P7 b=((x6 97 b.toNat&&x6 b.toNat 122)||(x6 65 b.toNat&&x6 b.toNat 90)):=rfl;by_cases f:97<=b.toNat
 ·rw[A6,o6,cond_true];by_cases d:b.toNat<=122
  ·rw[A6,o6,cond_true,if_pos (U3.2 (.inl ⟨f,d⟩))];unfold GL;simp only[k]
  ·rw[A8,j2,cond_false,A6,o6,cond_true,A8,j2];have e:P7 b=false:=by
    rw[<-ag4,U3];omega
   rw[e];exact go false
 ·rw[A8,j2,cond_false];by_cases o:65<=b.toNat
  ·rw[A6,o6,cond_true];have e:P7 b = !ltI 90 (b.toNat:Int):=by
    rw[o7,U3,ab2,Kv];omega
   rw[e];exact go _
  ·rw[A8,j2,cond_false];have e:P7 b=false:=by
    rw[<-ag4,U3];omega
   rw[e];exact go false
theorem Cd4{R:Type}{k0:Unit->Option R}{k1:By->Option R}(s:By)(d:s.length<=1000000000):∀(r i n:Nat),i+r=s.length->r<n->0<i->
  N7 LF n s (s.length:Int) (i:Int) k0 k1=if (s.drop i).all O5 then k1 s else k0 ():=by
 intro r
 induction r with
 | zero=>
  intro i n b c a;obtain⟨n,rfl⟩:∃m,n=m+1:=⟨n-1,by omega⟩
  rw[N7];rw[A6,p5 (by omega)];rfl
 | succ r e=>
  intro i n b c a;obtain⟨n,rfl⟩:∃m,n=m+1:=⟨n-1,by omega⟩
  rw[NH s d n i (by omega),e (i+1) n (by omega) (by omega) (by omega),D5 s i (by omega),ai4,Aq7,if_neg (by omega:¬i=0)];cases P7 (s.getD i 0) with
  | true=>simp
  | false=>
   cases XY.contains (s.getD i 0)<;>simp
theorem Cd5{R:Type}{k0:Bool->Option R}(s:By)(f:A3 s.length=true):C03 LF s k0=k0 (W9 s):=by
 have c:=K7 f;have g:=C2;unfold C03;obtain⟨n,d⟩:∃m,LF=m+1:=⟨LF-1,by omega⟩
 cases s with
 | nil=>
  rw[show @N7 R LF LF = @N7 R LF (n+1) by rw[<-d]];rfl
 | cons b t=>
  rw[show @N7 R LF LF = @N7 R LF (n+1) by rw[<-d]];refine o0 (NH (b::t) c n 0 (by simp)) ?_;have e:=Cd4 (k0:=λ_=>k0 false) (k1:=λa=>k0 (not (a==([]:List UInt8)))) (b::t) c t.length 1 n (by simp;omega) (by simp at c;omega) (by omega);rw[aa3];simp only[ad8,if_true];rw[show(((0+1:Nat):Int))=((1:Nat):Int) from rfl,e];rw[show(b::t).drop 1=t from rfl,show W9 (b::t)=(P7 b&&t.all O5) from rfl];cases P7 b with
  | false=>rfl
  | true=>cases t.all O5<;>rfl
theorem YA:∀(s:By) (n:Int),FF.go n s=(Xr n s).getD 0
 | [],n=>rfl
 | b::r,n=>by
  unfold FF.go Xr;split
  ·exact YA r _
  ·rfl
theorem Cc8{R:Type}{a:Unit->Option R}{c:Int->Option R}(s:By)(y:s.length<=1000000000):∀(r i n:Nat) (v:Int),i+r=s.length->r<n->-1<=v->v<=65536->
  Ns LF n s v (s.length:Int) (i:Int) a c=match Xr v (s.drop i) with|some m=>c m|none=>a ():=by
 intro r
 induction r with
 | zero=>
  intro i n v p q j k;obtain⟨n,rfl⟩:∃m,n=m+1:=⟨n-1,by omega⟩
  rw[Ns];rw[A6,p5 (by omega)];rfl
 | succ r t=>
  intro i n v p q j k;obtain⟨n,rfl⟩:∃m,n=m+1:=⟨n-1,by omega⟩
  have d:A1 ((i:Int)+1)=((i+1:Nat):Int):=by rw[A7];rfl
  rw[Ns];rw[A8,E9,D3,D5 s i (by omega),d];have x:=(s.getD i 0).toNat_lt;generalize s.getD i 0=b at *;unfold Xr;simp only[cond_true,vl];by_cases l:b.toNat<48
  ·rw[A8,cond_true,G3]
  ·rw[A6,cond_false];by_cases o:57<b.toNat
   ·rw[A8,cond_true,G3]
   ·rw[A6,cond_false,if_pos (show 48<=b.toNat/\b.toNat<=57 by omega)];have u:(if (0:Int) > v then (0:Int) else v)=max v 0:=by omega
    have e:A1 (10*max v 0)=10*max v 0:=A7;have f:wu8 ((b.toNat:Int)-48)=((b.toNat-48:Nat):Int):=by rw[M4];omega
    have g:A1 ((b.toNat-48:Nat):Int)=((b.toNat-48:Nat):Int):=A7;have h:A1 (10*max v 0+((b.toNat-48:Nat):Int))=10*max v 0+((b.toNat-48:Nat):Int):=A7;rw[u,e,f,g,h];have w:(if (65536:Int)<10*max v 0+((b.toNat-48:Nat):Int) then (65536:Int) else 10*max v 0+((b.toNat-48:Nat):Int))=min (10*max v 0+((b.toNat-48:Nat):Int)) 65536:=by omega
    rw[w];exact t (i+1) n _ (by omega) (by omega) (by omega) (by omega)
theorem Cc9{R:Type}{a:Int->Bool->Option R}(s:By)(b:A3 s.length=true):Dj9 LF s a=a (FF s) (Jy (-1) s).isSome:=by
 have d:=K7 b;have c:=C2;unfold Dj9;refine o0 (Cc8 s d s.length 0 LF (-1) (by omega) (by omega) (by omega) (by omega)) ?_;rw[ah9,XZ,show FF s=FF.go (-1) s from rfl,YA];cases Xr (-1) s with
 | none=>rfl
 | some m=>
  simp only[ag7,ad6];rw[Mq];by_cases h:m<65536
  ·rw[decide_eq_true h,if_pos h];rfl
  ·rw[decide_eq_false h,if_neg h];rfl
theorem Cq1{s:By}{p:Int}(h:Jy (-1) s=some p):FF s=p:=by
 rw[XZ] at h;rw[show FF s=FF.go (-1) s from rfl,YA];cases a:Xr (-1) s with
 | none=>rw[a] at h;cases h
 | some m=>
  rw[a] at h;simp only[ad6] at h;split at h
  ·exact j7 h
  ·cases h
def hpT(name tail b user a:By):X2 × Nat:=
 if (C9 name).2≠0 then (Cq,(C9 name).2)
 else match Jy (-1) (tail.drop 1) with
  | none=>(Cq,16)
  | some p=>(⟨b,user,(C9 name).1,if p=Q6 b then -1 else p,a⟩,0)
def hpC(name tail b user a:By):X2 × Nat:=if tail≠[]/\tail.head?≠some 58 then (Cq,4) else hpT name tail b user a
theorem Xf(c user b a:By):U9 c user b a=match Kx a with|none=>(Cq,4)|some (name,tail)=>hpC name tail c user b:=by
 unfold U9;cases Kx a with
 | none=>rfl
 | some q=>
  obtain⟨name,tail⟩:=q;rfl
theorem Ui{t:By}(h:t=[]\/t.head? = some 58):Gz t [58]=t.drop 1:=by
 rcases h with rfl|h
 ·rfl
 ·cases t with
  | nil=>cases h
  | cons b r=>
   simp only[List.head?_cons,k9] at h;subst h;simp[Gz]
theorem Zi(name tail:By)(f:name.length<=1000000000)(j:tail.length<=1000000000)(h:tail=[]\/tail.head? = some 58)(d u:By)(v:Int)(y:By)(w n8 x k l m n o r:Int)(c:By) :
  ∃B H,∀(R:Type) (a:Int->Blk->By->By->Int->By->Int->Int->Int->Int->Int->Int->Int->Int->Int->Int->By->List Blk->Option R),V9 name tail d u v y w n8 x k l m n o r (-1) c a=(λq=>a (uE q) B (uS q) (uU q) (uK q) (uN q) (uV q) (uA q 0) (uA q 1) (uA q 2) (uA q 3) (uA q 4) (uA q 5) (uA q 6) (uA q 7) (uP q) (uR q) H) (hpT name tail d u c):=by
 have i:(tail.drop 1).length<=1000000000:=by rw[c9];omega
 by_cases b:(C9 name).2=0
 ·cases g:Jy (-1) (tail.drop 1) with
  | none=>
   apply o5;apply o5;intro R a;unfold V9 hpT;rw[E6 f,cond_true,Ui h,E6 j];simp only[vl,cond_true];rw[b,E6 i,g];rfl
  | some p=>
   have t:=Cq1 g;by_cases e:p=Q6 d
   ·apply o5;apply o5;intro R a;unfold V9 hpT;rw[E6 f,cond_true,Ui h,E6 j];simp only[vl,cond_true];rw[b,E6 i,g,t,show(p !=Q6 d)=false by simpa using e];simp only[e,if_true];rfl
   ·apply o5;apply o5;intro R a;unfold V9 hpT;rw[E6 f,cond_true,Ui h,E6 j];simp only[vl,cond_true];rw[b,E6 i,g,t,show(p !=Q6 d)=true by simpa using e];simp only[e,if_false];rfl
 ·apply o5;apply o5;intro R a;unfold V9 hpT;rw[E6 f,cond_true];simp only[vl];rw[show(((C9 name).2:Int)!=0)=true by simpa using b,cond_true,if_pos b];rfl
theorem Nt(name tail:By)(w:name.length<=1000000000)(x:tail.length<=1000000000)(l m:By)(p:Int)(v:By)(t n8 u d f g i j k:Int)(a:By) :
  ∃B H,∀(R:Type) (c:Int->Blk->By->By->Int->By->Int->Int->Int->Int->Int->Int->Int->Int->Int->Int->By->List Blk->Option R),Q3 name tail l m p v t n8 u d f g i j k (-1) a c=(λq=>c (uE q) B (uS q) (uU q) (uK q) (uN q) (uV q) (uA q 0) (uA q 1) (uA q 2) (uA q 3) (uA q 4) (uA q 5) (uA q 6) (uA q 7) (uP q) (uR q) H) (hpC name tail l m a):=by
 cases tail with
 | nil=>
  obtain⟨B,H,e⟩:=Zi name [] w x (.inl rfl) l m p v t n8 u d f g i j k a;refine⟨B,H,λR c=>?_⟩;unfold Q3 hpC;exact e R c
 | cons b r=>
  by_cases n:b=58
  ·subst n;obtain⟨B,H,e⟩:=Zi name (58::r) w x (.inr rfl) l m p v t n8 u d f g i j k a;refine⟨B,H,λR c=>?_⟩;unfold Q3 hpC;rw[K3 (by omega) (by simp),if_neg (by simp)];exact e R c
  ·apply o5;apply o5;intro R c;unfold Q3 hpC;have o:(((b.toNat:Int))!=(58:Int))=true:=by
    rw[bne_iff_ne];intro h;have y:b.toNat=58:=by omega
    exact n (ac2.1 y)
   rw[K3 (by omega) (by simp),if_pos (by simpa using n),Ai,aa3,o];rfl
theorem Bt2{c:UInt8}{s:By}(h:Hh c s=none):j8 s c=-1:=by rw[Jw,h]
theorem XJ{c:UInt8}{s:By}{k:Nat}(h:Hh c s=some k):j8 s c=(k:Int)/\k<s.length:=by obtain⟨p,r,rfl,_,rfl⟩:=Rh h;exact⟨by rw[Jw,h],by simp⟩
theorem Du2(c:UInt8)(s:By):([c]:By).isPrefixOf s=(s.head? == some c):=by
 cases s with
 | nil=>rfl
 | cons b r=>
  grind
abbrev KU(R:Type):=By->By->Int->By->Int->Int->Int->Int->Int->Int->Int->Int->Int->Int->By->Int->List Blk->Option R
abbrev JY{R:Type}(a:KU R)(q:X2 × Nat)(H:List Blk):Option R:=a (uS q) (uU q) (uK q) (uN q) (uV q) (uA q 0) (uA q 1) (uA q 2) (uA q 3) (uA q 4) (uA q 5) (uA q 6) (uA q 7) (uP q) (uR q) (uE q) H
theorem Bl1(u:By)(J:Int)(O:By)(v4 y z A C D F G I:Int)(t a:By)(h2:A3 a.length=true) :
  ∃H,∀(R:Type) (o:KU R),Vo LF u [] J O v4 y z A C D F G I (-1) t a o=JY o (H9 u t a) H:=by
 have ha:=K7 h2;have ge:=LC 64 a;have key:∀(x b:By),b.length<=1000000000->∃H,∀(R:Type) (o:KU R),(cond (A3 (b8 b)) (cond (x4 (([91]:List UInt8)) b)
   (cond (A3 (b8 b))
    (vl (j8 b (u8n (93:Int))) λc=>
    cond (ltI c (0:Int))
     (o ([]:List UInt8) ([]:List UInt8) 0 ([]:List UInt8) 0 0 0 0 0 0 0 0 0 0 ([]:List UInt8) 4 [(bU u x J O v4 y z A C D F G I (-1) t),bU0])
     (cond (I6 (0:Int) (A1 (c+(1:Int))) (b8 b))
      (cond (I6 (A1 (c+(1:Int))) (↑(b8 b):Int) (b8 b))
       (Q3 (cut b (0:Int) (A1 (c+(1:Int)))) (cut b (A1 (c+(1:Int))) (↑(b8 b):Int)) u x J O v4 y z A C D F G I (-1) t (λn0 T P Q K S L M n8 N f g i j l m n q=>o P Q K S L M n8 N f g i j l m n n0 (T::((bU P Q K S L M n8 N f g i j l m n)::q))))
       (none))
      (none)))
    (none))
   (cond (A3 (b8 b))
    (vl (j8 b (u8n (58:Int))) λd=>
    cond (not (ltI d (0:Int)))
     (cond (I6 (0:Int) d (b8 b))
      (cond (I6 d (↑(b8 b):Int) (b8 b))
       (Q3 (cut b (0:Int) d) (cut b d (↑(b8 b):Int)) u x J O v4 y z A C D F G I (-1) t (λn0 T P Q K S L M n8 N f g i j l m n q=>o P Q K S L M n8 N f g i j l m n n0 (T::((bU P Q K S L M n8 N f g i j l m n)::q))))
      (none))
     (none))
     (Q3 b ([]:List UInt8) u x J O v4 y z A C D F G I (-1) t (λn0 T P Q K S L M n8 N f g i j l m n q=>o P Q K S L M n8 N f g i j l m n n0 (T::((bU P Q K S L M n8 N f g i j l m n)::q)))))
    (none))) none)=JY o (U9 u x t b) H:=by
  intro x b hb;rw[Xf];unfold Kx;have w:A3 b.length=true:=E6 hb;have W:u8n (93:Int)=93:=rfl;have U:u8n (58:Int)=58:=rfl;by_cases v:b.head? = some 91
  ·rw[if_pos v];have Z:([91]:By).isPrefixOf b=true:=by rw[Du2,v];rfl
   cases Y:Hh 93 b with
   | none=>
    apply o5;intro R o;rw[w,Z,W,Bt2 Y];rfl
   | some k=>
    obtain⟨e,hk⟩:=XJ Y;have e1:A1 ((k:Int)+1)=((k+1:Nat):Int):=by rw[A7];rfl
    obtain⟨B,H,X⟩:=Nt (b.take (k+1)) (b.drop (k+1)) (by rw[j6];omega) (by rw[c9];omega) u x J O v4 y z A C D F G I t;apply o5;intro R o;rw[w,Z,W,e];simp only[vl,cond_true];rw[A6,cond_false,e1,I1,I1,cond_true,cond_true,K6,P4,j9,X]
  ·rw[if_neg v];have Z:([91]:By).isPrefixOf b=false:=by rw[Du2];simpa using v
   cases Y:Hh 58 b with
   | none=>
    obtain⟨B,H,X⟩:=Nt b [] hb (by simp) u x J O v4 y z A C D F G I t;apply o5;intro R o;rw[w,Z,U,Bt2 Y];simp only[vl,cond_true,cond_false];rw[A8,j2,cond_false,X]
   | some k=>
    obtain⟨e,hk⟩:=XJ Y;obtain⟨B,H,X⟩:=Nt (b.take k) (b.drop k) (by rw[j6];omega) (by rw[c9];omega) u x J O v4 y z A C D F G I t;apply o5;intro R o;rw[w,Z,U,e];simp only[vl,cond_true,cond_false];rw[A6,o6,cond_true,I1,I1,cond_true,cond_true,K6,P4,j9,X]
 have V:u8n (64:Int)=64:=rfl;unfold H9;by_cases h:0<=L6 64 a
 ·obtain⟨p,r,rfl,_,hl⟩:=LE h;rw[if_pos h,hl,j9];rw[j0,j1] at ha;obtain⟨H,e⟩:=key ((p++64::r).take p.length) ((p++64::r).drop (p.length+1)) (by rw[c9,j0,j1];omega);refine⟨H,λR o=>?_⟩;refine o0 ?_ (e R o);have e1:A1 ((p.length:Int)+1)=((p.length+1:Nat):Int):=by rw[A7];rfl
  have ln:(p++64::r).length=p.length+r.length+1:=by rw[j0,j1];omega
  unfold Vo;rw[h2,V,hl];simp only[vl,cond_true];rw[A6,o6,cond_true,e1,I1,I1,cond_true,cond_true,K6,P4,j9,j9];rfl
 ·rw[if_neg h];obtain⟨H,e⟩:=key [] a ha;refine⟨H,λR o=>?_⟩;refine o0 ?_ (e R o);unfold Vo;rw[h2,V];simp only[vl,cond_true];rw[A8,j2,cond_false];rfl
theorem Qi{x:SV}(h:(Ty.int .u16).of x):∃n,x = .int .u16 n/\ltN n 65536=true:=by obtain⟨n,rfl,a,b⟩:=h;simp[IntKind.min,IntKind.max,IntKind.signed,IntKind.bits] at a b;exact⟨n,rfl,E5.2 ⟨a,by omega⟩⟩
def Tru(x:Option (PV × List Blk × Unit)):Prop:=∃H,x=some (.s (.bool true),H,())
theorem eq8{v6:List Nat}(h:v6.length=8):∃a b c d e f g i,v6=[a,b,c,d,e,f,g,i]:=by
 match v6,h with
 | [a,b,c,d,e,f,g,i],_=>exact⟨a,b,c,d,e,f,g,i,rfl⟩
theorem At7{h:B4}(a:M0 h=true):h.name.length<=253:=by
 unfold M0 at a;split at a
 ·simp only[p4] at a;exact(NJ.1 a.1.1).le
 ·split at a
  ·simp only[p4,ad4] at a;rw[a.1];simp
  ·split at a
   ·simp only[p4,ad4] at a;rw[a.1];simp
   ·cases a
theorem Wu{h:B4}(ok:On h):(Bt h).length<=300:=by
 cases a:M0 h with
 | false=>rw[KP a];simp
 | true=>
  have d:=At7 a;have c:=C10 _ ok.v6.1 ok.v6.2;have b:=Dv5 _ ok.v4;unfold Bt;rw[if_pos a];split
  ·omega
  ·split
   ·omega
   ·simp only[j1,j0,y9];omega
theorem FS{h0 b c d e f g i j a:Int}{h1:By}(k:ltN b 4294967296=true)(l:ok8 c d e f g i j a=true):On (mkH h0 h1 b (n8 c d e f g i j a)):=by
 have⟨m,n⟩:=E5.1 k;refine⟨by show b.toNat<_;omega,Dq9 l,?_⟩;show(if ltN h0 4 then h0.toNat else 0)<4;split
 ·rename_i h;have:=E5.1 h;omega
 ·omega
theorem Cd2(c z:By)(x:Int)(y:By)(v4 m n o p t u v w k:Int)(b a:By)(O:A3 c.length=true)(P:A3 b.length=true)(A:A3 a.length=true)(B:z.isEmpty=true)(C:(k==-1)=true) :
  ∃r H,Vo LF c z x y v4 m n o p t u v w k b a (λL M D N F G I J n8 K f g h i l j d=>rv (.tup [gU L M D N F G I J n8 K f g h i l,.s (.int .i64 j)]) d)=rv r H/\
   r.stab [0,0] H=(λq=>.tup [gU (uS q) (uU q) (uK q) (uN q) (uV q) (uA q 0) (uA q 1) (uA q 2) (uA q 3) (uA q 4) (uA q 5) (uA q 6) (uA q 7) (uP q) (uR q),.s (.int .i64 (uE q))]) (H9 c b a):=by
 obtain rfl:=ad4.1 B;obtain rfl:k=-1:=by simpa using C
 obtain⟨H,e⟩:=Bl1 c x y v4 m n o p t u v w b a A;exact⟨_,_,e _ _,rfl⟩
theorem Bs0(b:UInt8):ctl b=(!ltI 32 (b.toNat:Int)||((b.toNat:Int)==127)):=by rw[o7,C72,aa5,ab2,Kv,beq_iff_eq];omega
theorem Cd3{R:Type}{a:List Blk->Option R}{b:By->Option R}(s:By)(g:s.length<=1000000000):∀(r i n:Nat),i+r=s.length->r<n->
  Jn LF n s (s.length:Int) (i:Int) a b=if (s.drop i).any ctl then a [] else b s:=by
 intro r
 induction r with
 | zero=>
  intro i n d e;obtain⟨n,rfl⟩:∃m,n=m+1:=⟨n-1,by omega⟩
  rw[Jn];rw[A6,p5 (by omega)];rfl
 | succ r f=>
  intro i n d e;obtain⟨n,rfl⟩:∃m,n=m+1:=⟨n-1,by omega⟩
  have c:A1 ((i:Int)+1)=((i+1:Nat):Int):=by rw[A7];rfl
  rw[Jn];rw[A8,E9,D3,D5 s i (by omega),c,List.any_cons,Bs0];simp only[cond_true];rw[f (i+1) n (by omega) (by omega)];cases ltI 32 ((s.getD i 0).toNat:Int) with
  | false=>rfl
  | true=>cases (((s.getD i 0).toNat:Int)==127)<;>rfl
theorem C01(s:By)(i:A3 s.length=true):∃H,∀(R:Type) (a:KU R),OR LF s a=JY a (C4 s) H:=by
 have y:=K7 i;have v:=C2;have L:∀{R:Type} (a:List Blk->Option R) (l:By->Option R),Jn LF LF s (s.length:Int) 0 a l=if s.any ctl then a [] else l s:=λa l=>Cd3 s y s.length 0 LF (by omega) (by omega)
 unfold C4;by_cases h:s.any ctl=true
 ·rw[if_pos h];apply o5;intro R a;unfold OR;rw[L,if_pos h];rfl
 rw[if_neg h];rcases U0 58 s with b|⟨p,r,rfl,b⟩
 ·apply o5;intro R a;unfold OR;rw[L,if_neg h,i,Rc b];rfl
 have B:(p++58::r).length=p.length+r.length+1:=by rw[j0,j1];omega
 have sp:A3 p.length=true:=J9;have o:A3 r.length=true:=J9;rw[Ak b];simp only[j2,ai3];cases c:W9 p with
 | false=>
  apply o5;intro R a;unfold OR;rw[L,if_neg h,i,Ak b];simp only[vl,cond_true,j2,cond_false];rw[sp,c];rfl
 | true=>
 rw[if_neg (by simp)];cases f:J1 (B9 p) with
 | false=>
  apply o5;intro R a;unfold OR;rw[L,if_neg h,i,Ak b];simp only[vl,cond_true,j2,cond_false];rw[sp,c,f];rfl
 | true=>
 rw[if_neg (by simp)];cases Um:([47,47]:By).isPrefixOf r with
 | false=>
  apply o5;intro R a;unfold OR;rw[L,if_neg h,i,Ak b];simp only[vl,cond_true,j2,cond_false];rw[sp,c,f,o,Um];rfl
 | true=>
 rw[if_neg (by simp)];have j:Gz r [47,47]=r.drop 2:=by unfold Gz;rw[Um,if_pos rfl];rfl
 generalize m:r.drop 2=t;rw[m] at j;have lt:t.length<=r.length:=by rw[<-m,c9];omega
 have u:A3 t.length=true:=J9;have z:=Yz t;have sl:A3 (B9 p).length=true:=by rw[Gf];exact sp
 have tail:∀(R:Type) (a:KU R) (X d:By),X.length<=t.length->d.length<=t.length->
   (cond (A3 (b8 X))
    (cond (not (x4 (([47]:List UInt8)) X))
     (cond (E7 1 (b8 X))
     (cond (A3 (b8 (B9 p)))
      (cond (A3 (b8 (([47]:List UInt8)++X)))
       (cond (A3 (b8 d))
       (cond (((-1):Int)==((-1):Int))
        (JY a (H9 (B9 p) (([47]:List UInt8)++X) d) ((λq=>[bU (uS q) (uU q) (uK q) (uN q) (uV q) (uA q 0) (uA q 1) (uA q 2) (uA q 3) (uA q 4) (uA q 5) (uA q 6) (uA q 7) (uP q) (uR q),bU (B9 p) [] 0 [] 0 0 0 0 0 0 0 0 0 (-1) (([47]:List UInt8)++X)]) (H9 (B9 p) (([47]:List UInt8)++X) d)))
        (none))
       (none))
       (none))
      (none))
     (none))
     (cond (A3 (b8 (B9 p)))
     (cond (A3 (b8 X))
      (cond (A3 (b8 d))
      (cond (((-1):Int)==((-1):Int))
       (JY a (H9 (B9 p) X d) ((λq=>[bU (uS q) (uU q) (uK q) (uN q) (uV q) (uA q 0) (uA q 1) (uA q 2) (uA q 3) (uA q 4) (uA q 5) (uA q 6) (uA q 7) (uP q) (uR q),bU (B9 p) [] 0 [] 0 0 0 0 0 0 0 0 0 (-1) X]) (H9 (B9 p) X d)))
       (none))
      (none))
      (none))
     (none)))
    none)=JY a (H9 (B9 p) (X1 X) d) ((λq=>[bU (uS q) (uU q) (uK q) (uN q) (uV q) (uA q 0) (uA q 1) (uA q 2) (uA q 3) (uA q 4) (uA q 5) (uA q 6) (uA q 7) (uP q) (uR q),bU (B9 p) [] 0 [] 0 0 0 0 0 0 0 0 0 (-1) (X1 X)]) (H9 (B9 p) (X1 X) d)):=by
  intro R a X d A w;rw[J9,sl,Du2,E6 (n:=d.length) (by omega)];unfold X1;by_cases g:X.head? = some 47
  ·rw[if_pos g,g];rfl
  ·have e:(X.head? == some 47)=false:=by simpa using g
   rw[if_neg g,e,G0 (by omega),E6 (by simp;omega)];rfl
 refine⟨(λX=>(λq=>[bU (uS q) (uU q) (uK q) (uN q) (uV q) (uA q 0) (uA q 1) (uA q 2) (uA q 3) (uA q 4) (uA q 5) (uA q 6) (uA q 7) (uP q) (uR q),bU (B9 p) [] 0 [] 0 0 0 0 0 0 0 0 0 (-1) (X1 X)]) (H9 (B9 p) (X1 X) (t.take (K4 t)))) (t.drop (K4 t)),λR a=>?_⟩;refine o0 ?_ (tail R a (t.drop (K4 t)) (t.take (K4 t)) (by rw[c9];omega) (by rw[j6];omega));unfold OR;rw[L,if_neg h,i,Ak b];simp only[vl,cond_true,j2,cond_false];rw[sp,c,f,o,Um,j,u];rw[show BX ([47,63,35]:List UInt8)=true from rfl,show([47,63,35]:List UInt8)=isl from rfl,Jv];simp only[cond_true,j2,cond_false];by_cases k:K4 t<t.length
 ·rw[if_pos k,A6,o6,cond_true,K6,j9,j6,Nat.min_eq_left (by omega),I1,I1,P4,j9];rfl
 ·have x:K4 t=t.length:=by omega
  rw[if_neg k,A8,j2,cond_false,I1,P4,j9,x,List.take_length,u];rfl
abbrev rvU(n o:By)(h:Int)(p:By)(i j k l n8 m b c d e:Int)(g:By)(f:Int)(a:List Blk):=rv (.tup [gU n o h p i j k l n8 m b c d e g,.s (.int .i64 f)]) a
abbrev pvU(q:X2 × Nat):PV:=.tup [gU (uS q) (uU q) (uK q) (uN q) (uV q) (uA q 0) (uA q 1) (uA q 2) (uA q 3) (uA q 4) (uA q 5) (uA q 6) (uA q 7) (uP q) (uR q),.s (.int .i64 (uE q))]
theorem Dk2(s:By)(a:A3 s.length=true):∃r H,OR LF s rvU=rv r H/\r.stab [0,0] H=pvU (C4 s):=by obtain⟨H,e⟩:=C01 s a;exact⟨_,_,e _ _,rfl⟩
theorem QK{p:Int}(h:M8 p=true):(Ks p).length<=20:=by
 obtain⟨a,b⟩:=Xg.1 h;unfold Ks;split
 ·have:=Gb 19 (-p).toNat (by omega) (by omega);rw[j1];omega
 ·have:=Gb 19 p.toNat (by omega) (by omega);omega
theorem DT(b:Int)(c:By)(v4:Int)(a:List Nat):Bt (mkH b c v4 a)=Bt (Dc9 b c v4 a):=by
 unfold mkH Dc9;cases h:ltN b 4 with
 | true=>rfl
 | false=>
  rw[if_neg (by simp),if_neg (by simp),KP (by rfl),KP (by rfl)]
theorem Fv{c d a b:By}(h:smU c d a b=true):c.length<=100000000/\d.length<=100000000/\a.length<=100000000/\b.length<=100000000:=by simp only[smU,p4,ac6,and_assoc] at h;exact h
theorem RV{l m:By}{kd:Int}{a:By}{v4 b c d e f g h i j:Int}{k:By}(h0:smU l m a k=true)(h1:ltN v4 4294967296=true)(n:ok8 b c d e f g h i=true)(o:M8 j=true) :
  (Y5 (mkU l m kd a v4 (n8 b c d e f g h i) j k)).length<=400000000:=by
 obtain⟨r,t,u,v⟩:=Fv h0;have p:=Wu (FS (h0:=kd) (h1:=a) h1 n);rw[DT] at p;have q:=QK o;unfold Y5 mkU JF;simp only;split
 ·split<;>split<;>simp only[j0,j1,y9]<;>omega
 ·simp only[j0,j1];omega
theorem C06(c n:By)(m:Int)(a:By)(v4 e f g h i j k l b:Int)(d:By)(h0:smU c n a d=true)(h1:ltN v4 4294967296=true)(t:ok8 e f g h i j k l=true)(x:M8 b=true) :
  ∃r H,Su LF c n m a v4 e f g h i j k l b d (λu q=>rv (.s (.str u)) q)=rv r H/\r.stab [] H = .s (.str (Y5 (mkU c n m a v4 (n8 e f g h i j k l) b d))):=by
 obtain⟨D,F,G,I⟩:=Fv h0;have A:=Wu (FS (h0:=m) (h1:=a) h1 t);have C:=QK x;have key:∀T:By,Su LF c n m a v4 e f g h i j k l b d (λu q=>rv (.s (.str u)) q)=rv (.s (.str T)) [bU c n m a v4 e f g h i j k l b d]->T=Y5 (mkU c n m a v4 (n8 e f g h i j k l) b d)->∃r H,Su LF c n m a v4 e f g h i j k l b d (λu q=>rv (.s (.str u)) q)=rv r H/\r.stab [] H = .s (.str (Y5 (mkU c n m a v4 (n8 e f g h i j k l) b d))):=λT y z=>⟨_,_,y,by rw[<-z];rfl⟩
 have w:A3 a.length=true:=J9;cases o:J1 c with
 | false=>
  refine key (c++[58]++d) ?_ ?_
  ·unfold Su;rw[o,G0 (by omega)];simp only[vl,cond_true,o6];rw[G0 (by simp;omega)];rfl
  ·unfold Y5 mkU;simp only[o];simp
 | true=>
  have B:=A;by_cases v:n=[]
  ·subst v;have e0:(([]:By)==([]:List UInt8))=true:=rfl;by_cases p:b=-1
   ·subst p;refine key (((c++[58,47,47])++Bt (mkH m a v4 (n8 e f g h i j k l)))++d) ?_ ?_
    ·unfold Su;rw[o,w,h1,t,e0];simp only[vl,cond_true,cond_false,j2,show((-1:Int)!=-1)=false from rfl]
     repeat rw[G0 (by first|omega|(simp only[j0,j1,y9];omega))]
     rfl
    ·unfold Y5 mkU JF;simp[o,DT]
   ·refine key (((c++[58,47,47])++Bt (mkH m a v4 (n8 e f g h i j k l)))++([58]++Ks b)++d) ?_ ?_
    ·unfold Su;rw[o,w,h1,t,x,e0];simp only[vl,cond_true,cond_false,j2,show(b !=-1)=true by simpa using p]
     repeat rw[G0 (by first|omega|(simp only[j0,j1,y9];omega))]
     rfl
    ·unfold Y5 mkU JF;simp[o,DT,p]
  ·have e0:(n==([]:List UInt8))=false:=by simpa using v
   by_cases p:b=-1
   ·subst p;refine key (((c++[58,47,47])++(n++[64])++Bt (mkH m a v4 (n8 e f g h i j k l)))++d) ?_ ?_
    ·unfold Su;rw[o,w,h1,t,e0];simp only[vl,cond_true,cond_false,j2,o6,show((-1:Int)!=-1)=false from rfl]
     repeat rw[G0 (by first|omega|(simp only[j0,j1,y9];omega))]
     rfl
    ·unfold Y5 mkU JF;simp[o,DT,v]
   ·refine key (((c++[58,47,47])++(n++[64])++Bt (mkH m a v4 (n8 e f g h i j k l)))++([58]++Ks b)++d) ?_ ?_
    ·unfold Su;rw[o,w,h1,t,x,e0];simp only[vl,cond_true,cond_false,j2,o6,show(b !=-1)=true by simpa using p]
     repeat rw[G0 (by first|omega|(simp only[j0,j1,y9];omega))]
     rfl
    ·unfold Y5 mkU JF;simp[o,DT,p,v]
theorem Db1{a:Int}{k:Nat}(d:k<4):(a==(k:Int))=(k==(if ltN a 4 then a.toNat else 4)):=by
 rw[o7,beq_iff_eq,beq_iff_eq];cases h:ltN a 4 with
 | true=>
  obtain⟨b,c⟩:=E5.1 h;rw[if_pos rfl];omega
 | false=>
  rw[if_neg (by simp)];have:¬(0<=a/\a<4):=λq=>by
   have:=E5.2 q;rw[h] at this;cases this
  omega
theorem Pi(a b:By):(a==b)=(b==a):=by rw[o7,beq_iff_eq,beq_iff_eq];exact eq_comm
theorem Av(a b:Int):(a==b)=(b==a):=by rw[o7,beq_iff_eq,beq_iff_eq];exact eq_comm
theorem Fk(a b:Nat):((a:Int)==(b:Int))=(b==a):=by rw[o7,beq_iff_eq,beq_iff_eq];omega
theorem PO{sc us:By}{kd:Int}{nm:By}{v4 a b c d f g h i po:Int}{re:By}{p:X2 × Nat}(L:ltN v4 4294967296=true)(M:ok8 a b c d f g h i=true)(P:Cf7 p.1) :
  ((sc==(uS p))&&((us==(uU p))&&((kd==(uK p))&&((nm==(uN p))&&((v4==(uV p))&&((a==(uA p 0))&&((b==(uA p 1))&&((c==(uA p 2))&&((d==(uA p 3))&&((f==(uA p 4))&&((g==(uA p 5))&&((h==(uA p 6))&&((i==(uA p 7))&&((po==(uP p))&&((re==(uR p))&&true)))))))))))))))=eqU p.1 (mkU sc us kd nm v4 (n8 a b c d f g h i) po re):=by
 obtain⟨⟨s,u,⟨k,n,v,l⟩,q,t⟩,e⟩:=p;obtain⟨K,_⟩:=P;obtain⟨B,C,D,F,G,H,I,J,rfl⟩:=eq8 K.v6.1;obtain⟨j,m,o,r,x,y,z,A,rfl,rfl,rfl,rfl,rfl,rfl,rfl,rfl,_⟩:=Rk M;obtain⟨w,rfl⟩:=x9 (E5.1 L).1;have N:k<4:=K.kd;have O:(([B,C,D,F,G,H,I,J]:List Nat)==[j,m,o,r,x,y,z,A])=((B==j)&&((C==m)&&((D==o)&&((F==r)&&((G==x)&&((H==y)&&((I==z)&&((J==A)&&true)))))))):=rfl;simp only[eqU,eqH,mkU,Dc9,n8,j9,O,aa3,ae7];rw[Db1 N,Pi sc,Pi us,Pi nm,Pi re,Av po,Fk w,Fk j,Fk m,Fk o,Fk r,Fk x,Fk y,Fk z,Fk A];simp only[Bool.and_assoc,ai2];rfl
theorem Bm0(m n:By)(kd:Int)(j:By)(v4 a b c d f g h i k:Int)(l:By)(u:smU m n j l=true)(o:ltN v4 4294967296=true)(q:ok8 a b c d f g h i=true)(v:M8 k=true) :
  ∃r H,GM LF m n kd j v4 a b c d f g h i k l (λz w=>rv (.s (.bool z)) w)=rv r H/\r.stab [] H = .s (.bool (O8 (mkU m n kd j v4 (n8 a b c d f g h i) k l))):=by
 have A:=RV (kd:=kd) u o q v;unfold GM O8;rw[u,o,q,v];simp only[vl,cond_true];rw[J9,cond_true];have x:=Xt (Y5 (mkU m n kd j v4 (n8 a b c d f g h i) k l));rw[PO o q x];generalize C4 (Y5 (mkU m n kd j v4 (n8 a b c d f g h i) k l))=p;obtain⟨y,e⟩:=p;by_cases t:e=0
 ·subst t;exact⟨_,_,rfl,rfl⟩
 ·rw[show(uE (y,e)==(0:Int))=false by simpa using t,show(e==0)=false by simpa using t];exact⟨_,_,rfl,rfl⟩
theorem Dj6(l m:By)(n:Int)(i:By)(v4 a b c d e f g h j:Int)(k:By)(p:smU l m i k=true)(q:ltN v4 4294967296=true)(t:ok8 a b c d e f g h=true)(u:M8 j=true) :
  ∃r H,Dj4 LF l m n i v4 a b c d e f g h j k (λv o=>rv (.s (.str v)) o)=rv r H/\r.stab [] H = .s (.str (Im (mkU l m n i v4 (n8 a b c d e f g h) j k))):=by
 unfold Dj4 Im;rw[p,q,t,u];cases O8 (mkU l m n i v4 (n8 a b c d e f g h) j k) with
 | false=>exact⟨_,_,rfl,rfl⟩
 | true=>exact⟨_,_,rfl,rfl⟩
end
section
open Go Go.Proofs Go.Sort
set_option maxRecDepth 100000
theorem Ab3:B3 a8 GX 157 Vz:=by
 refine B3.fix (pf:=IQ) _ (G9 (fn:=Tryz.f157) (by kernel_rfl) (by kernel_rfl) (by kernel_rfl) ?_);intro args ret j h;unfold IQ at h;split at h
 ·rename_i s c;obtain⟨l,h⟩:=C1 h;obtain⟨m,h⟩:=C1 h;obtain⟨rfl,rfl⟩:=J3 h;refine⟨rfl,rfl,λC o a p w k n d b=>?_⟩;obtain⟨U,V,rfl,f,g⟩:=b.arr2;obtain⟨i,rfl,rfl⟩:=f.inv_str;obtain rfl:=g.inv_int;refine(Any.strings_IndexByte Tryz.lays137 i c w).mono ?_;rintro e w' ⟨rfl,rfl⟩;exact⟨_,rfl,ag1 _ _,VP.mk_int _ _⟩
 ·cases h
theorem Bm8:B3 a8 GX 95 GR:=NM 9223372036854775808 (w9 _)
theorem Dl9:B3 a8 GX 123 Bn8:=by
 refine B3.fix (pf:=GZ) _ (G9 (fn:=Tryz.f123) (by kernel_rfl) (by kernel_rfl) (by kernel_rfl) ?_);intro args ret l h;unfold GZ at h;split at h
 ·rename_i n;obtain⟨b,h⟩:=C1 h;obtain⟨rfl,rfl⟩:=J3 h;refine⟨rfl,rfl,λC o a p w m c i g=>?_⟩;obtain⟨U,rfl,j⟩:=g.arr1;obtain rfl:=j.inv_int;obtain⟨d,f⟩:=Xg.1 b;refine(Any.strconv_Itoa Tryz.laysM171 n (by omega) (by omega) w (Cm3 c a)).mono ?_;rintro e w' ⟨rfl,k,os,rfl⟩;refine⟨_,rfl,(Ph w k).trans (show RowKit.Below w.heap.size _ _ from JI (w.drewN k) os),?_⟩;have:Lib.itoa n=Ks n:=by
   unfold Lib.itoa Ks;split
   ·rw[show n.natAbs=(-n).toNat by omega]
   ·rfl
  rw[this];exact VP.mk_str _
 ·cases h
theorem C40:B3 a8 GX 119 Ac8:=by
 refine B3.fix (pf:=Qu) _ (G9 (fn:=ag9) (by kernel_rfl) (by kernel_rfl) (by kernel_rfl) ?_);intro args ret A h;unfold Qu at h;split at h
 ·rename_i s p;obtain⟨i,h⟩:=C1 h;obtain⟨k,h⟩:=C1 h;obtain⟨l,h⟩:=C1 h;obtain⟨rfl,rfl⟩:=J3 h;refine⟨rfl,rfl,λC G m I w B F r q=>?_⟩;obtain⟨U,V,rfl,y,z⟩:=q.arr2;obtain⟨g,rfl,rfl⟩:=y.inv_str;obtain⟨d,rfl,a⟩:=z.inv_str;have H:=K7 i;have c:p=isl:=by simpa[BX] using k
  have D:=ab9 l;have f:=zero_of_info (P:=a8) (t:=Tryz.lays153_ren.t 116) (v:=.agg (Array.replicate 256 (.bool false))) (n:=256) (by kernel_rfl);subst c;have u:d.size=3:=by have:=ah3 d;rw[a] at this;exact this
  have x:=ah3 g;refine(Any.strings_IndexAny_long Tryz.lays153 f.1 f.2 g d w (by omega) (by omega) (by omega) (by omega) ?_).mono ?_
  ·rw[a];intro j b o;have:b∈isl:=List.mem_of_getElem? o
   revert b
   simp only[isl,w6,ad5,or_false];rintro b _ (rfl|rfl|rfl)<;>decide
  ·rintro e w' ⟨rfl,rfl⟩;rw[a];exact⟨_,rfl,((ag1 _ _).alloc (w9 _) _).alloc (by simp) _,VP.mk_int _ _⟩
 ·cases h
end
section
open Go Go.Proofs
set_option maxRecDepth 100000
theorem ZS{R:Type}{a:Bool->Option R}(n:Int):ZR LF n a=a (ltI 8 n):=rfl
theorem At3{R:Type}{a:Bool->Option R}(r:Int):NI LF r a=a (NK r):=by
 have b:ltN r 55296=(!ltI r 0&&ltI r 55296):=by
  rw[o7,E5,p4,ab2,Kv,Mr];omega
 have c:(ltI 57343 r&&ltN r 1114112)=(ltI 57343 r&&!ltI 1114111 r):=by
  rw[o7,p4,p4,E5,ab2,Kv,Mr];omega
 unfold NI Lo NK;rw[b,c];cases ltI r 0<;>cases ltI r 55296<;>cases ltI 57343 r<;>cases ltI 1114111 r<;>rfl
theorem Dt4(b:UInt8):j8 isl b=irn (b.toNat:Int):=by
 by_cases a:b=47
 ·subst a;rfl
 ·by_cases d:b=63
  ·subst d;rfl
  ·by_cases f:b=35
   ·subst f;rfl
   ·have n:∀c:UInt8,b≠c->(c==b)=false:=λc h=>by rw[beq_eq_false_iff_ne];exact ag0 h
    have e:∀c:UInt8,b≠c->¬(b.toNat:Int)=(c.toNat:Int):=λc h q=>h (ac2.1 (by omega))
    have g:¬(b.toNat:Int)=47:=e 47 a;have i:¬(b.toNat:Int)=63:=e 63 d;have j:¬(b.toNat:Int)=35:=e 35 f;unfold irn;rw[if_neg g,if_neg i,if_neg j];simp[isl,j8,n _ a,n _ d,n _ f]
theorem D17{l:By}{x:UInt8}(h:∀b∈l,b.toNat<128)(d:128<=x.toNat):j8 l x=-1:=by
 have e:=Ml x l;have c:l.contains x=false:=by
  rw[af6];intro a;have:=h x (by simpa using a);omega
 rw[c,o6,Mr] at e;have:=ag5 l x;omega
theorem Cl8{r:Int}(g:NK r=true)(h:128<=r):2<=(ab0 r).data.toList.length/\(ab0 r).data.toList.length<=4/\128<=((ab0 r).data.toList.getD ((ab0 r).data.toList.length-1) 0).toNat:=by
 have a:Utf8.valid r=true:=by
  rw[validRune_eq];unfold validRune;simp only[NK,aa5,p4,E5,Mr] at g;exact decide_eq_true (by omega)
 obtain⟨b,c,d⟩:=encode_facts r a h;have f:=ah3 (ab0 r);rw[<-f];refine⟨b,c,?_⟩;have e:=d (by omega);rw[List.getD_eq_getElem?_getD,ad1 (by omega),ag7];exact e
theorem Cb6(r:Int)(h:ltN r 1114112=true):∃v H,NB LF r (λk=>rv (.s (.int .i64 k)) []) (λk I=>rv (.s (.int .i64 k)) [.iter [47,63,35] I])=rv v H/\v.stab [] H = .s (.int .i64 (irn r)):=by
 obtain⟨A,M⟩:=E5.1 h;have B:=C2;unfold NB;rw[A6,o6,cond_true];unfold Lk;by_cases p:r<128
 ·obtain⟨n,rfl⟩:=x9 A;have e:wu8 (n:Int)=(n:Int):=M4;have f:u8n (n:Int)=ac1 n:=by unfold u8n;simp
  have g:(((ac1 n).toNat:Nat):Int)=(n:Int):=by simp;omega
  rw[A8,cond_true,e,E9,f];have o:=Dt4 (ac1 n);rw[g] at o;rw[<-o];exact⟨_,_,rfl,rfl⟩
 ·rw[A6,cond_false,Cn7 (by omega)];by_cases t:r=65533
  ·subst t;obtain⟨m,i⟩:∃m,LF=m+1+1+1+1:=⟨LF-4,by omega⟩
   have w:x3 ⟨p9 ([47,63,35]:List UInt8)⟩ 0=(47,1):=rfl;have x:x3 ⟨p9 ([47,63,35]:List UInt8)⟩ 1=(63,1):=rfl;have y:x3 ⟨p9 ([47,63,35]:List UInt8)⟩ 2=(35,1):=rfl;have go:∀(R:Type) (c:Int->Nat->Option R) (a:Nat->Option R),Z5 LF LF 0 c a=a 3:=λR c a=>by
    have L:Z5 LF (m+1) 3 c a=a 3:=by rw[En];rfl
    have K:Z5 LF (m+1+1) 2 c a=a 3:=by rw[En];unfold Dr;rw[y];exact L
    have J:Z5 LF (m+1+1+1) 1 c a=a 3:=by rw[En];unfold Dr;rw[x];exact K
    have d:Z5 LF (m+1+1+1+1) 0 c a=a 3:=by rw[En];unfold Dr;rw[w];exact J
    rw[<-i] at d;exact d
   rw[go];exact⟨_,_,rfl,rfl⟩
  ·rw[show(r==(65533:Int))=false by simpa using t,cond_false];cases F:NK r with
   | false=>exact⟨_,_,rfl,rfl⟩
   | true=>
    obtain⟨O,P,G⟩:=Cl8 F (by omega);simp only[vl,j2,cond_false];generalize (ab0 r).data.toList=l at *;obtain⟨m,i⟩:∃m,LF=m+1:=⟨LF-1,by omega⟩
    have z:A1 ((l.length:Int)-1)=((l.length-1:Nat):Int):=by rw[A7];omega
    have go:∀(R:Type) (c:Int->Option R) (a:Unit->Option R),a ()=c (-1)->Gm LF LF l ((l.length-1:Nat):Int) c a=c (-1):=λR c a C=>by
     have d:Gm LF (m+1) l ((l.length-1:Nat):Int) c a=c (-1):=by
      rw[EV];unfold No;by_cases N:l.length=4
      ·rw[A6];exact C
      ·rw[A8,E9,E9,D3,D3];simp only[vl,cond_true];have D:(([47,63,35]:List UInt8).getD (l.length-1) 0).toNat<128:=by
        have:l.length=2\/l.length=3:=by omega
        rcases this with q|q<;>rw[q]<;>decide
       have j:((((([47,63,35]:List UInt8).getD (l.length-1) 0).toNat:Nat):Int)!=(((l.getD (l.length-1) 0).toNat:Nat):Int))=true:=by
        rw[bne_iff_ne];omega
       have f:A1 (((l.length-1:Nat):Int)+1)=((l.length:Nat):Int):=by rw[A7];omega
       have g:cut ([47,63,35]:List UInt8) ((l.length:Nat):Int) 3=([47,63,35]:List UInt8).drop l.length:=by
        rw[show(3:Int)=((3:Nat):Int) from rfl,Fd];rfl
       have u:=(l.getD (l.length-1) 0).toNat_lt;rw[j,cond_true,f,I1,cond_true,g,E6 (by simp;omega),cond_true,E9,cond_true,Jm,D17 (λb u=>?_) G]
       ·rfl
       ·have:=w8 u;simp only[w6,ad5,or_false] at this;rcases this with rfl|rfl|rfl<;>decide
     rw[<-i] at d;exact d
    rw[z,go _ _ _ rfl];exact⟨_,_,rfl,rfl⟩
theorem Cf2:B3 a8 GX 160 AJ:=by
 refine B3.fix (pf:=Tg) _ (J2 [] (C₀:=BC LF) (M5.ok (l:=[]) rfl trivial) (I9 rfl (by kernel_rfl)) follows ?_);intro args ret a h;unfold Tg at h;split at h
 ·rename_i n;obtain⟨rfl,rfl⟩:=J3 h;have e:=(Bk0 LF noY () 0 n).trans (ZS n);exact⟨rfl,rfl,rfl,1,_,_,e,rfl⟩
 ·cases h
theorem C48:B3 a8 GX 196 IZ:=by
 refine B3.fix (pf:=AO) _ (J2 [] (C₀:=Ca LF) (M5.ok (l:=[]) rfl trivial) (I9 rfl (by kernel_rfl)) follows ?_);intro args ret a h;unfold AO at h;split at h
 ·rename_i n;obtain⟨rfl,rfl⟩:=J3 h;have e:=(Cd7 LF noY () 0 n).trans (At3 n);exact⟨rfl,rfl,rfl,1,_,_,e,rfl⟩
 ·cases h
theorem C43:B3 a8 GX 161 Oy:=λargs ret a h=>by
 have:L9 (Oy args)=none:=by unfold Oy OY;split<;>rfl
 rw[this] at h;cases h
theorem C42:B3 a8 GX 159 IR:=by
 refine B3.fix (pf:=AI) _ (J2 [] (C₀:=L5 LF) (M5.ok (l:=[(157,Vz),(196,IZ)]) rfl ⟨Ab3,C48,trivial⟩) (I9 rfl (by kernel_rfl)) follows ?_);intro args ret f h;unfold AI at h;split at h
 ·rename_i p r;obtain⟨a,h⟩:=C1 h;obtain⟨b,h⟩:=C1 h;obtain⟨rfl,rfl⟩:=J3 h;obtain rfl:p=isl:=by simpa[BX] using a
  obtain⟨d,H,e,c⟩:=Cb6 r b;exact⟨rfl,rfl,rfl,1,d,H,(Cb5 LF noY () 0 r).trans e,c⟩
 ·cases h
theorem ND:∀(w:Nat) (l:By),w<=l.length->(∀i,i<w->W6 (l.getD i 0)=false)->K4 l=w+K4 (l.drop w)
 | 0,l,_,_=>by simp
 | w+1,[],h,_=>by simp at h
 | w+1,b::l,h,hb=>by
  have a:=hb 0 (by omega);rw[aa3] at a;have d:=ND w l (by simpa using h) (λi c=>by have:=hb (i+1) (by omega);rwa [ae7] at this);rw[Ib,a,List.drop_succ_cons];simp only[o9,if_false];omega
theorem Ar3(s:By)(O:s.length<=8):∀(f m n:Nat),s.length-m<=f->m<=s.length->f<n->∃H t,∀(R:Type) (j:Int->List Blk->Option R) (k:By->Nat->Option R),
  Lj LF n s m j k=if K4 (s.drop m)<(s.drop m).length then j ((m+K4 (s.drop m):Nat):Int) H else k s t:=by
 intro f
 induction f with
 | zero=>
  intro m n G K L;obtain⟨n,rfl⟩:∃q,n=q+1:=⟨n-1,by omega⟩
  refine⟨[],m,λR j k=>?_⟩;rw[Bp];unfold Y4;rw[decide_eq_false (by omega),cond_false,p5 (by omega),if_neg (by simp)]
 | succ f z=>
  intro m n G K L;obtain⟨n,rfl⟩:∃q,n=q+1:=⟨n-1,by omega⟩
  by_cases a:m<s.length
  ·have F:=Lib.decodeL_drop ⟨s.toArray⟩ m;have h:x3 ⟨p9 s⟩ m=aa0 (s.drop m):=by rw[<-F]
   have p:=D5 s m a;have N:(s.drop m).length=s.length-m:=c9;generalize M:s.getD m 0=b at p;by_cases o:b.toNat<128
   ·have y:aa0 (s.drop m)=(b.toNat,1):=by rw[p];exact Lib.decodeL_ascii b _ o
    have l:=Dt5 b;cases g:W6 b with
    | true=>
     rw[g,j2] at l;have u:K4 (s.drop m)=0:=by rw[p,Ib,g];rfl
     refine⟨[Blk.iter s (m+1)],m,λR j k=>?_⟩;rw[Bp];unfold Y4;rw[decide_eq_true a,h,y,u,T5];simp only[vl,cond_true];rw[show BX ([47,63,35]:List UInt8)=true from rfl,cond_true,E5.2 ⟨by omega,by omega⟩,cond_true,l];rfl
    | false=>
     rw[g,o6] at l;have u:K4 (s.drop m)=K4 (s.drop (m+1))+1:=by rw[p,Ib,g];rfl
     have v:(s.drop (m+1)).length=s.length-(m+1):=c9;obtain⟨H,t,e⟩:=z (m+1) n (by omega) (by omega) (by omega);refine⟨H,t,λR j k=>?_⟩;rw[Bp];unfold Y4;rw[decide_eq_true a,h,y];simp only[vl,cond_true];rw[show BX ([47,63,35]:List UInt8)=true from rfl,cond_true,E5.2 ⟨by omega,by omega⟩,cond_true,l,j2,cond_false,e,u];by_cases q:K4 (s.drop (m+1))<(s.drop (m+1)).length
     ·rw[if_pos q,T5,show m+1+K4 (s.drop (m+1))=m+(K4 (s.drop (m+1))+1) by omega]
     ·rw[if_neg q,G3]
   ·obtain⟨A,B,C,D,x⟩:=Ds4 b (s.drop (m+1)) (by omega);rw[<-p] at A B C D x;have v:(s.drop (m+1)).length=s.length-(m+1):=c9;generalize aa0 (s.drop m)=d at *;obtain⟨c,w⟩:=d;simp only at A B C D x;have r:=ND w (s.drop m) (by omega) (λi I=>Cx4 (x i I));rw[List.drop_drop] at r;have J:(s.drop (m+w)).length=s.length-(m+w):=c9;have l:ltI (irn (c:Int)) 0=true:=by rw[Cn7 (by omega)];rfl
    obtain⟨H,t,e⟩:=z (m+w) n (by omega) (by omega) (by omega);refine⟨H,t,λR j k=>?_⟩;rw[Bp];unfold Y4;rw[decide_eq_true a,h];simp only[vl,cond_true];rw[show BX ([47,63,35]:List UInt8)=true from rfl,cond_true,E5.2 ⟨by omega,by omega⟩,cond_true,l,j2,cond_false,e,r];by_cases q:K4 (s.drop (m+w))<(s.drop (m+w)).length
    ·rw[if_pos q,T5,show m+w+K4 (s.drop (m+w))=m+(w+K4 (s.drop (m+w))) by omega]
    ·rw[if_neg q,G3]
  ·refine⟨[],m,λR j k=>?_⟩;rw[Bp];unfold Y4;rw[decide_eq_false a,cond_false,p5 (by omega),if_neg (by simp)]
theorem Cb3(s:By)(h:s.length<=8):∃r H,ZL LF s (λc a=>rv (.s (.int .i64 c)) a)=rv r H/\r.stab [] H = .s (.int .i64 (aa1 s isl)):=by
 have b:=C2;obtain⟨H,d,e⟩:=Ar3 s h s.length 0 LF (by omega) (by omega) (by omega);unfold ZL;rw[A6,cond_false,e,Jv,ah9,ad8];by_cases q:K4 s<s.length
 ·rw[if_pos q,if_pos q];exact⟨_,_,rfl,rfl⟩
 ·rw[if_neg q,if_neg q];exact⟨_,_,rfl,rfl⟩
theorem C41:B3 a8 GX 119 Ac9:=by
 refine B3.fix (pf:=Qv) _ (J2 [] (C₀:=Gu LF) (M5.ok (l:=[(159,IR),(160,AJ),(161,Oy)]) rfl ⟨C42,Cf2,C43,trivial⟩) (I9 rfl (by kernel_rfl)) follows ?_);intro args ret f h;unfold Qv at h;split at h
 ·rename_i s p;obtain⟨a,h⟩:=C1 h;obtain⟨b,h⟩:=C1 h;obtain⟨rfl,rfl⟩:=J3 h;obtain rfl:p=isl:=by simpa[BX] using a
  obtain⟨d,H,e,c⟩:=Cb3 s (ab9 b);exact⟨rfl,rfl,rfl,1,d,H,(Cb2 LF noY () 0 s).trans e,c⟩
 ·cases h
theorem Z6{c:Bool}{t:Tr}(h:c=true):L9 (.need c t)=L9 t:=by subst h;rfl
theorem Do6:B3 a8 GX 119 UU:=λargs ret c h=>by
 have a:=C40 args ret c;have b:=C41 args ret c;unfold UU at h;unfold Ac8 at a;unfold Ac9 at b;generalize B8 [[0],[0]] args=l at h a b;unfold Ac7 at h;split at h
 ·rename_i s p;obtain⟨e,h⟩:=C1 h;obtain⟨d,h⟩:=C1 h;by_cases f:s.length<=8
  ·refine b ?_;unfold Qv;rw[Z6 d,Z6 (ae3 f)];exact h
  ·refine a ?_;unfold Qu;rw[Z6 e,Z6 d,Z6 (ae3 (by omega))];exact h
 ·cases h
section
theorem Dm4:B3 a8 GX 203 Bo1:=xf [] (WB LF) HH rfl ⟨Bn0,trivial⟩ rfl (by kernel_rfl) follows λargs=>by
 unfold HH;split
 ·rename_i s p;exact λa=>⟨rfl,rfl,rfl,_,_,(Co9 LF noY () 0 s p).trans (A66 s p a),rfl⟩
 ·trivial
theorem Dz3:B3 a8 GX 166 Ci0:=xf [] (A09 LF) UY rfl ⟨Dm4,trivial⟩ rfl (by kernel_rfl) follows λargs=>by
 unfold UY;split
 ·rename_i s p;exact λa=>⟨rfl,rfl,rfl,_,_,(Dj2 LF noY () 0 s p).trans (Cc6 s p a),rfl⟩
 ·trivial
theorem GN:B3 a8 GX 124 Wb:=xf [] (WT LF) IW rfl trivial rfl (by kernel_rfl) follows λargs=>by
 unfold IW;split
 ·rename_i s;exact⟨rfl,rfl,rfl,_,_,(C00 LF noY () 0 s).trans (Bl3 s ),rfl⟩
 ·trivial
theorem Ab4:B3 a8 GX 117 FM:=xf [] (WU LF) IX rfl ⟨GN,trivial⟩ rfl (by kernel_rfl) follows λargs=>by
 unfold IX;split
 ·rename_i s;exact⟨rfl,rfl,rfl,_,_,(C04 LF noY () 0 s).trans (Bl8 s ),rfl⟩
 ·trivial
theorem C45:B3 a8 GX 84 Ax4:=xf [] (A11 LF) VA rfl ⟨GN,trivial⟩ rfl (by kernel_rfl) follows λargs=>by
 unfold VA;split
 ·rename_i n o j k v4 a b c d f g h i l m;exact(let⟨r,H,e,q⟩:=Dj8 n o j k v4 a b c d f g h i l m ; ⟨rfl,rfl,rfl,r,H,(Dj7 LF noY () 0 n o j k v4 a b c d f g h i l m).trans e,q⟩)
 ·trivial
theorem Dz7:B3 a8 GX 115 Ci5:=xf [] (Ad LF) VD rfl ⟨Ab3,trivial⟩ rfl (by kernel_rfl) follows λargs=>by
 unfold VD;split
 ·rename_i s;exact λa=>⟨rfl,rfl,rfl,_,_,(Dk4 LF noY () 0 s).trans (Cd5 s a),rfl⟩
 ·trivial
theorem Dz5:B3 a8 GX 165 Ci3:=xf [0,0] (Ug LF) VB rfl trivial rfl (by kernel_rfl) follows λargs=>by
 unfold VB;split
 ·rename_i s;exact λa=>⟨rfl,rfl,rfl,_,_,(Dk0 LF noY () 0 s).trans (Cc9 s a),rfl⟩
 ·trivial
theorem C46:B3 a8 GX 121 Ad1:=xf [0,0] (X8 LF) AM rfl ⟨By4,Ab1,Ab3,C21,Dz3,Dz5,GN,trivial⟩ rfl (by kernel_rfl) follows λargs=>by
 unfold AM;split
 ·rename_i o p k l v4 b c d f g h i j m n a;exact λt=>λu=>λv=>λw=>λx=>(let⟨r,H,e,q⟩:=Cd2 o p k l v4 b c d f g h i j m n a t u v w x;⟨rfl,rfl,rfl,r,H,(Cd1 LF noY () 0 o p k l v4 b c d f g h i j m n a).trans e,q⟩)
 ·trivial
theorem Dz6:B3 a8 GX 82 Ci4:=xf [0,0] (Uh LF) VC rfl ⟨C39,Dz7,C25,Ab4,C17,Do6,Ab1,C46,trivial⟩ rfl (by kernel_rfl) follows λargs=>by
 unfold VC;split
 ·rename_i s;exact λa=>(let⟨r,H,e,q⟩:=Dk2 s a;⟨rfl,rfl,rfl,r,H,(Dk1 LF noY () 0 s).trans e,q⟩)
 ·trivial
theorem Bz1:B3 a8 GX 83 VE:=xf [] (WW LF) IY rfl ⟨Ab4,C20,Dl9,trivial⟩ rfl (by kernel_rfl) follows λargs=>by
 unfold IY;split
 ·rename_i n o j k v4 a b c d f g h i l m;exact λp=>λt=>λu=>λv=>(let⟨r,H,e,q⟩:=C06 n o j k v4 a b c d f g h i l m p t u v;⟨rfl,rfl,rfl,r,H,(C05 LF noY () 0 n o j k v4 a b c d f g h i l m).trans e,q⟩)
 ·trivial
theorem DE:B3 a8 GX 51 Qw:=xf [] (BE LF) Ti rfl ⟨Bz1,Dz6,trivial⟩ rfl (by kernel_rfl) follows λargs=>by
 unfold Ti;split
 ·rename_i n o j k v4 a b c d f g h i l m;exact λp=>λt=>λu=>λv=>(let⟨r,H,e,q⟩:=Bm0 n o j k v4 a b c d f g h i l m p t u v;⟨rfl,rfl,rfl,r,H,(Bl9 LF noY () 0 n o j k v4 a b c d f g h i l m).trans e,q⟩)
 ·trivial
theorem Dz4:B3 a8 GX 85 Ci2:=xf [] (A10 LF) UZ rfl ⟨DE,Bz1,trivial⟩ rfl (by kernel_rfl) follows λargs=>by
 unfold UZ;split
 ·rename_i n o j k v4 a b c d f g h i l m;exact λp=>λt=>λu=>λv=>(let⟨r,H,e,q⟩:=Dj6 n o j k v4 a b c d f g h i l m p t u v;⟨rfl,rfl,rfl,r,H,(Dj5 LF noY () 0 n o j k v4 a b c d f g h i l m).trans e,q⟩)
 ·trivial
end
end
section
open Go Go.Proofs Go.RowKit
set_option maxRecDepth 100000
abbrev Ag(m n:ByteArray)(i:Int)(j:ByteArray)(v4 a b c d e f g h k:Int)(l:ByteArray):Array Value:=#[.string m,.string n,.int .i64 i,.string j,.int .u32 v4,.int .u16 a,.int .u16 b,.int .u16 c,.int .u16 d,.int .u16 e,.int .u16 f,.int .u16 g,.int .u16 h,.int .i64 k,.string l]
abbrev Jh:ByteArray:=⟨#[104,116,116,112]⟩
abbrev Kc:ByteArray:=⟨#[104,116,116,112,115]⟩
abbrev sWs:ByteArray:=⟨#[119,115]⟩
abbrev ZI:ByteArray:=⟨#[119,115,115]⟩
abbrev Il:MapEntry:={ key:=.string Jh,val:=.string Kc,born:=0 }
abbrev Uk:MapEntry:={ key:=.string sWs,val:=.string ZI,born:=1 }
theorem Wc(w:World)(o:Obj):(w.alloc o).heap[w.heap.size]? = some o:=(MapKept.heap_alloc w o).1
theorem PD(w:World)(o p:Obj):({ (w.alloc o) with heap:=(w.alloc o).heap.setIfInBounds w.heap.size p }:World)=w.alloc p:=by
 have e:(w.heap.push o).setIfInBounds w.heap.size p=w.heap.push p:=by
  apply ag3.1;rw[Array.toList_setIfInBounds,af5,af5,<-x5,List.set_append_right _ _ (w9 _),af9];rfl
 show({ w with heap:=(w.heap.push o).setIfInBounds w.heap.size p }:World) = { w with heap:=w.heap.push p }
 rw[e]
theorem Cp1{P:Program}{t k e:TypeId}(b:P.underlying t=some (.map k e))(a:P.underlying k=some .string)(w:World):(ae1 t (.map (some w.heap.size)) (.string Jh) (.string Kc)).run P (w.alloc (.map #[] 0)) = .ok () (w.alloc (.map #[Il] 1)):=by rw[run_mapUpdate_first (w:=w.alloc (.map #[] 0)) t k e w.heap.size 0 Jh (.string Kc) b a (Wc w _),PD]
theorem Cp2{P:Program}{t k e:TypeId}(f:P.underlying t=some (.map k e))(b:P.underlying k=some .string)(w:World):(ae1 t (.map (some w.heap.size)) (.string sWs) (.string ZI)).run P (w.alloc (.map #[Il] 1)) = .ok () (w.alloc (.map #[Il,Uk] 2)):=by have a:=Wc w (.map #[Il] 1);have d:af0 .string (.string sWs) (#[Il]:Array MapEntry).toList 0=some none:=rfl;have c:(ah8 false 10000 k (.string sWs)).run P (w.alloc (.map #[Il] 1)) = .ok () (w.alloc (.map #[Il] 1)):=ae5 (k:=.string sWs) b (by simp[ai5]) false 9999;simp only[ae1,Sem.run_bind,run_underlying f,ab6 a,c,ac3 b d,MapKept.run_setObj_map _ a,ae6];exact congrArg (Result.ok ()) (PD w (.map #[Il] 1) (.map #[Il,Uk] 2))
theorem XW{P:Program}{t k e:TypeId}(g:P.underlying t=some (.map k e))(c:P.underlying k=some .string)(w:World):(ab3 t (.map (some w.heap.size)) (.string Jh) false).run P (w.alloc (.map #[Il,Uk] 2)) = .ok (.string Kc) (w.alloc (.map #[Il,Uk] 2))/\(ab3 t (.map (some w.heap.size)) (.string sWs) false).run P (w.alloc (.map #[Il,Uk] 2)) = .ok (.string ZI) (w.alloc (.map #[Il,Uk] 2)):=by
 have d:=Wc w (.map #[Il,Uk] 2);have h:af0 .string (.string Jh) (#[Il,Uk]:Array MapEntry).toList 0=some (some (0,.string Kc)):=rfl;have a:af0 .string (.string sWs) (#[Il,Uk]:Array MapEntry).toList 0=some (some (1,.string ZI)):=rfl;have f:∀s b,(ah8 b 10000 k (.string s)).run P (w.alloc (.map #[Il,Uk] 2)) = .ok () (w.alloc (.map #[Il,Uk] 2)):=λs b=>ae5 (k:=.string s) c (by simp[ai5]) b 9999
 constructor
 ·simp[ab3,run_underlying g,ab6 d,f,ac3 c h,ae6]
 ·simp[ab3,run_underlying g,ab6 d,f,ac3 c a,ae6]
theorem size_alloc(w:World)(o:Obj):(w.alloc o).heap.size=w.heap.size+1:=ae0 ..
theorem Xd(w:World)(A B C D:Obj):((((w.alloc A).alloc B).alloc C).alloc D).heap[w.heap.size+1]? = some B:=by
 have e:∀(w:World) (o:Obj) (i:Nat),i<w.heap.size->(w.alloc o).heap[i]? = w.heap[i]?:=λw o i h=>by
  show(w.heap.push o)[i]? = w.heap[i]?;rw[Array.getElem?_push,if_neg (Nat.ne_of_lt h)]
 rw[e _ _ _ (by simp only[size_alloc];omega),e _ _ _ (by simp only[size_alloc];omega),<-size_alloc w A];exact Wc (w.alloc A) B
theorem Af7(w:World)(o:Obj)(n:Nat):(w.alloc o).drewN n=(w.drewN n).alloc o:=rfl
theorem B64(w:World):Calls a8 124 #[.string Jh] w λe w'=>e = .returned (.int .i64 80)/\w'=w:=by
 go_enter ab7,ad2
 go_wp2
 go_ret
 exact⟨rfl,rfl⟩
theorem A94(w:World):Calls a8 124 #[.string Kc] w λe w'=>e = .returned (.int .i64 443)/\w'=w:=by
 go_enter ab7,ad2
 go_wp2
 go_ret
 exact⟨rfl,rfl⟩
theorem De4(w:World):Calls a8 124 #[.string sWs] w λe w'=>e = .returned (.int .i64 80)/\w'=w:=by
 go_enter ab7,ad2
 go_wp2
 go_ret
 exact⟨rfl,rfl⟩
theorem Cr5(w:World):Calls a8 124 #[.string ZI] w λe w'=>e = .returned (.int .i64 443)/\w'=w:=by
 go_enter ab7,ad2
 go_wp2
 go_ret
 exact⟨rfl,rfl⟩
theorem Cn5(a o l n:ByteArray)(k v4 b c d f g h i j m:Int)(q:∀w,Calls a8 124 #[.string a] w λe w'=>e = .returned (.int .i64 80)/\w'=w)(w:World):Calls a8 84 #[.agg (Ag a o k l v4 b c d f g h i j m n)] w λe w'=>e = .returned (.bool true)/\w'=w.alloc (.cells (Ag a o k l v4 b c d f g h i j m n) 55):=by
 have p:∀args w,(callFunc 124 args).run a8 w = .ok (.enter 124 args) w:=enters_of ab7 (by kernel_rfl) rfl
 go_enter aj8,Tryz.ntmps84
 go_wp2_with (go_at_fn 124;refine(q _).mono ?_;rintro e w' ⟨rfl,r⟩;rw[r])
 go_ret
 exact⟨rfl,rfl⟩
theorem Bx7(x g y u v:ByteArray)(t v4 i j k l m n o p c f:Int)(L:c=443->f=-1)(M:¬c=443->f=c)
  (b:∀w,Calls a8 84 #[.agg (Ag x y t u v4 i j k l m n o p c v)] w λe w'=>e = .returned (.bool true)/\w'=w.alloc (.cells (Ag x y t u v4 i j k l m n o p c v) 55))
  (J:∀w:World,(ab3 125 (.map (some w.heap.size)) (.string x) false).run a8 (w.alloc (.map #[Il,Uk] 2)) = .ok (.string g) (w.alloc (.map #[Il,Uk] 2)))
  (d:∀w,Calls a8 124 #[.string g] w λe w'=>e = .returned (.int .i64 443)/\w'=w) (w:World) :
  Calls a8 86 #[.agg (Ag x y t u v4 i j k l m n o p c v)] w λe w'=>e = .returned (.agg (Ag g y t u v4 i j k l m n o p f v))/\Below w.heap.size w w':=by
 have z:∀args w,(callFunc 84 args).run a8 w = .ok (.enter 84 args) w:=enters_of aj8 (by kernel_rfl) rfl;have K:∀args w,(callFunc 124 args).run a8 w = .ok (.enter 124 args) w:=enters_of ab7 (by kernel_rfl) rfl;have H:=@run_makeMap a8;have q:∀(w:World) A B C,(((w.alloc A).alloc B).alloc C).heap.size=w.heap.size+1+1+1:=λw A B C=>by simp only[aj9,ae0]
 have D:∀(w:World) A B C,_:=λw A B C=>q w A B C▸Cp1 (P:=a8) p6 v7 (((w.alloc A).alloc B).alloc C)
 have F:∀(w:World) A B C,_:=λw A B C=>q w A B C▸Cp2 (P:=a8) p6 v7 (((w.alloc A).alloc B).alloc C)
 have G:∀(w:World) A B C,_:=λw A B C=>q w A B C▸J (((w.alloc A).alloc B).alloc C)
 clear J
 go_enter Tryz.func86,Tryz.ntmps86
 go_wp2_with (go_at_fn 84;refine(b _).mono ?_;rintro e w' ⟨rfl,N⟩;rw[N])
 clear b H z
 go_quiet (first|(go_at_call 124;exact Calls.quiet_of_same (d _)))
 obtain⟨h,a⟩:∃h,h=w.drewN nq:=⟨_,rfl⟩
 have r:w.heap.size=h.heap.size:=by rw[a];rfl
 have I:Below h.heap.size w h:=by rw[<-r,a];exact⟨rfl,rfl,rfl,w9 _,λ_ _=>rfl⟩
 simp only[Af7,<-a,r];clear D F G q a
 go_wp2
 all_goals (try simp only[Exit.inBlock,Exit.then])
 ·have e:=L (by first|rfl|simpa using ‹(c==443)=true›);subst e;refine bodyPost_ret (results_cell_row rfl _ _ (h.heap.size+1) 55 _ _ _ rfl (Xd _ _ _ _ _) ab8 rfl (by kernel_rfl)) rfl ⟨rfl,?_⟩;rw[r];exact(((I.alloc (w9 _) _).alloc (by simp only[size_alloc];omega) _).alloc (by simp only[size_alloc];omega) _).alloc (by simp only[size_alloc];omega) _
 ·have e:=M (by first|assumption|simpa using ‹(c==443)=false›);subst e;refine bodyPost_ret (results_cell_row rfl _ _ (h.heap.size+1) 55 _ _ _ rfl (Xd _ _ _ _ _) ab8 rfl (by kernel_rfl)) rfl ⟨rfl,?_⟩;rw[r];exact(((I.alloc (w9 _) _).alloc (by simp only[size_alloc];omega) _).alloc (by simp only[size_alloc];omega) _).alloc (by simp only[size_alloc];omega) _
end
section
open Go Go.Proofs
set_option maxRecDepth 100000
section
variable {Z R : Type} (L : Nat) (Y : F8) (Q : Yh Z) (s : Z) (k : Out -> St Z -> Option R)
noncomputable def A12(L:Nat):Cfg:=B5 L [86] (A2 []) [(84,Ax4),(124,Wb)] (A2 [(6,[2]),(5,[1,0]),(4,[1,0,15]),(3,[1,0]),(2,[2]),(1,[1,0,2]),(0,[1,0])]) [84,124] (A2 []) (some [2]) [] [] []
noncomputable def Dk5{R:Type}(L:Nat)(f g:By)(h:Int)(i:By)(j l m n u8 o a b c d:Int)(e:By)(p:By->By->Int->By->Int->Int->Int->Int->Int->Int->Int->Int->Int->Int->By->(List Blk)->Option R):Option R:=cond (not (M9 f)) (p f g h i j l m n u8 o a b c d e [(bU f g h i j l m n u8 o a b c d e),(bU f g h i j l m n u8 o a b c d e)]) none
theorem Dk6(d:Nat)(u0 u1 u2 u3 u4 u5 u6 u7 u8 u9 u10 u11 u12 u13 u14):evC (A12 L) (d+1) Z Q 86 [(gU u0 u1 u2 u3 u4 u5 u6 u7 u8 u9 u10 u11 u12 u13 u14)] [] s=Dk5 L u0 u1 u2 u3 u4 u5 u6 u7 u8 u9 u10 u11 u12 u13 u14 (λh i j l m n o p r8 q b c e f g a=>some ((gU h i j l m n o p r8 q b c e f g),a,s)):=by refine(evE (fn:=Tryz.f86) (by kernel_rfl)).trans ?_;generalize evC (A12 L) d=Y;unfold Dk5;kernel_rfl
end
end
section
open Go Go.Proofs Go.RowKit
set_option maxRecDepth 100000
theorem Cn6{Γ:Ctx}{sh:Nat->Option Shp}{w:World}{V:Value}{I J:By}{D:Int}{F:By}{v4 t u v x y z B C G:Int}{H:By}(h:VP Γ sh w (gU I J D F v4 t u v x y z B C G H) V) :
  ∃d e b c:ByteArray,I=d.data.toList/\J=e.data.toList/\F=b.data.toList/\H=c.data.toList/\V = .agg (Ag d e D b v4 t u v x y z B C G c):=by
 obtain⟨A,rfl,hA,a⟩:=h.inv_agg;have hs:A.size=15:=hA;obtain⟨_,e0,T⟩:=a 0 (show 0<15 by omega);obtain⟨_,K,U⟩:=a 1 (show 1<15 by omega);obtain⟨_,L,W⟩:=a 2 (show 2<15 by omega);obtain⟨_,M,X⟩:=a 3 (show 3<15 by omega);obtain⟨_,N,Y⟩:=a 4 (show 4<15 by omega);obtain⟨_,O,Z⟩:=a 5 (show 5<15 by omega);obtain⟨_,P,q6⟩:=a 6 (show 6<15 by omega);obtain⟨_,Q,q7⟩:=a 7 (show 7<15 by omega);obtain⟨_,R,q8⟩:=a 8 (show 8<15 by omega);obtain⟨_,S,q9⟩:=a 9 (show 9<15 by omega);obtain⟨_,f,m⟩:=a 10 (show 10<15 by omega);obtain⟨_,g,o⟩:=a 11 (show 11<15 by omega);obtain⟨_,j,p⟩:=a 12 (show 12<15 by omega);obtain⟨_,k,q⟩:=a 13 (show 13<15 by omega);obtain⟨_,l,r⟩:=a 14 (show 14<15 by omega);obtain⟨d,rfl,rfl⟩:=VP.inv_str T;obtain⟨e,rfl,rfl⟩:=VP.inv_str U;obtain rfl:=VP.inv_int W;obtain⟨b,rfl,rfl⟩:=VP.inv_str X;obtain rfl:=VP.inv_int Y;obtain rfl:=VP.inv_int Z;obtain rfl:=VP.inv_int q6;obtain rfl:=VP.inv_int q7;obtain rfl:=VP.inv_int q8;obtain rfl:=VP.inv_int q9;obtain rfl:=VP.inv_int m;obtain rfl:=VP.inv_int o;obtain rfl:=VP.inv_int p;obtain rfl:=VP.inv_int q;obtain⟨c,rfl,rfl⟩:=VP.inv_str r;refine⟨d,e,b,c,rfl,rfl,rfl,rfl,?_⟩
 congr 1
 apply Array.ext_getElem?;intro i
 match i with
 | 0=>exact e0
 | 1=>exact K
 | 2=>exact L
 | 3=>exact M
 | 4=>exact N
 | 5=>exact O
 | 6=>exact P
 | 7=>exact Q
 | 8=>exact R
 | 9=>exact S
 | 10=>exact f
 | 11=>exact g
 | 12=>exact j
 | 13=>exact k
 | 14=>exact l
 | n+15=>rw[ab1 (by omega),ab1 (by simp)]
theorem Bu6{t:Ctx}{sh:Nat->Option Shp}{w:World}(c d:ByteArray)(p:Int)(a:ByteArray)(v4 e f g i k l m o q:Int)(b:ByteArray) :
  VP t sh w (gU c.data.toList d.data.toList p a.data.toList v4 e f g i k l m o q b.data.toList) (.agg (Ag c d p a v4 e f g i k l m o q b)):=by
 refine VP.mk_agg rfl λj r=>?_
 match j,r with
 | 0,_=>exact⟨_,rfl,VP.mk_str c.data.toList⟩
 | 1,_=>exact⟨_,rfl,VP.mk_str d.data.toList⟩
 | 2,_=>exact⟨_,rfl,VP.mk_int _ _⟩
 | 3,_=>exact⟨_,rfl,VP.mk_str a.data.toList⟩
 | 4,_=>exact⟨_,rfl,VP.mk_int _ _⟩
 | 5,_=>exact⟨_,rfl,VP.mk_int _ _⟩
 | 6,_=>exact⟨_,rfl,VP.mk_int _ _⟩
 | 7,_=>exact⟨_,rfl,VP.mk_int _ _⟩
 | 8,_=>exact⟨_,rfl,VP.mk_int _ _⟩
 | 9,_=>exact⟨_,rfl,VP.mk_int _ _⟩
 | 10,_=>exact⟨_,rfl,VP.mk_int _ _⟩
 | 11,_=>exact⟨_,rfl,VP.mk_int _ _⟩
 | 12,_=>exact⟨_,rfl,VP.mk_int _ _⟩
 | 13,_=>exact⟨_,rfl,VP.mk_int _ _⟩
 | 14,_=>exact⟨_,rfl,VP.mk_str b.data.toList⟩
 | n+15,h=>exact absurd h (by simp)
theorem Wg{s t:ByteArray}(h:s.data.toList=t.data.toList):s=t:=by
 cases s with
 | mk a=>cases t with
  | mk b=>congr 1;exact ag3.1 h
theorem Cz8{s:By}{a:Int}(h:M9 s=true):upP s a=if a=443 then -1 else a:=by
 unfold upP;rw[h,Bool.true_and];by_cases q:a=443
 ·rw[if_pos q,q];rfl
 ·rw[if_neg q,show(a==443)=false by simpa using q];rfl
theorem Dz8:B3 a8 GX 86 Ci8:=by
 refine B3.fix (pf:=FN) _ (G9 (fn:=Tryz.f86) (by kernel_rfl) (by kernel_rfl) (by kernel_rfl) ?_);intro args ret B h;unfold FN at h;split at h
 ·rename_i J K p H v4 g i j k l m n o d I;obtain⟨v,h⟩:=C1 h;obtain⟨rfl,rfl⟩:=J3 h;refine⟨rfl,rfl,λC G x L w D F z y=>?_⟩;obtain⟨U,rfl,A⟩:=y.arr1;obtain⟨f,c,a,b,rfl,rfl,rfl,rfl,rfl⟩:=Cn6 A;rw[Cz8 v];rcases Pq v with u|u
  ·obtain rfl:f=Jh:=Wg (t:=Jh) u;have W:=Bx7 Jh Kc c a b p v4 g i j k l m n o d (if d=443 then -1 else d) (λq=>if_pos q) (λq=>if_neg q) (λw=>Cn5 _ _ _ _ _ _ _ _ _ _ _ _ _ _ _ B64 w) (λw=>(XW p6 v7 w).1) A94 w;refine W.mono ?_;rintro e w' ⟨rfl,r⟩;exact⟨_,rfl,r,Bu6 Kc c p a v4 g i j k l m n o _ b⟩
  ·obtain rfl:f=sWs:=Wg (t:=sWs) u;have W:=Bx7 sWs ZI c a b p v4 g i j k l m n o d (if d=443 then -1 else d) (λq=>if_pos q) (λq=>if_neg q) (λw=>Cn5 _ _ _ _ _ _ _ _ _ _ _ _ _ _ _ De4 w) (λw=>(XW p6 v7 w).2) Cr5 w;refine W.mono ?_;rintro e w' ⟨rfl,r⟩;exact⟨_,rfl,r,Bu6 ZI c p a v4 g i j k l m n o _ b⟩
 ·cases h
theorem Dk7(g v:By)(p:Int)(q:By)(v4 h i j k l m n o t:Int)(u:By)(w:(not (M9 g))=true) :
  ∃r H,Dk5 LF g v p q v4 h i j k l m n o t u (λD F x G y z A B n8 C b c d e f a=>rv (gU D F x G y z A B n8 C b c d e f) a)=rv r H/\r.stab [] H=gU g v p q v4 h i j k l m n o t u:=by
 unfold Dk5;rw[w];exact⟨_,_,rfl,rfl⟩
end
section
open Go Go.Proofs
set_option maxRecDepth 100000
section
theorem Dz9:B3 a8 GX 86 Ci9:=xf [] (A12 LF) FO rfl ⟨C45,GN,trivial⟩ rfl (by kernel_rfl) follows λargs=>by
 unfold FO;split
 ·rename_i n o j k v4 a b c d f g h i l m;exact λp=>(let⟨r,H,e,q⟩:=Dk7 n o j k v4 a b c d f g h i l m p;⟨rfl,rfl,rfl,r,H,(Dk6 LF noY () 0 n o j k v4 a b c d f g h i l m).trans e,q⟩)
 ·trivial
end
end
section
open Go Go.Proofs Go.RowKit
set_option maxRecDepth 100000
theorem D31:B3 a8 GX 86 Ci6:=λargs ret d h=>by
 have a:=Dz8 args ret d;have b:=Dz9 args ret d;unfold Ci6 at h;unfold Ci8 at a;unfold Ci9 at b;generalize B8 _ args=l at h a b;unfold Ci7 at h;split at h
 ·rename_i i w t u v4 j k m n o p q r g v;cases c:M9 i with
  | true=>
   refine a ?_;unfold FN;rw[Z6 c];exact h
  | false=>
   refine b ?_;unfold FO;rw[Z6 (by rw[c];rfl)];obtain⟨e,f⟩:=Aa2 c g;rw[e,f] at h;exact h
 ·cases h
end
section
open Go Go.Proofs
set_option maxRecDepth 100000
theorem Cz9{s:By}{a:Int}(h:M8 a=true):M8 (upP s a)=true:=by
 unfold upP;split
 ·rfl
 ·exact h
section
variable {Z R : Type} (L : Nat) (Y : F8) (Q : Yh Z) (s : Z) (k : Out -> St Z -> Option R)
noncomputable def WQ(L:Nat):Cfg:=B5 L [55] (A2 []) [(29,UK)] (A2 [(6,[2]),(5,[1,0]),(4,[1,0,12]),(3,[1,0]),(2,[2]),(1,[1,0,2]),(0,[1,0])]) [29] (A2 []) (some [2]) [] [] []
noncomputable def Bx1{R:Type}(L:Nat)(f g:By)(h:Int)(i:By)(j l m n u8 o a b c d:Int)(e:By)(p:By->By->Int->By->Int->Int->Int->Int->Int->Int->Int->Int->Int->Int->By->(List Blk)->Option R):Option R:=cond (not (M9 f)) (p f g h i j l m n u8 o a b c d e [(bU f g h i j l m n u8 o a b c d e),(bU f g h i j l m n u8 o a b c d e)]) none
theorem Cw6(d:Nat)(u0 u1 u2 u3 u4 u5 u6 u7 u8 u9 u10 u11 u12 u13 u14):evC (WQ L) (d+1) Z Q 55 [(gU u0 u1 u2 u3 u4 u5 u6 u7 u8 u9 u10 u11 u12 u13 u14)] [] s=Bx1 L u0 u1 u2 u3 u4 u5 u6 u7 u8 u9 u10 u11 u12 u13 u14 (λh i j l m n o p r8 q b c e f g a=>some ((gU h i j l m n o p r8 q b c e f g),a,s)):=by refine(evE (fn:=Tryz.f55) (by kernel_rfl)).trans ?_;generalize evC (WQ L) d=Y;unfold Bx1;kernel_rfl
end
end
section
open Go Go.Proofs Go.RowKit
set_option maxRecDepth 100000
theorem B84(n k m:ByteArray)(j v4 a b c d f g h i l:Int)(w:World):Calls a8 29 #[.agg (Ag Jh n j k v4 a b c d f g h i l m)] w λe w'=>e = .returned (.bool true)/\w'=w.alloc (.cells (Ag Jh n j k v4 a b c d f g h i l m) 55):=by
 go_enter ah4,aj5
 go_wp2
 go_ret
 exact⟨rfl,rfl⟩
theorem Dg2(n k m:ByteArray)(j v4 a b c d f g h i l:Int)(w:World):Calls a8 29 #[.agg (Ag sWs n j k v4 a b c d f g h i l m)] w λe w'=>e = .returned (.bool true)/\w'=w.alloc (.cells (Ag sWs n j k v4 a b c d f g h i l m) 55):=by
 go_enter ah4,aj5
 go_wp2
 go_ret
 exact⟨rfl,rfl⟩
theorem Ao2(q d r o p:ByteArray)(n v4 f g h i j k l m a b:Int)(x:a=443->b=-1)(y:¬a=443->b=a)
  (c:∀w,Calls a8 29 #[.agg (Ag q r n o v4 f g h i j k l m a p)] w λe w'=>e = .returned (.bool true)/\w'=w.alloc (.cells (Ag q r n o v4 f g h i j k l m a p) 55))
  (u:∀w:World,(ab3 125 (.map (some w.heap.size)) (.string q) false).run a8 (w.alloc (.map #[Il,Uk] 2)) = .ok (.string d) (w.alloc (.map #[Il,Uk] 2))) (w:World) :
  Calls a8 55 #[.agg (Ag q r n o v4 f g h i j k l m a p)] w λe w'=>e = .returned (.agg (Ag d r n o v4 f g h i j k l m b p))/\Below w.heap.size w w':=by
 have v:∀args w,(callFunc 29 args).run a8 w = .ok (.enter 29 args) w:=enters_of ah4 (by kernel_rfl) rfl;have G:=@run_makeMap a8;have t:∀(w:World) A B C,(((w.alloc A).alloc B).alloc C).heap.size=w.heap.size+1+1+1:=λw A B C=>by simp only[aj9,ae0]
 have z:∀(w:World) A B C,_:=λw A B C=>t w A B C▸Cp1 (P:=a8) p6 v7 (((w.alloc A).alloc B).alloc C)
 have D:∀(w:World) A B C,_:=λw A B C=>t w A B C▸Cp2 (P:=a8) p6 v7 (((w.alloc A).alloc B).alloc C)
 have F:∀(w:World) A B C,_:=λw A B C=>t w A B C▸u (((w.alloc A).alloc B).alloc C)
 clear u
 go_enter Tryz.func55,Tryz.ntmps55
 go_wp2_with (go_at_fn 29;refine(c _).mono ?_;rintro e w' ⟨rfl,H⟩;rw[H])
 ·have e:=x (by simpa using ‹(a==443)=true›);subst e;refine bodyPost_ret (results_cell_row rfl _ _ (w.heap.size+1) 55 _ _ _ rfl (Xd _ _ _ _ _) ab8 rfl (by kernel_rfl)) rfl ⟨rfl,?_⟩;exact((((Below.refl _ _).alloc (w9 _) _).alloc (by simp only[size_alloc];omega) _).alloc (by simp only[size_alloc];omega) _).alloc (by simp only[size_alloc];omega) _
 ·have e:=y (by simpa using ‹(a==443)=false›);subst e;refine bodyPost_ret (results_cell_row rfl _ _ (w.heap.size+1) 55 _ _ _ rfl (Xd _ _ _ _ _) ab8 rfl (by kernel_rfl)) rfl ⟨rfl,?_⟩;exact((((Below.refl _ _).alloc (w9 _) _).alloc (by simp only[size_alloc];omega) _).alloc (by simp only[size_alloc];omega) _).alloc (by simp only[size_alloc];omega) _
theorem Do4:B3 a8 GX 55 Bq1:=by
 refine B3.fix (pf:=Vx) _ (G9 (fn:=Tryz.f55) (by kernel_rfl) (by kernel_rfl) (by kernel_rfl) ?_);intro args ret B h;unfold Vx at h;split at h
 ·rename_i J K p H v4 g i j k l m n o d I;obtain⟨v,h⟩:=C1 h;obtain⟨rfl,rfl⟩:=J3 h;refine⟨rfl,rfl,λC G x L w D F z y=>?_⟩;obtain⟨U,rfl,A⟩:=y.arr1;obtain⟨f,c,a,b,rfl,rfl,rfl,rfl,rfl⟩:=Cn6 A;rw[Cz8 v];rcases Pq v with u|u
  ·obtain rfl:f=Jh:=Wg (t:=Jh) u;refine(Ao2 Jh Kc c a b p v4 g i j k l m n o d (if d=443 then -1 else d) (λq=>if_pos q) (λq=>if_neg q) (B84 _ _ _ _ _ _ _ _ _ _ _ _ _ _) (λw=>(XW p6 v7 w).1) w).mono ?_;rintro e w' ⟨rfl,r⟩;exact⟨_,rfl,r,Bu6 Kc c p a v4 g i j k l m n o _ b⟩
  ·obtain rfl:f=sWs:=Wg (t:=sWs) u;refine(Ao2 sWs ZI c a b p v4 g i j k l m n o d (if d=443 then -1 else d) (λq=>if_pos q) (λq=>if_neg q) (Dg2 _ _ _ _ _ _ _ _ _ _ _ _ _ _) (λw=>(XW p6 v7 w).2) w).mono ?_;rintro e w' ⟨rfl,r⟩;exact⟨_,rfl,r,Bu6 ZI c p a v4 g i j k l m n o _ b⟩
 ·cases h
end
section
open Go
abbrev hK(p:B4 × Nat):Int:=(p.1.kind:Int)
abbrev hN(p:B4 × Nat):By:=p.1.name
abbrev hV(p:B4 × Nat):Int:=(p.1.v4:Int)
abbrev hA(p:B4 × Nat)(i:Nat):Int:=(p.1.v6.getD i 0:Int)
abbrev e0:By:=[]
end
end Go.Proofs.YtfkhfkjcidamaaaGreatDoor.E
