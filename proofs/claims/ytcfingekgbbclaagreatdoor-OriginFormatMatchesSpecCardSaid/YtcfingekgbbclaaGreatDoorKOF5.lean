/-
  Parts of the proof, merged by a program of the prover's own; no condition.
-/
import Derived.Test.YtcfingekgbbclaaGreatDoorKOF4
import Derived.LaidMore
import Derived.LaidSub
import Derived.Laws.Runes
import Derived.Lay
import Derived.Lib.IndexAny
import Derived.Lib.MapLaws
import Derived.OpenShut
import Derived.ProofKit
import Derived.Shelf.Vars
import Derived.Test.YtcfingekgbbclaaGreatDoorChecked
import Derived.Test.YtcfingekgbbclaaGreatDoorRows
open Go.Proofs.Tryz renaming prog->a8,checked->af5,f101->ag0,f41->ag5,f55->ag6,f58->ag7,f60->ag8,f61->ag9,f75->ah0,f40->ai6,f62->ai7,f82->ai8
open List renaming length->b8,getD->b9,length_cons->j0,length_drop->j1,length_append->j2,length_singleton->j5,length_take->j8,drop_of_length_le->s7,size_toArray->s9,mem_cons->v7,getElem?_append_right->w6,toArray->w8,takeWhile_cons->w9,mem_of_mem_drop->x3,isPrefixOf->x5,getElem?_take_of_lt->x9,getD_cons_zero->y7,getElem?_cons_zero->y9,getElem?_take->aa0,length_nil->aa1,getElem?_toArray->aa2,getElem?_append_left->aa6,getElem?_cons_succ->ab1,length_eq_zero_iff->ab2,mem_of_mem_take->ab7,drop_zero->ac3,getElem?_eq_some_iff->ac6,getElem?_eq_getElem->ad0,isEmpty_iff->ad3,not_mem_nil->ad4,take_of_length_le->ad6,drop_left'->ad8,getElem?_eq_none->ad9,take_left->ae2,getD_cons_succ->ae3,getElem?_range->ae4,all_cons->ae6,map_cons->ae7,contains_cons->ae8,getElem?_drop->ae9,getElem?_map->af3,cons_append->af8,nil_append->ag2,takeWhile->ag4,map_map->ai0,map_nil->ai1
open Eq renaming trans->c9
open Bool renaming not_true->j4,not_false->p4,eq_iff_iff->p7,false_eq_true->p9,and_eq_true->s8,not_eq_true'->aa3,or_eq_true->aa8,eq_false_iff->af1,not_eq_true->af6,and_true->ah2,false_or->ah3,true_and->ah4
open Go.Value renaming int->j6
open Int renaming toNat_natCast->j7,eq_ofNat_of_zero_le->y8
open Option.some renaming inj->j9,injEq->p5
open Go.Lib renaming indexByte->k9,cut->v8,decodeL->aa4,indexAny->aa5,tabData->ab0,VarReads->ab4,acceptData->ae1,decDigits->ae5,deBruijn64tab->af2,indexByte_ge->af7,size_eq->ag1,firstTab->ah7,pow10Tab->ah8
open Exists renaming intro->p6
open Go.Utf8 renaming decode->x4,encode->ab3
open UInt8 renaming toNat_inj->x6,ofNat->ab9
open Nat renaming ble->x7,eq_of_beq_eq_true->x8,mul_one->z7,le_of_ble_eq_true->ab6,le_refl->ab8,zero_add->ac0,ble_eq->ac4,add_lt_add_iff_right->ad1,ble_eq_true_of_le->ae0,add_zero->ai2,beq->ai3,sub_self->ai4
open Array renaming length_toList->y5,getElem?_append_left->ac1,getElem?_eq_some_iff->ac2,getElem?_eq_getElem->ac5,size_append->af0
open Go.World renaming laidAll->aa7,cell?->ac9,frozen?->ad2,shape?->ad7
open Option renaming map_some->aa9,bind_some->ad5,getD_some->af9,isSome->ah5
open Go.Lib.laidMet renaming reads->ab5
open Go.MakeChecks renaming laidMetH_plain->ac7
open Ne renaming symm->ac8
open Go.RowKit.Below renaming refl->af4
open Go.DataW renaming trod->ag3
open Prod.mk renaming injEq->ah6
open List.Sublist renaming length_le->ah9
namespace Go.Proofs.YtcfingekgbbclaaGreatDoor.E
set_option linter.all false
section
open Go Go.Proofs
theorem YJ{R:Type}{k0 k1:Unit->Option R}:∀l:List By,(∀x∈l,x.length<=1000000000)->HG LF l k0 k1=if l.all K6 then k0 () else k1 ()
 | [],_=>rfl
 | x::r,h=>by
  rw[YI];unfold CV;rw[E1 (h x (by simp)),cond_true,ae6];have b:=YJ (k0:=k0) (k1:=k1) r (λy a=>h y (by simp[a]));grind
theorem C53(s:By)(a:A3 s.length=true):∃r H,hvn LF s (λ_=>rv (.s (.bool false)) [.box [.s (.bool false)]]) (λd b=>rv (.s (.bool d)) [.box [.s (.bool b)],.box [.bad],.box [.bad],.box [.bad]])=rv r H/\r.stab [] H = .s (.bool (Z3 s)):=by
 have h:=L4 a;unfold hvn ST Z3;by_cases e:253<s.length
 ·rw[A8,show x7 s.length 253=false by rw[af1,ne_eq,ac4];omega];exact⟨_,_,rfl,rfl⟩
 ·rw[A5,cond_false,a,cond_true,show x7 s.length 253=true by rw[ac4];omega];cases f:G0 s with
  | true=>exact⟨_,_,rfl,rfl⟩
  | false=>
   rw[cond_false,show((1:Nat)==1&&(0:Int)==(0:Int))=true from rfl,show([46]:By).getD 0 0=46 from rfl,ah2,cond_true,YJ _ (λx c=>by have:=(Db c).2;omega)];cases g:(pcs 46 s).all K6 with
   | true=>exact⟨_,_,rfl,rfl⟩
   | false=>exact⟨_,_,rfl,rfl⟩
theorem Dd5(a c d f g h i j:Nat):(n8 (a:Int) c d f g h i j==z8)=(((a:Int)==0)&&(((c:Int)==0)&&(((d:Int)==0)&&(((f:Int)==0)&&(((g:Int)==0)&&(((h:Int)==0)&&(((i:Int)==0)&&(((j:Int)==0)&&true)))))))):=by
 have e:n8 (a:Int) c d f g h i j=[a,c,d,f,g,h,i,j]:=rfl;have q:∀b:Nat,((b:Int)==0)=(b==0):=λb=>by grind
 rw[e];simp only[q,z8];rfl
theorem Bc8(a:Int)(b:By)(v4 l m n o p q t u:Int)(D:A3 b.length=true)(F:ltN v4 4294967296=true)(G:ok8 l m n o p q t u=true) :
  ∃r H,My LF a b v4 l m n o p q t u (λV M W N O P Q R n8 S y z x=>rv (.s (.bool V)) [.box (Ql M W N O P Q R n8 S y z),.arr false 25 1 x])=rv r H/\
   r.stab [] H = .s (.bool (M6 (mkH a b v4 (n8 l m n o p q t u)))):=by
 obtain⟨c,d,e,f,g,i,j,k,rfl,rfl,rfl,rfl,rfl,rfl,rfl,rfl,X⟩:=Pv G;obtain⟨v0,v1⟩:=E0.1 F;obtain⟨v,rfl⟩:=y8 v0;have U:((v:Int)==0)=(v==0):=by
  rw[p7,beq_iff_eq,beq_iff_eq];omega
 have T:(b==([]:By))=b.isEmpty:=by cases b<;>rfl
 have J:(mkH a b (v:Int) (n8 (c:Int) d e f g i j k)).kind=if ltN a 4 then a.toNat else 0:=rfl
 have K:(mkH a b (v:Int) (n8 (c:Int) d e f g i j k)).name=b:=rfl;have L:(mkH a b (v:Int) (n8 (c:Int) d e f g i j k)).v4=v:=j7 v;have I:(mkH a b (v:Int) (n8 (c:Int) d e f g i j k)).v6=n8 (c:Int) d e f g i j k:=rfl;unfold My M6;rw[J,K,L,I,Dd5,U,T];by_cases A:a=1
 ·subst A;rw[show((1:Int)==1)=true from rfl,cond_true,D,cond_true,if_pos (by decide)];cases Z3 b with
  | false=>exact⟨_,_,rfl,rfl⟩
  | true=>
   cases (v==0) with
   | false=>exact⟨_,_,rfl,rfl⟩
   | true=>exact⟨_,_,rfl,rfl⟩
 ·rw[show(a==(1:Int))=false by simpa using A,cond_false];by_cases B:a=2
  ·subst B;rw[show((2:Int)==2)=true from rfl,cond_true,if_neg (by decide),if_pos (by decide)];cases b.isEmpty with
   | false=>exact⟨_,_,rfl,rfl⟩
   | true=>exact⟨_,_,rfl,rfl⟩
  ·rw[show(a==(2:Int))=false by simpa using B,cond_false];by_cases C:a=3
   ·subst C;rw[show((3:Int)==3)=true from rfl,cond_true,if_neg (by decide),if_neg (by decide),if_pos (by decide)];cases b.isEmpty with
    | false=>exact⟨_,_,rfl,rfl⟩
    | true=>exact⟨_,_,rfl,rfl⟩
   ·rw[show(a==(3:Int))=false by simpa using C,cond_false];have w:(if ltN a 4 then a.toNat else 0)=0:=by
     split
     ·rename_i h;have:=E0.1 h;omega
     ·rfl
    rw[w];exact⟨_,_,rfl,rfl⟩
theorem C29{a b c d e f g i:Int}(h:ok8 a b c d e f g i=true):(n8 a b c d e f g i).length=8/\∀x∈n8 a b c d e f g i,x<65536:=by obtain⟨k,l,m,n,o,p,q,r,rfl,rfl,rfl,rfl,rfl,rfl,rfl,rfl,t⟩:=Pv h;refine⟨rfl,λx j=>?_⟩;simp only[n8,j7,v7,ad4,or_false] at j;omega
theorem Bc7(a:Int)(j:By)(v4 b c d e f g h i:Int)(q:A3 j.length=true)(t:ltN v4 4294967296=true)(n:ok8 b c d e f g h i=true) :
  ∃r H,Co1 LF a j v4 b c d e f g h i (λI k J y z A B C n8 D l m=>rv (.s (.str I)) [.box (Ql k J y z A B C n8 D l m)])=rv r H/\
   r.stab [] H = .s (.str (Io (mkH a j v4 (n8 b c d e f g h i)))):=by
 obtain⟨F,G⟩:=C29 n;have v:=Cf9 _ F G;unfold Co1 Io;rw[q,t,n];simp only[cond_true,vl];have u:(mkH a j v4 (n8 b c d e f g h i)).kind=if ltN a 4 then a.toNat else 0:=rfl
 cases w:M6 (mkH a j v4 (n8 b c d e f g h i)) with
 | false=>exact⟨_,_,rfl,rfl⟩
 | true=>
  rw[if_pos rfl,j4,cond_false,u];by_cases o:a=1
  ·subst o;rw[if_pos (by decide)];exact⟨_,_,rfl,rfl⟩
  ·rw[show(a==(1:Int))=false by simpa using o,cond_false];have k:¬(if ltN a 4 then a.toNat else 0)=1:=by grind
   rw[if_neg k];by_cases p:a=2
   ·subst p;rw[if_pos (by decide)];exact⟨_,_,rfl,rfl⟩
   ·rw[show(a==(2:Int))=false by simpa using p,cond_false];have x:¬(if ltN a 4 then a.toNat else 0)=2:=by grind
    rw[if_neg x,E6 (by omega),cond_true,E6 (by rw[j2,j5];omega),cond_true];exact⟨_,_,rfl,rfl⟩
theorem Bk3{R:Type}{b:Bool->Option R}(p s:By)(a:A3 p.length=true)(c:A3 s.length=true):Cn3 LF p s b=b (Uc p s):=by have d:=L4 a;unfold Cn3 Uc;rw[a,c,E6 (by omega)];grind
theorem As6{R:Type}{a:By->By->Int->Option R}(t p:By)(n:Int):B57 LF t p n a=a t p n:=rfl
theorem Bt8{R:Type}{a:By->By->Option R}(t p:By):C72 LF t p a=a t p:=rfl
theorem A50{Z R:Type}(g:Yh Z)(c:UInt8):∀(m:Nat) (t:By) (n:Nat) (s i:Z),t.length<=m->t.length<=1000000000->m<n->Cv g ((pcs c t).map λx=>([.s (.str x)]:List PV)) s=some i->
  ∃o , (∃v:Z,∃b:Bool,g [.s (.str o)] v=some (b,i)/\∀(a d:By->By->Int->Z->Option R),S7 g LF n [c] t 0 s a d=a [c] o 0 v)\/(∀(a d:By->By->Int->Z->Option R),S7 g LF n [c] t 0 s a d=d [c] o 0 i):=by
 intro m
 induction m with
 | zero=>
  intro t n s i y l D h;obtain rfl:=ab2.1 (Nat.le_zero.1 y);obtain⟨n,rfl⟩:∃m,n=m+1:=⟨n-1,by omega⟩
  rw[Oh (by simp)] at h;simp only[ae7,ai1,Cv] at h;refine⟨[],.inl ⟨s,?_⟩⟩;have e:∀(a d:By->By->Int->Z->Option R),S7 g LF (n+1) [c] [] 0 s a d=a [c] [] 0 s:=λa d=>by
   rw[S7];rw[So (by simp)];rfl
  cases k:g [.s (.str [])] s with
  | none=>rw[k] at h;cases h
  | some q=>
   obtain⟨b,j⟩:=q;rw[k] at h;have:j=i:=by cases b<;>simpa using h
   subst this;exact⟨b,rfl,e⟩
 | succ m F=>
  intro t n s i y l D h;obtain⟨n,rfl⟩:∃m,n=m+1:=⟨n-1,by omega⟩
  rcases T0 c t with u|⟨p,r,rfl,u⟩
  ·rw[Oh u] at h;simp only[ae7,ai1,Cv] at h;refine⟨t,.inl ⟨s,?_⟩⟩;have e:∀(a d:By->By->Int->Z->Option R),S7 g LF (n+1) [c] t 0 s a d=a [c] t 0 s:=λa d=>by
    rw[S7];rw[So u,E1 l];rfl
   cases k:g [.s (.str t)] s with
   | none=>rw[k] at h;cases h
   | some q=>
    obtain⟨b,j⟩:=q;rw[k] at h;have:j=i:=by cases b<;>simpa using h
    subst this;exact⟨b,rfl,e⟩
  ·rw[TW u] at h;simp only[ae7,Cv] at h;have w:(p++c::r).length=p.length+r.length+1:=by rw[j2,j0];omega
   have z:A1 ((p.length:Int)+0)=((p.length:Nat):Int):=by rw[A7];omega
   have A:A1 ((p.length:Int)+(([c]:By).length:Int))=((p.length+1:Nat):Int):=by
    rw[C5 (by simp;omega) (by simp;omega)];simp
   have B:cut (p++c::r) 0 (p.length:Int)=p:=by rw[J8,j7,ae2]
   have C:cut (p++c::r) ((p.length+1:Nat):Int) ((p++c::r).length:Int)=r:=by
    rw[P9,j7,show p++c::r=(p++[c])++r by simp,ad8 (by simp)]
   have top:∀(a d:By->By->Int->Z->Option R),S7 g LF (n+1) [c] (p++c::r) 0 s a d=ydK (g [.s (.str p)] s) λb j=>cond (not b) (d [c] (p++c::r) 0 j) (S7 g LF n [c] r 0 j a d):=λa d=>by
    rw[S7];rw[Zf u,E1 l,cond_true,A5,cond_false];simp only[vl,z,A,B,C];rw[H9,cond_true,H9];rfl
   cases k:g [.s (.str p)] s with
   | none=>rw[k] at h;cases h
   | some q=>
    obtain⟨b,j⟩:=q;rw[k] at h top;cases b with
    | false=>
     have:j=i:=by simpa using h
     subst this;exact⟨p++c::r,.inr λa d=>by rw[top];rfl⟩
    | true=>
     simp only at h;obtain⟨o,⟨v,b,e,f⟩|f⟩:=F r n j i (by omega) (by omega) (by omega) h
     ·exact⟨o,.inl ⟨v,b,e,λa d=>by rw[top];exact f a d⟩⟩
     ·exact⟨o,.inr λa d=>by rw[top];exact f a d⟩
theorem A51{Z R:Type}(i:Yh Z)(p t:By)(n:Int)(s g:Z)(h:(A3 t.length&&(p.length==1&&n==0))=true)(m:Cv i ((pcs (p.getD 0 0) t).map λx=>([.s (.str x)]:List PV)) s=some g) :
  ∃d,∀(a:By->By->Int->Z->Option R),Af0 i LF p t n s a=a p d n g:=by
 have l:=C1;simp only[s8,beq_iff_eq] at h;obtain⟨j,k,rfl⟩:=h;obtain⟨c,rfl⟩:=List.length_eq_one_iff.1 k;have o:=L4 j;obtain⟨d,⟨q,b,e,f⟩|f⟩:=A50 (R:=R) i c t.length t LF s g (ab8 _) o (by omega) m
 ·refine⟨d,λa=>?_⟩;unfold Af0;rw[show(((([c]:By).length:Nat):Int)==0)=false from rfl,cond_false];refine c9 (f _ _) ?_;rw[e];rfl
 ·refine⟨d,λa=>?_⟩;unfold Af0;rw[show(((([c]:By).length:Nat):Int)==0)=false from rfl,cond_false];exact f _ _
end
section
open Go Go.ChangeAt Go.ChangeShapes Go.Proofs Go.RowKit Go.WideShapes
set_option maxRecDepth 100000
theorem own:ownKnob a8.godebug=none:=by kernel_rfl
theorem Cp1:laidOutB a8=true:=by kernel_rfl
noncomputable def gTy(g:Nat):Nat:=match a8.globals[g]? with|some x=>x.type|none=>0
noncomputable def dbT:Nat:=gTy 5
noncomputable def Cs3:Nat:=gTy 1
noncomputable def QS:Nat:=gTy 3
noncomputable def Cm4:Nat:=gTy 2
noncomputable def QR:Nat:=match a8.underlying QS with|some (.array _ e)=>e|_=>0
noncomputable def Yb:Array Field:=match a8.underlying QR with|some (.struct a)=>a|_=>#[]
noncomputable def LA:Field:=match Yb.toList with|a::_=>a|_=>default
noncomputable def LB:Field:=match Yb.toList with|_::a::_=>a|_=>default
theorem C36:Yb[0]? = some LA:=by unfold LA Yb QR QS gTy;kernel_rfl
theorem C37:Yb[1]? = some LB:=by unfold LB Yb QR QS gTy;kernel_rfl
def Ea:List (String × DataW Unit):=[("math/bits.deBruijn32tab", Rows.laid_math_bits_deBruijn32tab), ("math/bits.deBruijn64tab", Rows.laid_math_bits_deBruijn64tab), ("internal/strconv.uint64pow10", Rows.laid_internal_strconv_uint64pow10), ("unicode/utf8.acceptRanges", Rows.laid_unicode_utf8_acceptRanges), ("unicode/utf8.first", Rows.laid_unicode_utf8_first)]
theorem NQ{W:World}{n:String}{g:Nat}{a:Array Value}(b:a8.globalNamed n=some g)(h:W.var? a8 n=some a):∃e x,W.heap[g]? = some (.cells a e x):=by
 unfold World.var? at h;rw[b,ad5] at h;split at h
 ·rename_i c e x d;simp only[p5] at h;subst h;exact⟨e,x,d⟩
 ·cases h
theorem AB{W:World}{n:String}{g t e m:Nat}{k:IntKind}{f:List Int}(l:a8.globalNamed n=some g)(d:(a8.globals[g]?).map (·.type)=some t)(w:a8.underlying t=some (.array m e))(v:a8.underlying e=some (.int k))(a:a8.cellsOf e=1)(c:a8.cellsOf t=m)
  (h:ab4 a8 W n (ab0 k f)):∃e x,W.heap[g]? = some (.cells (f.map λz=>j6 k z).toArray e x):=by
 obtain⟨y,A,o,i,p,q,r,j,u⟩:=h;obtain rfl:=j9 (l.symm.trans q);obtain rfl:=j9 (d.symm.trans r);have b:=Lib.cells_of_tab w v a c u;have:o=(f.map λz=>j6 k z).toArray:=by rw[<-b]
 rw[this] at j;exact NQ l j
theorem JJ{H:Type}{enc:TypeId × Value->H}{P:Program}{w:World}{base:Nat}{sp:Nat->Bool}{held:Bool}{a:Nat}{t e:TypeId}{n:Nat}{b:List Value}{d:DataW H}{p:List MemPlace}(f:P.underlying t=some (.array n e))
  (h:ag3 enc P w base sp held a t b=some (d,p)):b.length=P.cellsOf t:=by
 cases a with
 | zero=>simp[ag3] at h
 | succ a=>
  simp only[ag3,f] at h;split at h
  ·rename_i c;simpa using c
  ·cases h
theorem Bi5{W:World}(C : a8.globalNamed "unicode/utf8.acceptRanges" = some 3)(h:ab4 a8 W "unicode/utf8.acceptRanges" ae1) :
  ∃e x,W.heap[3]? = some (.cells (Fp.map λz=>j6 .u8 z).toArray e x):=by
 obtain⟨M,t,v,w,p,H,a,y,A⟩:=h;obtain rfl:=j9 (C.symm.trans H);have n:(a8.globals[3]?).map (·.type)=some QS:=by unfold QS;kernel_rfl
 obtain rfl:=j9 (n.symm.trans a);have F:a8.underlying QS=some (.array 16 QR):=by unfold QS QR;kernel_rfl
 have N:=JJ F A;have I:a8.cellsOf QS=32:=by unfold QS;kernel_rfl
 have b:a8.cellsOf QR=2:=by unfold QR;kernel_rfl
 have K:∃j,a8.underlying QR=some (.struct j)/\j.size=2/\∀(i:Nat) (f:Field),j[i]? = some f->a8.underlying f.type=some (.int .u8)/\f.offset=i/\a8.cellsOf f.type=1:=by
  refine⟨Yb,by unfold QR Yb;kernel_rfl,by unfold Yb;kernel_rfl,λi f m=>?_⟩;have:i<2:=by
   have:=(ac2.1 m).1;rwa [show Yb.size=2 by unfold Yb;kernel_rfl] at this
  match i,this with
  | 0,_=>
   obtain rfl:=j9 (m.symm.trans (show Yb[0]? = some LA from C36));exact⟨by unfold LA;kernel_rfl,by unfold LA;kernel_rfl,by unfold LA;kernel_rfl⟩
  | 1,_=>
   obtain rfl:=j9 (m.symm.trans (show Yb[1]? = some LB from C37));exact⟨by unfold LB;kernel_rfl,by unfold LB;kernel_rfl,by unfold LB;kernel_rfl⟩
 obtain⟨j,o,r,u⟩:=K;have l:v.toList=Fp.map λz=>j6 .u8 z:=by
  have D:(Fp.map λz=>j6 .u8 z).length=32:=by rw[List.length_map];rfl
  apply List.ext_getElem?;intro q;by_cases J:q<32
  ·obtain⟨k,d,O,c,B⟩:=Lib.array_elem F A (q / 2) (by omega);simp only[af3,ae4 (show q / 2<16 by omega),aa9,p5] at c;subst c;rw[b] at B;have L:=Lib.ints_of_struct o u (by rw[b,r]) B;have e0:=congrArg (·[q % 2]?) L;simp only[aa0,ae9] at e0;rw[S6,show q / 2*2+q % 2=q by omega] at e0;rw[e0];unfold Fp;have G:∀g:Nat->Value,(List.map g (List.range 32))[q]? = some (g q):=λg=>by
    rw[af3,ae4 J];rfl
   rw[ai0,G];rcases Nat.mod_two_eq_zero_or_one q with a|a
   ·simp[a]
   ·simp[a]
  ·rw[ad9 (by omega),ad9 (by omega)]
 have:v=(Fp.map λz=>j6 .u8 z).toArray:=by rw[<-l]
 rw[this] at y;exact NQ C y
theorem Aq4{C:Cfg}(r:C.G=GX){W:World}(b:laidMet a8 Ea W)(p:W.ShapedOpen a8):GOK C (· < W.heap.size) W:=by
 have lt:∀{g:Nat} {o:Obj},W.heap[g]? = some o->g<W.heap.size:=λh=>(ac2.1 h).1
 have I:ab4 a8 W "math/bits.deBruijn64tab" (ab0 .u8 (af2.map λn:Nat=>(n:Int))):=ab5 b (by rw [show (ab0 .u8 (af2.map λn:Nat=>(n:Int)):DataW Unit)=Rows.laid_math_bits_deBruijn64tab by kernel_rfl];simp [Ea])
 have J:ab4 a8 W "internal/strconv.uint64pow10" (ab0 .u64 ah8):=ab5 b (by rw [show (ab0 .u64 ah8:DataW Unit)=Rows.laid_internal_strconv_uint64pow10 by kernel_rfl];simp [Ea])
 have K:ab4 a8 W "unicode/utf8.acceptRanges" ae1:=ab5 b (by rw [show ae1=Rows.laid_unicode_utf8_acceptRanges by kernel_rfl];simp [Ea])
 have L:ab4 a8 W "unicode/utf8.first" (ab0 .u8 ah7):=ab5 b (by rw [show (ab0 .u8 ah7:DataW Unit)=Rows.laid_unicode_utf8_first by kernel_rfl];simp [Ea])
 have y:=AB (g:=5) (t:=dbT) (e:=5) (m:=64) (by kernel_rfl) (by unfold dbT;kernel_rfl) (by unfold dbT;kernel_rfl) (by kernel_rfl) (by kernel_rfl) (by unfold dbT;kernel_rfl) I;have A:=AB (g:=1) (t:=Cs3) (e:=112) (m:=20) (by kernel_rfl) (by unfold Cs3;kernel_rfl) (by unfold Cs3;kernel_rfl) (by kernel_rfl) (by kernel_rfl) (by unfold Cs3;kernel_rfl) J;have B:=Bi5 (by kernel_rfl) K;have D:=AB (g:=2) (t:=Cm4) (e:=5) (m:=256) (by kernel_rfl) (by unfold Cm4;kernel_rfl) (by unfold Cm4;kernel_rfl) (by kernel_rfl) (by kernel_rfl) (by unfold Cm4;kernel_rfl) L;have F:=cell_of_shapedOpen_int (k:=.i64) (g:=0) (t:=3) (zero:=#[.int .i64 0]) p (of_decide_eq_true (by kernel_rfl)) (by kernel_rfl) rfl (by kernel_rfl) (by kernel_rfl) (by kernel_rfl);refine⟨λg k w h=>?_,λg h=>?_⟩
 ·rw[r] at h;simp only[GX] at h;have key:∀{q:Nat} {v:IntKind} {a:List Int},(∃e x,W.heap[q]? = some (.cells (a.map λz=>j6 v z).toArray e x))->g=q->(v,a)=(k,w)->g<W.heap.size/\∃e x,W.heap[g]? = some (.cells (w.map λz=>j6 k z).toArray e x):=λc G H=>by
   subst G;cases H;obtain⟨e,x,c⟩:=c;exact⟨lt c,e,x,c⟩
  cases d:ai3 g 2 with
  | true=>rw[d,cond_true] at h;exact key D (x8 d) (j9 h)
  | false=>
   rw[d,cond_false] at h;cases f:ai3 g 3 with
   | true=>rw[f,cond_true] at h;exact key B (x8 f) (j9 h)
   | false=>
    rw[f,cond_false] at h;cases i:ai3 g 1 with
    | true=>rw[i,cond_true] at h;exact key A (x8 i) (j9 h)
    | false=>
     rw[i,cond_false] at h;cases j:ai3 g 5 with
     | true=>rw[j,cond_true] at h;exact key y (x8 j) (j9 h)
     | false=>rw[j,cond_false] at h;cases h
 ·rw[r] at h;have e:=x8 h;subst e;obtain⟨m,u⟩:=F;refine⟨?_,m,u⟩;apply Classical.byContradiction;intro l;simp[ac9,Array.getElem?_eq_none (Nat.le_of_not_lt l)] at u
theorem Zj(os:Os)(args:Array Value):((aa7 a8 os Ea).forCall (λ_ _=>0) ⟨#[],args,[]⟩).Shaped a8:=
 World.shaped_of_ZipB (by kernel_rfl) (by kernel_rfl)
theorem JZ(os:Os)(args:Array Value):laidMetH a8 Ea ((aa7 a8 os Ea).forCall (λ_ _=>0) ⟨#[],args,[]⟩).memory:=by rw[ac7 _ _ _ (by kernel_rfl)];exact laidMet_laidAll _ (by kernel_rfl) (by kernel_rfl)
theorem Ar4{H:Type}{enc:TypeId × Value->H}{os:Os}(j:os.Started){C:Cfg}(u:C.P=a8)(r:C.G=GX)(Z:XOK C)(W:Nb C){f tb:Nat}{fn:Func}{c:Code}{s:ChangeSpec}{g:List PathCond}{apart fresh handsOn again:Bool}(l:a8.inits.idxOf? f=none)(x:a8.funcs[f]? = some fn)(hb:fn.body=some c)(n:(fn.name == "runtime.NumGoroutine")=false)
  (F:∀t∈fn.params.toList,(a8.readableRec t=true/\t<a8.types.size)/\(Mv a8 20 t).isSome=true) (z:fn.resultTypes = #[tb]) (m:a8.underlying tb=some .bool) (q:s.vars=[])
  (p:∀ds:List (DataW H),ds.length=fn.params.toList.length->s.fn H ds = { results:=[.lit (.bool true)],args:=ds })
  (a:Array Value) (h:Nat) (o:Input.okWideB a8 ((aa7 a8 os Ea).forCall (λ_ _=>0) ⟨#[],a,[]⟩) f ⟨#[],a,[]⟩=true)
  (Sn:s.preB enc a8 fn g apart ((aa7 a8 os Ea).forCall (λ_ _=>0) ⟨#[],a,[]⟩).memory a h=true)
  (J:s.sizedB enc a8 fn apart ((aa7 a8 os Ea).forCall (λ_ _=>0) ⟨#[],a,[]⟩).memory a h=true)
  (D:∀args,Ki a8 fn.params.toList args->∃d T,evC C d Unit noY f args [] ()=some (.s (.bool true),T,())) :
  ReturnsInHanded {} af5 os f .any (λw args=>(s.pre enc a8 fn g apart w args/\laidMetH a8 Ea w)/\sizedMet enc a8 fn (OpenSpec.ofChange s) apart w args) (s.post enc a8 fn apart fresh handsOn again):=by
 obtain⟨P,G,X,R,a0,lf,Q,M,xp,L,N,Y,S,nt,a1⟩:=C;simp only at u r;subst u;refine returnsInHanded_of_calls (C:=af5) own j l
  (ChangeSpec.witness_shaped (enc:=enc) (C:=af5) (os:=os) (X:=λw _=>laidMetH a8 Ea w) false (aa7 a8 os Ea) a h (World.laidAll_os _ _ _) (Zj os a) o Sn J (JZ os a)) ?_
 intro w b i _ I _ o Sn A;obtain⟨_,_,_,B,y,_,_,_,_,My⟩:=o;have e:B=fn:=j9 (y.symm.trans x);subst e;obtain⟨⟨⟨ds,U,k,hw,hc⟩,O⟩,hz⟩:=Sn;have K:=DataW.Whole.of_heap (w':=w.forCall b i) (by rfl) hw;have V:laidMet a8 Ea (w.forCall b i):=by
  rw[ac7 _ _ _ (by kernel_rfl)] at O;exact laidMet.of_heap (w':=w.forCall b i) (by rfl) O
 refine(B25 (apart:=apart) (fresh:=fresh) (handsOn:=handsOn) (again:=again) Z W follows Cp1 x hb n F z m q p D (w.forCall b i) (Aq4 r V I) w.heap.size i.args ds U k My K).mono λe W' ⟨v,he,F⟩=>?_
 subst he;exact ChangeSpec.post_blind F
end
section
open Go Go.Proofs
set_option maxRecDepth 100000
section
theorem NR:B0 a8 GX 165 Jc:=λargs ret a h=>by
 have:L3 (Jc args)=none:=by unfold Jc DN;split<;>rfl
 rw[this] at h;cases h
theorem A80:B0 a8 GX 79 OT:=xf [] (Am5 LF) OU rfl trivial rfl (by kernel_rfl) follows λargs=>by
 unfold OU;split
 ·rename_i s p;exact λa=>⟨rfl,rfl,rfl,_,_,(Cq0 LF noY () 0 s p).trans (Bm8 s p a),rfl⟩
 ·trivial
theorem VX:B0 a8 GX 59 DT:=xf [] (Am2 LF) OJ rfl ⟨A80,trivial⟩ rfl (by kernel_rfl) follows λargs=>by
 unfold OJ;split
 ·rename_i s p;exact λa=>⟨rfl,rfl,rfl,_,_,(Co3 LF noY () 0 s p).trans (Bl0 s p a),rfl⟩
 ·trivial
theorem Ch5:B0 a8 GX 93 Ai5:=xf [] (Am6 LF) OX rfl trivial rfl (by kernel_rfl) follows λargs=>by
 unfold OX;split
 ·rename_i s p;exact λa=>⟨rfl,rfl,rfl,_,_,(Cq2 LF noY () 0 s p).trans (Bm9 s p a),rfl⟩
 ·trivial
theorem C94:B0 a8 GX 65 By1:=xf [] (Am3 LF) OK rfl ⟨Ch5,trivial⟩ rfl (by kernel_rfl) follows λargs=>by
 unfold OK;split
 ·rename_i s p;exact λa=>⟨rfl,rfl,rfl,_,_,(Co5 LF noY () 0 s p).trans (Bl1 s p a),rfl⟩
 ·trivial
theorem Cz3:B0 a8 GX 137 A91:=xf [] (RN LF) ED rfl ⟨Ch5,trivial⟩ rfl (by kernel_rfl) follows λargs=>by
 unfold ED;split
 ·rename_i s p;exact λa=>⟨rfl,rfl,rfl,_,_,(B60 LF noY () 0 s p).trans (As8 s p a),rfl⟩
 ·trivial
theorem C09:B0 a8 GX 107 Ba5:=xf [] (RZ LF) FJ rfl ⟨Cz3,trivial⟩ rfl (by kernel_rfl) follows λargs=>by
 unfold FJ;split
 ·rename_i s p;exact λa=>⟨rfl,rfl,rfl,_,_,(Ce4 LF noY () 0 s p).trans (A57 s p a),rfl⟩
 ·trivial
theorem Cy9:B0 a8 GX 74 A88:=xf [0,0] (RK LF) DZ rfl ⟨A80,trivial⟩ rfl (by kernel_rfl) follows λargs=>by
 unfold DZ;split
 ·rename_i s p;exact λa=>⟨rfl,rfl,rfl,_,_,(B55 LF noY () 0 s p).trans (Ar6 s p a),rfl⟩
 ·trivial
theorem Cg6:B0 a8 GX 57 Ah8:=xf [0,0] (Al7 LF) NW rfl ⟨Cy9,trivial⟩ rfl (by kernel_rfl) follows λargs=>by
 unfold NW;split
 ·rename_i s p;exact λa=>⟨rfl,rfl,rfl,_,_,(Cl2 LF noY () 0 s p).trans (Bj0 s p a),rfl⟩
 ·trivial
theorem Cg7:B0 a8 GX 138 WI:=xf [1] (Dg LF) Xf rfl ⟨NR,Ci5,A81,trivial⟩ rfl (by kernel_rfl) follows λargs=>by
 unfold Xf;split
 ·rename_i s p v n;exact λa=>λb=>λc=>λd=>(let⟨r,H,e,q⟩:=YF s p v n a b c d;⟨rfl,rfl,rfl,r,H,(MD LF noY () 0 s p v n).trans e,q⟩)
 ·trivial
theorem JS:B0 a8 GX 109 Tv:=xf [1] (GE LF) Xv rfl ⟨Cg7,trivial⟩ rfl (by kernel_rfl) follows λargs=>by
 unfold Xv;split
 ·rename_i s p;exact λa=>λb=>⟨rfl,rfl,rfl,_,_,(Bt9 LF noY () 0 s p).trans (Af3 s p a b),rfl⟩
 ·trivial
theorem Ch4:B0 a8 GX 56 Ai4:=xf [] (Rz LF) OS rfl trivial rfl (by kernel_rfl) follows λargs=>by
 unfold OS;split
 ·rename_i s;exact λa=>⟨rfl,rfl,rfl,_,_,(Cp8 LF noY () 0 s).trans (Bm6 s a),rfl⟩
 ·trivial
theorem Cg8:B0 a8 GX 122 Ai0:=xf [] (Am0 LF) OH rfl ⟨VX,trivial⟩ rfl (by kernel_rfl) follows λargs=>by
 unfold OH;split
 ·rename_i s;exact λa=>⟨rfl,rfl,rfl,_,_,(Co0 LF noY () 0 s).trans (Bk7 s a),rfl⟩
 ·trivial
theorem A77:B0 a8 GX 124 NX:=xf [0,0] (U9 LF) NY rfl trivial rfl (by kernel_rfl) follows λargs=>by
 unfold NY;split
 ·rename_i s base;exact λa=>λb=>⟨rfl,rfl,rfl,_,_,(Cm0 LF noY () 0 s base).trans (Bj5 s base a b),rfl⟩
 ·trivial
theorem C33:B0 a8 GX 123 By4:=xf [0,0] (B20 LF) Ai6 rfl ⟨Cg8,A77,trivial⟩ rfl (by kernel_rfl) follows λargs=>by
 unfold Ai6;split
 ·rename_i s;exact λa=>⟨rfl,rfl,rfl,_,_,(C58 LF noY () 0 s).trans (B67 s a),rfl⟩
 ·trivial
theorem Bh7:B0 a8 GX 121 PC:=xf [1] (RP LF) EH rfl ⟨JS,trivial⟩ rfl (by kernel_rfl) follows λargs=>by
 unfold EH;split
 ·rename_i s;exact λa=>⟨rfl,rfl,rfl,_,_,(B77 LF noY () 0 s).trans (Au0 s a),rfl⟩
 ·trivial
theorem NT:B0 a8 GX 90 Pc:=xf [] (Yl LF) Rf rfl ⟨Bh7,Cg8,C33,A77,trivial⟩ rfl (by kernel_rfl) follows λargs=>by
 unfold Rf;split
 ·rename_i s;exact λa=>⟨rfl,rfl,rfl,_,_,(At5 LF noY () 0 s).trans (TO s a),rfl⟩
 ·trivial
theorem C98:B0 a8 GX 108 By7:=xf [0,0] (Sb LF) PH rfl ⟨Bh7,C33,trivial⟩ rfl (by kernel_rfl) follows λargs=>by
 unfold PH;split
 ·rename_i s;exact λa=>⟨rfl,rfl,rfl,_,_,(Cs2 LF noY () 0 s).trans (Bo8 s a),rfl⟩
 ·trivial
theorem Df0:B0 a8 GX 180 C17:=xf [0,0] (GG LF) Ak1 rfl ⟨JS,A77,Ch2,trivial⟩ rfl (by kernel_rfl) follows λargs=>by
 unfold Ak1;split
 ·rename_i s;exact λa=>⟨rfl,rfl,rfl,_,_,(C78 LF noY () 0 s).trans (Cf8 s a),rfl⟩
 ·trivial
theorem De9:B0 a8 GX 67 C16:=xf [] (GF LF) Ak0 rfl ⟨Ch2,trivial⟩ rfl (by kernel_rfl) follows λargs=>by
 unfold Ak0;split
 ·rename_i v;exact λa=>⟨rfl,rfl,rfl,_,_,(C77 LF noY () 0 v).trans (Cf6 v a),rfl⟩
 ·trivial
theorem Bw6:B0 a8 GX 117 KV:=xf [] (Cd LF) Rg rfl trivial rfl (by kernel_rfl) follows λargs=>by
 unfold Rg;split
 ·rename_i s;exact λa=>⟨rfl,rfl,rfl,_,_,(Aw5 LF noY () 0 s).trans (UD s a),rfl⟩
 ·trivial
theorem Ci2:B0 a8 GX 17 Aj3:=xf [] (Se LF) PQ rfl trivial rfl (by kernel_rfl) follows λargs=>by
 unfold PQ;split
 ·rename_i s;exact λa=>⟨rfl,rfl,rfl,_,_,(Cu1 LF noY () 0 s).trans (Bq9 s a),rfl⟩
 ·trivial
theorem Oz:B0 a8 GX 88 Jd:=xf [1] (Ft LF) Xq rfl trivial rfl (by kernel_rfl) follows λargs=>by
 unfold Xq;split
 ·rename_i s c;exact λa=>λb=>(let⟨r,H,e,q⟩:=Ab1 s c a b;⟨rfl,rfl,rfl,r,H,(Br9 LF noY () 0 s c).trans e,q⟩)
 ·trivial
theorem Da1:B0 a8 GX 147 By9:=xf [] (Ii LF) PL rfl trivial rfl (by kernel_rfl) follows λargs=>by
 unfold PL;split
 ·rename_i b;exact λa=>⟨rfl,rfl,rfl,_,_,(Ct1 LF noY () 0 b).trans (Bp8 b a),rfl⟩
 ·trivial
theorem Ci3:B0 a8 GX 118 Aj4:=xf [0,0] (O4 LF) PT rfl ⟨Da1,trivial⟩ rfl (by kernel_rfl) follows λargs=>by
 unfold PT;split
 ·rename_i s;exact λa=>⟨rfl,rfl,rfl,_,_,(Cu3 LF noY () 0 s).trans (Br0 s a),rfl⟩
 ·trivial
theorem Ah3:B0 a8 GX 116 ET:=xf [1] (GB LF) Xo rfl ⟨Oz,trivial⟩ rfl (by kernel_rfl) follows λargs=>by
 unfold Xo;split
 ·rename_i s;exact λa=>⟨rfl,rfl,rfl,_,_,(Br3 LF noY () 0 s).trans (Aa1 s a),rfl⟩
 ·trivial
theorem JQ:B0 a8 GX 86 Rj:=xf [] (Sf LF) Nh rfl ⟨Ah3,Bw6,Ci3,trivial⟩ rfl (by kernel_rfl) follows λargs=>by
 unfold Nh;split
 ·rename_i s;exact λa=>⟨rfl,rfl,rfl,_,_,(Aa0 LF noY () 0 s).trans (KN s a),rfl⟩
 ·trivial
theorem C02:B0 a8 GX 87 A99:=xf [0,0] (Kt LF) EV rfl ⟨Ah3,Ci3,trivial⟩ rfl (by kernel_rfl) follows λargs=>by
 unfold EV;split
 ·rename_i s;exact λa=>⟨rfl,rfl,rfl,_,_,(Cb2 LF noY () 0 s).trans (A13 s a),rfl⟩
 ·trivial
theorem Da0:B0 a8 GX 173 By8:=xf [0,0] (Sc LF) PK rfl ⟨NS,trivial⟩ rfl (by kernel_rfl) follows λargs=>by
 unfold PK;split
 ·rename_i s;exact λa=>⟨rfl,rfl,rfl,_,_,(Cs9 LF noY () 0 s).trans (Bp7 s a),rfl⟩
 ·trivial
theorem Da6:B0 a8 GX 145 Bz4:=xf [0,0] (Sg LF) QA rfl ⟨Oz,Da0,trivial⟩ rfl (by kernel_rfl) follows λargs=>by
 unfold QA;split
 ·rename_i s;exact λa=>⟨rfl,rfl,rfl,_,_,(Cv4 LF noY () 0 s).trans (Bs6 s a),rfl⟩
 ·trivial
theorem Da5:B0 a8 GX 70 Bz3:=xf [] (An1 LF) PZ rfl ⟨NS,trivial⟩ rfl (by kernel_rfl) follows λargs=>by
 unfold PZ;split
 ·rename_i v;exact λa=>⟨rfl,rfl,rfl,_,_,(Cv2 LF noY () 0 v).trans (Bs4 v a),rfl⟩
 ·trivial
theorem Bw5:B0 a8 GX 138 Xg:=by
 refine B0.fix (pf:=Re) _ (Bt (C₀:=Dg LF) (L7.ok (l:=[(165,Jc),(166,Aj6),(154,FF)]) rfl ⟨NR,Ci5,A81,trivial⟩) (I4 rfl (by kernel_rfl)) follows ?_);intro args ret f h;unfold Re at h;split at h
 ·rename_i s p v n;obtain⟨a,h⟩:=B9 h;obtain⟨b,h⟩:=B9 h;obtain⟨c,h⟩:=B9 h;obtain⟨d,h⟩:=B9 h;obtain⟨rfl,rfl⟩:=J0 h;have e:=(MD LF noY () 0 s p v n).trans (HD s p v n a b c d);exact⟨rfl,1,_,[],e,rfl,rfl⟩
 ·cases h
theorem Bx1:B0 a8 GX 109 KZ:=by
 refine B0.fix (pf:=Rm) _ (Bt (C₀:=Yp LF) (L7.ok (l:=[(138,Xg)]) rfl ⟨Bw5,trivial⟩) (I4 rfl (by kernel_rfl)) follows ?_);intro args ret c h;unfold Rm at h;split at h
 ·rename_i s p;obtain⟨a,h⟩:=B9 h;obtain⟨b,h⟩:=B9 h;obtain⟨rfl,rfl⟩:=J0 h;have e:=(A53 LF noY () 0 s p).trans (VD s p a b);exact⟨rfl,1,_,[],e,rfl,rfl⟩
 ·cases h
end
section
theorem C90:B0 a8 GX 179 Bx7:=xf [0,0] (Y6 LF) OD rfl trivial rfl (by kernel_rfl) follows λargs=>by
 unfold OD;split
 ·rename_i s;exact λa=>⟨rfl,rfl,rfl,_,_,(Cn2 LF noY () 0 s).trans (Bk2 s a),rfl⟩
 ·trivial
theorem Cy5:B0 a8 GX 164 A86:=xf [1,0] (Ko LF) DQ rfl ⟨JS,C90,Df0,trivial⟩ rfl (by kernel_rfl) follows λargs=>by
 unfold DQ;split
 ·rename_i s last;exact λa=>(let⟨r,H,e,q⟩:=Aq3 s last a;⟨rfl,rfl,rfl,r,H,(B41 LF noY () 0 s last).trans e,q⟩)
 ·trivial
theorem Df3:B0 a8 GX 135 C20:=xf [0,0] (AN LF) Ak4 rfl ⟨Ci6,Cy5,trivial⟩ rfl (by kernel_rfl) follows λargs=>by
 unfold Ak4;split
 ·rename_i s;exact λa=>(let⟨r,H,e,q⟩:=C86 s a;⟨rfl,rfl,rfl,r,H,(C85 LF noY () 0 s).trans e,q⟩)
 ·trivial
theorem C11:B0 a8 GX 95 Ba7:=xf [0,0] (X6 LF) FO rfl trivial rfl (by kernel_rfl) follows λargs=>by
 unfold FO;split
 ·rename_i a b c d e f g h;exact λi=>⟨rfl,rfl,rfl,_,_,(Cj7 LF noY () 0 a b c d e f g h).trans (A84 a b c d e f g h i),rfl⟩
 ·trivial
theorem Df2:B0 a8 GX 96 C19:=xf [] (GH LF) Ak3 rfl ⟨C89,Bi1,trivial⟩ rfl (by kernel_rfl) follows λargs=>by
 unfold Ak3;split
 ·rename_i b a l;exact λc=>λd=>(let⟨r,H,e,q⟩:=C83 b a l c d;⟨rfl,rfl,rfl,r,H,(C82 LF noY () 0 b a l).trans e,q⟩)
 ·trivial
theorem Df1:B0 a8 GX 68 C18:=xf [] (B22 LF) Ak2 rfl ⟨C11,Df2,trivial⟩ rfl (by kernel_rfl) follows λargs=>by
 unfold Ak2;split
 ·rename_i a b c d f g h i;exact λj=>(let⟨r,H,e,q⟩:=C81 a b c d f g h i j;⟨rfl,rfl,rfl,r,H,(C80 LF noY () 0 a b c d f g h i).trans e,q⟩)
 ·trivial
theorem Da2:B0 a8 GX 146 Bz0:=xf [0,0] (Y8 LF) PN rfl trivial rfl (by kernel_rfl) follows λargs=>by
 unfold PN;split
 ·rename_i s;exact λa=>⟨rfl,rfl,rfl,_,_,(Ct7 LF noY () 0 s).trans (Bq2 s a),rfl⟩
 ·trivial
theorem Cz5:B0 a8 GX 114 A93:=xf [1,0] (Q5 LF) EL rfl ⟨Oz,Da6,Da2,trivial⟩ rfl (by kernel_rfl) follows λargs=>by
 unfold EL;split
 ·rename_i s last;exact λa=>(let⟨r,H,e,q⟩:=Ay5 s last a;⟨rfl,rfl,rfl,r,H,(B93 LF noY () 0 s last).trans e,q⟩)
 ·trivial
theorem Bw7:B0 a8 GX 113 KW:=xf [] (Ce LF) Rh rfl trivial rfl (by kernel_rfl) follows λargs=>by
 unfold Rh;split
 ·rename_i s;exact λa=>⟨rfl,rfl,rfl,_,_,(Aw6 LF noY () 0 s).trans (UF s a),rfl⟩
 ·trivial
theorem Da8:B0 a8 GX 84 Bz6:=xf [0,0] (Y9 LF) QC rfl ⟨Bw7,Cz5,trivial⟩ rfl (by kernel_rfl) follows λargs=>by
 unfold QC;split
 ·rename_i s;exact λa=>(let⟨r,H,e,q⟩:=Cv9 s a;⟨rfl,rfl,rfl,r,H,(Cv8 LF noY () 0 s).trans e,q⟩)
 ·trivial
theorem Cz7:B0 a8 GX 98 A95:=xf [] (Kr LF) EN rfl trivial rfl (by kernel_rfl) follows λargs=>by
 unfold EN;split
 ·rename_i v;exact λa=>⟨rfl,rfl,rfl,_,_,(B96 LF noY () 0 v).trans (Ay8 v a),rfl⟩
 ·trivial
theorem Da7:B0 a8 GX 71 Bz5:=xf [] (W5 LF) QB rfl ⟨Cz7,trivial⟩ rfl (by kernel_rfl) follows λargs=>by
 unfold QB;split
 ·rename_i a b c d e f g h;exact λi=>⟨rfl,rfl,rfl,_,_,(Cv6 LF noY () 0 a b c d e f g h).trans (Bs7 a b c d e f g h i),rfl⟩
 ·trivial
theorem Ah1:B0 a8 GX 168 Ng:=xf [] (GA LF) Xm rfl trivial rfl (by kernel_rfl) follows λargs=>by
 unfold Xm;split
 ·rename_i n;exact⟨rfl,rfl,rfl,_,_,(Bo9 LF noY () 0 n).trans (ZJ n ),rfl⟩
 ·trivial
theorem Ah0:B0 a8 GX 170 Nf:=xf [] (W3 LF) Xl rfl trivial rfl (by kernel_rfl) follows λargs=>by
 unfold Xl;split
 ·rename_i d c f;exact λa=>λb=>λe=>⟨rfl,rfl,rfl,_,_,(Bn7 LF noY () 0 d c f).trans (ZF d c f a b e),rfl⟩
 ·trivial
theorem C97:B0 a8 GX 183 Ai8:=xf [] (Am8 LF) PE rfl trivial rfl (by kernel_rfl) follows λargs=>by
 unfold PE;split
 ·rename_i d;exact λa=>⟨rfl,rfl,rfl,_,_,(Cr7 LF noY () 0 d).trans (Bo5 d a),rfl⟩
 ·trivial
theorem C99:B0 a8 GX 189 Aj0:=xf [] (Ih LF) PJ rfl trivial rfl (by kernel_rfl) follows λargs=>by
 unfold PJ;split
 ·rename_i b;exact λa=>⟨rfl,rfl,rfl,_,_,(Cs7 LF noY () 0 b).trans (Bp2 b a),rfl⟩
 ·trivial
end
section
theorem Ci0:B0 a8 GX 182 EI:=by
 refine B0.fix (pf:=PI) _ (Bt (C₀:=Am9 LF) (L7.ok (l:=[]) rfl trivial) (I4 rfl (by kernel_rfl)) follows ?_);intro args ret a h;unfold PI at h;split at h
 ·rename_i b;obtain⟨rfl,rfl⟩:=J0 h;have e:=(Cs4 LF noY () 0 b).trans (Bp0 b );exact⟨rfl,1,_,[],e,rfl,rfl⟩
 ·cases h
theorem Bi2:AJ a8 GX 188 Pd:=by
 refine Ez (C₀:=RQ LF) (L7.ok (l:=[]) rfl trivial) (I4 rfl (by kernel_rfl)) follows ?_;intro args H ret f h;unfold Pd at h;split at h
 ·rename_i k b;obtain⟨a,h⟩:=B9 h;obtain⟨c,h⟩:=B9 h;obtain⟨rfl,rfl⟩:=J0 h;refine⟨rfl,rfl,λZ d s=>?_⟩;have e:=(B81 LF d s 0 k b).trans (Av3 k b a c);exact⟨1,_,e,rfl⟩
 ·cases h
theorem Db6:AJ a8 GX 169 PB:=by
 refine Ez (C₀:=Ym LF) (Tp (lx:=[(182,EI),(183,Ai8)]) (ly:=[(188,Pd)]) (ls:=[]) rfl rfl rfl ⟨Ci0,C97,trivial⟩ ⟨Bi2,trivial⟩ trivial) (I4 rfl (by kernel_rfl)) follows ?_;intro args H ret f h;unfold PB at h;split at h
 ·rename_i q b z l;obtain⟨a,h⟩:=B9 h;obtain⟨c,h⟩:=B9 h;obtain⟨d,h⟩:=B9 h;obtain⟨rfl,rfl⟩:=J0 h;obtain⟨g,i,e0⟩:=Bn9 q b z l a c d;exact⟨rfl,rfl,λZ e s=>⟨1,_,(Cr3 LF e s 0 q b z l).trans (e0 _ _),rfl⟩⟩
 ·cases h
theorem Ch9:B0 a8 GX 141 Ai9:=by
 refine B0.fix (pf:=PG) _ (I6 [0,0] (C₀:=P6 LF) (Tp (lx:=[(168,Ng),(170,Nf)]) (ly:=[(169,PB)]) (ls:=[]) rfl rfl rfl ⟨Ah1,Ah0,trivial⟩ ⟨Db6,trivial⟩ trivial) (I4 rfl (by kernel_rfl)) follows ?_);intro args ret f h;unfold PG at h;split at h
 ·rename_i b a p;obtain⟨c,h⟩:=B9 h;obtain⟨rfl,rfl⟩:=J0 h;obtain⟨r,H,e,d⟩:=Cr9 b a p c;exact⟨rfl,rfl,rfl,1,r,H,(Cr8 LF noY () 0 b a p).trans e,d⟩
 ·cases h
end
section
theorem Db5:AJ a8 GX 186 NZ:=by
 refine Ez (C₀:=Yj LF) (Tp (lx:=[(182,EI),(189,Aj0)]) (ly:=[(188,Pd)]) (ls:=[]) rfl rfl rfl ⟨Ci0,C99,trivial⟩ ⟨Bi2,trivial⟩ trivial) (I4 rfl (by kernel_rfl)) follows ?_;intro args H ret j h;unfold NZ at h;split at h
 ·rename_i a n i b c z l;obtain⟨d,h⟩:=B9 h;obtain⟨e,h⟩:=B9 h;obtain⟨f,h⟩:=B9 h;obtain⟨rfl,rfl⟩:=J0 h;obtain⟨k,e0⟩:=Bj7 a n i b c z l d e f;exact⟨rfl,rfl,λZ g s=>⟨1,_,(Cm1 LF g s 0 a n i b c z l).trans (e0 _ _),rfl⟩⟩
 ·cases h
theorem Ch1:B0 a8 GX 104 WK:=xf [] (Fr LF) Xi rfl trivial rfl (by kernel_rfl) follows λargs=>by
 unfold Xi;split
 ·rename_i s c;exact λa=>λb=>⟨rfl,rfl,rfl,_,_,(Bl6 LF noY () 0 s c).trans (YM s c a b),rfl⟩
 ·trivial
theorem Bh5:B0 a8 GX 80 CL:=xf [] (RJ LF) DY rfl ⟨Ch1,trivial⟩ rfl (by kernel_rfl) follows λargs=>by
 unfold DY;split
 ·rename_i s c;exact λa=>λb=>⟨rfl,rfl,rfl,_,_,(B54 LF noY () 0 s c).trans (Ar3 s c a b),rfl⟩
 ·trivial
end
end
section
open Go Go.Proofs Go.Sort
set_option maxRecDepth 100000
theorem JD{C:Cfg}{Z:Type}{I:Z->(Nat->Prop)->(Nat->Prop)->World->Prop}(J:HI I){f:Ctx}{u:Nat->Prop}{w w':World}{z v1:Bool}{E o r:Nat}{l l' m:LL}{s:Z}(g cap:Nat)(H:List Value)(i:Array Value)
  (P:Nx C E=false) (j:HR f [.arr z E 1 l,.arr v1 o r m] w) (K:I s f.St u w) (M:∀b g,f.nm b=some g->¬u g)
  (d:f.nm 0=some g\/g=w.heap.size) (O:g<w'.heap.size) (e:∀k,k<w.heap.size->f.nm 0≠some k->w'.heap[k]? = w.heap[k]?) (p:w.heap.size<=w'.heap.size) (R:w'.os=w.os) (S:w'.tape=w.tape) (T:w'.output=w.output)
  (n:w'.heap[g]? = some (.cells i E (0,0))) (X:Els f.St w' 1 l' H) (D:l'≠[]) (t:∀q,q<H.length->i[q]? = H[q]?) (Y:H.length<=i.size) (B:l'.length<=cap) (hm:cap<=maxLen) (L:i.size=cap) :
  Df C I f [.arr z E 1 l,.arr v1 o r m] w u (.fl 0) [.arr z E 1 l',.arr v1 o r m] s (.slice (some ⟨g,0,none⟩) l'.length cap) w':=by
 have x:0<[Blk.arr z E 1 l,.arr v1 o r m].length:=by simp
 have G:(f.re 0 (some g)).nm 0=some g:=by simp[Ctx.re]
 have F:¬Kw C (A6 [Blk.arr z E 1 l,.arr v1 o r m] 0):=by simp[A6,Blk.shp,Kw,P]
 have a:([Blk.arr z E 1 l,.arr v1 o r m].map (Blk.kill 0)).set 0 (.arr z E 1 l')=[.arr z E 1 l',.arr v1 o r m]:=rfl;have N:¬f.St g:=by
  rcases d with h|h
  ·exact(j.lt 0 g h).2.2
  ·intro hs;have:=j.stlt g hs;omega
 obtain⟨U,V,q3⟩:=UH (C:=C) (y:=.arr z E 1 l') (ng:=some g) (w':=w') j x F (λk a=>by
   simp only[p5] at a;subst a;refine⟨O,N,λc t A=>?_⟩;rcases d with h|h
   ·exact t (j.inj c 0 _ A h)
   ·have:=(j.lt c _ A).2.1;omega)
  (λk a=>by
   simp only[p5] at a;subst a;rcases d with h|h
   ·exact .inl h
   ·exact .inr (by omega)) e p R S T
  (BR.els G n X (by rintro⟨_,h⟩;exact D h) t Y) rfl
 rw[a] at U V;refine⟨_,u,U.lift u,V,?_,λc t=>?_,?_,λb W v=>?_⟩
 ·refine .fl 0 g z E 1 l'.length cap rfl (λ_ h=>D (ab2.1 h)) G B hm ?_;simp only[ad7,n,L,z7]
 ·simp only[PV.nms,List.mem_singleton] at t;subst t;simp
 ·refine J.mono s f.St u w f.St w' K (λ_ h=>h) (λk a Q=>(J.foot _ _ _ _ K k Q).2 a) (λk a=>Nat.lt_of_lt_of_le (j.stlt k a) p) (λk a=>?_) p R S T;rcases a with a|a
  ·exact e k (j.stlt k a) (λh=>(j.lt 0 k h).2.2 a)
  ·exact e k (J.foot _ _ _ _ K k a).1 (λh=>M 0 k h a)
 ·simp only[Ctx.re] at v;split at v
  ·simp only[p5] at v;subst v;rcases d with h|h
   ·exact M 0 _ h
   ·intro Q;have:=(J.foot _ _ _ _ K _ Q).1;omega
  ·exact M b W v
theorem Bq{w:World}{g o e:Nat}{vs:List Value}{a:Array Value}(c:w.heap[g]? = some (.cells a e (0,0)))(f:o+vs.length<=a.size)(l:∀v∈vs,v.oneCell'=true) :
  (w.setCells g o vs).heap[g]? = some (.cells (F8 a.toList o vs).toArray e (0,0))/\(∀k,k≠g->(w.setCells g o vs).heap[k]? = w.heap[k]?)/\(w.setCells g o vs).heap.size=w.heap.size/\(w.setCells g o vs).os=w.os/\(w.setCells g o vs).tape=w.tape/\(w.setCells g o vs).output=w.output:=by
 obtain⟨w',i,m,n,p,q,t,u,_⟩:=M5 (P:=a8) (o:=o) c f l;have b:∀j,j<vs.length->∃v,w.cell? ⟨g,o+0+j,none⟩=some v:=λj d=>by
  refine⟨a[o+j]'(by omega),?_⟩;simp[ac9,c,ac5 (show o+j<a.size by omega)]
 have r:=run_storeCells_cells (P:=a8) g o vs 0 w (λj d=>by obtain⟨v,h⟩:=b j d;rw[h];rfl) (λj d=>by simp[ad2,c]) l;rw[r] at i;simp only[ai2,Result.ok.injEq,true_and] at i;rw[i];exact⟨m,n,p,q,t,u⟩
theorem HH{St:Nat->Prop}{w:World}{l:LL}{d:List Value}{i:Nat}{n:Int}(h:Els St w 1 l d)(q:i<=l.length):Els St w 1 (La l i n) (d.take i++j6 .i64 n::d.drop i):=by
 have c:=h.1;rw[z7] at c;have m:Els St w 1 (l.take i) (d.take i):=by
  refine⟨by rw[j8,j8,c,z7],λj f=>?_⟩;rw[j8] at f;rw[List.getElem_take];obtain⟨a,b⟩:=h.2 j (by omega);refine⟨a,λk g=>?_⟩;obtain⟨U,e,v⟩:=b k g;exact⟨U,by rw[x9 (by omega)];exact e,v⟩
 have o:Els St w 1 [[SV.int .i64 n]] [j6 .i64 n]:=by
  refine⟨rfl,λj f=>?_⟩;have:j=0:=by simpa using f
  subst this;refine⟨rfl,λk g=>?_⟩;have:k=0:=by simpa using g
  subst this;exact⟨_,rfl,.int _ _⟩
 have p:Els St w 1 (l.drop i) (d.drop i):=by
  refine⟨by rw[j1,j1,c,z7],λj f=>?_⟩;rw[j1] at f;rw[List.getElem_drop];obtain⟨a,b⟩:=h.2 (i+j) (by omega);refine⟨a,λk g=>?_⟩;obtain⟨U,e,v⟩:=b k g;exact⟨U,by rw[ae9];rw[show i+(j*1+k)=(i+j)*1+k by omega];exact e,v⟩
 have:=(m.append o).append p;unfold La;simpa using this
theorem HJ(l:LL)(i:Nat)(n:Int)(h:i<=l.length):(La l i n).length=l.length+1:=by unfold La;rw[j2,j0,j8,j1];omega
theorem SZ(l:LL)(i:Nat)(n:Int):La l i n≠[]:=by unfold La;simp
theorem Db7:AJ a8 GX 187 QJ:=by
 intro C hP hG Z I yh yv hI hy args H s ret Hc G Γ Φ w Vs g2 hH hg hi hd hc hn;unfold QJ at G;split at G
 ·rename_i i z l d;obtain⟨h0,G⟩:=B9 G;obtain⟨h1,G⟩:=B9 G;obtain⟨rfl,rfl⟩:=J0 G;obtain⟨i0,i1⟩:=E0.1 h0;obtain⟨i,rfl⟩:=y8 i0;have hl:=ab6 h1;have X:i<=l.length:=by
   have:(i:Int)<((l.length+1:Nat):Int):=i1;omega
  obtain⟨S,X0,V,rfl,hs,hx,hv⟩:=hc.arr3;obtain rfl:=hx.inv_int;have c0:Nx C 3=false:=by
   unfold Nx Cfg.sh;rw[hP];kernel_rfl
  obtain⟨g1,d0,n1,n2,n3,n4,n5⟩:=hH.arr' (b:=1) rfl (by simp);have f5:∃cap,V = .slice (some ⟨g1,0,none⟩) 1 cap:=by
   cases hv with
   | flv _ e sz h=>simp[A6,Blk.shp] at h
   | fl _ g v e sz n cap h e8 y R hm e6=>
    rw[n1] at y;simp only[p5] at y;subst y;simp only[A6,ab1,y9,aa9,Blk.shp,p5,Shp.arr.injEq] at h;obtain⟨_,_,_,h4⟩:=h;subst h4;exact⟨cap,rfl⟩
  obtain⟨A,rfl⟩:=f5;obtain⟨V1,p1,p2⟩:=n5 0 (by simp) 0 (by simp);have p3:V1 = .int .i64 d:=by cases p2;rfl
  subst p3;have t:∀j v,[j6 .i64 d][j]? = some v->w.cell? ⟨g1,0+j,none⟩=some v:=by
   intro j v x;have:j=0:=by
    have:=(ac6.1 x).1;simpa using this
   subst this;simp only[y9,p5] at x;subst x;simpa[ac9,n2] using p1
  have M:∀v∈[j6 .i64 d],v.oneCell'=true:=by simp[Value.oneCell']
  rw[j7];refine Ra (fn:=Tryz.f187) (by kernel_rfl) (by kernel_rfl) (by kernel_rfl) ?_;have B:∀(base:Option Addr) (c:Nat) (f:List Value),l.length<=c->c<l.length+1->f.length=l.length->(base=none->l.length=0)->(∀a,base=some a->∀j v,f[j]? = some v->w.cell? (a.add j)=some v)->Els Γ.St w 1 l f->
    Calls a8 187 #[.slice base l.length c,.int .i64 (l.length:Int),.slice (some ⟨g1,0,none⟩) 1 A] w λe w'=>∃V,e = .returned V/\Df C I Γ [.arr z 3 1 l,.arr false 3 1 [[SV.int .i64 d]]] w Φ (.fl 0) [.arr z 3 1 (La l l.length d),.arr false 3 1 [[SV.int .i64 d]]] s V w':=by
   intro base c f a1 a2 a3 a4 a5 a6;refine(Any2.slices_Insert_int_end_grow Tryz.lays2_21 base l.length c g1 0 1 A f [.int .i64 d] w (by omega) a1 a2 (by omega) a3 rfl a4 a5 t M).mono ?_;rintro e w' ⟨rfl,rfl⟩;refine⟨_,rfl,?_⟩;obtain⟨T,b7⟩:=Hm (w:=w) (need:=l.length+1) (cap:=c) (e:=3) (by omega);have hE:=HH (n:=d) a6 (ab8 l.length);have d8:f.take l.length++j6 .i64 d::f.drop l.length=f++[j6 .i64 d]:=by
    rw[ad6 (by omega),s7 (by omega)]
   rw[d8] at hE;have r:=HJ l l.length d (ab8 _);obtain⟨r1,r2⟩:=Yz (olds:=f) (Vs:=[j6 .i64 d]) (z:=(j6 .i64 0).cells) (k:=grownCap w (l.length+1) c 3) (n:=l.length) (m:=1) (size:=1) rfl (by omega) rfl T;have c7:(f.toArray++[j6 .i64 d].toArray)=(f++[j6 .i64 d]).toArray:=by simp
   rw[c7] at r1 r2;have key:∀(row:Array Value) (O:Nat),row.size=O->(∀q,q<(f++[j6 .i64 d]).length->row[q]? = (f++[j6 .i64 d])[q]?)->l.length+1<=O->O<=maxLen->
     Df C I Γ [.arr z 3 1 l,.arr false 3 1 [[SV.int .i64 d]]] w Φ (.fl 0) [.arr z 3 1 (La l l.length d),.arr false 3 1 [[SV.int .i64 d]]] s (.slice (some ⟨w.heap.size,0,none⟩) (l.length+1) O) (w.drew.alloc (.cells row 3)):=by
    intro row O b1 b2 b3 b4;have D:(w.drew.alloc (.cells row 3)).heap=w.heap.push (.cells row 3):=rfl;have:=JD (C:=C) (w':=w.drew.alloc (.cells row 3)) (l':=La l l.length d) hI w.heap.size O (f++[j6 .i64 d]) row c0 hH hi hd (.inr rfl) (by rw[D];simp) (λk N _=>H8 D N) (by rw[D];simp) rfl rfl rfl (H7 D) (hE.mono (λg hg=>H8 D (hH.stlt g hg)) (λ_ h=>h)) (SZ _ _ _) b2 (by rw[b1,j2,j5];omega) (by rw[r];exact b3) b4 b1;rw[r] at this;exact this
   exact key _ _ (r1.trans (z7 _)) r2 T b7
  have f9:∀(row:Array Value) (f:List Value),f.length=l.length->i<l.length->l.length+1<=row.size->(∀q,q<i->row[q]? = f[q]?)->
    ∀q,q<(f.take i++j6 .i64 d::f.drop i).length->(F8 (F8 row.toList i [j6 .i64 d]) (i+1) (f.drop i)).toArray[q]? = (f.take i++j6 .i64 d::f.drop i)[q]?:=by
   intro row f a1 a2 a3 a4 q hq;have f3:q<l.length+1:=by
    rw[j2,j0,j8,j1] at hq;omega
   have ht:(f.take i).length=i:=by rw[j8];omega
   have Y:row.toList.length=row.size:=y5;simp only[aa2];rw[M4 _ _ _ (by rw[D5,j1,Y];omega),M4 _ _ _ (by rw[j5,Y];omega)];by_cases h1:q<i
   ·rw[F9,F9,aa6 (by omega),x9 h1];simpa using a4 q h1
   ·by_cases h2:q=i
    ·subst h2;rw[F9,if_pos (by rw[j5];omega),w6 (by omega),ht,ai4];rfl
    ·rw[if_pos (by rw[j1];omega),w6 (by omega),ht,show q-i=(q-(i+1))+1 by omega,ab1]
  have P:∀(g c:Nat) (f:List Value),i<l.length->l.length<=c->c<l.length+1->f.length=l.length->(∀j v,f[j]? = some v->w.cell? ⟨g,0+j,none⟩=some v)->(∀v∈f,v.oneCell'=true)->Els Γ.St w 1 l f->
    Calls a8 187 #[.slice (some ⟨g,0,none⟩) l.length c,.int .i64 (i:Int),.slice (some ⟨g1,0,none⟩) 1 A] w λe w'=>∃V,e = .returned V/\Df C I Γ [.arr z 3 1 l,.arr false 3 1 [[SV.int .i64 d]]] w Φ (.fl 0) [.arr z 3 1 (La l i d),.arr false 3 1 [[SV.int .i64 d]]] s V w':=by
   intro g c f W a1 a2 a3 a4 a5 a6;refine(Any2.slices_Insert_int_grow Tryz.lays2_21 g 0 l.length c i g1 0 1 A f [.int .i64 d] w W (by omega) a1 a2 (by omega) a3 rfl a4 t a5 M).mono ?_;rintro e w' ⟨rfl,rfl⟩;refine⟨_,rfl,?_⟩;obtain⟨T,b7⟩:=Hm (w:=w) (need:=l.length+1) (cap:=c) (e:=3) (by omega);have hE:=HH (n:=d) a6 X;have r:=HJ l i d X;have key:∀(row:Array Value) (O:Nat),row.size=O->(∀q,q<i->row[q]? = f[q]?)->l.length+1<=O->O<=maxLen->
     Df C I Γ [.arr z 3 1 l,.arr false 3 1 [[SV.int .i64 d]]] w Φ (.fl 0) [.arr z 3 1 (La l i d),.arr false 3 1 [[SV.int .i64 d]]] s (.slice (some ⟨w.heap.size,0,none⟩) (l.length+1) O) (((w.alloc (.cells row 3)).drew.setCells w.heap.size i [j6 .i64 d]).drew.setCells w.heap.size (i+1) (f.drop i)):=by
    intro row O b1 b2 b3 b4;have D:(w.alloc (.cells row 3)).drew.heap=w.heap.push (.cells row 3):=rfl;obtain⟨c1,c2,c3,c4,c5,c6⟩:=Bq (w:=(w.alloc (.cells row 3)).drew) (o:=i) (vs:=[j6 .i64 d]) (H7 D) (by rw[j5];omega) M;generalize f6:(w.alloc (.cells row 3)).drew.setCells w.heap.size i [j6 .i64 d]=w1 at *;have Q:(F8 row.toList i [j6 .i64 d]).toArray.size=O:=by rw[s9,D5];simpa using b1
    obtain⟨d1,d2,d3,d4,d5,d6⟩:=Bq (w:=w1.drew) (o:=i+1) (vs:=f.drop i) c1 (by rw[Q,j1];omega) (λv hv=>a5 v (x3 hv));have b0:∀k,k<w.heap.size->(w1.drew.setCells w.heap.size (i+1) (f.drop i)).heap[k]? = w.heap[k]?:=λk N=>by
     rw[d2 k (by omega)];exact(c2 k (by omega)).trans (H8 D N)
    have e7:(w1.drew.setCells w.heap.size (i+1) (f.drop i)).heap.size=w.heap.size+1:=by
     rw[d3];show w1.heap.size=_;rw[c3,D];simp
    have:=JD (C:=C) (w':=w1.drew.setCells w.heap.size (i+1) (f.drop i)) (l':=La l i d) hI w.heap.size O (f.take i++j6 .i64 d::f.drop i) _ c0 hH hi hd (.inr rfl) (by rw[e7];omega) (λk N _=>b0 k N) (by rw[e7];omega) (d4.trans c4) (d5.trans c5) (d6.trans c6) d1 (hE.mono (λg hg=>b0 g (hH.stlt g hg)) (λ_ h=>h)) (SZ _ _ _) (f9 row f a3 W (by omega) b2) (by rw[s9,D5,j2,j0,j8,j1];simp only[s9,D5] at Q ⊢;omega) (by rw[r];exact b3) b4 (by rw[s9,D5];simpa using Q);rw[r] at this;exact this
   have f7:(j6 .i64 0).cells.size=1:=rfl;have ht:(f.take i).length=i:=by rw[j8];omega
   refine key _ _ ?_ (λq hq=>?_) T b7
   ·simp only[af0,s9,size_zeroCells,f7,z7,ht];have:l.length+1<=grownCap w (l.length+1) c 3:=T;show i+(l.length+1-i)+(grownCap w (l.length+1) c 3-(l.length+1))=grownCap w (l.length+1) c 3;omega
   ·rw[ac1 (by simp only[af0,s9,ht];omega),ac1 (by simp only[s9,ht];omega),aa2,x9 hq]
  have e9:∀(row:Array Value) (f:List Value),f.length=l.length->i<l.length->l.length+1<=row.size->(∀q,q<i->row[q]? = f[q]?)->
    ∀q,q<(f.take i++j6 .i64 d::f.drop i).length->(F8 (F8 row.toList (i+1) (f.drop i)) i [j6 .i64 d]).toArray[q]? = (f.take i++j6 .i64 d::f.drop i)[q]?:=by
   intro row f a1 a2 a3 a4 q hq;have f3:q<l.length+1:=by
    rw[j2,j0,j8,j1] at hq;omega
   have ht:(f.take i).length=i:=by rw[j8];omega
   have Y:row.toList.length=row.size:=y5;simp only[aa2];rw[M4 _ _ _ (by rw[D5,j5,Y];omega),M4 _ _ _ (by rw[j1,Y];omega)];by_cases h1:q<i
   ·rw[F9,F9,aa6 (by omega),x9 h1];simpa using a4 q h1
   ·by_cases h2:q=i
    ·subst h2;rw[if_pos (by rw[j5];omega),w6 (by omega),ht,ai4];rfl
    ·rw[if_neg (by rw[j5];omega),if_pos (by rw[j1];omega),w6 (by omega),ht,show q-i=(q-(i+1))+1 by omega,ab1]
  cases hs with
  | flv _ e2 f8 h'=>
   simp only[A6,y9,aa9,Blk.shp,p5,Shp.arr.injEq] at h';obtain⟨q1,q2,q3,h4⟩:=h';obtain rfl:=ab2.1 h4;obtain rfl:i=0:=by simpa using X
   exact B none 0 [] (by simp) (by simp) rfl (λ_=>rfl) (λa h=>by cases h) ⟨rfl,λj x=>by simp at x⟩
  | fl _ g z' e2 f8 n' cap h' e8 y R hm e6=>
   simp only[A6,y9,aa9,Blk.shp,p5,Shp.arr.injEq] at h';obtain⟨rfl,rfl,rfl,rfl⟩:=h';have f2:¬(z=true/\l=[]):=by rintro⟨q1,q2⟩;exact e8 q1 (by rw[q2];rfl)
   obtain⟨g',p,e3,hh,c8,K,d9⟩:=hH.arr' (b:=0) rfl f2;obtain rfl:g=g':=by
    rw[y] at e3;exact j9 e3
   have d7:p.size=cap:=by
    have:=e6;simp only[ad7,hh,p5,ah6,true_and,z7] at this;exact this
   rw[z7] at c8;have hO:Els Γ.St w 1 l (p.toList.take l.length):=by
    refine⟨by rw[j8,y5 (xs:=p)];omega,λj x=>⟨K j x,λk N=>?_⟩⟩;obtain⟨U,e1,u⟩:=d9 j x k N;refine⟨U,?_,u⟩;have g0:k<1:=by rw[<-K j x];exact N
    rw[aa0,S6];simpa using e1
   have F:(p.toList.take l.length).length=l.length:=by rw[j8,y5 (xs:=p)];omega
   have J:∀j v,(p.toList.take l.length)[j]? = some v->w.cell? ⟨g,0+j,none⟩=some v:=by
    intro j v x;have a7:j<l.length:=by
     have:=(ac6.1 x).1;omega
    rw[aa0,if_pos a7] at x;simpa[ac9,hh] using x
   have b5:∀v∈p.toList.take l.length,v.oneCell'=true:=by
    intro v hv;obtain⟨j,x,rfl⟩:=List.getElem_of_mem hv;have a7:j<l.length:=by omega
    obtain⟨_,u⟩:=hO.2 j a7;obtain⟨U,e1,u2⟩:=u 0 (by rw[K j a7];exact Nat.one_pos);rw[z7,ai2,ad0 x] at e1;cases e1;exact u2.oneCell
   have r:=HJ l i d X;have hE:=HH (n:=d) hO X;have a0:∀j,j<cap->(w.cell? ⟨g,j,none⟩).isSome=true:=by
    intro j x;simp only[ac9,hh];rw[ac5 (by omega)];rfl
   have a9:∀j,w.frozen? ⟨g,j,none⟩=false:=λj=>by simp[ad2,hh]
   have e5:g1≠g:=λe=>by
    have:=hH.inj 1 0 g (by rw[<-e];exact n1) y;omega
   have e4:cap<=9223372036854775807:=by
    simp only[maxLen] at hm;omega
   by_cases L:l.length+1<=cap
   ·have key:∀(w':World) (row:List Value),w'.heap[g]? = some (.cells row.toArray 3 (0,0))->(∀k,k≠g->w'.heap[k]? = w.heap[k]?)->w'.heap.size=w.heap.size->w'.os=w.os->w'.tape=w.tape->w'.output=w.output->row.length=cap->
      (∀q,q<((p.toList.take l.length).take i++j6 .i64 d::(p.toList.take l.length).drop i).length->row.toArray[q]? = ((p.toList.take l.length).take i++j6 .i64 d::(p.toList.take l.length).drop i)[q]?)->
      Df C I Γ [.arr z 3 1 l,.arr false 3 1 [[SV.int .i64 d]]] w Φ (.fl 0) [.arr z 3 1 (La l i d),.arr false 3 1 [[SV.int .i64 d]]] s (.slice (some ⟨g,0,none⟩) (l.length+1) cap) w':=by
     intro w' row k1 k2 k3 k4 k5 k6 k7 k8;have f0:¬ Γ.St g:=(hH.lt 0 g y).2.2;have:=JD (C:=C) (w':=w') (l':=La l i d) hI g cap ((p.toList.take l.length).take i++j6 .i64 d::(p.toList.take l.length).drop i) row.toArray c0 hH hi hd (.inl y) (by rw[k3];exact(hH.lt 0 g y).2.1) (λk N f1=>k2 k (λe=>f1 (e▸y))) (by omega) k4 k5 k6 k1
      (hE.mono (λk N=>k2 k (λe=>f0 (e▸N))) (λ_ h=>h)) (SZ _ _ _) k8
      (by rw[s9,k7,j2,j0,j8,j1,F];omega) (by rw[r];exact L) hm (by rw[s9,k7])
     rw[r] at this;exact this
    by_cases b6:i=l.length
    ·subst b6;refine(Any2.slices_Insert_int_end_room Tryz.lays2_21 g 0 l.length cap g1 0 1 A [.int .i64 d] w (by omega) L e4 rfl (λj x=>a0 _ (by omega)) (λj x=>a9 _) t M).mono ?_;rintro e w' ⟨rfl,rfl⟩;refine⟨_,rfl,?_⟩;obtain⟨c1,c2,c3,c4,c5,c6⟩:=Bq (w:=w) (o:=0+l.length) (vs:=[j6 .i64 d]) hh (by rw[j5];omega) M;refine key _ _ c1 c2 c3 c4 c5 c6 (by rw[D5];simpa using d7) (λq hq=>?_);rw[ad6 (by omega),s7 (by omega)] at hq ⊢;rw[j2,F,j5] at hq;simp only[aa2];rw[M4 _ _ _ (by rw[j5,y5 (xs:=p)];omega)];by_cases f4:q<l.length
     ·rw[F9,aa6 (by omega),aa0,if_pos f4]
     ·obtain rfl:q=l.length:=by omega
      rw[if_pos (by rw[j5];omega),w6 (by omega),F];simp
    ·have W:i<l.length:=by omega
     refine(Any2.slices_Insert_int_shift Tryz.lays2_21 g 0 l.length cap i g1 0 1 A (p.toList.take l.length) [.int .i64 d] w W (by omega) L e4 e5 F rfl J (λj x=>a0 _ (by omega)) (λj x=>a9 _) t b5 M 3 3 d0.size p.size (by simp[ad7,n2]) (by simp[ad7,hh]) (by omega) (by simp[ad2,n2]) (by simp[ad2,n2])).mono ?_;rintro e w' ⟨rfl,rfl⟩;refine⟨_,rfl,?_⟩;obtain⟨c1,c2,c3,c4,c5,c6⟩:=Bq (w:=w.drew) (o:=0+(i+1)) (vs:=(p.toList.take l.length).drop i) hh (by rw[j1,F];omega) (λv hv=>b5 v (x3 hv));generalize f6:w.drew.setCells g (0+(i+1)) ((p.toList.take l.length).drop i)=w1 at *;have Q:(F8 p.toList (0+(i+1)) ((p.toList.take l.length).drop i)).toArray.size=cap:=by rw[s9,D5];simpa using d7
     obtain⟨d1,d2,d3,d4,d5,d6⟩:=Bq (w:=w1) (o:=0+i) (vs:=[j6 .i64 d]) c1 (by rw[Q,j5];omega) M;refine key _ _ d1 (λk N=>(d2 k N).trans (c2 k N)) (d3.trans c3) (d4.trans c4) (d5.trans c5) (d6.trans c6) (by rw[D5];simpa using Q) ?_;rw[ac0,ac0];exact e9 p _ F W (by omega) (λq hq=>by rw[aa0,S6];simp)
   ·by_cases b6:i=l.length
    ·subst b6;exact B (some ⟨g,0,none⟩) cap (p.toList.take l.length) R (by omega) F (λh=>by cases h) (λa h j v x=>by
      obtain rfl:=j9 h;rw[L9];exact J j v x) hO
    ·exact P g cap _ (by omega) R (by omega) F J b5 hO
 ·cases G
end
section
open Go Go.Proofs
set_option maxRecDepth 100000
section
theorem C12:AJ a8 GX 175 CJ:=by
 refine Ez (C₀:=RE LF) (Tp (lx:=[(170,Nf),(168,Ng)]) (ly:=[(186,NZ),(187,QJ)]) (ls:=[]) rfl rfl rfl ⟨Ah0,Ah1,trivial⟩ ⟨Db5,Db7,trivial⟩ trivial) (I4 rfl (by kernel_rfl)) follows ?_;intro args H ret o h;unfold CJ at h;split at h
 ·rename_i a n i b c z l;obtain⟨d,h⟩:=B9 h;obtain⟨f,h⟩:=B9 h;obtain⟨g,h⟩:=B9 h;obtain⟨j,h⟩:=B9 h;obtain⟨k,h⟩:=B9 h;obtain⟨rfl,rfl⟩:=J0 h;refine⟨rfl,rfl,λZ m s=>?_⟩;have e:=(B30 LF m s 0 a n i b c z l).trans (Ao7 a n i b c z l d f g j k);exact⟨1,_,e,rfl⟩
 ·cases h
theorem C96:B0 a8 GX 155 By6:=by
 refine B0.fix (pf:=PD) _ (I6 [1,0] (C₀:=Y7 LF) (Tp (lx:=[(80,CL)]) (ly:=[(175,CJ)]) (ls:=[]) rfl rfl rfl ⟨Bh5,trivial⟩ ⟨C12,trivial⟩ trivial) (I4 rfl (by kernel_rfl)) follows ?_);intro args ret c h;unfold PD at h;split at h
 ·rename_i s;obtain⟨a,h⟩:=B9 h;obtain⟨rfl,rfl⟩:=J0 h;obtain⟨r,H,e,b⟩:=Cr5 s a;exact⟨rfl,rfl,rfl,1,r,H,(Cr4 LF noY () 0 s).trans e,b⟩
 ·cases h
end
end
section
open Go Go.Proofs Go.Sort
set_option maxRecDepth 100000
theorem Cj4:B0 a8 GX 139 WR:=by
 refine B0.fix (pf:=Xy) _ (J1 (fn:=Tryz.f139) (by kernel_rfl) (by kernel_rfl) (by kernel_rfl) ?_);intro args ret l h;unfold Xy at h;split at h
 ·rename_i s;obtain⟨b,h⟩:=B9 h;obtain⟨rfl,rfl⟩:=J0 h;refine⟨rfl,rfl,λC n a o w m c g f=>?_⟩;obtain⟨U,rfl,j⟩:=f.arr1;obtain⟨k,rfl,rfl⟩:=j.inv_str;have i:=L4 b;refine(Any.utf8_ValidString Tryz.lays196 k w (by simp at i;omega) (Cn0 c a)).mono ?_;rintro e w' ⟨rfl,d⟩;rw[<-A74];exact⟨_,rfl,d,VP.mk_bool _⟩
 ·cases h
theorem Cj1:B0 a8 GX 140 WO:=by
 refine B0.fix (pf:=Xw) _ (J1 (fn:=Tryz.f140) (by kernel_rfl) (by kernel_rfl) (by kernel_rfl) ?_);intro args ret j h;unfold Xw at h;split at h
 ·rename_i s;obtain⟨a,h⟩:=B9 h;obtain⟨rfl,rfl⟩:=J0 h;refine⟨rfl,rfl,λC m b n w k l d c=>?_⟩;obtain⟨U,rfl,g⟩:=c.arr1;obtain⟨i,rfl,rfl⟩:=g.inv_str;have f:=L4 a;refine(Any.utf8_RuneCountInString Tryz.lays195 i w (by simp at f;omega)).mono ?_;rintro e w' ⟨rfl,pos,rfl⟩;rw[Lib.runeCountL_eq];exact⟨_,rfl,Al2 _ _ _,VP.mk_int _ _⟩
 ·cases h
theorem Cy3:B0 a8 GX 153 Ts:=λargs ret a h=>by
 have:L3 (Ts args)=none:=by unfold Ts WG;split<;>rfl
 rw[this] at h;cases h
theorem C13:A85 a8 GX 152 CN:=by
 refine Ae0 (C₀:=Ad LF) ((L7.ok (l:=[(153,Ts),(154,FF)]) rfl ⟨Cy3,A81,trivial⟩)) (I4 rfl (by kernel_rfl)) follows ?_;intro args H L h Z a s d c;unfold CN at h;split at h
 ·rename_i p t n;simp only[p5,ah6] at h;obtain⟨b,rfl⟩:=h;obtain⟨e,f⟩:=A51 (R:=PV × List Blk × Z) a p t n s d b c;exact⟨1,_,(Cd1 LF a 0 p t n s).trans (f _)⟩
 ·cases h
end
section
open Go Go.Proofs
set_option maxRecDepth 100000
section
theorem Cz0:B0 a8 GX 126 A89:=xf [] (Kp LF) EA rfl ⟨C96,Ch9,trivial⟩ rfl (by kernel_rfl) follows λargs=>by
 unfold EA;split
 ·rename_i s;exact λa=>⟨rfl,rfl,rfl,_,_,(B56 LF noY () 0 s).trans (As5 s a),rfl⟩
 ·trivial
theorem Ch6:B0 a8 GX 92 OY:=xf [] (Sa LF) OZ rfl ⟨Cg6,Cz0,trivial⟩ rfl (by kernel_rfl) follows λargs=>by
 unfold OZ;split
 ·rename_i s;exact λa=>⟨rfl,rfl,rfl,_,_,(Cq4 LF noY () 0 s).trans (Bn1 s a),rfl⟩
 ·trivial
theorem C95:B0 a8 GX 110 By3:=xf [0,0] (Ns LF) OR rfl ⟨Cj4,Cj1,Ch4,Ch9,Ch6,trivial⟩ rfl (by kernel_rfl) follows λargs=>by
 unfold OR;split
 ·rename_i s;exact λa=>(let⟨r,H,e,q⟩:=Cp3 s a;⟨rfl,rfl,rfl,r,H,(Cp2 LF noY () 0 s).trans e,q⟩)
 ·trivial
theorem C93:B0 a8 GX 136 By0:=xf [] (Ig LF) OG rfl trivial rfl (by kernel_rfl) follows λargs=>by
 unfold OG;split
 ·rename_i b;exact λa=>⟨rfl,rfl,rfl,_,_,(Cn8 LF noY () 0 b).trans (Bk5 b a),rfl⟩
 ·trivial
theorem C92:B0 a8 GX 106 Bx9:=xf [0,0] (Ry LF) OF rfl ⟨C93,trivial⟩ rfl (by kernel_rfl) follows λargs=>by
 unfold OF;split
 ·rename_i s;exact λa=>(let⟨r,H,e,q⟩:=Cn6 s a;⟨rfl,rfl,rfl,r,H,(Cn5 LF noY () 0 s).trans e,q⟩)
 ·trivial
theorem Cy6:B0 a8 GX 105 A87:=xf [0,0] (RF LF) DR rfl ⟨Df3,trivial⟩ rfl (by kernel_rfl) follows λargs=>by
 unfold DR;split
 ·rename_i s;exact λa=>λb=>(let⟨r,H,e,q⟩:=B43 s a b;⟨rfl,rfl,rfl,r,H,(B42 LF noY () 0 s).trans e,q⟩)
 ·trivial
theorem Ch0:B0 a8 GX 81 WJ:=xf [0,0] (Fq LF) Xh rfl ⟨VX,Cy6,C92,C09,NT,C98,Bx1,C95,Bi1,trivial⟩ rfl (by kernel_rfl) follows λargs=>by
 unfold Xh;split
 ·rename_i s;exact λa=>(let⟨r,H,e,q⟩:=Bk9 s a;⟨rfl,rfl,rfl,r,H,(Bk8 LF noY () 0 s).trans e,q⟩)
 ·trivial
theorem Cz1:B0 a8 GX 125 OW:=by
 refine B0.fix (pf:=EB) _ (Bt (C₀:=RL LF) (L7.ok (l:=[]) rfl trivial) (I4 rfl (by kernel_rfl)) follows ?_);intro args ret a h;unfold EB at h;split at h
 ·rename_i t p n;obtain⟨rfl,rfl⟩:=J0 h;have e:=(B58 LF noY () 0 t p n).trans (As6 t p n );exact⟨rfl,1,_,[],e,rfl,rfl⟩
 ·cases h
theorem Db0:B0 a8 GX 91 Aj8:=by
 refine B0.fix (pf:=QL) _ (Bt (C₀:=An2 LF) (L7.ok (l:=[(125,OW)]) rfl ⟨Cz1,trivial⟩) (I4 rfl (by kernel_rfl)) follows ?_);intro args ret a h;unfold QL at h;split at h
 ·rename_i t p;obtain⟨rfl,rfl⟩:=J0 h;have e:=(Cw3 LF noY () 0 t p).trans (Bt8 t p );exact⟨rfl,1,_,[],e,rfl,rfl⟩
 ·cases h
theorem C32:B0 a8 GX 64 By2:=by
 refine B0.fix (pf:=Ai2) _ (I6 [] (C₀:=Nr LF) (Tp (lx:=[(90,Pc),(91,Aj8),(92,OY)]) (ly:=[]) (ls:=[(152,CN)]) rfl rfl rfl ⟨NT,Db0,Ch6,trivial⟩ trivial ⟨C13,trivial⟩) (I4 rfl (by kernel_rfl)) follows ?_);intro args ret c h;unfold Ai2 at h;split at h
 ·rename_i s;obtain⟨a,h⟩:=B9 h;obtain⟨rfl,rfl⟩:=J0 h;obtain⟨r,H,e,b⟩:=C53 s a;exact⟨rfl,rfl,rfl,1,r,H,(C52 LF noY () 0 s).trans e,b⟩
 ·cases h
theorem A79:B0 a8 GX 46 OL:=xf [] (Am4 LF) OM rfl ⟨C32,trivial⟩ rfl (by kernel_rfl) follows λargs=>by
 unfold OM;split
 ·rename_i j k v4 a b c d f g h i;exact λl=>λm=>λn=>(let⟨r,H,e,q⟩:=Bc8 j k v4 a b c d f g h i l m n;⟨rfl,rfl,rfl,r,H,(Co6 LF noY () 0 j k v4 a b c d f g h i).trans e,q⟩)
 ·trivial
theorem Cg9:B0 a8 GX 50 Ai1:=xf [] (Am1 LF) OI rfl ⟨A79,De9,Df1,trivial⟩ rfl (by kernel_rfl) follows λargs=>by
 unfold OI;split
 ·rename_i j k v4 a b c d f g h i;exact λl=>λm=>λn=>(let⟨r,H,e,q⟩:=Bc7 j k v4 a b c d f g h i l m n;⟨rfl,rfl,rfl,r,H,(Co2 LF noY () 0 j k v4 a b c d f g h i).trans e,q⟩)
 ·trivial
theorem C91:B0 a8 GX 47 Bx8:=xf [] (Al9 LF) OE rfl ⟨C32,C94,trivial⟩ rfl (by kernel_rfl) follows λargs=>by
 unfold OE;split
 ·rename_i p s;exact λa=>λb=>⟨rfl,rfl,rfl,_,_,(Cn4 LF noY () 0 p s).trans (Bk3 p s a b),rfl⟩
 ·trivial
end
end
section
open Go
structure Bb where
 sch:By
 user:By
 host:B2
 port:Int
 rest:By
def Bx:Bb:=⟨[],[],K4,0,[]⟩
def AL:By:=[104,116,116,112]
def Ie:By:=[104,116,116,112,115]
def bWs:By:=[119,115]
def JU:By:=[119,115,115]
def J9(s:By):Int:=if s==AL||s==bWs then 80 else if s==Ie||s==JU then 443 else -1
def G3(s:By):Bool:=s==AL||s==bWs||(s==Ie||s==JU)
def Dd2(s:By):Bool:=s==AL||s==bWs
def ctl(b:UInt8):Bool:=x7 b.toNat 32||b==127
def O7(b:UInt8):Bool:=(x7 97 b.toNat&&x7 b.toNat 122)||(x7 65 b.toNat&&x7 b.toNat 90)
def N7(b:UInt8):Bool:=O7 b||(x7 48 b.toNat&&x7 b.toNat 57)||b==43||b==45||b==46
def V7:By->Bool
 | []=>false
 | b::r=>O7 b&&r.all N7
def V3(b:UInt8):Bool:=b==47||b==63||b==35
def J5(s:By):Nat:=(s.takeWhile λb=>!V3 b).length
def Gg(c:UInt8):By->Option Nat
 | []=>none
 | b::r=>if b=c then some 0 else (Gg c r).map (· + 1)
def Iu:Int->By->Option Int
 | n,[]=>if n<65536 then some n else none
 | n,b::r=>if 48<=b.toNat/\b.toNat<=57 then Iu (min (10*max n 0+((b.toNat-48:Nat):Int)) 65536) r else none
def Jq(a:By):Option (By × By):=
 if a.head? = some 91 then (match Gg 93 a with
  | some k=>some (a.take (k+1),a.drop (k+1))
  | none=>none)
 else match Gg 58 a with
  | some k=>some (a.take k,a.drop k)
  | none=>some (a,[])
def T9(c user b:By)(a:By):Bb × Nat:=
 match Jq a with
 | none=>(Bx,4)
 | some (name,tail)=>
  if tail≠[]/\tail.head?≠some 58 then (Bx,4)
  else if (C6 name).2≠0 then (Bx,(C6 name).2)
  else match Iu (-1) (tail.drop 1) with
   | none=>(Bx,16)
   | some p=>(⟨c,user,(C6 name).1,if p=J9 c then -1 else p,b⟩,0)
def H4(c b a:By):Bb × Nat:=
 if 0<=L0 64 a then T9 c (a.take (L0 64 a).toNat) b (a.drop ((L0 64 a).toNat+1)) else T9 c [] b a
def V8(r:By):By:=if r.head? = some 47 then r else 47::r
def D0(s:By):Bb × Nat:=
 if s.any ctl then (Bx,4)
 else if !(v8 s [58]).2.2||!V7 (v8 s [58]).1 then (Bx,15)
 else if !G3 (B6 (v8 s [58]).1) then (⟨B6 (v8 s [58]).1,[],K4,-1,(v8 s [58]).2.1⟩,0)
 else if !([47,47]:By).isPrefixOf (v8 s [58]).2.1 then (Bx,4)
 else H4 (B6 (v8 s [58]).1) (V8 (((v8 s [58]).2.1.drop 2).drop (J5 ((v8 s [58]).2.1.drop 2)))) (((v8 s [58]).2.1.drop 2).take (J5 ((v8 s [58]).2.1.drop 2)))
def V2(s:By):Bb × Nat:=if 2048<s.length then (Bx,3) else D0 s
def Bw(p:Int):By:=if p<0 then 45::ae5 (-p).toNat else ae5 p.toNat
def LE(u:Bb):By:=(if u.user=[] then [] else u.user++[64])++(Io u.host++(if u.port=-1 then [] else 58::Bw u.port))
def Ed(u:Bb):By:=if G3 u.sch then u.sch++58::47::47::(LE u++u.rest) else u.sch++58::u.rest
def Cq5(b:Int)(c:By)(v4:Int)(a:List Nat):B2:=⟨if ltN b 4 then b.toNat else 4,c,v4.toNat,a⟩
def mkU(f g:By)(b:Int)(c:By)(v4:Int)(a:List Nat)(d:Int)(e:By):Bb:=⟨f,g,Cq5 b c v4 a,d,e⟩
def smU(c d a b:By):Bool:=x7 c.length 100000000&&x7 d.length 100000000&&x7 a.length 100000000&&x7 b.length 100000000
def eqH(a b:B2):Bool:=a.kind==b.kind&&a.name==b.name&&a.v4==b.v4&&a.v6==b.v6
def eqU(a b:Bb):Bool:=a.sch==b.sch&&a.user==b.user&&eqH a.host b.host&&a.port==b.port&&a.rest==b.rest
def Mg(u:Bb):Bool:=(D0 (Ed u)).2==0&&eqU (D0 (Ed u)).1 u
def prt(b:By)(a:Int):Int:=if a==-1 then J9 b else a
def CG:By->Int
 | s=>let rec go:Int->By->Int
   | n,[]=>n
   | n,b::r=>if 48<=b.toNat/\b.toNat<=57 then go (min (10*max n 0+((b.toNat-48:Nat):Int)) 65536) r else 0
  go (-1) s
def Q0(s t:By):Nat:=(s.takeWhile λb=>!t.contains b).length
def Cu(s:By):By × By × Bool:=if (v8 s [58]).2.2&&V7 (v8 s [58]).1 then (B6 (v8 s [58]).1,(v8 s [58]).2.1,true) else ([],[],false)
def isl:By:=[47,63,35]
def Zh(p:By):Bool:=p==isl
def JN(r:Int):Bool:=ltN r 55296||(ltI 57343 r&&ltN r 1114112)
def irn(r:Int):Int:=if r=47 then 0 else if r=63 then 1 else if r=35 then 2 else -1
def Ip(n:Int):Bool:=ltN (n+9223372036854775808) 18446744073709551616
abbrev uS(p:Bb × Nat):By:=p.1.sch
abbrev uU(p:Bb × Nat):By:=p.1.user
abbrev uK(p:Bb × Nat):Int:=p.1.host.kind
abbrev uN(p:Bb × Nat):By:=p.1.host.name
abbrev uV(p:Bb × Nat):Int:=p.1.host.v4
abbrev uA(p:Bb × Nat)(i:Nat):Int:=(p.1.host.v6.getD i 0:Nat)
abbrev uP(p:Bb × Nat):Int:=p.1.port
abbrev uR(p:Bb × Nat):By:=p.1.rest
abbrev uE(p:Bb × Nat):Int:=p.2
theorem JX(s:By):decide (0<J9 s)=G3 s:=by
 unfold J9 G3;cases (s==AL||s==bWs) with
 | true=>rfl
 | false=>cases (s==Ie||s==JU)<;>rfl
theorem Cj9{s:By}(h:G3 s=true):s=AL\/s=bWs\/s=Ie\/s=JU:=by simp only[G3,aa8,beq_iff_eq] at h;rcases h with(h|h)|(h|h)<;>simp[h]
theorem Bl4{c:UInt8}:∀{s:By},c∉s->Gg c s=none
 | [],_=>rfl
 | b::r,h=>by
  simp only[v7,not_or] at h;rw[Gg,if_neg (ac8 h.1),Bl4 h.2];rfl
theorem YK{c:UInt8}:∀{p:By} (r:By),c∉p->Gg c (p++c::r)=some p.length
 | [],r,_=>by rw[ag2,Gg,if_pos rfl];rfl
 | b::p,r,h=>by
  simp only[v7,not_or] at h;rw[af8,Gg,if_neg (ac8 h.1),YK r h.2];rfl
theorem Pr{c:UInt8}:∀{s:By} {k:Nat},Gg c s=some k->∃p r,s=p++c::r/\c∉p/\p.length=k
 | [],k,h=>by cases h
 | b::s,k,h=>by
  rw[Gg] at h;split at h
  ·rename_i a;obtain rfl:=j9 h;exact⟨[],s,by rw[a];rfl,by simp,rfl⟩
  ·rename_i a;cases d:Gg c s with
   | none=>rw[d] at h;cases h
   | some j=>
    rw[d] at h;obtain rfl:=j9 h;obtain⟨p,r,rfl,e,rfl⟩:=Pr d;exact⟨b::p,r,rfl,by simp only[v7,not_or];exact⟨ac8 a,e⟩,rfl⟩
theorem Sq{c:UInt8}:∀{s:By},c∉s->L0 c s=-1
 | [],_=>rfl
 | b::r,h=>by
  simp only[v7,not_or] at h;rw[L0,Sq h.2,if_pos (by decide),if_neg (ac8 h.1)]
theorem Zl{c:UInt8}:∀(p:By) {r:By},c∉r->L0 c (p++c::r)=(p.length:Int)
 | [],r,h=>by rw[ag2,L0,Sq h,if_pos (by decide),if_pos rfl];rfl
 | b::p,r,h=>by
  rw[af8,L0,Zl p h,F9,j0];omega
theorem Zm{c:UInt8}:∀{s:By},c∈s->∃p r,s=p++c::r/\c∉r
 | [],h=>by cases h
 | b::s,h=>by
  by_cases a:c∈s
  ·obtain⟨p,r,rfl,d⟩:=Zm a;exact⟨b::p,r,rfl,d⟩
  ·simp only[v7,a,or_false] at h;subst h;exact⟨[],s,rfl,a⟩
theorem HO{c:UInt8}{s:By}(h:0<=L0 c s):∃p r,s=p++c::r/\c∉r/\L0 c s=(p.length:Int):=by
 by_cases b:c∈s
 ·obtain⟨p,r,rfl,a⟩:=Zm b;exact⟨p,r,rfl,a,Zl p a⟩
 ·rw[Sq b] at h;omega
theorem A47(s:By):∀b∈s.take (J5 s),V3 b=false:=by
 intro b a;have h:s.take (J5 s)=s.takeWhile λb=>!V3 b:=by
  unfold J5;exact(List.prefix_iff_eq_take.1 (List.takeWhile_prefix _)).symm
 rw[h] at a;have:∀l:By,b∈l.takeWhile (λb=>!V3 b)->V3 b=false:=by
  intro l
  induction l with
  | nil=>intro h;cases h
  | cons x l d=>
   intro h;rw[w9] at h;split at h
   ·rename_i c;rcases v7.1 h with rfl|h
    ·simpa using c
    ·exact d h
   ·cases h
 exact this s a
theorem T3{b:UInt8}:O7 b=true↔(97<=b.toNat/\b.toNat<=122)\/(65<=b.toNat/\b.toNat<=90):=by simp[O7,ac4]
theorem Cl3{b:UInt8}:ctl b=true↔b.toNat<=32\/b.toNat=127:=by
 unfold ctl;rw[aa8,ac4,beq_iff_eq];have:b=127↔b.toNat=127:=⟨λh=>by rw[h];rfl,λh=>x6.1 h⟩
 rw[this]
theorem Hx{b:UInt8}:N7 b=true↔(97<=b.toNat/\b.toNat<=122)\/(65<=b.toNat/\b.toNat<=90)\/(48<=b.toNat/\b.toNat<=57)\/b=43\/b=45\/b=46:=by simp only[N7,aa8,T3,s8,ac4,beq_iff_eq,or_assoc]
abbrev clU(a b:By)(k:Int)(n:By)(v c d e f g h i j p:Int)(r:By):List PV:=[.s (.str a),.s (.str b),.s (.int .i64 k),.s (.str n),.s (.int .u32 v),.s (.int .u16 c),.s (.int .u16 d),.s (.int .u16 e),.s (.int .u16 f),.s (.int .u16 g),.s (.int .u16 h),.s (.int .u16 i),.s (.int .u16 j),.s (.int .i64 p),.s (.str r)]
abbrev clH(k:Int)(n:By)(v c d e f g h i j:Int):List PV:=[.s (.int .i64 k),.s (.str n),.s (.int .u32 v),.s (.int .u16 c),.s (.int .u16 d),.s (.int .u16 e),.s (.int .u16 f),.s (.int .u16 g),.s (.int .u16 h),.s (.int .u16 i),.s (.int .u16 j)]
abbrev bU(a b:By)(k:Int)(n:By)(v c d e f g h i j p:Int)(r:By):Blk:=.box (clU a b k n v c d e f g h i j p r)
abbrev gU(a b:By)(k:Int)(n:By)(v c d e f g h i j p:Int)(r:By):PV:=.agg (clU a b k n v c d e f g h i j p r)
abbrev bH(k:Int)(n:By)(v c d e f g h i j:Int):Blk:=.box (clH k n v c d e f g h i j)
abbrev gH(k:Int)(n:By)(v c d e f g h i j:Int):PV:=.agg (clH k n v c d e f g h i j)
abbrev clO(a:By)(k:Int)(n:By)(v c d e f g h i j p:Int):List PV:=[.s (.str a),.s (.int .i64 k),.s (.str n),.s (.int .u32 v),.s (.int .u16 c),.s (.int .u16 d),.s (.int .u16 e),.s (.int .u16 f),.s (.int .u16 g),.s (.int .u16 h),.s (.int .u16 i),.s (.int .u16 j),.s (.int .i64 p)]
abbrev bO(a:By)(k:Int)(n:By)(v c d e f g h i j p:Int):Blk:=.box (clO a k n v c d e f g h i j p)
abbrev gO(a:By)(k:Int)(n:By)(v c d e f g h i j p:Int):PV:=.agg (clO a k n v c d e f g h i j p)
abbrev bO0:Blk:=bO [] 0 [] 0 0 0 0 0 0 0 0 0 0
abbrev bU0:Blk:=bU [] [] 0 [] 0 0 0 0 0 0 0 0 0 0 []
abbrev bQ(p:Bb × Nat):Blk:=bU (uS p) (uU p) (uK p) (uN p) (uV p) (uA p 0) (uA p 1) (uA p 2) (uA p 3) (uA p 4) (uA p 5) (uA p 6) (uA p 7) (uP p) (uR p)
end
section
open Go Go.Proofs
set_option maxRecDepth 100000
section
def FK:List PV->Tr
 | [.s (.str s)]=>.ret (.s (.int .i64 (J9 s))) []
 | _=>.fail
def CO(args:List PV):Tr:=FK (B8 [[0]] args)
def FL:List PV->Tr
 | [.s (.str s)]=>.ret (.s (.bool (G3 s))) []
 | _=>.fail
def Ph(args:List PV):Tr:=FL (B8 [[0]] args)
def Df4:List PV->Tr
 | [.agg [.s (.str a),.s (.str n),.s (.int .i64 j),.s (.str k),.s (.int .u32 v4),.s (.int .u16 b),.s (.int .u16 c),.s (.int .u16 d),.s (.int .u16 e),.s (.int .u16 f),.s (.int .u16 g),.s (.int .u16 h),.s (.int .u16 i),.s (.int .i64 l),.s (.str m)]]=>.ret (.s (.bool (Dd2 a))) []
 | _=>.fail
def QP:List PV->Tr
 | [.agg [.s (.str b),.s (.str n),.s (.int .i64 k),.s (.str l),.s (.int .u32 v4),.s (.int .u16 c),.s (.int .u16 d),.s (.int .u16 e),.s (.int .u16 f),.s (.int .u16 g),.s (.int .u16 h),.s (.int .u16 i),.s (.int .u16 j),.s (.int .i64 a),.s (.str m)]]=>.ret (.s (.int .i64 (prt b a))) []
 | _=>.fail
def Aj9(args:List PV):Tr:=QP (B8 [[0,0,0,0,0,0,0,0,0,0,0,0,0,0,0]] args)
def QQ:List PV->Tr
 | [.s (.str s)]=>.need (A3 (b8 s)) (.ret (.s (.bool (V7 s))) [])
 | _=>.fail
def B02(args:List PV):Tr:=QQ (B8 [[0]] args)
def QN:List PV->Tr
 | [.s (.str s)]=>.need (A3 (b8 s)) (.ret (.tup [.s (.int .i64 (CG s)),.s (.bool (ah5 (Iu ((-1):Int) s)))]) [])
 | _=>.fail
def B00(args:List PV):Tr:=QN (B8 [[0]] args)
def Xx:List PV->Tr
 | [.agg [.s (.str c),.s (.str e),.s (.int .i64 n),.s (.str o),.s (.int .u32 v4),.s (.int .u16 f),.s (.int .u16 g),.s (.int .u16 h),.s (.int .u16 i),.s (.int .u16 j),.s (.int .u16 k),.s (.int .u16 l),.s (.int .u16 m),.s (.int .i64 d),.s (.str b)],.s (.str a)]=>.need (A3 (b8 c)) (.need (A3 (b8 b)) (.need (A3 (b8 a)) (.need (List.isEmpty e) (.need (d==((-1):Int)) (.ret (.tup [.agg [.s (.str (uS (H4 c b a))),.s (.str (uU (H4 c b a))),.s (.int .i64 (uK (H4 c b a))),.s (.str (uN (H4 c b a))),.s (.int .u32 (uV (H4 c b a))),.s (.int .u16 (uA (H4 c b a) 0)),.s (.int .u16 (uA (H4 c b a) 1)),.s (.int .u16 (uA (H4 c b a) 2)),.s (.int .u16 (uA (H4 c b a) 3)),.s (.int .u16 (uA (H4 c b a) 4)),.s (.int .u16 (uA (H4 c b a) 5)),.s (.int .u16 (uA (H4 c b a) 6)),.s (.int .u16 (uA (H4 c b a) 7)),.s (.int .i64 (uP (H4 c b a))),.s (.str (uR (H4 c b a)))],.s (.int .i64 (uE (H4 c b a)))]) [])))))
 | _=>.fail
def WQ(args:List PV):Tr:=Xx (B8 [[0,0,0,0,0,0,0,0,0,0,0,0,0,0,0],[0]] args)
def QO:List PV->Tr
 | [.s (.str s)]=>.need (A3 (b8 s)) (.ret (.tup [.agg [.s (.str (uS (D0 s))),.s (.str (uU (D0 s))),.s (.int .i64 (uK (D0 s))),.s (.str (uN (D0 s))),.s (.int .u32 (uV (D0 s))),.s (.int .u16 (uA (D0 s) 0)),.s (.int .u16 (uA (D0 s) 1)),.s (.int .u16 (uA (D0 s) 2)),.s (.int .u16 (uA (D0 s) 3)),.s (.int .u16 (uA (D0 s) 4)),.s (.int .u16 (uA (D0 s) 5)),.s (.int .u16 (uA (D0 s) 6)),.s (.int .u16 (uA (D0 s) 7)),.s (.int .i64 (uP (D0 s))),.s (.str (uR (D0 s)))],.s (.int .i64 (uE (D0 s)))]) [])
 | _=>.fail
def B01(args:List PV):Tr:=QO (B8 [[0]] args)
def FM:List PV->Tr
 | [.agg [.s (.str l),.s (.str m),.s (.int .i64 n),.s (.str i),.s (.int .u32 v4),.s (.int .u16 a),.s (.int .u16 b),.s (.int .u16 c),.s (.int .u16 d),.s (.int .u16 e),.s (.int .u16 f),.s (.int .u16 g),.s (.int .u16 h),.s (.int .i64 j),.s (.str k)]]=>.need (smU l m i k) (.need (ltN v4 4294967296) (.need (ok8 a b c d e f g h) (.need (Ip j) (.ret (.s (.str (Ed (mkU l m n i v4 (n8 a b c d e f g h) j k)))) []))))
 | _=>.fail
def Ba6(args:List PV):Tr:=FM (B8 [[0,0,0,0,0,0,0,0,0,0,0,0,0,0,0]] args)
def Rn:List PV->Tr
 | [.agg [.s (.str l),.s (.str m),.s (.int .i64 n),.s (.str i),.s (.int .u32 v4),.s (.int .u16 a),.s (.int .u16 b),.s (.int .u16 c),.s (.int .u16 d),.s (.int .u16 e),.s (.int .u16 f),.s (.int .u16 g),.s (.int .u16 h),.s (.int .i64 j),.s (.str k)]]=>.need (smU l m i k) (.need (ltN v4 4294967296) (.need (ok8 a b c d e f g h) (.need (Ip j) (.ret (.s (.bool (Mg (mkU l m n i v4 (n8 a b c d e f g h) j k)))) []))))
 | _=>.fail
def Xz(args:List PV):Tr:=Rn (B8 [[0,0,0,0,0,0,0,0,0,0,0,0,0,0,0]] args)
def Xs:List PV->Tr
 | [.s (.str s)]=>.ret (.s (.bool (G3 s))) []
 | _=>.fail
def FD(args:List PV):Tr:=Xs (B8 [[0]] args)
def FE:List PV->Tr
 | [.s (.str s)]=>.ret (.s (.int .i64 (J9 s))) []
 | _=>.fail
def PY(args:List PV):Tr:=FE (B8 [[0]] args)
def EX:List PV->Tr
 | [.s (.str s),.s (.str t)]=>.need (A3 (b8 s)) (.need (A3 (b8 t)) (.ret (.s (.int .i64 (↑(Q0 s t):Int))) []))
 | _=>.fail
def Ba1(args:List PV):Tr:=EX (B8 [[0],[0]] args)
def FC:List PV->Tr
 | [.s (.str s)]=>.need (A3 (b8 s)) (.ret (.tup [.s (.str ((Cu s)).1),.s (.str (((Cu s)).2).1),.s (.bool (((Cu s)).2).2)]) [])
 | _=>.fail
def Ba4(args:List PV):Tr:=FC (B8 [[0]] args)
def EY:List PV->Tr
 | [.s (.str s)]=>.need (A3 (b8 s)) (.ret (.tup [.agg [.s (.str (uS (D0 s))),.s (.str (uU (D0 s))),.s (.int .i64 (uK (D0 s))),.s (.str (uN (D0 s))),.s (.int .u32 (uV (D0 s))),.s (.int .u16 (uA (D0 s) 0)),.s (.int .u16 (uA (D0 s) 1)),.s (.int .u16 (uA (D0 s) 2)),.s (.int .u16 (uA (D0 s) 3)),.s (.int .u16 (uA (D0 s) 4)),.s (.int .u16 (uA (D0 s) 5)),.s (.int .u16 (uA (D0 s) 6)),.s (.int .u16 (uA (D0 s) 7)),.s (.int .i64 (uP (D0 s))),.s (.str (uR (D0 s)))],.s (.int .i64 (uE (D0 s)))]) [])
 | _=>.fail
def Ba2(args:List PV):Tr:=EY (B8 [[0]] args)
def Rk:List PV->Tr
 | [.s (.str s)]=>.need (A3 (b8 s)) (.ret (.tup [.agg [.s (.str (uS (V2 s))),.s (.str (uU (V2 s))),.s (.int .i64 (uK (V2 s))),.s (.str (uN (V2 s))),.s (.int .u32 (uV (V2 s))),.s (.int .u16 (uA (V2 s) 0)),.s (.int .u16 (uA (V2 s) 1)),.s (.int .u16 (uA (V2 s) 2)),.s (.int .u16 (uA (V2 s) 3)),.s (.int .u16 (uA (V2 s) 4)),.s (.int .u16 (uA (V2 s) 5)),.s (.int .u16 (uA (V2 s) 6)),.s (.int .u16 (uA (V2 s) 7)),.s (.int .i64 (uP (V2 s))),.s (.str (uR (V2 s)))],.s (.int .i64 (uE (V2 s)))]) [])
 | _=>.fail
def Xr(args:List PV):Tr:=Rk (B8 [[0]] args)
def EZ:List PV->Tr
 | [.agg [.s (.str b),.s (.str n),.s (.int .i64 k),.s (.str l),.s (.int .u32 v4),.s (.int .u16 c),.s (.int .u16 d),.s (.int .u16 e),.s (.int .u16 f),.s (.int .u16 g),.s (.int .u16 h),.s (.int .u16 i),.s (.int .u16 j),.s (.int .i64 a),.s (.str m)]]=>.ret (.s (.int .i64 (prt b a))) []
 | _=>.fail
def Ba3(args:List PV):Tr:=EZ (B8 [[0,0,0,0,0,0,0,0,0,0,0,0,0,0,0]] args)
def WH:List PV->Tr
 | [.s (.int .i64 n)]=>.need (ltN n 9223372036854775808) (.ret (.s (.str (ae5 (Int.toNat n)))) [])
 | _=>.fail
def DP(args:List PV):Tr:=WH (B8 [[0]] args)
def DW:List PV->Tr
 | [.s (.int .i64 n)]=>.need (Ip n) (.ret (.s (.str (Bw n))) [])
 | _=>.fail
def OQ(args:List PV):Tr:=DW (B8 [[0]] args)
def FG:List PV->Tr
 | [.s (.str s),.s (.int .u8 c)]=>.need (A3 (b8 s)) (.need (inR c 256) (.ret (.s (.int .i64 (k9 s (u8n c)))) []))
 | _=>.fail
def Tu(args:List PV):Tr:=FG (B8 [[0],[0]] args)
def EC:List PV->Tr
 | [.s (.str s),.s (.str p)]=>.need (A3 (b8 s)) (.ret (.s (.str (Fz s p))) [])
 | _=>.fail
def A90(args:List PV):Tr:=EC (B8 [[0],[0]] args)
def QM:List PV->Tr
 | [.s (.str s),.s (.str p)]=>.need (A3 (b8 s)) (.ret (.s (.str (Fz s p))) [])
 | _=>.fail
def Bz8(args:List PV):Tr:=QM (B8 [[0],[0]] args)
def WL:List PV->Tr
 | [.s (.str s),.s (.str p)]=>.need (A3 (b8 s)) (.need (Zh p) (.ret (.s (.int .i64 (aa5 s p))) []))
 | _=>.fail
def QI(args:List PV):Tr:=WL (B8 [[0],[0]] args)
def Pe:List PV->Tr
 | [.s (.str s),.s (.str p)]=>.need (A3 (b8 s)) (.need (Zh p) (.need (x7 9 (b8 s)) (.ret (.s (.int .i64 (aa5 s p))) [])))
 | _=>.fail
def WM(args:List PV):Tr:=Pe (B8 [[0],[0]] args)
def Pf:List PV->Tr
 | [.s (.str s),.s (.str p)]=>.need (Zh p) (.need (x7 (b8 s) 8) (.ret (.s (.int .i64 (aa5 s p))) []))
 | _=>.fail
def WN(args:List PV):Tr:=Pf (B8 [[0],[0]] args)
def Rl:List PV->Tr
 | [.s (.int .i64 n)]=>.ret (.s (.bool (ltI (8:Int) n))) []
 | _=>.fail
def Xu(args:List PV):Tr:=Rl (B8 [[0]] args)
def Xt:List PV->Tr
 | [.s (.str p),.s (.int .i32 r)]=>.need (Zh p) (.need (ltN r 1114112) (.ret (.s (.int .i64 (irn r))) []))
 | _=>.fail
def FH(args:List PV):Tr:=Xt (B8 [[0],[0]] args)
def KY:List PV->Tr
 | [.s (.str s)]=>.fail
 | _=>.fail
def Ni(args:List PV):Tr:=KY (B8 [[0]] args)
def Ya:List PV->Tr
 | [.s (.int .i32 r)]=>.ret (.s (.bool (JN r))) []
 | _=>.fail
def FN(args:List PV):Tr:=Ya (B8 [[0]] args)
end
section
variable {Z R : Type} (L : Nat) (Q : G1) (Y : Yh Z) (s : Z) (k : Out -> St Z -> Option R)
noncomputable def RM(L:Nat):Cfg:=B4 L [112] (A2 []) [(79,OT)] (A2 [(3,[4]),(2,[4]),(1,[0,0,5]),(0,[0,0])]) [79] (A2 []) (some [4]) [] [] []
noncomputable def Bd8{R:Type}(L:Nat)(b a:By)(d:By->Option R):Option R:=cond (A3 b.length) (cond (x5 a b) (cond (I2 (a.length:Int) (b.length:Int) b.length) (vl (cut b (a.length:Int) (b.length:Int)) λc=>d c) none) (d b)) none
theorem B59(d:Nat)(s0 prefix1):evC (RM L) (d+1) Z Y 112 [pS s0,pS prefix1] [] s=Bd8 L s0 prefix1 (λa=>some (pS a,[],s)):=by refine(evE (fn:=Tryz.f112) (by kernel_rfl)).trans ?_;generalize evC (RM L) d=Q;unfold Bd8;kernel_rfl
noncomputable def An3(L:Nat):Cfg:=B4 L [83] (A2 []) [(112,A90)] (A2 [(1,[4]),(0,[0,0])]) [112] (A2 []) (some [4]) [] [] []
noncomputable def Cw6{R:Type}(L:Nat)(b a:By)(c:By->Option R):Option R:=cond (A3 b.length) (c (Fz b a)) none
theorem Cw7(d:Nat)(s0 prefix1):evC (An3 L) (d+1) Z Y 83 [pS s0,pS prefix1] [] s=Cw6 L s0 prefix1 (λa=>some (pS a,[],s)):=by refine(evE (fn:=Tryz.f83) (by kernel_rfl)).trans ?_;generalize evC (An3 L) d=Q;unfold Cw6;kernel_rfl
noncomputable def SC(L:Nat):Cfg:=B4 L [44] (A2 []) [] (A2 [(8,[2]),(4,[2]),(7,[2]),(6,[7]),(5,[3,3]),(3,[3,0]),(2,[3,0]),(1,[3]),(0,[0])]) [] (A2 [(0,[])]) (some [2]) [] [] []
noncomputable def Bg8{R:Type}(L:Nat)(a:By)(b:Int->Option R):Option R:=cond (a==[104,116,116,112]) (cond (a==[104,116,116,112]) (b 80) (cond (a==[104,116,116,112,115]) (cond (a==[104,116,116,112,115]) (b 443) (b (-1))) (cond (a==[119,115,115]) (b 443) (b (-1))))) (cond (a==[119,115]) (b 80) (cond (a==[104,116,116,112,115]) (cond (a==[104,116,116,112,115]) (b 443) (b (-1))) (cond (a==[119,115,115]) (b 443) (b (-1)))))
theorem Cf0(d:Nat)(scheme0):evC (SC L) (d+1) Z Y 44 [pS scheme0] [] s=Bg8 L scheme0 (λa=>some (pI a,[],s)):=by refine(evE (fn:=Tryz.f44) (by kernel_rfl)).trans ?_;generalize evC (SC L) d=Q;unfold Bg8;kernel_rfl
noncomputable def SD(L:Nat):Cfg:=B4 L [22] (A2 []) [(44,CO)] (A2 [(1,[2]),(0,[0])]) [44] (A2 []) (some [2]) [] [] []
noncomputable def Bg9{R:Type}(L:Nat)(a:By)(b:Bool->Option R):Option R:=b (ltI 0 (J9 a))
theorem Cf3(d:Nat)(scheme0):evC (SD L) (d+1) Z Y 22 [pS scheme0] [] s=Bg9 L scheme0 (λa=>some (pB a,[],s)):=by refine(evE (fn:=Tryz.f22) (by kernel_rfl)).trans ?_;generalize evC (SD L) d=Q;unfold Bg9;kernel_rfl
noncomputable def An4(L:Nat):Cfg:=B4 L [26] (A2 []) [(44,CO)] (A2 [(3,[2]),(2,[2]),(1,[1,3]),(0,[1])]) [44] (A2 []) (some [2]) [] [] []
noncomputable def Cx3{R:Type}(L:Nat)(f h:By)(i:Int)(j:By)(l m n o u8 p b c d a:Int)(e:By)(g:Int->(List Blk)->Option R):Option R:=cond (a !=((-1):Int)) (g a [(bU f h i j l m n o u8 p b c d a e)]) (g (J9 f) [(bU f h i j l m n o u8 p b c d a e)])
theorem Cx4(d:Nat)(u0 u1 u2 u3 u4 u5 u6 u7 u8 u9 u10 u11 u12 u13 u14):evC (An4 L) (d+1) Z Y 26 [(gU u0 u1 u2 u3 u4 u5 u6 u7 u8 u9 u10 u11 u12 u13 u14)] [] s=Cx3 L u0 u1 u2 u3 u4 u5 u6 u7 u8 u9 u10 u11 u12 u13 u14 (λb a=>some (pI b,a,s)):=by refine(evE (fn:=Tryz.f26) (by kernel_rfl)).trans ?_;generalize evC (An4 L) d=Q;unfold Cx3;kernel_rfl
noncomputable abbrev Np:Code:=C3 ag6
noncomputable def Z0(L:Nat):Cfg:=B4 L [55] (A2 [(2,[0,1,4,0])]) [(73,Tu)] (A2 [(9,[2]),(8,[0,6,0]),(7,[2]),(6,[0,6,0,29]),(5,[0,2,0,0,1,0]),(4,[0,2,0,2,0]),(3,[0,2,3,0]),(2,[0,6,0,0]),(1,[0,6,0]),(0,[0])]) [73] (A2 [(0,[0]),(1,[0,6,0])]) (some [2]) [] [] []
noncomputable def DL{R:Type}(d:By)(a c:Int)(b:By->Int->Int->Option R):Option R:=b d c a
abbrev AE(b:Code):Prop:=∀(k:Out->St Z->Option R) a i1 b2 n3,A9 (Z0 L) Q Y b ⟨gp [(0,pS a),(2,pI i1),(0,p8 b2),(0,pB true),(1,pI n3),(0,pI i1)] 33,[],s⟩ k=DL a i1 n3 (λa c d=>k .normal ⟨gp [(0,pS a),(6,pI c),(0,pI d),(29,pB false)] 3,[],s⟩)
theorem A66:AE (R:=R) L Q Y s (cd [1,0,1,0,0,1,1,0,0,1,1,1] Np):=by intro k d b a c;unfold DL;kernel_rfl
noncomputable def Ex{R:Type}(h:By)(c d:Int)(a:Bool)(g:Int)(e:Unit->Option R)(f:By->Int->Int->Bool->Option R):Option R:=cond (not a) (cond (c==0) (e ()) (cond (inR d 256) (vl (k9 ([48,49,50,51,52,53,54,55,56,57,43,45,46]:List UInt8) (u8n d)) λb=>cond (ltI b 0) (e ()) (f h g c (ltI b 0))) none)) (f h g c false)
abbrev AF(b:Code):Prop:=∀(k:Out->St Z->Option R) a i1 b2 letter3 n4,A9 (Z0 L) Q Y b ⟨gp [(0,pS a),(2,pI i1),(0,p8 b2),(0,pB letter3),(1,pI n4),(0,pI i1)] 33,[],s⟩ k=Ex a i1 b2 letter3 n4 (λ_=>k .ret ⟨gp [(2,pB false)] 39,[],s⟩) (λa d e c=>k .normal ⟨gp [(0,pS a),(6,pI d),(0,pI e),(29,pB c)] 3,[],s⟩)
theorem A67:AF (R:=R) L Q Y s (cd [1,0,1,0,0,1,1,0,0,1,1,1] Np):=by intro k e c b a d;unfold Ex;kernel_rfl
noncomputable def N1{R:Type}(L n:Nat)(b:By)(e a:Int)(c:Unit->Option R)(d:By->Option R):Option R:=match n with|0=>none|n+1=>cond (ltI a e) (cond (inR a b.length) (cond (not (ltI (bAt b a) (97:Int))) (cond (not (ltI 122 (bAt b a))) (DL b a e (λx r t=>N1 L n x r (A1 (t+1)) c d)) (cond (not (ltI (bAt b a) (65:Int))) (Ex b a (bAt b a) (not (ltI 90 (bAt b a))) e (λ_=>c ()) (λy u v D=>N1 L n y u (A1 (v+1)) c d)) (Ex b a (bAt b a) false e (λ_=>c ()) (λz w f A=>vl (A1 (f+1)) λg=>N1 L n z w g c d)))) (cond (not (ltI (bAt b a) (65:Int))) (Ex b a (bAt b a) (not (ltI 90 (bAt b a))) e (λ_=>c ()) (λp h i B=>vl (A1 (i+1)) λj=>N1 L n p h j c d)) (Ex b a (bAt b a) false e (λ_=>c ()) (λq l m C=>vl (A1 (m+1)) λo=>N1 L n q l o c d)))) none) (d b)
theorem A68(a:Code)(d:AE (R:=R) L Q Y s a)(b:AF (R:=R) L Q Y s a)(n:Nat)(c:By)(f e:Int):C4 0 ((Z0 L).keep 2) (bd (Z0 L) Q Y (cd [1,0,1,0,0] (G4 [1,0,1,0,0,1,1,0,0,1,1,1] a Np))) n ⟨gp [(0,pS c),(6,pI f),(0,pI e)] 33,[],s⟩ k =
 N1 L n c f e (λ_=>k .ret ⟨gp [(2,pB false)] 39,[],s⟩) (λc=>k (.exit 0) ⟨gp [(0,pS c)] 41,[],s⟩):=by
 induction n generalizing c f e with
 | zero=>rfl
 | succ n h=>rw[N1];exact let g:=(E2 1 (D9 (Z0 L) Q Y (cd [1,0,1,0,0,1,1,1] Np) (lpK 0 ((Z0 L).keep 2) (bd (Z0 L) Q Y (cd [1,0,1,0,0] (G4 [1,0,1,0,0,1,1,0,0,1,1,1] a Np))) n k)));(c9 (by kernel_rfl) (A0 (A0 (A0 (A0 ((d g c e (bAt c e) f).trans (congr rfl (fx3 λx r t=>(c9 (by kernel_rfl) (h x r (A1 (t+1))))))) (A0 ((b g c e (bAt c e) (not (ltI 90 (bAt c e))) f).trans (congr (congr rfl (by kernel_rfl)) (fx4 λy u v H=>(c9 (by kernel_rfl) (h y u (A1 (v+1))))))) ((b g c e (bAt c e) false f).trans (congr (congr rfl (by kernel_rfl)) (fx4 λz w D A=>(c9 (by kernel_rfl) (A4 λi=>(h z w i)))))))) (A0 ((b g c e (bAt c e) (not (ltI 90 (bAt c e))) f).trans (congr (congr rfl (by kernel_rfl)) (fx4 λp j F B=>(c9 (by kernel_rfl) (A4 λl=>(h p j l)))))) ((b g c e (bAt c e) false f).trans (congr (congr rfl (by kernel_rfl)) (fx4 λq m G C=>(c9 (by kernel_rfl) (A4 λo=>(h q m o)))))))) rfl) rfl))
noncomputable def Cf2{R:Type}(L:Nat)(c:By)(b:Bool->Option R):Option R:=N1 L L c (c.length:Int) 0 (λ_=>b false) (λa=>b (not (a==[])))
theorem Cx6(a:Code)(b:AE (R:=PV × List Blk × Z) L Q Y s a)(c:AF (R:=PV × List Blk × Z) L Q Y s a)(d:By):A9 (Z0 L) Q Y (cd [] (G4 [1,0,1,0,0,1,1,0,0,1,1,1] a Np)) ⟨[pS d]++tps 41,[],s⟩ (F2 (Z0 L) ag6)=Cf2 L d (λe=>some (pB e,[],s)):=by unfold Cf2;exact(c9 (by kernel_rfl) ((A68 L Q Y s (E2 0 (D9 (Z0 L) Q Y (cd [1,1] Np) (F2 (Z0 L) ag6))) a b c L d (d.length:Int) 0).trans (by kernel_rfl)))
theorem Cx7(d:Nat)(s0):evC (Z0 L) (d+1) Z Y 55 [pS s0] [] s=Cf2 L s0 (λa=>some (pB a,[],s)):=
 (evE (fn:=ag6) (by kernel_rfl)).trans (c9 (by kernel_rfl) (Cx6 L (evC (Z0 L) d) Y s (cd [1,0,1,0,0,1,1,0,0,1,1,1] Np) (A66 L (evC (Z0 L) d) Y s) (A67 L (evC (Z0 L) d) Y s) s0))
noncomputable abbrev B14:Code:=C3 ai8
noncomputable def Si(L:Nat):Cfg:=B4 L [82] (A2 [(3,[0,1,0,0,2,0])]) [] (A2 [(9,[2,0]),(8,[0,3,2,0]),(7,[0,3,2,0]),(6,[2,0]),(5,[0,3,0,1,0,11]),(4,[0,3,0,1,0]),(3,[0,3,2,0,0]),(2,[0,3,2,0]),(1,[0,3]),(0,[0])]) [] (A2 [(0,[4]),(1,[0,3,2,0])]) (some [2,0]) [] [] []
noncomputable def Md{R:Type}(L n:Nat)(b:By)(h j a:Int)(d:Unit->Option R)(i:Int->Option R):Option R:=match n with|0=>none|n+1=>cond (ltI a j) (cond (inR a b.length) (cond (ltI (bAt b a) (48:Int)) (d ()) (cond (inR a b.length) (cond (ltI 57 (bAt b a)) (d ()) (vl (A1 ((10:Int)*(if ((0:Int) > h) then (0:Int) else h))) λe=>cond (inR a b.length) (vl (wu8 ((bAt b a)-48)) λf=>vl (A1 (e+(A1 f))) λc=>vl (if ((65536:Int)<c) then (65536:Int) else c) λg=>Md L n b g j (A1 (a+1)) d i) none)) none)) none) (i h)
theorem A61(n s0 n1 n2 n3):C4 0 ((Si L).keep 3) (bd (Si L) Q Y (cd [1,1,0,1,0,0] B14)) n ⟨gp [(0,pS s0),(3,pI n1),(2,pI n2),(0,pI n3)] 26,[],s⟩ k =
 Md L n s0 n1 n2 n3 (λ_=>k .ret ⟨gp [(2,pI (0:Int)),(0,pB false)] 31,[],s⟩) (λn0=>k (.exit 0) ⟨gp [(4,pI n0)] 30,[],s⟩):=by
 induction n generalizing s0 n1 n2 n3 with
 | zero=>rfl
 | succ n a=>rw[Md];simp only[<-a];kernel_rfl
noncomputable def Cw9{R:Type}(L:Nat)(c:By)(b:Int->Bool->Option R):Option R:=Md L L c (-1) (c.length:Int) 0 (λ_=>b 0 false) (λa=>b a (ltI a 65536))
theorem Cx0(d:Nat)(s0):evC (Si L) (d+1) Z Y 82 [pS s0] [] s=Cw9 L s0 (λa b=>some (.tup [pI a,pB b],[],s)):=by refine(evE (fn:=ai8) (by kernel_rfl)).trans ?_;generalize evC (Si L) d=Q;unfold Cw9;exact(c9 (by kernel_rfl) ((A61 L Q Y s (E2 0 (D9 (Si L) Q Y (cd [1,1,1] B14) (F2 (Si L) ai8))) L s0 (-1) (s0.length:Int) 0).trans (by kernel_rfl)))
noncomputable abbrev Bf:Code:=C3 ag8
noncomputable def W6(L:Nat):Cfg:=B4 L [60] (A2 []) [(80,CL),(59,DT),(73,Tu),(81,WJ),(83,Bz8),(82,B00),(44,CO)] (A2 [(24,[4,0]),(23,[2,1]),(22,[2,1,8,71]),(21,[2,1,8]),(20,[4,0]),(19,[2,1,6,1,63]),(18,[2,1,6,1,0]),(17,[4,0]),(16,[2,1,3,2,0,54]),(15,[2,1,3,2,0]),(14,[4,0]),(13,[2,1,2,0,50]),(9,[2,1,2,0]),(8,[4,0]),(7,[1,0,1,4,23]),(6,[1,0,1,4]),(12,[2,1,2,0]),(11,[1,0,1,2,0,1,35]),(10,[1,0,1,2,0,1]),(5,[1,0,1,2,0,20]),(4,[1,0,1,2,0]),(3,[1,0,1]),(2,[1,0,1,1,11]),(1,[1,0,1,1]),(0,[1,0,1])]) [80,59,73,83,82,44] (A2 []) (some [4,0]) [] [] []
noncomputable def U7{R:Type}(d e g h:By)(q:Int)(u:By)(r n8 t i j l m n o f:Int)(c:By)(p:Int->Blk->By->By->Int->By->Int->Int->Int->Int->Int->Int->Int->Int->Int->Int->By->(List Blk)->Option R):Option R:=cond (A3 d.length) (vl (C6 d) λa=>cond ((↑(a).2:Int)!=0) (p (↑(a).2:Int) (bU g h q u r n8 t i j l m n o f c) ([]:List UInt8) ([]:List UInt8) 0 ([]:List UInt8) 0 0 0 0 0 0 0 0 0 0 ([]:List UInt8) [(bH (↑(B2.kind (a).1):Int) (B2.name (a).1) (↑(B2.v4 (a).1):Int) (↑(b9 (B2.v6 (a).1) 0 0):Int) (↑(b9 (B2.v6 (a).1) 1 0):Int) (↑(b9 (B2.v6 (a).1) 2 0):Int) (↑(b9 (B2.v6 (a).1) 3 0):Int) (↑(b9 (B2.v6 (a).1) 4 0):Int) (↑(b9 (B2.v6 (a).1) 5 0):Int) (↑(b9 (B2.v6 (a).1) 6 0):Int) (↑(b9 (B2.v6 (a).1) 7 0):Int))]) (cond (A3 e.length) (vl (Fz e ([58]:List UInt8)) λb=>cond (A3 b.length) (cond (not (ah5 (Iu ((-1):Int) b))) (p 16 (bU g h q u r n8 t i j l m n o f c) ([]:List UInt8) ([]:List UInt8) 0 ([]:List UInt8) 0 0 0 0 0 0 0 0 0 0 ([]:List UInt8) [(bH (↑(B2.kind (a).1):Int) (B2.name (a).1) (↑(B2.v4 (a).1):Int) (↑(b9 (B2.v6 (a).1) 0 0):Int) (↑(b9 (B2.v6 (a).1) 1 0):Int) (↑(b9 (B2.v6 (a).1) 2 0):Int) (↑(b9 (B2.v6 (a).1) 3 0):Int) (↑(b9 (B2.v6 (a).1) 4 0):Int) (↑(b9 (B2.v6 (a).1) 5 0):Int) (↑(b9 (B2.v6 (a).1) 6 0):Int) (↑(b9 (B2.v6 (a).1) 7 0):Int))]) (cond ((CG b)!=(J9 g)) (p 0 (bU g h (↑(B2.kind (a).1):Int) (B2.name (a).1) (↑(B2.v4 (a).1):Int) (↑(b9 (B2.v6 (a).1) 0 0):Int) (↑(b9 (B2.v6 (a).1) 1 0):Int) (↑(b9 (B2.v6 (a).1) 2 0):Int) (↑(b9 (B2.v6 (a).1) 3 0):Int) (↑(b9 (B2.v6 (a).1) 4 0):Int) (↑(b9 (B2.v6 (a).1) 5 0):Int) (↑(b9 (B2.v6 (a).1) 6 0):Int) (↑(b9 (B2.v6 (a).1) 7 0):Int) (CG b) c) g h (↑(B2.kind (a).1):Int) (B2.name (a).1) (↑(B2.v4 (a).1):Int) (↑(b9 (B2.v6 (a).1) 0 0):Int) (↑(b9 (B2.v6 (a).1) 1 0):Int) (↑(b9 (B2.v6 (a).1) 2 0):Int) (↑(b9 (B2.v6 (a).1) 3 0):Int) (↑(b9 (B2.v6 (a).1) 4 0):Int) (↑(b9 (B2.v6 (a).1) 5 0):Int) (↑(b9 (B2.v6 (a).1) 6 0):Int) (↑(b9 (B2.v6 (a).1) 7 0):Int) (CG b) c [(bH (↑(B2.kind (a).1):Int) (B2.name (a).1) (↑(B2.v4 (a).1):Int) (↑(b9 (B2.v6 (a).1) 0 0):Int) (↑(b9 (B2.v6 (a).1) 1 0):Int) (↑(b9 (B2.v6 (a).1) 2 0):Int) (↑(b9 (B2.v6 (a).1) 3 0):Int) (↑(b9 (B2.v6 (a).1) 4 0):Int) (↑(b9 (B2.v6 (a).1) 5 0):Int) (↑(b9 (B2.v6 (a).1) 6 0):Int) (↑(b9 (B2.v6 (a).1) 7 0):Int))]) (p 0 (bU g h (↑(B2.kind (a).1):Int) (B2.name (a).1) (↑(B2.v4 (a).1):Int) (↑(b9 (B2.v6 (a).1) 0 0):Int) (↑(b9 (B2.v6 (a).1) 1 0):Int) (↑(b9 (B2.v6 (a).1) 2 0):Int) (↑(b9 (B2.v6 (a).1) 3 0):Int) (↑(b9 (B2.v6 (a).1) 4 0):Int) (↑(b9 (B2.v6 (a).1) 5 0):Int) (↑(b9 (B2.v6 (a).1) 6 0):Int) (↑(b9 (B2.v6 (a).1) 7 0):Int) f c) g h (↑(B2.kind (a).1):Int) (B2.name (a).1) (↑(B2.v4 (a).1):Int) (↑(b9 (B2.v6 (a).1) 0 0):Int) (↑(b9 (B2.v6 (a).1) 1 0):Int) (↑(b9 (B2.v6 (a).1) 2 0):Int) (↑(b9 (B2.v6 (a).1) 3 0):Int) (↑(b9 (B2.v6 (a).1) 4 0):Int) (↑(b9 (B2.v6 (a).1) 5 0):Int) (↑(b9 (B2.v6 (a).1) 6 0):Int) (↑(b9 (B2.v6 (a).1) 7 0):Int) f c [(bH (↑(B2.kind (a).1):Int) (B2.name (a).1) (↑(B2.v4 (a).1):Int) (↑(b9 (B2.v6 (a).1) 0 0):Int) (↑(b9 (B2.v6 (a).1) 1 0):Int) (↑(b9 (B2.v6 (a).1) 2 0):Int) (↑(b9 (B2.v6 (a).1) 3 0):Int) (↑(b9 (B2.v6 (a).1) 4 0):Int) (↑(b9 (B2.v6 (a).1) 5 0):Int) (↑(b9 (B2.v6 (a).1) 6 0):Int) (↑(b9 (B2.v6 (a).1) 7 0):Int))]))) none) none)) none
abbrev Ou(b:Code):Prop:=∀(k:Out->St Z->Option R) name0 tail1 b2 j s4 n5 s6 h n8 i a c d e f g n16 s17,A9 (W6 L) Q Y b ⟨gp [(2,.ptr 0 0 0),(1,.ptr 1 0 0),(2,pS name0),(0,pS tail1),(50,pB b2)] 29,[(bU j s4 n5 s6 h n8 i a c d e f g n16 s17),bU0],s⟩ k=U7 name0 tail1 j s4 n5 s6 h n8 i a c d e f g n16 s17 (λn0 n q j o r p h n8 i a c d e f g m l=>k .ret ⟨gp [(4,.ptr 1 0 0),(0,pI n0)] 83,(n::(bU q j o r p h n8 i a c d e f g m)::l),s⟩)
theorem Ww:Ou (R:=R) L Q Y s (cd [1,1,1,1,1] Bf):=by intro k a b l p q m r n n8 o c d e f g h i j;unfold U7;kernel_rfl
noncomputable def P4{R:Type}(b a s2 s3:By)(n4:Int)(s5:By)(n6 n7 n8 n9 c d e f g h:Int)(i:By)(k0:Int->Blk->By->By->Int->By->Int->Int->Int->Int->Int->Int->Int->Int->Int->Int->By->(List Blk)->Option R):Option R:=cond (not (a==[])) (cond (inR 0 a.length) (cond ((bAt a (0:Int))!=58) (k0 4 (bU s2 s3 n4 s5 n6 n7 n8 n9 c d e f g h i) ([]:List UInt8) ([]:List UInt8) 0 ([]:List UInt8) 0 0 0 0 0 0 0 0 0 0 ([]:List UInt8) []) (U7 b a s2 s3 n4 s5 n6 n7 n8 n9 c d e f g h i (λo j P S p T q r t u v w x y z A U m=>k0 o j P S p T q r t u v w x y z A U m))) none) (U7 b a s2 s3 n4 s5 n6 n7 n8 n9 c d e f g h i (λB l V W C X D F G H I J K M N O a0 n=>k0 B l V W C X D F G H I J K M N O a0 n))
abbrev Ov(b:Code):Prop:=∀(k:Out->St Z->Option R) name0 tail1 n o i p j l n8 m a c d e f g h,A9 (W6 L) Q Y b ⟨gp [(2,.ptr 0 0 0),(1,.ptr 1 0 0),(2,pS name0),(0,pS tail1)] 80,[(bU n o i p j l n8 m a c d e f g h),bU0],s⟩ k=P4 name0 tail1 n o i p j l n8 m a c d e f g h (λn0 r n o i p j l n8 m a c d e f g h q=>k .ret ⟨gp [(4,.ptr 1 0 0),(0,pI n0)] 83,(r::(bU n o i p j l n8 m a c d e f g h)::q),s⟩)
theorem VM(b:Code)(a:Ou (R:=R) L Q Y s b):Ov (R:=R) L Q Y s (cd [1,1,1,1] (G4 [1,1,1,1,1] b Bf)):=by intro k d c q r m t n o n8 p e f g h i j l;unfold P4;exact(c9 (by kernel_rfl) (A0 (A0 (A0 rfl ((a k d c ((bAt c (0:Int))!=58) q r m t n o n8 p e f g h i j l).trans (by kernel_rfl))) rfl) ((a k d c false q r m t n o n8 p e f g h i j l).trans (by kernel_rfl))))
theorem VO:Ov (R:=R) L Q Y s (cd [1,1,1,1] Bf):=by intro k a b o p j q l m n8 n c d e f g h i;exact c9 (by kernel_rfl) (VM L Q Y s (cd [1,1,1,1,1] Bf) (Ww L Q Y s) k a b o p j q l m n8 n c d e f g h i)
noncomputable def Qj{R:Type}(a I J:By)(F:Int)(K:By)(G n8 H v w x y z A B:Int)(C:By)(D:Int->Blk->By->By->Int->By->Int->Int->Int->Int->Int->Int->Int->Int->Int->Int->By->(List Blk)->Option R):Option R:=U7 a ([]:List UInt8) I J F K G n8 H v w x y z A B C (λd b q r e t f g h i j l m n o p u c=>D d b q r e t f g h i j l m n o p u c)
abbrev Ow(b:Code):Prop:=∀(k:Out->St Z->Option R) authority0 kk1 b2 j s4 n5 s6 h n8 i a c d e f g n16 s17,A9 (W6 L) Q Y b ⟨gp [(1,pS authority0),(0,.ptr 0 0 0),(1,.ptr 1 0 0),(2,pS authority0),(0,pS ([]:List UInt8)),(1,pI kk1),(35,pB b2)] 42,[(bU j s4 n5 s6 h n8 i a c d e f g n16 s17),bU0],s⟩ k=Qj authority0 j s4 n5 s6 h n8 i a c d e f g n16 s17 (λn0 n q j o r p h n8 i a c d e f g m l=>k .ret ⟨gp [(4,.ptr 1 0 0),(0,pI n0)] 83,(n::(bU q j o r p h n8 i a c d e f g m)::l),s⟩)
theorem VQ(c:Code)(a:Ou (R:=R) L Q Y s c):Ow (R:=R) L Q Y s (cd [1,1,1,1] (G4 [1,1,1,1,1] c Bf)):=by intro k b m u q r n t o n8 p d e f g h i j l;unfold Qj;exact(c9 (by kernel_rfl) ((a k b ([]:List UInt8) false q r n t o n8 p d e f g h i j l).trans (by kernel_rfl)))
theorem VR:Ow (R:=R) L Q Y s (cd [1,1,1,1] Bf):=by intro k a b l p q m r n n8 o c d e f g h i j;exact c9 (by kernel_rfl) (VQ L Q Y s (cd [1,1,1,1,1] Bf) (Ww L Q Y s) k a b l p q m r n n8 o c d e f g h i j)
noncomputable def Tm{R:Type}(L:Nat)(u0 u1:By)(u2:Int)(u3:By)(u4 u5 u6 u7 u8 u9 e f g h:Int)(i a:By)(k0:By->By->Int->By->Int->Int->Int->Int->Int->Int->Int->Int->Int->Int->By->Int->(List Blk)->Option R):Option R:=cond (A3 a.length) (vl (L0 (u8n (64:Int)) a) λc5=>cond (not (ltI c5 0)) (cond (I2 0 c5 a.length) (vl (cut a 0 c5) λe8=>cond (I2 (A1 (c5+1)) (a.length:Int) a.length) (vl (cut a (A1 (c5+1)) (a.length:Int)) λb=>cond (A3 b.length) (cond (x5 ([91]:List UInt8) b) (cond (A3 b.length) (vl (k9 b (u8n (93:Int))) λJ=>cond (ltI J 0) (k0 ([]:List UInt8) ([]:List UInt8) 0 ([]:List UInt8) 0 0 0 0 0 0 0 0 0 0 ([]:List UInt8) 4 [(bU u0 e8 u2 u3 u4 u5 u6 u7 u8 u9 e f g h i),bU0]) (vl (A1 (J+1)) λe9=>cond (I2 0 e9 b.length) (vl (A1 (J+1)) λf0=>cond (I2 f0 (b.length:Int) b.length) (vl (cut b f0 (b.length:Int)) λi6=>P4 (cut b 0 e9) i6 u0 e8 u2 u3 u4 u5 u6 u7 u8 u9 e f g h i (λi5 i4 g4 g5 f3 g6 f4 f5 f6 f7 f8 f9 g0 g1 g2 g3 g7 h3=>k0 g4 g5 f3 g6 f4 f5 f6 f7 f8 f9 g0 g1 g2 g3 g7 i5 (i4::((bU g4 g5 f3 g6 f4 f5 f6 f7 f8 f9 g0 g1 g2 g3 g7)::h3)))) none) none)) none) (cond (A3 b.length) (vl (k9 b (u8n (58:Int))) λc=>cond (not (ltI c 0)) (cond (I2 0 c b.length) (cond (I2 c (b.length:Int) b.length) (vl (cut b c (b.length:Int)) λi7=>P4 (cut b 0 c) i7 u0 e8 u2 u3 u4 u5 u6 u7 u8 u9 e f g h i (λh9 g8 c6 c7 j c8 l m n o p q r t u v d0 h4=>k0 c6 c7 j c8 l m n o p q r t u v d0 h9 (g8::((bU c6 c7 j c8 l m n o p q r t u v d0)::h4)))) none) none) (Qj b u0 e8 u2 u3 u4 u5 u6 u7 u8 u9 e f g h i (λi0 g9 d1 d2 w d3 x y z A B C D F G H d4 h5=>k0 d1 d2 w d3 x y z A B C D F G H d4 i0 (g9::((bU d1 d2 w d3 x y z A B C D F G H d4)::h5))))) none)) none) none) none) (cond (A3 a.length) (cond (x5 ([91]:List UInt8) a) (cond (A3 a.length) (vl (k9 a (u8n (93:Int))) λc4=>cond (ltI c4 0) (k0 ([]:List UInt8) ([]:List UInt8) 0 ([]:List UInt8) 0 0 0 0 0 0 0 0 0 0 ([]:List UInt8) 4 [(bU u0 u1 u2 u3 u4 u5 u6 u7 u8 u9 e f g h i),bU0]) (vl (A1 (c4+1)) λf1=>cond (I2 0 f1 a.length) (vl (cut a 0 f1) λi9=>vl (A1 (c4+1)) λf2=>cond (I2 f2 (a.length:Int) a.length) (vl (cut a f2 (a.length:Int)) λj3=>P4 i9 j3 u0 u1 u2 u3 u4 u5 u6 u7 u8 u9 e f g h i (λi1 h0 d5 d6 I d7 K M N O P S T U V W d8 h6=>k0 d5 d6 I d7 K M N O P S T U V W d8 i1 (h0::((bU d5 d6 I d7 K M N O P S T U V W d8)::h6)))) none) none)) none) (cond (A3 a.length) (vl (k9 a (u8n (58:Int))) λd=>cond (not (ltI d 0)) (cond (I2 0 d a.length) (vl (cut a 0 d) λk1=>cond (I2 d (a.length:Int) a.length) (vl (cut a d (a.length:Int)) λk2=>P4 k1 k2 u0 u1 u2 u3 u4 u5 u6 u7 u8 u9 e f g h i (λi2 h1 d9 e1 X e2 a0 a1 a2 a3 a4 a5 a6 a7 a9 b0 e3 h7=>k0 d9 e1 X e2 a0 a1 a2 a3 a4 a5 a6 a7 a9 b0 e3 i2 (h1::((bU d9 e1 X e2 a0 a1 a2 a3 a4 a5 a6 a7 a9 b0 e3)::h7)))) none) none) (Qj a u0 u1 u2 u3 u4 u5 u6 u7 u8 u9 e f g h i (λi3 h2 e4 e5 b1 e6 b2 b3 b4 b5 b6 b7 c0 c1 c2 c3 e7 h8=>k0 e4 e5 b1 e6 b2 b3 b4 b5 b6 b7 c0 c1 c2 c3 e7 i3 (h2::((bU e4 e5 b1 e6 b2 b3 b4 b5 b6 b7 c0 c1 c2 c3 e7)::h8))))) none)) none)) none
theorem Bu9(d:Code)(a:Ov (R:=PV × List Blk × Z) L Q Y s d)(c:Ow (R:=PV × List Blk × Z) L Q Y s d)(m G:By)(n:Int)(o:By)(p q r t u8 u e f g h:Int)(i b:By):A9 (W6 L) Q Y (cd [] (G4 [1,1,1,1] d Bf)) ⟨[(gU m G n o p q r t u8 u e f g h i),pS b]++tps 87,[],s⟩ (F2 (W6 L) ag8)=Tm L m G n o p q r t u8 u e f g h i b (λX r1 r2 r3 r4 r5 r6 r7 r8 r9 I J K M N O H=>some (.tup [(gU X r1 r2 r3 r4 r5 r6 r7 r8 r9 I J K M N),pI O],H,s)):=by unfold Tm;exact let x:=(F2 (W6 L) ag8);(c9 (by kernel_rfl) (A0 (A4 λW=>(A0 (A0 (A4 λv=>(A0 (A4 λw=>(A0 (A0 (A0 (A4 λP=>(A0 rfl (A4 λy=>(A0 (A4 λS=>(A0 (A4 λz=>((a x (cut w 0 y) z m v n o p q r t u8 u e f g h i).trans (by kernel_rfl))) rfl)) rfl)))) rfl) (A0 (A4 λj=>(A0 (A0 (A0 (A4 λA=>((a x (cut w 0 j) A m v n o p q r t u8 u e f g h i).trans (by kernel_rfl))) rfl) rfl) ((c x w j (not (ltI j 0)) m v n o p q r t u8 u e f g h i).trans (by kernel_rfl)))) rfl)) rfl)) rfl)) rfl) (A0 (A0 (A0 (A4 λT=>(A0 rfl (A4 λU=>(A0 (A4 λB=>(A4 λV=>(A0 (A4 λC=>((a x B C m G n o p q r t u8 u e f g h i).trans (by kernel_rfl))) rfl))) rfl)))) rfl) (A0 (A4 λl=>(A0 (A0 (A4 λD=>(A0 (A4 λF=>((a x D F m G n o p q r t u8 u e f g h i).trans (by kernel_rfl))) rfl)) rfl) ((c x b l (not (ltI l 0)) m G n o p q r t u8 u e f g h i).trans (by kernel_rfl)))) rfl)) rfl))) rfl))
theorem Bv0(d:Nat)(u0 u1 u2 u3 u4 u5 u6 u7 u8 u9 u10 u11 u12 u13 u14 authority15):evC (W6 L) (d+1) Z Y 60 [(gU u0 u1 u2 u3 u4 u5 u6 u7 u8 u9 u10 u11 u12 u13 u14),pS authority15] [] s=Tm L u0 u1 u2 u3 u4 u5 u6 u7 u8 u9 u10 u11 u12 u13 u14 authority15 (λi j l m n o p q r8 r b c e f g h a=>some (.tup [(gU i j l m n o p q r8 r b c e f g),pI h],a,s)):=
 (evE (fn:=ag8) (by kernel_rfl)).trans (c9 (by kernel_rfl) (Bu9 L (evC (W6 L) d) Y s (cd [1,1,1,1] Bf) (VO L (evC (W6 L) d) Y s) (VR L (evC (W6 L) d) Y s) u0 u1 u2 u3 u4 u5 u6 u7 u8 u9 u10 u11 u12 u13 u14 authority15))
noncomputable abbrev B15:Code:=C3 ai6
noncomputable def Sj(L:Nat):Cfg:=B4 L [40] (A2 [(2,[0,1,0,8,0])]) [(54,Aj7),(55,B02),(56,Ai4),(22,Ph),(57,Ah8),(58,QI),(59,DT),(60,WQ)] (A2 [(23,[2,0]),(22,[2,5,0]),(21,[2,5,0,65]),(20,[2,5,0]),(19,[2,3,1,0]),(18,[2,3,1,0,0,52]),(17,[2,3,1,0,0]),(16,[2,3,1,0]),(15,[2,0]),(14,[2,3,1,48]),(13,[2,3,0,0]),(12,[2,0]),(11,[2,3,1,40]),(10,[2,3,1]),(9,[2,0]),(8,[2,2,0,33]),(7,[2,2,0,0]),(6,[0,1,9,0]),(5,[2,0]),(4,[0,1,9,0,11]),(3,[0,1,1,7,0]),(2,[0,1,9,0,0]),(1,[0,1,9,0]),(0,[0,1])]) [54,55,56,22,57,58,59] (A2 [(0,[0,1]),(1,[0,1,9,0])]) (some [2,0]) [] [] []
noncomputable def Ic{R:Type}(L n:Nat)(b:By)(e a:Int)(c:(List Blk)->Option R)(d:By->Option R):Option R:=match n with|0=>none|n+1=>cond (ltI a e) (cond (inR a b.length) (cond (not (ltI 32 (bAt b a))) (c []) (cond (inR a b.length) (cond ((bAt b a)==127) (c []) (Ic L n b e (A1 (a+1)) c d)) none)) none) (d b)
theorem A65(n a n1 n2):C4 1 ((Sj L).keep 2) (bd (Sj L) Q Y (cd [1,0,1,0,0] B15)) n ⟨gp [(0,pS a),(1,.ptr 0 0 0),(9,pI n1),(0,pI n2)] 71,[bU0],s⟩ k =
 Ic L n a n1 n2 (λb=>k .ret ⟨gp [(2,.ptr 0 0 0),(0,pI (4:Int))] 81,(bU0::b),s⟩) (λa=>k (.exit 0) ⟨gp [(0,pS a),(1,.ptr 0 0 0)] 82,[bU0],s⟩):=by
 induction n generalizing a n1 n2 with
 | zero=>rfl
 | succ n c=>rw[Ic];simp only[<-c];kernel_rfl
noncomputable def KR{R:Type}(L:Nat)(q:By)(n:By->By->Int->By->Int->Int->Int->Int->Int->Int->Int->Int->Int->Int->By->Int->(List Blk)->Option R):Option R:=Ic L L q (q.length:Int) 0 (λp=>n ([]:List UInt8) ([]:List UInt8) 0 ([]:List UInt8) 0 0 0 0 0 0 0 0 0 0 ([]:List UInt8) 4 (bU0::p)) (λo=>cond (A3 o.length) (vl ((v8 o ([58]:List UInt8))).1 λf=>vl (((v8 o ([58]:List UInt8))).2).1 λj=>cond (not (((v8 o ([58]:List UInt8))).2).2) (n ([]:List UInt8) ([]:List UInt8) 0 ([]:List UInt8) 0 0 0 0 0 0 0 0 0 0 ([]:List UInt8) 15 [bU0]) (cond (A3 f.length) (cond (not (V7 f)) (n ([]:List UInt8) ([]:List UInt8) 0 ([]:List UInt8) 0 0 0 0 0 0 0 0 0 0 ([]:List UInt8) 15 [bU0]) (cond (A3 f.length) (cond (not (G3 (B6 f))) (n (B6 f) ([]:List UInt8) 0 ([]:List UInt8) 0 0 0 0 0 0 0 0 0 (-1) j 0 [(bU (B6 f) ([]:List UInt8) (0:Int) ([]:List UInt8) (0:Int) (0:Int) (0:Int) (0:Int) (0:Int) (0:Int) (0:Int) (0:Int) (0:Int) ((-1):Int) j),(bU (B6 f) ([]:List UInt8) (0:Int) ([]:List UInt8) (0:Int) (0:Int) (0:Int) (0:Int) (0:Int) (0:Int) (0:Int) (0:Int) (0:Int) ((-1):Int) j)]) (cond (A3 j.length) (vl (Fz j ([47,47]:List UInt8)) λe=>cond (not (x5 ([47,47]:List UInt8) j)) (n ([]:List UInt8) ([]:List UInt8) 0 ([]:List UInt8) 0 0 0 0 0 0 0 0 0 0 ([]:List UInt8) 4 [bU0,(bU (B6 f) ([]:List UInt8) (0:Int) ([]:List UInt8) (0:Int) (0:Int) (0:Int) (0:Int) (0:Int) (0:Int) (0:Int) (0:Int) (0:Int) ((-1):Int) j)]) (cond (A3 e.length) (cond (Zh ([47,63,35]:List UInt8)) (vl (aa5 e ([47,63,35]:List UInt8)) λi=>cond (not (ltI i 0)) (cond (I2 0 i e.length) (cond (I2 (↑(b8 (cut e 0 i)):Int) (e.length:Int) e.length) (vl (cut e (↑(b8 (cut e 0 i)):Int) (e.length:Int)) λg=>cond (A3 g.length) (cond (not (x5 ([47]:List UInt8) g)) (cond (F3 1 g.length) (vl (([47]:List UInt8)++g) λl=>cond (A3 (b8 (B6 f))) (cond (A3 l.length) (cond (A3 (b8 (cut e 0 i))) (cond (((-1):Int)==((-1):Int)) (vl (H4 (B6 f) l (cut e 0 i)) λa=>n (uS a) (uU a) (uK a) (uN a) (uV a) (uA a 0) (uA a 1) (uA a 2) (uA a 3) (uA a 4) (uA a 5) (uA a 6) (uA a 7) (uP a) (uR a) (uE a) [(bQ a),(bU (B6 f) ([]:List UInt8) (0:Int) ([]:List UInt8) (0:Int) (0:Int) (0:Int) (0:Int) (0:Int) (0:Int) (0:Int) (0:Int) (0:Int) ((-1):Int) l)]) none) none) none) none) none) (cond (A3 (b8 (B6 f))) (cond (A3 g.length) (cond (A3 (b8 (cut e 0 i))) (cond (((-1):Int)==((-1):Int)) (vl (H4 (B6 f) g (cut e 0 i)) λb=>n (uS b) (uU b) (uK b) (uN b) (uV b) (uA b 0) (uA b 1) (uA b 2) (uA b 3) (uA b 4) (uA b 5) (uA b 6) (uA b 7) (uP b) (uR b) (uE b) [(bQ b),(bU (B6 f) ([]:List UInt8) (0:Int) ([]:List UInt8) (0:Int) (0:Int) (0:Int) (0:Int) (0:Int) (0:Int) (0:Int) (0:Int) (0:Int) ((-1):Int) g)]) none) none) none) none)) none) none) none) (cond (I2 (e.length:Int) (e.length:Int) e.length) (vl (cut e (e.length:Int) (e.length:Int)) λh=>cond (A3 h.length) (cond (not (x5 ([47]:List UInt8) h)) (cond (F3 1 h.length) (vl (([47]:List UInt8)++h) λm=>cond (A3 (b8 (B6 f))) (cond (A3 m.length) (cond (A3 e.length) (cond (((-1):Int)==((-1):Int)) (vl (H4 (B6 f) m e) λc=>n (uS c) (uU c) (uK c) (uN c) (uV c) (uA c 0) (uA c 1) (uA c 2) (uA c 3) (uA c 4) (uA c 5) (uA c 6) (uA c 7) (uP c) (uR c) (uE c) [(bQ c),(bU (B6 f) ([]:List UInt8) (0:Int) ([]:List UInt8) (0:Int) (0:Int) (0:Int) (0:Int) (0:Int) (0:Int) (0:Int) (0:Int) (0:Int) ((-1):Int) m)]) none) none) none) none) none) (cond (A3 (b8 (B6 f))) (cond (A3 h.length) (cond (A3 e.length) (cond (((-1):Int)==((-1):Int)) (vl (H4 (B6 f) h e) λd=>n (uS d) (uU d) (uK d) (uN d) (uV d) (uA d 0) (uA d 1) (uA d 2) (uA d 3) (uA d 4) (uA d 5) (uA d 6) (uA d 7) (uP d) (uR d) (uE d) [(bQ d),(bU (B6 f) ([]:List UInt8) (0:Int) ([]:List UInt8) (0:Int) (0:Int) (0:Int) (0:Int) (0:Int) (0:Int) (0:Int) (0:Int) (0:Int) ((-1):Int) h)]) none) none) none) none)) none) none)) none) none)) none)) none)) none)) none)
theorem Cx1(d:Nat)(s0):evC (Sj L) (d+1) Z Y 40 [pS s0] [] s=KR L s0 (λi j l m n o p q r8 r b c e f g h a=>some (.tup [(gU i j l m n o p q r8 r b c e f g),pI h],a,s)):=by refine(evE (fn:=ai6) (by kernel_rfl)).trans ?_;generalize evC (Sj L) d=Q;unfold KR;exact(c9 (by kernel_rfl) ((A65 L Q Y s (E2 0 (D9 (Sj L) Q Y (cd [1,1] B15) (F2 (Sj L) ai6))) L s0 (s0.length:Int) 0).trans (by kernel_rfl)))
noncomputable def SE(L:Nat):Cfg:=B4 L [42] (A2 []) [(22,Ph),(50,Ai1),(51,OQ)] (A2 [(9,[2]),(8,[1,1]),(7,[1,1,28]),(6,[1,1]),(5,[1,1]),(4,[1,1,15]),(3,[1,1]),(2,[2]),(1,[1,5]),(0,[1])]) [22,50,51] (A2 []) (some [2]) [] [] []
noncomputable def Rb{R:Type}(L:Nat)(l t:By)(u:Int)(m:By)(n o p q u8 r e f g b:Int)(a:By)(v:By->(List Blk)->Option R):Option R:=cond (not (G3 l)) (cond (F3 l.length 1) (vl (l++[58]) λw=>cond (F3 w.length a.length) (v (w++a) [(bU l t u m n o p q u8 r e f g b a)]) none) none) (cond (F3 l.length 3) (vl (l++[58,47,47]) λc=>cond (not (t==[])) (cond (F3 t.length 1) (vl (t++[64]) λh=>cond (F3 c.length h.length) (cond (A3 m.length) (cond (ltN n 4294967296) (cond (ok8 o p q u8 r e f g) (vl (Io (mkH u m n (n8 o p q u8 r e f g))) λj=>cond (F3 (b8 (c++h)) j.length) (cond (b !=((-1):Int)) (cond (Ip b) (cond (F3 1 (b8 (Bw b))) (vl (([58]:List UInt8)++(Bw b)) λz=>cond (F3 (b8 ((c++h)++j)) z.length) (vl (((c++h)++j)++z) λA=>cond (F3 A.length a.length) (v (A++a) [(bU l t u m n o p q u8 r e f g b a)]) none) none) none) none) (cond (F3 (b8 ((c++h)++j)) a.length) (vl (((c++h)++j)++a) λx=>v x [(bU l t u m n o p q u8 r e f g b a)]) none)) none) none) none) none) none) none) (cond (A3 m.length) (cond (ltN n 4294967296) (cond (ok8 o p q u8 r e f g) (vl (Io (mkH u m n (n8 o p q u8 r e f g))) λd=>cond (F3 c.length d.length) (cond (b !=((-1):Int)) (cond (Ip b) (cond (F3 1 (b8 (Bw b))) (vl (([58]:List UInt8)++(Bw b)) λi=>cond (F3 (b8 (c++d)) i.length) (cond (F3 (b8 ((c++d)++i)) a.length) (vl (((c++d)++i)++a) λy=>v y [(bU l t u m n o p q u8 r e f g b a)]) none) none) none) none) (cond (F3 (b8 (c++d)) a.length) (v ((c++d)++a) [(bU l t u m n o p q u8 r e f g b a)]) none)) none) none) none) none)) none)
theorem Cf4(d:Nat)(u0 u1 u2 u3 u4 u5 u6 u7 u8 u9 u10 u11 u12 u13 u14):evC (SE L) (d+1) Z Y 42 [(gU u0 u1 u2 u3 u4 u5 u6 u7 u8 u9 u10 u11 u12 u13 u14)] [] s=Rb L u0 u1 u2 u3 u4 u5 u6 u7 u8 u9 u10 u11 u12 u13 u14 (λb a=>some (pS b,a,s)):=by refine(evE (fn:=Tryz.f42) (by kernel_rfl)).trans ?_;generalize evC (SE L) d=Q;unfold Rb;kernel_rfl
noncomputable def Yq(L:Nat):Cfg:=B4 L [16] (A2 []) [(42,Ba6),(40,B01)] (A2 [(2,[2]),(1,[1,1,0]),(0,[1])]) [42] (A2 []) (some [2]) [] [] []
noncomputable def DM{R:Type}(L:Nat)(h i:By)(q:Int)(j:By)(l m n o u8 p b c d e:Int)(f:By)(r:Bool->(List Blk)->Option R):Option R:=cond (smU h i j f) (cond (ltN l 4294967296) (cond (ok8 m n o u8 p b c d) (cond (Ip e) (vl (Ed (mkU h i q j l (n8 m n o u8 p b c d) e f)) λg=>cond (A3 g.length) (vl (D0 g) λa=>cond ((uE a)==0) (r ((h==(uS a))&&((i==(uU a))&&((q==(uK a))&&((j==(uN a))&&((l==(uV a))&&((m==(uA a 0))&&((n==(uA a 1))&&((o==(uA a 2))&&((u8==(uA a 3))&&((p==(uA a 4))&&((b==(uA a 5))&&((c==(uA a 6))&&((d==(uA a 7))&&((e==(uP a))&&((f==(uR a))&&true))))))))))))))) [(bU h i q j l m n o u8 p b c d e f),(bQ a)]) (r false [(bU h i q j l m n o u8 p b c d e f),(bQ a)])) none) none) none) none) none
theorem A70(d:Nat)(u0 u1 u2 u3 u4 u5 u6 u7 u8 u9 u10 u11 u12 u13 u14):evC (Yq L) (d+1) Z Y 16 [(gU u0 u1 u2 u3 u4 u5 u6 u7 u8 u9 u10 u11 u12 u13 u14)] [] s=DM L u0 u1 u2 u3 u4 u5 u6 u7 u8 u9 u10 u11 u12 u13 u14 (λb a=>some (pB b,a,s)):=by refine(evE (fn:=Tryz.f16) (by kernel_rfl)).trans ?_;generalize evC (Yq L) d=Q;unfold DM;kernel_rfl
end
section
variable {Z R : Type} (L : Nat) (Q : G1) (Y : Yh Z) (s : Z) (k : Out -> St Z -> Option R)
noncomputable def Yo(L:Nat):Cfg:=B4 L [76] (A2 []) [] (A2 [(1,[2]),(0,[0])]) [] (A2 []) (some [2]) [] [] []
noncomputable def VA{R:Type}(L:Nat)(a:Int)(b:Bool->Option R):Option R:=b (ltI (8:Int) a)
theorem A52(d:Nat)(a:Int):evC (Yo L) (d+1) Z Y 76 [.s (.int .i64 a)] [] s=VA L a (λb=>some (.s (.bool b),[],s)):=by refine(evE (fn:=Tryz.f76) (by kernel_rfl)).trans ?_;generalize evC (Yo L) d=Q;unfold VA;kernel_rfl
noncomputable abbrev Tz:Code:=C3 ag0
noncomputable def Bg(L:Nat):Cfg:=B4 L [101] (A2 []) [] (A2 [(5,[2]),(2,[2]),(4,[2]),(3,[10]),(1,[0,2]),(0,[0])]) [] (A2 [(0,[])]) (some [2]) [] [] []
noncomputable def Kh{R:Type}(a:Int)(d:Bool)(b:Unit->Option R)(c:Bool->Option R):Option R:=cond d (b ()) (cond (ltI (57343:Int) a) (cond (not (ltI (1114111:Int) a)) (b ()) (c (not (ltI (1114111:Int) a)))) (c false))
abbrev CC(b:Code):Prop:=∀(k:Out->St Z->Option R) (c:Int) (a:Bool),A9 (Bg L) Q Y b ⟨gp [(0,.s (.int .i32 c)),(2,.s (.bool a))] 13,[],s⟩ k=Kh c a (λ_=>k .ret ⟨gp [(2,.s (.bool true))] 14,[],s⟩) (λd=>k .normal ⟨gp [(10,.s (.bool d))] 6,[],s⟩)
theorem VT:CC (R:=R) L Q Y s (cd [1,0,0,1] Tz):=by intro k b a;unfold Kh;kernel_rfl
noncomputable def JL{R:Type}(L:Nat)(b:Int)(a:Bool->Option R):Option R:=cond (not (ltI b (0:Int))) (Kh b (ltI b (55296:Int)) (λ_=>a true) (λc=>a false)) (Kh b false (λ_=>a true) (λd=>a false))
theorem Bv5(b:Code)(a:CC (R:=PV × List Blk × Z) L Q Y s b)(c:Int):A9 (Bg L) Q Y (cd [] (G4 [1,0,0,1] b Tz)) ⟨[.s (.int .i32 c)]++tps 16,[],s⟩ (F2 (Bg L) ag0)=JL L c (λc=>some (.s (.bool c),[],s)):=by unfold JL;exact let d:=(E2 0 (D9 (Bg L) Q Y (cd [1,1] Tz) (F2 (Bg L) ag0)));(c9 (by kernel_rfl) (A0 ((a d c (ltI c (55296:Int))).trans (by kernel_rfl)) ((a d c false).trans (by kernel_rfl))))
theorem Bv6(d:Nat)(a:Int):evC (Bg L) (d+1) Z Y 101 [.s (.int .i32 a)] [] s=JL L a (λa=>some (.s (.bool a),[],s)):=
 (evE (fn:=ag0) (by kernel_rfl)).trans (c9 (by kernel_rfl) (Bv5 L (evC (Bg L) d) Y s (cd [1,0,0,1] Tz) (VT L (evC (Bg L) d) Y s) a))
noncomputable abbrev Z6:Code:=C3 ah0
noncomputable def K9(L:Nat):Cfg:=B4 L [75] (A2 [(38,[4,170]),(29,[0,3,2,0,0,4,0,0]),(25,[0,3,2,0,0,4,0]),(12,[0,3,2,0,0,2]),(5,[0,3,2,0,0])]) [(73,Tu),(101,FN)] (A2 [(35,[4]),(42,[4]),(41,[4]),(40,[5,169,5]),(39,[5,0,168]),(38,[175,0,0]),(37,[175]),(44,[4]),(33,[4]),(22,[4]),(21,[8,0,3,94]),(20,[8,0,3]),(26,[0,6,0,0,4,0]),(32,[4]),(30,[0,6,0,0,4,0,0]),(31,[0,6,0,0,4,0,0,139]),(29,[0,6,0,0,4,0,0,126]),(28,[0,6,0,0,4,0,0]),(27,[0,6,0,0,4,0,123]),(25,[0,6,0,0,4,0,108]),(24,[0,6,0,0,4,0]),(23,[0,6,0,0,4]),(19,[4]),(18,[0,6,0,0,88]),(17,[0,6,0,0,0]),(16,[0,6,0,0,0]),(15,[4]),(13,[0,6,0,0,2]),(14,[0,6,0,0,2,51]),(12,[0,6,0,0,2,38]),(11,[0,6,0,0,2]),(10,[0,6,0,0]),(9,[4]),(8,[0,6,0,0,1,31]),(7,[0,6,0,0,1]),(6,[0,6,0,0,23]),(5,[0,6,0,0,16]),(4,[0,6,0,0]),(3,[0,6,0,0]),(2,[0,6,0]),(1,[0,6]),(43,[0,0,181]),(36,[0,0,169]),(34,[0,0,158]),(0,[0,0])]) [73,101] (A2 [(0,[4]),(9,[]),(10,[175]),(5,[]),(6,[0,6,0,0,4,0]),(7,[8,0]),(8,[0,6,0,0,4,0,0]),(1,[]),(2,[0,6,0,0]),(3,[8,0]),(4,[0,6,0,0,2])]) (some [4]) [] [] []
noncomputable def Cw{R:Type}(L n:Nat)(self:Nat->Option R)(a:Nat)(c:Int->Nat->Option R)(d:Nat->Option R):Option R:=cond (decide (a<3)) (vl ((x4 ⟨w8 (([47,63,35]:List UInt8))⟩ a)).1 λb=>cond (b==(65533:Int)) (c (↑a:Int) (a+((x4 ⟨w8 (([47,63,35]:List UInt8))⟩ a)).2)) (self (a+((x4 ⟨w8 (([47,63,35]:List UInt8))⟩ a)).2))) (d a)
noncomputable def Y3{R:Type}(L n:Nat)(a:Nat)(b:Int->Nat->Option R)(c:Nat->Option R):Option R:=B87 (α:=Nat->Option R) (λ_=>none) (λn self a=>Cw L n self a b c) n a
theorem Dt{R:Type}(L n:Nat)(a:Nat)(b:Int->Nat->Option R)(c:Nat->Option R):Y3 L (n+1) a b c=Cw L n (λa=>Y3 L n a b c) a b c:=rfl
theorem UW(n:Nat)(a:Nat):C4 1 ((K9 L).keep 38) (bd (K9 L) Q Y (cd [1,0,1,1,1,0,0,1,0,0] Z6)) n ⟨gp [(175,.it 0)] 11,[.iter (([47,63,35]:List UInt8)) a],s⟩ k =
 Y3 L n a (λn0 c=>k .ret ⟨gp [(4,.s (.int .i64 n0))] 182,[.iter (([47,63,35]:List UInt8)) c],s⟩) (λa=>k (.exit 9) ⟨gp [] 187,[.iter (([47,63,35]:List UInt8)) a],s⟩):=by
 induction n generalizing a with
 | zero=>rfl
 | succ n b=>rw[Dt];unfold Cw;exact(c9 (by kernel_rfl) (A0 (A4 λd=>(A0 rfl (b (a+((x4 ⟨w8 (([47,63,35]:List UInt8))⟩ a)).2)))) rfl))
noncomputable def Tl{R:Type}(L n:Nat)(self:By->Int->Int->Int->Option R)(b:By)(a f c:Int)(g:Int->Int->Option R):Option R:=cond (ltI c (↑(b8 b):Int)) (cond (inR (A1 (f-c)) 3) (vl (bAt (([47,63,35]:List UInt8)) (A1 (f-c))) λd=>cond (inR (A1 (a-c)) (b8 b)) (vl (bAt b (A1 (a-c))) λe=>cond (d !=e) (none) (self b a f (A1 (c+(1:Int))))) (none)) (none)) (g a f)
noncomputable def Kd{R:Type}(L n:Nat)(b:By)(a c d:Int)(e:Int->Int->Option R):Option R:=B87 (α:=By->Int->Int->Int->Option R) (λ_ _ _ _=>none) (λn self b a c d=>Tl L n self b a c d e) n b a c d
theorem Ae4{R:Type}(L n:Nat)(b:By)(a c d:Int)(e:Int->Int->Option R):Kd L (n+1) b a c d e=Tl L n (λb a c d=>Kd L n b a c d e) b a c d e:=rfl
theorem Wl(n:Nat)(b:By)(a d e:Int):C4 0 ((K9 L).keep 12) (bd (K9 L) Q Y (cd [1,0,1,1,1,1,1,1,0,1,1,1,1,0,0,0,1,0,0,1,0,1,0,0] Z6)) n ⟨gp [(0,.s (.str (([47,63,35]:List UInt8)))),(6,.s (.str b)),(0,.s (.int .i64 a)),(0,.s (.int .i64 d)),(2,.s (.int .i64 e))] 174,[],s⟩ k =
 Kd L n b a d e (λc h=>k (.exit 3) ⟨gp [(8,.s (.int .i64 c)),(0,.s (.int .i64 h))] 177,[],s⟩):=by
 induction n generalizing b a d e with
 | zero=>rfl
 | succ n i=>rw[Ae4];unfold Tl;exact(c9 (by kernel_rfl) (A0 (A0 (A4 λf=>(A0 (A4 λg=>(A0 rfl (i b a d (A1 (e+(1:Int)))))) rfl)) rfl) rfl))
noncomputable def Ma{R:Type}(L n:Nat)(self:By->Int->Option R)(b:By)(a:Int)(m:Int->Option R)(o:Unit->Option R):Option R:=cond (ltI a (3:Int)) (cond (inR a 3) (vl (bAt (([47,63,35]:List UInt8)) a) λj=>cond (inR a (b8 b)) (cond (j !=(bAt b a)) (vl (A1 (a+(1:Int))) λe=>cond (I2 e (3:Int) 3) (vl (cut (([47,63,35]:List UInt8)) e (3:Int)) λg=>cond (inR a (b8 b)) (cond (A3 (b8 g)) (cond (inR (bAt b a) 256) (vl (k9 g (u8n (bAt b a))) λf=>cond (ltI f (0:Int)) (m (-1)) (vl (A1 (f+(1:Int))) λl=>Kd L L b a (A1 (a+l)) 1 (λc h=>m (A1 (h-c))))) (none)) (none)) (none)) (none)) (Kd L L b a a 1 (λd i=>m (A1 (i-d))))) (none)) (none)) (o ())
noncomputable def Fm{R:Type}(L n:Nat)(b:By)(a:Int)(c:Int->Option R)(d:Unit->Option R):Option R:=B87 (α:=By->Int->Option R) (λ_ _=>none) (λn self b a=>Ma L n self b a c d) n b a
theorem BX{R:Type}(L n:Nat)(b:By)(a:Int)(c:Int->Option R)(d:Unit->Option R):Fm L (n+1) b a c d=Ma L n (λb a=>Fm L n b a c d) b a c d:=rfl
theorem UX(n:Nat)(b:By)(a:Int):C4 0 ((K9 L).keep 5) (bd (K9 L) Q Y (cd [1,0,1,1,1,1,1,1,0,1,1,1,1,0,0,0] Z6)) n ⟨gp [(0,.s (.str (([47,63,35]:List UInt8)))),(6,.s (.str b)),(0,.s (.int .i64 a)),(0,.s (.int .i64 a))] 177,[],s⟩ k =
 Fm L n b a (λn0=>k .ret ⟨gp [(4,.s (.int .i64 n0))] 182,[],s⟩) (λ_=>k (.exit 1) ⟨gp [] 187,[],s⟩):=by
 induction n generalizing b a with
 | zero=>rfl
 | succ n i=>rw[BX];unfold Ma;exact let d:=(E2 3 (D9 (K9 L) Q Y (cd [1,0,1,1,1,1,1,1,0,1,1,1,1,0,0,0,1,0,0,1,1] Z6) (E2 2 (lpK 0 ((K9 L).keep 5) (bd (K9 L) Q Y (cd [1,0,1,1,1,1,1,1,0,1,1,1,1,0,0,0] Z6)) n k))));(c9 (by kernel_rfl) (A0 (A0 (A4 λe=>(A0 (A0 (A4 λf=>(A0 (A4 λh=>(A0 (A0 (A0 (A4 λg=>(A0 rfl (A4 λc=>((Wl L Q Y s d L b a (A1 (a+c)) 1).trans (by kernel_rfl))))) rfl) rfl) rfl)) rfl)) ((Wl L Q Y s d L b a a 1).trans (by kernel_rfl))) rfl)) rfl) rfl))
noncomputable def Kc{R:Type}(L:Nat)(b:Int)(l:Bool)(d:Int->Option R)(j:Int->Nat->Option R):Option R:=cond l (cond (inR (wu8 b) 256) (vl (k9 (([47,63,35]:List UInt8)) (u8n (wu8 b))) λg=>d g) (none)) (cond (b==(65533:Int)) (Y3 L L 0 (λi e=>j i e) (λf=>j (-1) f)) (cond (not (JN b)) (d (-1)) (vl (ab3 b).data.toList λc=>vl (A1 ((↑(b8 c):Int)-(1:Int))) λh=>Fm L L c h (λa=>d a) (λ_=>d (-1)))))
abbrev BW(b:Code):Prop:=∀(k:Out->St Z->Option R) (c:Int) (a:Bool),A9 (K9 L) Q Y b ⟨gp [(0,.s (.str (([47,63,35]:List UInt8)))),(0,.s (.int .i32 c)),(158,.s (.bool a))] 26,[],s⟩ k=Kc L c a (λn0=>k .ret ⟨gp [(4,.s (.int .i64 n0))] 182,[],s⟩) (λn0 d=>k .ret ⟨gp [(4,.s (.int .i64 n0))] 182,[.iter (([47,63,35]:List UInt8)) d],s⟩)
theorem UV:BW (R:=R) L Q Y s (cd [1,0,1] Z6):=by intro k e d;unfold Kc;exact(c9 (by kernel_rfl) (A0 (A0 (A4 λc=>rfl) rfl) (A0 ((UW L Q Y s (E2 9 (D9 (K9 L) Q Y (cd [1,0,1,1,1,0,1] Z6) k)) L 0).trans (by kernel_rfl)) (A0 rfl (A4 λb=>(A4 λa=>((UX L Q Y s (E2 1 (D9 (K9 L) Q Y (cd [1,0,1,1,1,1,1,1,0,1,1,1,1,1] Z6) k)) L b a).trans (by kernel_rfl))))))))
noncomputable def JE{R:Type}(L:Nat)(r:Int)(g:Int->Option R)(h:Int->Nat->Option R):Option R:=cond (not (ltI r (0:Int))) (Kc L r (ltI r (128:Int)) (λc=>g c) (λd a=>h d a)) (Kc L r false (λe=>g e) (λf b=>h f b))
theorem Bt3(b:Code)(a:BW (R:=PV × List Blk × Z) L Q Y s b)(r:Int):A9 (K9 L) Q Y (cd [] (G4 [1,0,1] b Z6)) ⟨[.s (.str (([47,63,35]:List UInt8))),.s (.int .i32 r)]++tps 185,[],s⟩ (F2 (K9 L) ah0)=JE L r (λc=>some (.s (.int .i64 c),[],s)) (λc e=>some (.s (.int .i64 c),[.iter (([47,63,35]:List UInt8)) e],s)):=by unfold JE;exact let d:=(E2 0 (F2 (K9 L) ah0));(c9 (by kernel_rfl) (A0 ((a d r (ltI r (128:Int))).trans (by kernel_rfl)) ((a d r false).trans (by kernel_rfl))))
theorem Bt4(d:Nat)(r:Int):evC (K9 L) (d+1) Z Y 75 [.s (.str (([47,63,35]:List UInt8))),.s (.int .i32 r)] [] s=JE L r (λa=>some (.s (.int .i64 a),[],s)) (λa b=>some (.s (.int .i64 a),[.iter (([47,63,35]:List UInt8)) b],s)):=
 (evE (fn:=ah0) (by kernel_rfl)).trans (c9 (by kernel_rfl) (Bt3 L (evC (K9 L) d) Y s (cd [1,0,1] Z6) (UV L (evC (K9 L) d) Y s) r))
noncomputable abbrev XB:Code:=C3 ag7
noncomputable def Fu(L:Nat):Cfg:=B4 L [58] (A2 [(18,[1,2,40]),(12,[0,3,1,1])]) [(75,FH),(76,Xu),(77,Ni)] (A2 [(22,[4]),(21,[4]),(20,[1,7,35,7]),(19,[1,7,0,34]),(18,[1,43,0,0]),(17,[1,43]),(16,[4]),(13,[0,5,1]),(15,[4]),(14,[0,5,1,33]),(12,[0,5,1,27]),(11,[0,5,1]),(10,[0,0,4,25]),(9,[0,0,4,0]),(8,[0,0,24]),(7,[4]),(6,[0,4]),(5,[0,4,14]),(4,[0,4]),(3,[0,0,13]),(2,[4]),(1,[0,0,10]),(0,[0,0])]) [75,76] (A2 [(2,[]),(3,[1,43]),(0,[]),(1,[0,5,1])]) (some [4]) [] [] []
noncomputable def X3{R:Type}(L n:Nat)(self:By->Nat->Option R)(b:By)(a:Nat)(d:Int->(List Blk)->Option R)(e:By->Nat->Option R):Option R:=cond (decide (a<(b8 b))) (vl ((x4 ⟨w8 b⟩ a)).1 λc=>cond (Zh (([47,63,35]:List UInt8))) (cond (ltN c 1114112) (cond (not (ltI (irn c) (0:Int))) (d (↑a:Int) [(Blk.iter b (a+((x4 ⟨w8 b⟩ a)).2))]) (self b (a+((x4 ⟨w8 b⟩ a)).2))) (none)) (none)) (e b a)
noncomputable def Kb{R:Type}(L n:Nat)(b:By)(a:Nat)(c:Int->(List Blk)->Option R)(d:By->Nat->Option R):Option R:=B87 (α:=By->Nat->Option R) (λ_ _=>none) (λn self b a=>X3 L n self b a c d) n b a
theorem Ay{R:Type}(L n:Nat)(b:By)(a:Nat)(c:Int->(List Blk)->Option R)(d:By->Nat->Option R):Kb L (n+1) b a c d=X3 L n (λb a=>Kb L n b a c d) b a c d:=rfl
theorem UU(n:Nat)(b:By)(a:Nat):C4 1 ((Fu L).keep 18) (bd (Fu L) Q Y (cd [1,1,1,1,0,1,0,0] XB)) n ⟨gp [(1,.s (.str (([47,63,35]:List UInt8)))),(43,.it 0)] 9,[.iter b a],s⟩ k =
 Kb L n b a (λn0 c=>k .ret ⟨gp [(4,.s (.int .i64 n0))] 50,c,s⟩) (λb a=>k (.exit 2) ⟨gp [] 55,[.iter b a],s⟩):=by
 induction n generalizing b a with
 | zero=>rfl
 | succ n d=>rw[Ay];unfold X3;exact(c9 (by kernel_rfl) (A0 (A4 λe=>(A0 (A0 (A0 rfl (d b (a+((x4 ⟨w8 b⟩ a)).2))) rfl) rfl)) rfl))
noncomputable def UT{R:Type}(L:Nat)(t:By)(e:Int->(List Blk)->Option R):Option R:=cond (ltI (8:Int) (↑(b8 t):Int)) (none) (Kb L L t 0 (λc a=>e c a) (λd b=>e (-1) [(Blk.iter d b)]))
theorem Bt1(d:Nat)(t:By):evC (Fu L) (d+1) Z Y 58 [.s (.str t),.s (.str (([47,63,35]:List UInt8)))] [] s=UT L t (λb a=>some (.s (.int .i64 b),a,s)):=by refine(evE (fn:=ag7) (by kernel_rfl)).trans ?_;generalize evC (Fu L) d=Q;unfold UT;exact(c9 (by kernel_rfl) (A0 rfl ((UU L Q Y s (E2 2 (D9 (Fu L) Q Y (cd [1,1,1,1,1] XB) (F2 (Fu L) ag7))) L t 0).trans (by kernel_rfl))))
end
end
section
open Go
theorem Pm{c:UInt8}{s:By}(h:c∉s):v8 s [c]=(s,[],false):=by unfold v8;rw[So h,if_neg (by decide)]
theorem Z7{c:UInt8}{p r:By}(h:c∉p):v8 (p++c::r) [c]=(p,r,true):=by unfold v8;rw[Zf h,S6,j7,ae2,j5];rw[show p++c::r=(p++[c])++r by simp,ad8 (by simp)]
def Vk:Int->By->Option Int
 | n,[]=>some n
 | n,b::r=>if 48<=b.toNat/\b.toNat<=57 then Vk (min (10*max n 0+((b.toNat-48:Nat):Int)) 65536) r else none
theorem TL:∀(s:By) (n:Int),Iu n s=(Vk n s).bind λm=>if m<65536 then some m else none
 | [],n=>rfl
 | b::r,n=>by
  rw[Iu,Vk];split
  ·exact TL r _
  ·rfl
theorem HZ:∀(s:By) (n p:Int),-1<=n->Iu n s=some p->-1<=p/\p<65536
 | [],n,p,a,h=>by
  rw[Iu] at h;split at h
  ·rename_i c;obtain rfl:=j9 h;exact⟨a,c⟩
  ·cases h
 | b::r,n,p,a,h=>by
  rw[Iu] at h;split at h
  ·exact HZ r _ p (by omega) h
  ·cases h
def Oe(s:By):Prop:=∀b∈s,ctl b=false
def Dd8(s:By):Prop:=∀b∈s,V3 b=false
structure CU (u:Bb):Prop where
 ns:G3 u.sch=false->V7 u.sch=true/\B6 u.sch=u.sch/\u.user=[]/\u.host=K4/\u.port=-1/\Oe u.rest
 sp:G3 u.sch=true->Oe u.user/\Dd8 u.user/\Na u.host/\M6 u.host=true/\(u.port=-1\/(0<=u.port/\u.port<=65535/\u.port≠J9 u.sch))/\(∃r,u.rest=47::r)/\Oe u.rest
theorem Ck6{s:By}:s.any ctl=false↔Oe s:=by unfold Oe;rw[List.any_eq_false];exact⟨λh b a=>by simpa using h b a,λh b a=>by simp[h b a]⟩
theorem AX{e user c a:By}(h:(T9 e user c a).2=0):∃f b,(T9 e user c a).1=⟨e,user,f,b,c⟩/\Na f/\M6 f=true/\(b=-1\/(0<=b/\b<=65535/\b≠J9 e)):=by
 unfold T9 at h ⊢;cases i:Jq a with
 | none=>rw[i] at h;simp at h
 | some q=>
  obtain⟨name,tail⟩:=q;rw[i] at h;simp only at h ⊢;by_cases g:tail≠[]/\tail.head?≠some 58
  ·rw[if_pos g] at h;simp at h
  ·rw[if_neg g] at h ⊢;by_cases d:(C6 name).2≠0
   ·rw[if_pos d] at h;exact absurd h d
   ·rw[if_neg d] at h ⊢;cases j:Iu (-1) (tail.drop 1) with
    | none=>rw[j] at h;simp at h
    | some p=>
     have o:=HZ _ _ _ (by omega) j;obtain⟨m,n⟩:=Bo0 name;refine⟨_,_,rfl,m,n (by simpa using d),?_⟩;split
     ·exact .inl rfl
     ·rename_i l;by_cases k:p=-1
      ·exact .inl k
      ·exact .inr ⟨by omega,by omega,l⟩
theorem Uy{c user b a:By}(h:(T9 c user b a).2≠0):(T9 c user b a).1=Bx:=by
 unfold T9 at h ⊢;split
 ·rfl
 ·rename_i name tail f;rw[f] at h;simp only at h ⊢;split
  ·rfl
  ·rename_i d;rw[if_neg d] at h;split
   ·rfl
   ·rename_i e;rw[if_neg e] at h;split
    ·rfl
    ·rename_i p g;rw[g] at h;exact absurd rfl h
theorem As3(s:By):B6 (B6 s)=B6 s:=by
 unfold B6;rw[ai0];apply List.map_congr_left;intro b _;show Bk (Bk b)=Bk b;rcases T4 b with⟨_,e⟩|⟨_,e⟩|⟨c,d,e⟩
 ·rw[e,e]
 ·rw[e,e]
 ·rcases T4 (Bk b) with⟨_,a⟩|⟨_,a⟩|⟨f,g,_⟩
  ·exact a
  ·exact a
  ·omega
theorem Ar9(b:UInt8):O7 (Bk b)=O7 b:=by
 rw[p7,T3,T3];rcases T4 b with⟨_,e⟩|⟨_,e⟩|⟨a,c,e⟩
 ·rw[e]
 ·rw[e]
 ·omega
theorem TE{b c:UInt8}(f:c.toNat<65):Bk b=c↔b=c:=by
 rcases T4 b with⟨_,e⟩|⟨_,e⟩|⟨a,d,e⟩
 ·rw[e]
 ·rw[e]
 ·constructor
  ·intro h;rw[h] at e;omega
  ·intro h;subst h;omega
theorem Ad6(b:UInt8):N7 (Bk b)=N7 b:=by
 rw[p7,Hx,Hx,TE (by decide),TE (by decide),TE (by decide)];rcases T4 b with⟨_,e⟩|⟨_,e⟩|⟨a,c,e⟩
 ·rw[e]
 ·rw[e]
 ·constructor
  ·rintro(h|h|h|h)<;>first|omega|exact .inr (.inr (.inr h))
  ·rintro(h|h|h|h)<;>first|omega|exact .inr (.inr (.inr h))
theorem Ad8(s:By):V7 (B6 s)=V7 s:=by
 cases s with
 | nil=>rfl
 | cons b r=>
  show(O7 (Bk b)&&(r.map Bk).all N7)=(O7 b&&r.all N7)
  rw[Ar9,List.all_map]
  congr 1
  apply List.all_congr rfl;intro b;exact Ad6 b
theorem UY(r:By):∃t,V8 r=47::t:=by
 unfold V8;split
 ·rename_i h;cases r with
  | nil=>cases h
  | cons b t=>
   obtain rfl:=j9 h;exact⟨t,rfl⟩
 ·exact⟨r,rfl⟩
theorem Ae5{r:By}(h:Oe r):Oe (V8 r):=by
 unfold V8;split
 ·exact h
 ·intro b a;rcases v7.1 a with rfl|a
  ·decide
  ·exact h b a
theorem Bo6{j c a:By}(p:G3 j=true)(q:Oe a)(i:Dd8 a)(o:Oe c)(f:∃r,c=47::r)(h:(H4 j c a).2=0):CU (H4 j c a).1:=by
 unfold H4 at h ⊢;by_cases n:0<=L0 64 a
 ·rw[if_pos n] at h ⊢;obtain⟨t,g,e,k,l,m⟩:=AX h;rw[e];exact⟨λh=>(by rw[p] at h;cases h),λ_=>⟨λb d=>q b (ab7 d),λb d=>i b (ab7 d),k,l,m,f,o⟩⟩
 ·rw[if_neg n] at h ⊢;obtain⟨t,g,e,k,l,m⟩:=AX h;rw[e];exact⟨λh=>(by rw[p] at h;cases h),λ_=>⟨λb d=>(by cases d),λb d=>(by cases d),k,l,m,f,o⟩⟩
theorem B75{s:By}(h:(D0 s).2=0):CU (D0 s).1:=by
 unfold D0 at h ⊢;cases f:s.any ctl with
 | true=>rw[f] at h;simp at h
 | false=>
  rw[f] at h;have j:=Ck6.1 f;simp only[p9,if_false] at h ⊢;rcases T0 58 s with c|⟨p,r,rfl,c⟩
  ·rw[Pm c] at h;simp at h
  ·rw[Z7 c] at h ⊢;have k:Oe p:=λb d=>j b (by simp[d])
   have g:Oe r:=λb d=>j b (by simp[d])
   cases a:V7 p with
   | false=>rw[a] at h;simp at h
   | true=>
    rw[a] at h;simp only[j4,Bool.or_self,p9,if_false] at h ⊢;cases e:G3 (B6 p) with
    | false=>
     simp only[p4,if_true];exact⟨λ_=>⟨by rw[Ad8];exact a,As3 p,rfl,rfl,rfl,g⟩,λh=>(by simp only at h;rw[e] at h;cases h)⟩
    | true=>
     rw[e] at h;simp only[j4,p9,if_false] at h ⊢;cases i:([47,47]:By).isPrefixOf r with
     | false=>rw[i] at h;simp at h
     | true=>
      rw[i] at h;simp only[j4,p9,if_false] at h ⊢;exact Bo6 e (λb d=>g b (x3 (ab7 d))) (A47 _) (Ae5 λb d=>g b (x3 (x3 d))) (UY _) h
theorem Av2{d b a:By}(h:(H4 d b a).2≠0):(H4 d b a).1=Bx:=by
 unfold H4 at h ⊢;split
 ·rename_i c;rw[if_pos c] at h;exact Uy h
 ·rename_i c;rw[if_neg c] at h;exact Uy h
theorem Bo1{s:By}(h:(D0 s).2≠0):(D0 s).1=Bx:=by
 unfold D0 at h ⊢;split
 ·rfl
 ·rename_i b;rw[if_neg b] at h;split
  ·rfl
  ·rename_i c;rw[if_neg c] at h;split
   ·rename_i a;rw[if_pos a] at h;exact absurd rfl h
   ·rename_i a;rw[if_neg a] at h;split
    ·rfl
    ·rename_i d;rw[if_neg d] at h;exact Av2 h
structure Bx5 (u:Bb):Prop where
 host:Na u.host
 port:-1<=u.port/\u.port<65536
theorem MQ:Na K4:=⟨by decide,Bi3,by decide⟩
theorem CU.ok{u:Bb}(h:CU u):Bx5 u:=by
 cases hs:G3 u.sch with
 | false=>
  obtain⟨_,_,_,a4,a5,_⟩:=h.ns hs;exact⟨by rw[a4];exact MQ,by omega⟩
 | true=>
  obtain⟨_,_,a3,_,a5,_⟩:=h.sp hs;exact⟨a3,by omega⟩
theorem B76(s:By):Bx5 (D0 s).1:=by
 by_cases h:(D0 s).2=0
 ·exact(B75 h).ok
 ·rw[Bo1 h];exact⟨MQ,by decide,by decide⟩
theorem Ny{n:Int}:Ip n=true↔-9223372036854775808<=n/\n<9223372036854775808:=by unfold Ip;rw[E0];constructor<;>rintro⟨a,b⟩<;>constructor<;>omega
theorem Ir(c:UInt8):∀s:By,k9 s c=match Gg c s with|some k=>(k:Int)|none=>-1
 | []=>rfl
 | b::r=>by
  have a:=Ir c r;unfold k9 Gg;by_cases h:b=c
  ·rw[if_pos h,if_pos (by simpa using h)];rfl
  ·rw[if_neg h,if_neg (by simpa using h),a];cases Gg c r with
   | none=>rfl
   | some k=>
    have e:((k:Int)==-1)=false:=by rw[beq_eq_false_iff_ne];omega
    simp only[aa9,e,p9,if_false];rfl
theorem Bt6(b:UInt8):isl.contains b=V3 b:=by rw[p7];simp[isl,V3,or_assoc]
theorem Gz(b:UInt8)(r:By):J5 (b::r)=if V3 b then 0 else J5 r+1:=by unfold J5;rw[w9];cases h:V3 b<;>simp
theorem Wo:∀s:By,J5 s<=s.length
 | []=>ab8 _
 | b::r=>by
  have:=Wo r;rw[Gz,j0];split<;>omega
theorem Iq:∀s:By,aa5 s isl=if J5 s<s.length then (J5 s:Int) else -1
 | []=>rfl
 | b::r=>by
  have c:=Iq r;have d:=Wo r;rw[aa5,Bt6,Gz,j0,c];cases V3 b with
  | true=>simp
  | false=>
   simp only[p9,if_false];by_cases h:J5 r<r.length
   ·have e:((J5 r:Int)==-1)=false:=by rw[beq_eq_false_iff_ne];omega
    have a:J5 r+1<r.length+1:=by omega
    simp only[if_pos h,if_pos a,e,p9,if_false];rfl
   ·have a:¬J5 r+1<r.length+1:=by omega
    simp only[if_neg h,if_neg a];rfl
theorem C44(b:UInt8)(t:By)(g:128<=b.toNat):128<=(aa4 (b::t)).1/\(aa4 (b::t)).1<1114112/\1<=(aa4 (b::t)).2/\(aa4 (b::t)).2<=t.length+1/\∀i,i<(aa4 (b::t)).2->128<=((b::t).getD i 0).toNat:=by
 have d:=Lib.decodeL_le (b::t) (by simp);have l:=Lib.decodeL_width (b::t);have n:=Lib.decodeL_rune (b::t);rw[j0] at d;refine⟨?_,by omega,l,d,?_⟩;all_goals
  clear d l n;rw[Lib.decodeL_N];rcases Lib.decodeN_shape (b::t).length ((b::t).getD 0 0).toNat ((b::t).getD 1 0).toNat ((b::t).getD 2 0).toNat ((b::t).getD 3 0).toNat with⟨c,e⟩|⟨h,j,k,f,e⟩|⟨h,j,k,m,f,p,e⟩|⟨h,j,k,m,o,f,q,e⟩|e
  all_goals rw[e]
 ·exact absurd g (by simp at c;omega)
 ·exact f
 ·simp only;omega
 ·simp only;omega
 ·simp only;omega
 ·exact absurd g (by simp at c;omega)
 ·intro i a;have:i=0\/i=1:=by simp only at a;omega
  rcases this with rfl|rfl<;>omega
 ·intro i a;have:i=0\/i=1\/i=2:=by simp only at a;omega
  rcases this with rfl|rfl|rfl<;>omega
 ·intro i a;have:i=0\/i=1\/i=2\/i=3:=by simp only at a;omega
  rcases this with rfl|rfl|rfl|rfl<;>omega
 ·intro i a;have:i=0:=by simp only at a;omega
  subst this;exact g
theorem Cd0{b:UInt8}(h:128<=b.toNat):V3 b=false:=by
 unfold V3;have n:∀c:UInt8,c.toNat<128->(b==c)=false:=λc a=>by
  rw[beq_eq_false_iff_ne];rintro rfl;omega
 rw[n 47 (by decide),n 63 (by decide),n 35 (by decide)];rfl
theorem B49{r:Int}(h:128<=r):irn r=-1:=by unfold irn;rw[F9,F9,F9]
theorem C55(b:UInt8):ltI (irn (b.toNat:Int)) 0 = !V3 b:=by
 have e:∀c:UInt8,((b.toNat:Int)=(c.toNat:Int))=(b=c):=λc=>propext ⟨λh=>x6.1 (by omega),λh=>by rw[h]⟩
 have g:((b.toNat:Int)=47)=(b=47):=e 47;have i:((b.toNat:Int)=63)=(b=63):=e 63;have j:((b.toNat:Int)=35)=(b=35):=e 35;unfold irn V3;simp only[g,i,j];by_cases a:b=47
 ·subst a;rfl
 ·by_cases d:b=63
  ·subst d;rfl
  ·by_cases f:b=35
   ·subst f;rfl
   ·have n:∀c,b≠c->(b==c)=false:=λc h=>by rwa [beq_eq_false_iff_ne]
    rw[if_neg a,if_neg d,if_neg f,n _ a,n _ d,n _ f];rfl
end
section
open Go Go.Proofs
set_option maxRecDepth 100000
theorem As7{R:Type}{b:By->Option R}(s p:By)(a:A3 s.length=true):Bd8 LF s p b=b (Fz s p):=by
 have:=L4 a;unfold Bd8 Fz;rw[a];cases h:p.isPrefixOf s with
 | false=>simp
 | true=>
  have:p.length<=s.length:=by rw[Dz] at h;simp at h;exact h.1
  simp (disch:=omega)
theorem Bu5{R:Type}{a:By->Option R}(s p:By)(b:A3 s.length=true):Cw6 LF s p a=a (Fz s p):=by unfold Cw6;rw[b];rfl
theorem A64{R:Type}{e:Int->Option R}(s:By):Bg8 LF s e=e (J9 s):=by unfold Bg8 J9 AL bWs Ie JU;generalize (s==([104,116,116,112]:List UInt8))=a;generalize (s==([119,115]:List UInt8))=b;generalize (s==([104,116,116,112,115]:List UInt8))=c;generalize (s==([119,115,115]:List UInt8))=d;cases a<;>cases b<;>cases c<;>cases d<;>rfl
theorem A69{R:Type}{a:Bool->Option R}(s:By):Bg9 LF s a=a (G3 s):=by unfold Bg9;rw[Sr,JX]
theorem Cx5(b q:By)(m:Int)(n:By)(v4 d e f g i j k l a:Int)(p:By) :
  ∃r H,Cx3 LF b q m n v4 d e f g i j k l a p (λo c=>rv (.s (.int .i64 o)) c)=rv r H/\r.stab [] H = .s (.int .i64 (prt b a)):=by
 unfold Cx3 prt;cases h:a==-1 with
 | true=>rw[show(a !=(-1:Int))=false by simp[bne,h]];exact⟨_,_,rfl,rfl⟩
 | false=>rw[show(a !=(-1:Int))=true by simp[bne,h]];exact⟨_,_,rfl,rfl⟩
def TK:By:=[48,49,50,51,52,53,54,55,56,57,43,45,46]
theorem Kz(c:UInt8):∀l:By,ltI (k9 l c) 0 = !l.contains c
 | []=>rfl
 | b::r=>by
  have f:=Kz c r;have g:=af7 r c;unfold k9;by_cases h:b=c
  ·subst h;simp[E3]
  ·have e:(b==c)=false:=by simpa using h
   have d:(c==b)=false:=by simpa using ac8 h
   rw[ae8,d,ah3,<-f,e];simp only[p9,if_false];by_cases a:k9 r c=-1
   ·rw[a];rfl
   ·have:(k9 r c==-1)=false:=by simpa using a
    rw[this,if_neg (by simp),A5,A5]
theorem Ad7:∀b:UInt8,N7 b=(O7 b||TK.contains b):=by
 have:∀n:Fin 256,N7 (ab9 n.val)=(O7 (ab9 n.val)||TK.contains (ab9 n.val)):=by decide +kernel
 intro b;have h:=this ⟨b.toNat,b.toNat_lt⟩;simpa using h
theorem Ag1{R:Type}{c:Unit->Option R}{d:By->Int->Int->Bool->Option R}(s:By)(i:Nat)(b:UInt8)(l:Bool)(n:Int):Ex s (i:Int) (b.toNat:Int) l n c d=if l then d s n i false else if i=0 then c () else if TK.contains b then d s n i false else c ():=by
 unfold Ex;cases l with
 | true=>rfl
 | false=>
  rw[p4,cond_true,if_neg (by simp)];by_cases a:i=0
  ·subst a;rfl
  ·have f:=b.toNat_lt;rw[show((i:Int)==0)=false by simpa using a,cond_false,E5,cond_true,if_neg a];simp only[vl];rw[Ib];have e:=Kz b TK;rw[show([48,49,50,51,52,53,54,55,56,57,43,45,46]:List UInt8)=TK from rfl,e];cases TK.contains b<;>rfl
theorem JK{R:Type}{a:Unit->Option R}{c:By->Option R}(s:By)(r:s.length<=1000000000)(n i:Nat)(p:i<s.length) :
  N1 LF (n+1) s (s.length:Int) (i:Int) a c=if O7 (s.getD i 0) then N1 LF n s s.length ((i+1:Nat):Int) a c else if i=0 then a () else if TK.contains (s.getD i 0) then N1 LF n s s.length ((i+1:Nat):Int) a c else a ():=by
 have k:A1 ((i:Int)+1)=((i+1:Nat):Int):=by rw[A7];rfl
 rw[N1,A8,E5,C9];simp only[cond_true];generalize s.getD i 0=b;have go:∀l,Ex s (i:Int) (b.toNat:Int) l (s.length:Int) (λ_=>a ()) (λj g h m=>N1 LF n j g (A1 (h+(1:Int))) a c)=if l then N1 LF n s s.length ((i+1:Nat):Int) a c else if i=0 then a () else if TK.contains b then N1 LF n s s.length ((i+1:Nat):Int) a c else a ():=λl=>by
  rw[Ag1,k]
 have q:O7 b=((x7 97 b.toNat&&x7 b.toNat 122)||(x7 65 b.toNat&&x7 b.toNat 90)):=rfl;by_cases f:97<=b.toNat
 ·rw[A5,p4,cond_true];by_cases d:b.toNat<=122
  ·rw[A5,p4,cond_true,if_pos (T3.2 (.inl ⟨f,d⟩))];unfold DL;simp only[k]
  ·rw[A8,j4,cond_false,A5,p4,cond_true,A8,j4];have e:O7 b=false:=by
    rw[<-af6,T3];omega
   rw[e];exact go false
 ·rw[A8,j4,cond_false];by_cases o:65<=b.toNat
  ·rw[A5,p4,cond_true];have e:O7 b = !ltI 90 (b.toNat:Int):=by
    rw[p7,T3,aa3,Jp];omega
   rw[e];exact go _
  ·rw[A8,j4,cond_false];have e:O7 b=false:=by
    rw[<-af6,T3];omega
   rw[e];exact go false
theorem Bv3{R:Type}{k0:Unit->Option R}{k1:By->Option R}(s:By)(d:s.length<=1000000000):∀(r i n:Nat),i+r=s.length->r<n->0<i->
  N1 LF n s (s.length:Int) (i:Int) k0 k1=if (s.drop i).all N7 then k1 s else k0 ():=by
 intro r
 induction r with
 | zero=>
  intro i n b c a;obtain⟨n,rfl⟩:∃m,n=m+1:=⟨n-1,by omega⟩
  rw[N1];rw[A5,s7 (by omega)];rfl
 | succ r e=>
  intro i n b c a;obtain⟨n,rfl⟩:∃m,n=m+1:=⟨n-1,by omega⟩
  rw[JK s d n i (by omega),e (i+1) n (by omega) (by omega) (by omega),D2 s i (by omega),ae6,Ad7,if_neg (by omega:¬i=0)];cases O7 (s.getD i 0) with
  | true=>simp
  | false=>
   cases TK.contains (s.getD i 0)<;>simp
theorem Bv4{R:Type}{k0:Bool->Option R}(s:By)(f:A3 s.length=true):Cf2 LF s k0=k0 (V7 s):=by
 have c:=L4 f;have g:=C1;unfold Cf2;obtain⟨n,d⟩:∃m,LF=m+1:=⟨LF-1,by omega⟩
 cases s with
 | nil=>
  rw[show @N1 R LF LF = @N1 R LF (n+1) by rw[<-d]];rfl
 | cons b t=>
  rw[show @N1 R LF LF = @N1 R LF (n+1) by rw[<-d]];refine c9 (JK (b::t) c n 0 (by simp)) ?_;have e:=Bv3 (k0:=λ_=>k0 false) (k1:=λa=>k0 (not (a==([]:List UInt8)))) (b::t) c t.length 1 n (by simp;omega) (by simp at c;omega) (by omega);rw[y7];simp only[ac0,if_true];rw[show(((0+1:Nat):Int))=((1:Nat):Int) from rfl,e];rw[show(b::t).drop 1=t from rfl,show V7 (b::t)=(O7 b&&t.all N7) from rfl];cases O7 b with
  | false=>rfl
  | true=>cases t.all N7<;>rfl
theorem TM:∀(s:By) (n:Int),CG.go n s=(Vk n s).getD 0
 | [],n=>rfl
 | b::r,n=>by
  unfold CG.go Vk;split
  ·exact TM r _
  ·rfl
theorem Bu7{R:Type}{a:Unit->Option R}{c:Int->Option R}(s:By)(y:s.length<=1000000000):∀(r i n:Nat) (v:Int),i+r=s.length->r<n->-1<=v->v<=65536->
  Md LF n s v (s.length:Int) (i:Int) a c=match Vk v (s.drop i) with|some m=>c m|none=>a ():=by
 intro r
 induction r with
 | zero=>
  intro i n v p q j k;obtain⟨n,rfl⟩:∃m,n=m+1:=⟨n-1,by omega⟩
  rw[Md];rw[A5,s7 (by omega)];rfl
 | succ r t=>
  intro i n v p q j k;obtain⟨n,rfl⟩:∃m,n=m+1:=⟨n-1,by omega⟩
  have d:A1 ((i:Int)+1)=((i+1:Nat):Int):=by rw[A7];rfl
  rw[Md];rw[A8,E5,C9,D2 s i (by omega),d];have x:=(s.getD i 0).toNat_lt;generalize s.getD i 0=b at *;unfold Vk;simp only[cond_true,vl];by_cases l:b.toNat<48
  ·rw[A8,cond_true,F9]
  ·rw[A5,cond_false];by_cases o:57<b.toNat
   ·rw[A8,cond_true,F9]
   ·rw[A5,cond_false,if_pos (show 48<=b.toNat/\b.toNat<=57 by omega)];have u:(if (0:Int) > v then (0:Int) else v)=max v 0:=by omega
    have e:A1 (10*max v 0)=10*max v 0:=A7;have f:wu8 ((b.toNat:Int)-48)=((b.toNat-48:Nat):Int):=by rw[L6];omega
    have g:A1 ((b.toNat-48:Nat):Int)=((b.toNat-48:Nat):Int):=A7;have h:A1 (10*max v 0+((b.toNat-48:Nat):Int))=10*max v 0+((b.toNat-48:Nat):Int):=A7;rw[u,e,f,g,h];have w:(if (65536:Int)<10*max v 0+((b.toNat-48:Nat):Int) then (65536:Int) else 10*max v 0+((b.toNat-48:Nat):Int))=min (10*max v 0+((b.toNat-48:Nat):Int)) 65536:=by omega
    rw[w];exact t (i+1) n _ (by omega) (by omega) (by omega) (by omega)
theorem Bu8{R:Type}{a:Int->Bool->Option R}(s:By)(b:A3 s.length=true):Cw9 LF s a=a (CG s) (Iu (-1) s).isSome:=by
 have d:=L4 b;have c:=C1;unfold Cw9;refine c9 (Bu7 s d s.length 0 LF (-1) (by omega) (by omega) (by omega) (by omega)) ?_;rw[ac3,TL,show CG s=CG.go (-1) s from rfl,TM];cases Vk (-1) s with
 | none=>rfl
 | some m=>
  simp only[af9,ad5];rw[Sr];by_cases h:m<65536
  ·rw[decide_eq_true h,if_pos h];rfl
  ·rw[decide_eq_false h,if_neg h];rfl
theorem B66{s:By}{p:Int}(h:Iu (-1) s=some p):CG s=p:=by
 rw[TL] at h;rw[show CG s=CG.go (-1) s from rfl,TM];cases a:Vk (-1) s with
 | none=>rw[a] at h;cases h
 | some m=>
  rw[a] at h;simp only[ad5] at h;split at h
  ·exact j9 h
  ·cases h
def hpT(name tail b user a:By):Bb × Nat:=
 if (C6 name).2≠0 then (Bx,(C6 name).2)
 else match Iu (-1) (tail.drop 1) with
  | none=>(Bx,16)
  | some p=>(⟨b,user,(C6 name).1,if p=J9 b then -1 else p,a⟩,0)
def hpC(name tail b user a:By):Bb × Nat:=if tail≠[]/\tail.head?≠some 58 then (Bx,4) else hpT name tail b user a
theorem Uz(c user b a:By):T9 c user b a=match Jq a with|none=>(Bx,4)|some (name,tail)=>hpC name tail c user b:=by
 unfold T9;cases Jq a with
 | none=>rfl
 | some q=>
  obtain⟨name,tail⟩:=q;rfl
theorem Sk{t:By}(h:t=[]\/t.head? = some 58):Fz t [58]=t.drop 1:=by
 rcases h with rfl|h
 ·rfl
 ·cases t with
  | nil=>cases h
  | cons b r=>
   simp only[List.head?_cons,p5] at h;subst h;simp[Fz]
theorem Wx(name tail:By)(f:name.length<=1000000000)(j:tail.length<=1000000000)(h:tail=[]\/tail.head? = some 58)(d u:By)(v:Int)(y:By)(w n8 x k l m n o r:Int)(c:By) :
  ∃B H,∀(R:Type) (a:Int->Blk->By->By->Int->By->Int->Int->Int->Int->Int->Int->Int->Int->Int->Int->By->List Blk->Option R),U7 name tail d u v y w n8 x k l m n o r (-1) c a=(λq=>a (uE q) B (uS q) (uU q) (uK q) (uN q) (uV q) (uA q 0) (uA q 1) (uA q 2) (uA q 3) (uA q 4) (uA q 5) (uA q 6) (uA q 7) (uP q) (uR q) H) (hpT name tail d u c):=by
 have i:(tail.drop 1).length<=1000000000:=by rw[j1];omega
 by_cases b:(C6 name).2=0
 ·cases g:Iu (-1) (tail.drop 1) with
  | none=>
   apply p6;apply p6;intro R a;unfold U7 hpT;rw[E1 f,cond_true,Sk h,E1 j];simp only[vl,cond_true];rw[b,E1 i,g];rfl
  | some p=>
   have t:=B66 g;by_cases e:p=J9 d
   ·apply p6;apply p6;intro R a;unfold U7 hpT;rw[E1 f,cond_true,Sk h,E1 j];simp only[vl,cond_true];rw[b,E1 i,g,t,show(p !=J9 d)=false by simpa using e];simp only[e,if_true];rfl
   ·apply p6;apply p6;intro R a;unfold U7 hpT;rw[E1 f,cond_true,Sk h,E1 j];simp only[vl,cond_true];rw[b,E1 i,g,t,show(p !=J9 d)=true by simpa using e];simp only[e,if_false];rfl
 ·apply p6;apply p6;intro R a;unfold U7 hpT;rw[E1 f,cond_true];simp only[vl];rw[show(((C6 name).2:Int)!=0)=true by simpa using b,cond_true,if_pos b];rfl
theorem Me(name tail:By)(w:name.length<=1000000000)(x:tail.length<=1000000000)(l m:By)(p:Int)(v:By)(t n8 u d f g i j k:Int)(a:By) :
  ∃B H,∀(R:Type) (c:Int->Blk->By->By->Int->By->Int->Int->Int->Int->Int->Int->Int->Int->Int->Int->By->List Blk->Option R),P4 name tail l m p v t n8 u d f g i j k (-1) a c=(λq=>c (uE q) B (uS q) (uU q) (uK q) (uN q) (uV q) (uA q 0) (uA q 1) (uA q 2) (uA q 3) (uA q 4) (uA q 5) (uA q 6) (uA q 7) (uP q) (uR q) H) (hpC name tail l m a):=by
 cases tail with
 | nil=>
  obtain⟨B,H,e⟩:=Wx name [] w x (.inl rfl) l m p v t n8 u d f g i j k a;refine⟨B,H,λR c=>?_⟩;unfold P4 hpC;exact e R c
 | cons b r=>
  by_cases n:b=58
  ·subst n;obtain⟨B,H,e⟩:=Wx name (58::r) w x (.inr rfl) l m p v t n8 u d f g i j k a;refine⟨B,H,λR c=>?_⟩;unfold P4 hpC;rw[J6 (by omega) (by simp),if_neg (by simp)];exact e R c
  ·apply p6;apply p6;intro R c;unfold P4 hpC;have o:(((b.toNat:Int))!=(58:Int))=true:=by
    rw[bne_iff_ne];intro h;have y:b.toNat=58:=by omega
    exact n (x6.1 y)
   rw[J6 (by omega) (by simp),if_pos (by simpa using n),Z5,y7,o];rfl
theorem Bd0{c:UInt8}{s:By}(h:Gg c s=none):k9 s c=-1:=by rw[Ir,h]
theorem SU{c:UInt8}{s:By}{k:Nat}(h:Gg c s=some k):k9 s c=(k:Int)/\k<s.length:=by obtain⟨p,r,rfl,_,rfl⟩:=Pr h;exact⟨by rw[Ir,h],by simp⟩
theorem C64(c:UInt8)(s:By):([c]:By).isPrefixOf s=(s.head? == some c):=by
 cases s with
 | nil=>rfl
 | cons b r=>
  grind
abbrev KU(R:Type):=By->By->Int->By->Int->Int->Int->Int->Int->Int->Int->Int->Int->Int->By->Int->List Blk->Option R
abbrev GJ{R:Type}(a:KU R)(q:Bb × Nat)(H:List Blk):Option R:=a (uS q) (uU q) (uK q) (uN q) (uV q) (uA q 0) (uA q 1) (uA q 2) (uA q 3) (uA q 4) (uA q 5) (uA q 6) (uA q 7) (uP q) (uR q) (uE q) H
theorem A62(u:By)(J:Int)(O:By)(v4 y z A C D F G I:Int)(t a:By)(h2:A3 a.length=true) :
  ∃H,∀(R:Type) (o:KU R),Tm LF u [] J O v4 y z A C D F G I (-1) t a o=GJ o (H4 u t a) H:=by
 have ha:=L4 h2;have ge:=HM 64 a;have key:∀(x b:By),b.length<=1000000000->∃H,∀(R:Type) (o:KU R),(cond (A3 (b8 b)) (cond (x5 (([91]:List UInt8)) b)
   (cond (A3 (b8 b))
    (vl (k9 b (u8n (93:Int))) λc=>
    cond (ltI c (0:Int))
     (o ([]:List UInt8) ([]:List UInt8) 0 ([]:List UInt8) 0 0 0 0 0 0 0 0 0 0 ([]:List UInt8) 4 [(bU u x J O v4 y z A C D F G I (-1) t),bU0])
     (cond (I2 (0:Int) (A1 (c+(1:Int))) (b8 b))
      (cond (I2 (A1 (c+(1:Int))) (↑(b8 b):Int) (b8 b))
       (P4 (cut b (0:Int) (A1 (c+(1:Int)))) (cut b (A1 (c+(1:Int))) (↑(b8 b):Int)) u x J O v4 y z A C D F G I (-1) t (λn0 T P Q K S L M n8 N f g i j l m n q=>o P Q K S L M n8 N f g i j l m n n0 (T::((bU P Q K S L M n8 N f g i j l m n)::q))))
       (none))
      (none)))
    (none))
   (cond (A3 (b8 b))
    (vl (k9 b (u8n (58:Int))) λd=>
    cond (not (ltI d (0:Int)))
     (cond (I2 (0:Int) d (b8 b))
      (cond (I2 d (↑(b8 b):Int) (b8 b))
       (P4 (cut b (0:Int) d) (cut b d (↑(b8 b):Int)) u x J O v4 y z A C D F G I (-1) t (λn0 T P Q K S L M n8 N f g i j l m n q=>o P Q K S L M n8 N f g i j l m n n0 (T::((bU P Q K S L M n8 N f g i j l m n)::q))))
      (none))
     (none))
     (P4 b ([]:List UInt8) u x J O v4 y z A C D F G I (-1) t (λn0 T P Q K S L M n8 N f g i j l m n q=>o P Q K S L M n8 N f g i j l m n n0 (T::((bU P Q K S L M n8 N f g i j l m n)::q)))))
    (none))) none)=GJ o (T9 u x t b) H:=by
  intro x b hb;rw[Uz];unfold Jq;have w:A3 b.length=true:=E1 hb;have W:u8n (93:Int)=93:=rfl;have U:u8n (58:Int)=58:=rfl;by_cases v:b.head? = some 91
  ·rw[if_pos v];have Z:([91]:By).isPrefixOf b=true:=by rw[C64,v];rfl
   cases Y:Gg 93 b with
   | none=>
    apply p6;intro R o;rw[w,Z,W,Bd0 Y];rfl
   | some k=>
    obtain⟨e,hk⟩:=SU Y;have e1:A1 ((k:Int)+1)=((k+1:Nat):Int):=by rw[A7];rfl
    obtain⟨B,H,X⟩:=Me (b.take (k+1)) (b.drop (k+1)) (by rw[j8];omega) (by rw[j1];omega) u x J O v4 y z A C D F G I t;apply p6;intro R o;rw[w,Z,W,e];simp only[vl,cond_true];rw[A5,cond_false,e1,H9,H9,cond_true,cond_true,J8,P9,j7,X]
  ·rw[if_neg v];have Z:([91]:By).isPrefixOf b=false:=by rw[C64];simpa using v
   cases Y:Gg 58 b with
   | none=>
    obtain⟨B,H,X⟩:=Me b [] hb (by simp) u x J O v4 y z A C D F G I t;apply p6;intro R o;rw[w,Z,U,Bd0 Y];simp only[vl,cond_true,cond_false];rw[A8,j4,cond_false,X]
   | some k=>
    obtain⟨e,hk⟩:=SU Y;obtain⟨B,H,X⟩:=Me (b.take k) (b.drop k) (by rw[j8];omega) (by rw[j1];omega) u x J O v4 y z A C D F G I t;apply p6;intro R o;rw[w,Z,U,e];simp only[vl,cond_true,cond_false];rw[A5,p4,cond_true,H9,H9,cond_true,cond_true,J8,P9,j7,X]
 have V:u8n (64:Int)=64:=rfl;unfold H4;by_cases h:0<=L0 64 a
 ·obtain⟨p,r,rfl,_,hl⟩:=HO h;rw[if_pos h,hl,j7];rw[j2,j0] at ha;obtain⟨H,e⟩:=key ((p++64::r).take p.length) ((p++64::r).drop (p.length+1)) (by rw[j1,j2,j0];omega);refine⟨H,λR o=>?_⟩;refine c9 ?_ (e R o);have e1:A1 ((p.length:Int)+1)=((p.length+1:Nat):Int):=by rw[A7];rfl
  have ln:(p++64::r).length=p.length+r.length+1:=by rw[j2,j0];omega
  unfold Tm;rw[h2,V,hl];simp only[vl,cond_true];rw[A5,p4,cond_true,e1,H9,H9,cond_true,cond_true,J8,P9,j7,j7];rfl
 ·rw[if_neg h];obtain⟨H,e⟩:=key [] a ha;refine⟨H,λR o=>?_⟩;refine c9 ?_ (e R o);unfold Tm;rw[h2,V];simp only[vl,cond_true];rw[A8,j4,cond_false];rfl
theorem Ot{x:SV}(h:(Ty.int .u16).of x):∃n,x = .int .u16 n/\ltN n 65536=true:=by obtain⟨n,rfl,a,b⟩:=h;simp[IntKind.min,IntKind.max,IntKind.signed,IntKind.bits] at a b;exact⟨n,rfl,E0.2 ⟨a,by omega⟩⟩
def Tru(x:Option (PV × List Blk × Unit)):Prop:=∃H,x=some (.s (.bool true),H,())
theorem eq8{v6:List Nat}(h:v6.length=8):∃a b c d e f g i,v6=[a,b,c,d,e,f,g,i]:=by
 match v6,h with
 | [a,b,c,d,e,f,g,i],_=>exact⟨a,b,c,d,e,f,g,i,rfl⟩
theorem Ag6{h:B2}(a:M6 h=true):h.name.length<=253:=by
 unfold M6 at a;split at a
 ·simp only[s8] at a;exact(JM.1 a.1.1).le
 ·split at a
  ·simp only[s8,ad3] at a;rw[a.1];simp
  ·split at a
   ·simp only[s8,ad3] at a;rw[a.1];simp
   ·cases a
theorem Uo{h:B2}(ok:Na h):(Io h).length<=300:=by
 cases a:M6 h with
 | false=>rw[HA a];simp
 | true=>
  have d:=Ag6 a;have c:=Cf9 _ ok.v6.1 ok.v6.2;have b:=C76 _ ok.v4;unfold Io;rw[if_pos a];split
  ·omega
  ·split
   ·omega
   ·simp only[j0,j2,aa1];omega
theorem CT{h0 b c d e f g i j a:Int}{h1:By}(k:ltN b 4294967296=true)(l:ok8 c d e f g i j a=true):Na (mkH h0 h1 b (n8 c d e f g i j a)):=by
 have⟨m,n⟩:=E0.1 k;refine⟨by show b.toNat<_;omega,C29 l,?_⟩;show(if ltN h0 4 then h0.toNat else 0)<4;split
 ·rename_i h;have:=E0.1 h;omega
 ·omega
theorem Bv1(c z:By)(x:Int)(y:By)(v4 m n o p t u v w k:Int)(b a:By)(O:A3 c.length=true)(P:A3 b.length=true)(A:A3 a.length=true)(B:z.isEmpty=true)(C:(k==-1)=true) :
  ∃r H,Tm LF c z x y v4 m n o p t u v w k b a (λL M D N F G I J n8 K f g h i l j d=>rv (.tup [gU L M D N F G I J n8 K f g h i l,.s (.int .i64 j)]) d)=rv r H/\
   r.stab [0,0] H=(λq=>.tup [gU (uS q) (uU q) (uK q) (uN q) (uV q) (uA q 0) (uA q 1) (uA q 2) (uA q 3) (uA q 4) (uA q 5) (uA q 6) (uA q 7) (uP q) (uR q),.s (.int .i64 (uE q))]) (H4 c b a):=by
 obtain rfl:=ad3.1 B;obtain rfl:k=-1:=by simpa using C
 obtain⟨H,e⟩:=A62 c x y v4 m n o p t u v w b a A;exact⟨_,_,e _ _,rfl⟩
theorem Bb8(b:UInt8):ctl b=(!ltI 32 (b.toNat:Int)||((b.toNat:Int)==127)):=by rw[p7,Cl3,aa8,aa3,Jp,beq_iff_eq];omega
theorem Bv2{R:Type}{a:List Blk->Option R}{b:By->Option R}(s:By)(g:s.length<=1000000000):∀(r i n:Nat),i+r=s.length->r<n->
  Ic LF n s (s.length:Int) (i:Int) a b=if (s.drop i).any ctl then a [] else b s:=by
 intro r
 induction r with
 | zero=>
  intro i n d e;obtain⟨n,rfl⟩:∃m,n=m+1:=⟨n-1,by omega⟩
  rw[Ic];rw[A5,s7 (by omega)];rfl
 | succ r f=>
  intro i n d e;obtain⟨n,rfl⟩:∃m,n=m+1:=⟨n-1,by omega⟩
  have c:A1 ((i:Int)+1)=((i+1:Nat):Int):=by rw[A7];rfl
  rw[Ic];rw[A8,E5,C9,D2 s i (by omega),c,List.any_cons,Bb8];simp only[cond_true];rw[f (i+1) n (by omega) (by omega)];cases ltI 32 ((s.getD i 0).toNat:Int) with
  | false=>rfl
  | true=>cases (((s.getD i 0).toNat:Int)==127)<;>rfl
theorem Cf1(s:By)(i:A3 s.length=true):∃H,∀(R:Type) (a:KU R),KR LF s a=GJ a (D0 s) H:=by
 have y:=L4 i;have v:=C1;have L:∀{R:Type} (a:List Blk->Option R) (l:By->Option R),Ic LF LF s (s.length:Int) 0 a l=if s.any ctl then a [] else l s:=λa l=>Bv2 s y s.length 0 LF (by omega) (by omega)
 unfold D0;by_cases h:s.any ctl=true
 ·rw[if_pos h];apply p6;intro R a;unfold KR;rw[L,if_pos h];rfl
 rw[if_neg h];rcases T0 58 s with b|⟨p,r,rfl,b⟩
 ·apply p6;intro R a;unfold KR;rw[L,if_neg h,i,Pm b];rfl
 have B:(p++58::r).length=p.length+r.length+1:=by rw[j2,j0];omega
 have sp:A3 p.length=true:=N0;have o:A3 r.length=true:=N0;rw[Z7 b];simp only[j4,ah3];cases c:V7 p with
 | false=>
  apply p6;intro R a;unfold KR;rw[L,if_neg h,i,Z7 b];simp only[vl,cond_true,j4,cond_false];rw[sp,c];rfl
 | true=>
 rw[if_neg (by simp)];cases f:G3 (B6 p) with
 | false=>
  apply p6;intro R a;unfold KR;rw[L,if_neg h,i,Z7 b];simp only[vl,cond_true,j4,cond_false];rw[sp,c,f];rfl
 | true=>
 rw[if_neg (by simp)];cases Sn:([47,47]:By).isPrefixOf r with
 | false=>
  apply p6;intro R a;unfold KR;rw[L,if_neg h,i,Z7 b];simp only[vl,cond_true,j4,cond_false];rw[sp,c,f,o,Sn];rfl
 | true=>
 rw[if_neg (by simp)];have j:Fz r [47,47]=r.drop 2:=by unfold Fz;rw[Sn,if_pos rfl];rfl
 generalize m:r.drop 2=t;rw[m] at j;have lt:t.length<=r.length:=by rw[<-m,j1];omega
 have u:A3 t.length=true:=N0;have z:=Wo t;have sl:A3 (B6 p).length=true:=by rw[Ff];exact sp
 have tail:∀(R:Type) (a:KU R) (X d:By),X.length<=t.length->d.length<=t.length->
   (cond (A3 (b8 X))
    (cond (not (x5 (([47]:List UInt8)) X))
     (cond (F3 1 (b8 X))
     (cond (A3 (b8 (B6 p)))
      (cond (A3 (b8 (([47]:List UInt8)++X)))
       (cond (A3 (b8 d))
       (cond (((-1):Int)==((-1):Int))
        (GJ a (H4 (B6 p) (([47]:List UInt8)++X) d) ((λq=>[bU (uS q) (uU q) (uK q) (uN q) (uV q) (uA q 0) (uA q 1) (uA q 2) (uA q 3) (uA q 4) (uA q 5) (uA q 6) (uA q 7) (uP q) (uR q),bU (B6 p) [] 0 [] 0 0 0 0 0 0 0 0 0 (-1) (([47]:List UInt8)++X)]) (H4 (B6 p) (([47]:List UInt8)++X) d)))
        (none))
       (none))
       (none))
      (none))
     (none))
     (cond (A3 (b8 (B6 p)))
     (cond (A3 (b8 X))
      (cond (A3 (b8 d))
      (cond (((-1):Int)==((-1):Int))
       (GJ a (H4 (B6 p) X d) ((λq=>[bU (uS q) (uU q) (uK q) (uN q) (uV q) (uA q 0) (uA q 1) (uA q 2) (uA q 3) (uA q 4) (uA q 5) (uA q 6) (uA q 7) (uP q) (uR q),bU (B6 p) [] 0 [] 0 0 0 0 0 0 0 0 0 (-1) X]) (H4 (B6 p) X d)))
       (none))
      (none))
      (none))
     (none)))
    none)=GJ a (H4 (B6 p) (V8 X) d) ((λq=>[bU (uS q) (uU q) (uK q) (uN q) (uV q) (uA q 0) (uA q 1) (uA q 2) (uA q 3) (uA q 4) (uA q 5) (uA q 6) (uA q 7) (uP q) (uR q),bU (B6 p) [] 0 [] 0 0 0 0 0 0 0 0 0 (-1) (V8 X)]) (H4 (B6 p) (V8 X) d)):=by
  intro R a X d A w;rw[N0,sl,C64,E1 (n:=d.length) (by omega)];unfold V8;by_cases g:X.head? = some 47
  ·rw[if_pos g,g];rfl
  ·have e:(X.head? == some 47)=false:=by simpa using g
   rw[if_neg g,e,E6 (by omega),E1 (by simp;omega)];rfl
 refine⟨(λX=>(λq=>[bU (uS q) (uU q) (uK q) (uN q) (uV q) (uA q 0) (uA q 1) (uA q 2) (uA q 3) (uA q 4) (uA q 5) (uA q 6) (uA q 7) (uP q) (uR q),bU (B6 p) [] 0 [] 0 0 0 0 0 0 0 0 0 (-1) (V8 X)]) (H4 (B6 p) (V8 X) (t.take (J5 t)))) (t.drop (J5 t)),λR a=>?_⟩;refine c9 ?_ (tail R a (t.drop (J5 t)) (t.take (J5 t)) (by rw[j1];omega) (by rw[j8];omega));unfold KR;rw[L,if_neg h,i,Z7 b];simp only[vl,cond_true,j4,cond_false];rw[sp,c,f,o,Sn,j,u];rw[show Zh ([47,63,35]:List UInt8)=true from rfl,show([47,63,35]:List UInt8)=isl from rfl,Iq];simp only[cond_true,j4,cond_false];by_cases k:J5 t<t.length
 ·rw[if_pos k,A5,p4,cond_true,J8,j7,j8,Nat.min_eq_left (by omega),H9,H9,P9,j7];rfl
 ·have x:J5 t=t.length:=by omega
  rw[if_neg k,A8,j4,cond_false,H9,P9,j7,x,List.take_length,u];rfl
abbrev rvU(n o:By)(h:Int)(p:By)(i j k l n8 m b c d e:Int)(g:By)(f:Int)(a:List Blk):=rv (.tup [gU n o h p i j k l n8 m b c d e g,.s (.int .i64 f)]) a
abbrev pvU(q:Bb × Nat):PV:=.tup [gU (uS q) (uU q) (uK q) (uN q) (uV q) (uA q 0) (uA q 1) (uA q 2) (uA q 3) (uA q 4) (uA q 5) (uA q 6) (uA q 7) (uP q) (uR q),.s (.int .i64 (uE q))]
theorem Cx2(s:By)(a:A3 s.length=true):∃r H,KR LF s rvU=rv r H/\r.stab [0,0] H=pvU (D0 s):=by obtain⟨H,e⟩:=Cf1 s a;exact⟨_,_,e _ _,rfl⟩
theorem Pt{p:Int}(h:Ip p=true):(Bw p).length<=20:=by
 obtain⟨a,b⟩:=Ny.1 h;unfold Bw;split
 ·have:=Jj 19 (-p).toNat (by omega) (by omega);rw[j0];omega
 ·have:=Jj 19 p.toNat (by omega) (by omega);omega
theorem XY(b:Int)(c:By)(v4:Int)(a:List Nat):Io (mkH b c v4 a)=Io (Cq5 b c v4 a):=by
 unfold mkH Cq5;cases h:ltN b 4 with
 | true=>rfl
 | false=>
  rw[if_neg (by simp),if_neg (by simp),HA (by rfl),HA (by rfl)]
theorem UZ{c d a b:By}(h:smU c d a b=true):c.length<=100000000/\d.length<=100000000/\a.length<=100000000/\b.length<=100000000:=by simp only[smU,s8,ac4,and_assoc] at h;exact h
theorem Bu3{l m:By}{kd:Int}{a:By}{v4 b c d e f g h i j:Int}{k:By}(h0:smU l m a k=true)(h1:ltN v4 4294967296=true)(n:ok8 b c d e f g h i=true)(o:Ip j=true) :
  (Ed (mkU l m kd a v4 (n8 b c d e f g h i) j k)).length<=400000000:=by
 obtain⟨r,t,u,v⟩:=UZ h0;have p:=Uo (CT (h0:=kd) (h1:=a) h1 n);rw[XY] at p;have q:=Pt o;unfold Ed mkU LE;simp only;split
 ·split<;>split<;>simp only[j2,j0,aa1]<;>omega
 ·simp only[j2,j0];omega
theorem Cf5(c n:By)(m:Int)(a:By)(v4 e f g h i j k l b:Int)(d:By)(h0:smU c n a d=true)(h1:ltN v4 4294967296=true)(t:ok8 e f g h i j k l=true)(x:Ip b=true) :
  ∃r H,Rb LF c n m a v4 e f g h i j k l b d (λu q=>rv (.s (.str u)) q)=rv r H/\r.stab [] H = .s (.str (Ed (mkU c n m a v4 (n8 e f g h i j k l) b d))):=by
 obtain⟨D,F,G,I⟩:=UZ h0;have A:=Uo (CT (h0:=m) (h1:=a) h1 t);have C:=Pt x;have key:∀T:By,Rb LF c n m a v4 e f g h i j k l b d (λu q=>rv (.s (.str u)) q)=rv (.s (.str T)) [bU c n m a v4 e f g h i j k l b d]->T=Ed (mkU c n m a v4 (n8 e f g h i j k l) b d)->∃r H,Rb LF c n m a v4 e f g h i j k l b d (λu q=>rv (.s (.str u)) q)=rv r H/\r.stab [] H = .s (.str (Ed (mkU c n m a v4 (n8 e f g h i j k l) b d))):=λT y z=>⟨_,_,y,by rw[<-z];rfl⟩
 have w:A3 a.length=true:=N0;cases o:G3 c with
 | false=>
  refine key (c++[58]++d) ?_ ?_
  ·unfold Rb;rw[o,E6 (by omega)];simp only[vl,cond_true,p4];rw[E6 (by simp;omega)];rfl
  ·unfold Ed mkU;simp only[o];simp
 | true=>
  have B:=A;by_cases v:n=[]
  ·subst v;have e0:(([]:By)==([]:List UInt8))=true:=rfl;by_cases p:b=-1
   ·subst p;refine key (((c++[58,47,47])++Io (mkH m a v4 (n8 e f g h i j k l)))++d) ?_ ?_
    ·unfold Rb;rw[o,w,h1,t,e0];simp only[vl,cond_true,cond_false,j4,show((-1:Int)!=-1)=false from rfl]
     repeat rw[E6 (by first|omega|(simp only[j2,j0,aa1];omega))]
     rfl
    ·unfold Ed mkU LE;simp[o,XY]
   ·refine key (((c++[58,47,47])++Io (mkH m a v4 (n8 e f g h i j k l)))++([58]++Bw b)++d) ?_ ?_
    ·unfold Rb;rw[o,w,h1,t,x,e0];simp only[vl,cond_true,cond_false,j4,show(b !=-1)=true by simpa using p]
     repeat rw[E6 (by first|omega|(simp only[j2,j0,aa1];omega))]
     rfl
    ·unfold Ed mkU LE;simp[o,XY,p]
  ·have e0:(n==([]:List UInt8))=false:=by simpa using v
   by_cases p:b=-1
   ·subst p;refine key (((c++[58,47,47])++(n++[64])++Io (mkH m a v4 (n8 e f g h i j k l)))++d) ?_ ?_
    ·unfold Rb;rw[o,w,h1,t,e0];simp only[vl,cond_true,cond_false,j4,p4,show((-1:Int)!=-1)=false from rfl]
     repeat rw[E6 (by first|omega|(simp only[j2,j0,aa1];omega))]
     rfl
    ·unfold Ed mkU LE;simp[o,XY,v]
   ·refine key (((c++[58,47,47])++(n++[64])++Io (mkH m a v4 (n8 e f g h i j k l)))++([58]++Bw b)++d) ?_ ?_
    ·unfold Rb;rw[o,w,h1,t,x,e0];simp only[vl,cond_true,cond_false,j4,p4,show(b !=-1)=true by simpa using p]
     repeat rw[E6 (by first|omega|(simp only[j2,j0,aa1];omega))]
     rfl
    ·unfold Ed mkU LE;simp[o,XY,p,v]
theorem Cp0{a:Int}{k:Nat}(d:k<4):(a==(k:Int))=(k==(if ltN a 4 then a.toNat else 4)):=by
 rw[p7,beq_iff_eq,beq_iff_eq];cases h:ltN a 4 with
 | true=>
  obtain⟨b,c⟩:=E0.1 h;rw[if_pos rfl];omega
 | false=>
  rw[if_neg (by simp)];have:¬(0<=a/\a<4):=λq=>by
   have:=E0.2 q;rw[h] at this;cases this
  omega
theorem RA(a b:By):(a==b)=(b==a):=by rw[p7,beq_iff_eq,beq_iff_eq];exact eq_comm
theorem Co8(a b:Int):(a==b)=(b==a):=by rw[p7,beq_iff_eq,beq_iff_eq];exact eq_comm
theorem Em(a b:Nat):((a:Int)==(b:Int))=(b==a):=by rw[p7,beq_iff_eq,beq_iff_eq];omega
theorem Bi8{F G:By}{Q:Int}{B:By}{v4 a b c d f g h i C:Int}{D:By}{p:Bb × Nat}(R:ltN v4 4294967296=true)(S:ok8 a b c d f g h i=true)(V:Bx5 p.1) :
  ((F==(uS p))&&((G==(uU p))&&((Q==(uK p))&&((B==(uN p))&&((v4==(uV p))&&((a==(uA p 0))&&((b==(uA p 1))&&((c==(uA p 2))&&((d==(uA p 3))&&((f==(uA p 4))&&((g==(uA p 5))&&((h==(uA p 6))&&((i==(uA p 7))&&((C==(uP p))&&((D==(uR p))&&true)))))))))))))))=eqU p.1 (mkU F G Q B v4 (n8 a b c d f g h i) C D):=by
 obtain⟨⟨s,u,⟨k,n,v,l⟩,q,t⟩,e⟩:=p;obtain⟨P,_⟩:=V;obtain⟨H,I,J,K,L,M,N,O,rfl⟩:=eq8 P.v6.1;obtain⟨j,m,o,r,x,y,z,A,rfl,rfl,rfl,rfl,rfl,rfl,rfl,rfl,_⟩:=Pv S;obtain⟨w,rfl⟩:=y8 (E0.1 R).1;have T:k<4:=P.kd;have U:(([H,I,J,K,L,M,N,O]:List Nat)==[j,m,o,r,x,y,z,A])=((H==j)&&((I==m)&&((J==o)&&((K==r)&&((L==x)&&((M==y)&&((N==z)&&((O==A)&&true)))))))):=rfl;simp only[eqU,eqH,mkU,Cq5,n8,j7,U,y7,ae3];rw[Cp0 T,RA F,RA G,RA B,RA D,Co8 C,Em w,Em j,Em m,Em o,Em r,Em x,Em y,Em z,Em A];simp only[Bool.and_assoc,ah2];rfl
theorem A71(m n:By)(kd:Int)(j:By)(v4 a b c d f g h i k:Int)(l:By)(u:smU m n j l=true)(o:ltN v4 4294967296=true)(q:ok8 a b c d f g h i=true)(v:Ip k=true) :
  ∃r H,DM LF m n kd j v4 a b c d f g h i k l (λz w=>rv (.s (.bool z)) w)=rv r H/\r.stab [] H = .s (.bool (Mg (mkU m n kd j v4 (n8 a b c d f g h i) k l))):=by
 have A:=Bu3 (kd:=kd) u o q v;unfold DM Mg;rw[u,o,q,v];simp only[vl,cond_true];rw[N0,cond_true];have x:=B76 (Ed (mkU m n kd j v4 (n8 a b c d f g h i) k l));rw[Bi8 o q x];generalize D0 (Ed (mkU m n kd j v4 (n8 a b c d f g h i) k l))=p;obtain⟨y,e⟩:=p;by_cases t:e=0
 ·subst t;exact⟨_,_,rfl,rfl⟩
 ·rw[show(uE (y,e)==(0:Int))=false by simpa using t,show(e==0)=false by simpa using t];exact⟨_,_,rfl,rfl⟩
end
section
open Go Go.Proofs Go.Sort
set_option maxRecDepth 100000
theorem VY:B0 a8 GX 73 Tu:=by
 refine B0.fix (pf:=FG) _ (J1 (fn:=Tryz.f73) (by kernel_rfl) (by kernel_rfl) (by kernel_rfl) ?_);intro args ret j h;unfold FG at h;split at h
 ·rename_i s c;obtain⟨l,h⟩:=B9 h;obtain⟨m,h⟩:=B9 h;obtain⟨rfl,rfl⟩:=J0 h;refine⟨rfl,rfl,λC o a p w k n d b=>?_⟩;obtain⟨U,V,rfl,f,g⟩:=b.arr2;obtain⟨i,rfl,rfl⟩:=f.inv_str;obtain rfl:=g.inv_int;refine(Any.strings_IndexByte Tryz.lays137 i c w).mono ?_;rintro e w' ⟨rfl,rfl⟩;exact⟨_,rfl,af4 _ _,VP.mk_int _ _⟩
 ·cases h
theorem A78:B0 a8 GX 53 DP:=JP 9223372036854775808 (ab8 _)
theorem Bh4:B0 a8 GX 51 OQ:=by
 refine B0.fix (pf:=DW) _ (J1 (fn:=Tryz.f51) (by kernel_rfl) (by kernel_rfl) (by kernel_rfl) ?_);intro args ret l h;unfold DW at h;split at h
 ·rename_i n;obtain⟨b,h⟩:=B9 h;obtain⟨rfl,rfl⟩:=J0 h;refine⟨rfl,rfl,λC o a p w m c i g=>?_⟩;obtain⟨U,rfl,j⟩:=g.arr1;obtain rfl:=j.inv_int;obtain⟨d,f⟩:=Ny.1 b;refine(Any.strconv_Itoa Tryz.laysM171 n (by omega) (by omega) w (B37 c a)).mono ?_;rintro e w' ⟨rfl,k,os,rfl⟩;refine⟨_,rfl,(Nq w k).trans (show RowKit.Below w.heap.size _ _ from FX (w.drewN k) os),?_⟩;have:Lib.itoa n=Bw n:=by
   unfold Lib.itoa Bw;split
   ·rw[show n.natAbs=(-n).toNat by omega]
   ·rfl
  rw[this];exact VP.mk_str _
 ·cases h
theorem Ci7:B0 a8 GX 58 WM:=by
 refine B0.fix (pf:=Pe) _ (J1 (fn:=ag7) (by kernel_rfl) (by kernel_rfl) (by kernel_rfl) ?_);intro args ret A h;unfold Pe at h;split at h
 ·rename_i s p;obtain⟨i,h⟩:=B9 h;obtain⟨k,h⟩:=B9 h;obtain⟨l,h⟩:=B9 h;obtain⟨rfl,rfl⟩:=J0 h;refine⟨rfl,rfl,λC G m I w B F r q=>?_⟩;obtain⟨U,V,rfl,y,z⟩:=q.arr2;obtain⟨g,rfl,rfl⟩:=y.inv_str;obtain⟨d,rfl,a⟩:=z.inv_str;have H:=L4 i;have c:p=isl:=by simpa[Zh] using k
  have D:=ab6 l;have f:=zero_of_info (P:=a8) (t:=Tryz.lays153_ren.t 116) (v:=.agg (Array.replicate 256 (.bool false))) (n:=256) (by kernel_rfl);subst c;have u:d.size=3:=by have:=ag1 d;rw[a] at this;exact this
  have x:=ag1 g;refine(Any.strings_IndexAny_long Tryz.lays153 f.1 f.2 g d w (by omega) (by omega) (by omega) (by omega) ?_).mono ?_
  ·rw[a];intro j b o;have:b∈isl:=List.mem_of_getElem? o
   revert b
   simp only[isl,v7,ad4,or_false];rintro b _ (rfl|rfl|rfl)<;>decide
  ·rintro e w' ⟨rfl,rfl⟩;rw[a];exact⟨_,rfl,((af4 _ _).alloc (ab8 _) _).alloc (by simp) _,VP.mk_int _ _⟩
 ·cases h
end
section
open Go Go.Proofs
set_option maxRecDepth 100000
theorem VB{R:Type}{a:Bool->Option R}(n:Int):VA LF n a=a (ltI 8 n):=rfl
theorem Ag2{R:Type}{a:Bool->Option R}(r:Int):JL LF r a=a (JN r):=by
 have b:ltN r 55296=(!ltI r 0&&ltI r 55296):=by
  rw[p7,E0,s8,aa3,Jp,Le];omega
 have c:(ltI 57343 r&&ltN r 1114112)=(ltI 57343 r&&!ltI 1114111 r):=by
  rw[p7,s8,s8,E0,aa3,Jp,Le];omega
 unfold JL Kh JN;rw[b,c];cases ltI r 0<;>cases ltI r 55296<;>cases ltI 57343 r<;>cases ltI 1114111 r<;>rfl
theorem C54(b:UInt8):k9 isl b=irn (b.toNat:Int):=by
 by_cases a:b=47
 ·subst a;rfl
 ·by_cases d:b=63
  ·subst d;rfl
  ·by_cases f:b=35
   ·subst f;rfl
   ·have n:∀c:UInt8,b≠c->(c==b)=false:=λc h=>by rw[beq_eq_false_iff_ne];exact ac8 h
    have e:∀c:UInt8,b≠c->¬(b.toNat:Int)=(c.toNat:Int):=λc h q=>h (x6.1 (by omega))
    have g:¬(b.toNat:Int)=47:=e 47 a;have i:¬(b.toNat:Int)=63:=e 63 d;have j:¬(b.toNat:Int)=35:=e 35 f;unfold irn;rw[if_neg g,if_neg i,if_neg j];simp[isl,k9,n _ a,n _ d,n _ f]
theorem Dd3{l:By}{x:UInt8}(h:∀b∈l,b.toNat<128)(d:128<=x.toNat):k9 l x=-1:=by
 have e:=Kz x l;have c:l.contains x=false:=by
  rw[af1];intro a;have:=h x (by simpa using a);omega
 rw[c,p4,Le] at e;have:=af7 l x;omega
theorem B32{r:Int}(g:JN r=true)(h:128<=r):2<=(ab3 r).data.toList.length/\(ab3 r).data.toList.length<=4/\128<=((ab3 r).data.toList.getD ((ab3 r).data.toList.length-1) 0).toNat:=by
 have a:Utf8.valid r=true:=by
  rw[validRune_eq];unfold validRune;simp only[JN,aa8,s8,E0,Le] at g;exact decide_eq_true (by omega)
 obtain⟨b,c,d⟩:=encode_facts r a h;have f:=ag1 (ab3 r);rw[<-f];refine⟨b,c,?_⟩;have e:=d (by omega);rw[List.getD_eq_getElem?_getD,ad0 (by omega),af9];exact e
theorem Bt5(r:Int)(h:ltN r 1114112=true):∃v H,JE LF r (λk=>rv (.s (.int .i64 k)) []) (λk I=>rv (.s (.int .i64 k)) [.iter [47,63,35] I])=rv v H/\v.stab [] H = .s (.int .i64 (irn r)):=by
 obtain⟨A,M⟩:=E0.1 h;have B:=C1;unfold JE;rw[A5,p4,cond_true];unfold Kc;by_cases p:r<128
 ·obtain⟨n,rfl⟩:=y8 A;have e:wu8 (n:Int)=(n:Int):=L6;have f:u8n (n:Int)=ab9 n:=by unfold u8n;simp
  have g:(((ab9 n).toNat:Nat):Int)=(n:Int):=by simp;omega
  rw[A8,cond_true,e,E5,f];have o:=C54 (ab9 n);rw[g] at o;rw[<-o];exact⟨_,_,rfl,rfl⟩
 ·rw[A5,cond_false,B49 (by omega)];by_cases t:r=65533
  ·subst t;obtain⟨m,i⟩:∃m,LF=m+1+1+1+1:=⟨LF-4,by omega⟩
   have w:x4 ⟨w8 ([47,63,35]:List UInt8)⟩ 0=(47,1):=rfl;have x:x4 ⟨w8 ([47,63,35]:List UInt8)⟩ 1=(63,1):=rfl;have y:x4 ⟨w8 ([47,63,35]:List UInt8)⟩ 2=(35,1):=rfl;have go:∀(R:Type) (c:Int->Nat->Option R) (a:Nat->Option R),Y3 LF LF 0 c a=a 3:=λR c a=>by
    have L:Y3 LF (m+1) 3 c a=a 3:=by rw[Dt];rfl
    have K:Y3 LF (m+1+1) 2 c a=a 3:=by rw[Dt];unfold Cw;rw[y];exact L
    have J:Y3 LF (m+1+1+1) 1 c a=a 3:=by rw[Dt];unfold Cw;rw[x];exact K
    have d:Y3 LF (m+1+1+1+1) 0 c a=a 3:=by rw[Dt];unfold Cw;rw[w];exact J
    rw[<-i] at d;exact d
   rw[go];exact⟨_,_,rfl,rfl⟩
  ·rw[show(r==(65533:Int))=false by simpa using t,cond_false];cases F:JN r with
   | false=>exact⟨_,_,rfl,rfl⟩
   | true=>
    obtain⟨O,P,G⟩:=B32 F (by omega);simp only[vl,j4,cond_false];generalize (ab3 r).data.toList=l at *;obtain⟨m,i⟩:∃m,LF=m+1:=⟨LF-1,by omega⟩
    have z:A1 ((l.length:Int)-1)=((l.length-1:Nat):Int):=by rw[A7];omega
    have go:∀(R:Type) (c:Int->Option R) (a:Unit->Option R),a ()=c (-1)->Fm LF LF l ((l.length-1:Nat):Int) c a=c (-1):=λR c a C=>by
     have d:Fm LF (m+1) l ((l.length-1:Nat):Int) c a=c (-1):=by
      rw[BX];unfold Ma;by_cases N:l.length=4
      ·rw[A5];exact C
      ·rw[A8,E5,E5,C9,C9];simp only[vl,cond_true];have D:(([47,63,35]:List UInt8).getD (l.length-1) 0).toNat<128:=by
        have:l.length=2\/l.length=3:=by omega
        rcases this with q|q<;>rw[q]<;>decide
       have j:((((([47,63,35]:List UInt8).getD (l.length-1) 0).toNat:Nat):Int)!=(((l.getD (l.length-1) 0).toNat:Nat):Int))=true:=by
        rw[bne_iff_ne];omega
       have f:A1 (((l.length-1:Nat):Int)+1)=((l.length:Nat):Int):=by rw[A7];omega
       have g:cut ([47,63,35]:List UInt8) ((l.length:Nat):Int) 3=([47,63,35]:List UInt8).drop l.length:=by
        rw[show(3:Int)=((3:Nat):Int) from rfl,Ef];rfl
       have u:=(l.getD (l.length-1) 0).toNat_lt;rw[j,cond_true,f,H9,cond_true,g,E1 (by simp;omega),cond_true,E5,cond_true,Ib,Dd3 (λb u=>?_) G]
       ·rfl
       ·have:=x3 u;simp only[v7,ad4,or_false] at this;rcases this with rfl|rfl|rfl<;>decide
     rw[<-i] at d;exact d
    rw[z,go _ _ _ rfl];exact⟨_,_,rfl,rfl⟩
theorem Bx0:B0 a8 GX 76 Xu:=by
 refine B0.fix (pf:=Rl) _ (I6 [] (C₀:=Yo LF) (L7.ok (l:=[]) rfl trivial) (I4 rfl (by kernel_rfl)) follows ?_);intro args ret a h;unfold Rl at h;split at h
 ·rename_i n;obtain⟨rfl,rfl⟩:=J0 h;have e:=(A52 LF noY () 0 n).trans (VB n);exact⟨rfl,rfl,rfl,1,_,_,e,rfl⟩
 ·cases h
theorem Cj5:B0 a8 GX 101 FN:=by
 refine B0.fix (pf:=Ya) _ (I6 [] (C₀:=Bg LF) (L7.ok (l:=[]) rfl trivial) (I4 rfl (by kernel_rfl)) follows ?_);intro args ret a h;unfold Ya at h;split at h
 ·rename_i n;obtain⟨rfl,rfl⟩:=J0 h;have e:=(Bv6 LF noY () 0 n).trans (Ag2 n);exact⟨rfl,rfl,rfl,1,_,_,e,rfl⟩
 ·cases h
theorem Cj0:B0 a8 GX 77 Ni:=λargs ret a h=>by
 have:L3 (Ni args)=none:=by unfold Ni KY;split<;>rfl
 rw[this] at h;cases h
theorem Ci9:B0 a8 GX 75 FH:=by
 refine B0.fix (pf:=Xt) _ (I6 [] (C₀:=K9 LF) (L7.ok (l:=[(73,Tu),(101,FN)]) rfl ⟨VY,Cj5,trivial⟩) (I4 rfl (by kernel_rfl)) follows ?_);intro args ret f h;unfold Xt at h;split at h
 ·rename_i p r;obtain⟨a,h⟩:=B9 h;obtain⟨b,h⟩:=B9 h;obtain⟨rfl,rfl⟩:=J0 h;obtain rfl:p=isl:=by simpa[Zh] using a
  obtain⟨d,H,e,c⟩:=Bt5 r b;exact⟨rfl,rfl,rfl,1,d,H,(Bt4 LF noY () 0 r).trans e,c⟩
 ·cases h
theorem JG:∀(w:Nat) (l:By),w<=l.length->(∀i,i<w->V3 (l.getD i 0)=false)->J5 l=w+J5 (l.drop w)
 | 0,l,_,_=>by simp
 | w+1,[],h,_=>by simp at h
 | w+1,b::l,h,hb=>by
  have a:=hb 0 (by omega);rw[y7] at a;have d:=JG w l (by simpa using h) (λi c=>by have:=hb (i+1) (by omega);rwa [ae3] at this);rw[Gz,a,List.drop_succ_cons];simp only[p9,if_false];omega
theorem Ae3(s:By)(O:s.length<=8):∀(f m n:Nat),s.length-m<=f->m<=s.length->f<n->∃H t,∀(R:Type) (j:Int->List Blk->Option R) (k:By->Nat->Option R),
  Kb LF n s m j k=if J5 (s.drop m)<(s.drop m).length then j ((m+J5 (s.drop m):Nat):Int) H else k s t:=by
 intro f
 induction f with
 | zero=>
  intro m n G K L;obtain⟨n,rfl⟩:∃q,n=q+1:=⟨n-1,by omega⟩
  refine⟨[],m,λR j k=>?_⟩;rw[Ay];unfold X3;rw[decide_eq_false (by omega),cond_false,s7 (by omega),if_neg (by simp)]
 | succ f z=>
  intro m n G K L;obtain⟨n,rfl⟩:∃q,n=q+1:=⟨n-1,by omega⟩
  by_cases a:m<s.length
  ·have F:=Lib.decodeL_drop ⟨s.toArray⟩ m;have h:x4 ⟨w8 s⟩ m=aa4 (s.drop m):=by rw[<-F]
   have p:=D2 s m a;have N:(s.drop m).length=s.length-m:=j1;generalize M:s.getD m 0=b at p;by_cases o:b.toNat<128
   ·have y:aa4 (s.drop m)=(b.toNat,1):=by rw[p];exact Lib.decodeL_ascii b _ o
    have l:=C55 b;cases g:V3 b with
    | true=>
     rw[g,j4] at l;have u:J5 (s.drop m)=0:=by rw[p,Gz,g];rfl
     refine⟨[Blk.iter s (m+1)],m,λR j k=>?_⟩;rw[Ay];unfold X3;rw[decide_eq_true a,h,y,u,S6];simp only[vl,cond_true];rw[show Zh ([47,63,35]:List UInt8)=true from rfl,cond_true,E0.2 ⟨by omega,by omega⟩,cond_true,l];rfl
    | false=>
     rw[g,p4] at l;have u:J5 (s.drop m)=J5 (s.drop (m+1))+1:=by rw[p,Gz,g];rfl
     have v:(s.drop (m+1)).length=s.length-(m+1):=j1;obtain⟨H,t,e⟩:=z (m+1) n (by omega) (by omega) (by omega);refine⟨H,t,λR j k=>?_⟩;rw[Ay];unfold X3;rw[decide_eq_true a,h,y];simp only[vl,cond_true];rw[show Zh ([47,63,35]:List UInt8)=true from rfl,cond_true,E0.2 ⟨by omega,by omega⟩,cond_true,l,j4,cond_false,e,u];by_cases q:J5 (s.drop (m+1))<(s.drop (m+1)).length
     ·rw[if_pos q,S6,show m+1+J5 (s.drop (m+1))=m+(J5 (s.drop (m+1))+1) by omega]
     ·rw[if_neg q,F9]
   ·obtain⟨A,B,C,D,x⟩:=C44 b (s.drop (m+1)) (by omega);rw[<-p] at A B C D x;have v:(s.drop (m+1)).length=s.length-(m+1):=j1;generalize aa4 (s.drop m)=d at *;obtain⟨c,w⟩:=d;simp only at A B C D x;have r:=JG w (s.drop m) (by omega) (λi I=>Cd0 (x i I));rw[List.drop_drop] at r;have J:(s.drop (m+w)).length=s.length-(m+w):=j1;have l:ltI (irn (c:Int)) 0=true:=by rw[B49 (by omega)];rfl
    obtain⟨H,t,e⟩:=z (m+w) n (by omega) (by omega) (by omega);refine⟨H,t,λR j k=>?_⟩;rw[Ay];unfold X3;rw[decide_eq_true a,h];simp only[vl,cond_true];rw[show Zh ([47,63,35]:List UInt8)=true from rfl,cond_true,E0.2 ⟨by omega,by omega⟩,cond_true,l,j4,cond_false,e,r];by_cases q:J5 (s.drop (m+w))<(s.drop (m+w)).length
    ·rw[if_pos q,S6,show m+w+J5 (s.drop (m+w))=m+(w+J5 (s.drop (m+w))) by omega]
    ·rw[if_neg q,F9]
  ·refine⟨[],m,λR j k=>?_⟩;rw[Ay];unfold X3;rw[decide_eq_false a,cond_false,s7 (by omega),if_neg (by simp)]
theorem Bt2(s:By)(h:s.length<=8):∃r H,UT LF s (λc a=>rv (.s (.int .i64 c)) a)=rv r H/\r.stab [] H = .s (.int .i64 (aa5 s isl)):=by
 have b:=C1;obtain⟨H,d,e⟩:=Ae3 s h s.length 0 LF (by omega) (by omega) (by omega);unfold UT;rw[A5,cond_false,e,Iq,ac3,ac0];by_cases q:J5 s<s.length
 ·rw[if_pos q,if_pos q];exact⟨_,_,rfl,rfl⟩
 ·rw[if_neg q,if_neg q];exact⟨_,_,rfl,rfl⟩
theorem Ci8:B0 a8 GX 58 WN:=by
 refine B0.fix (pf:=Pf) _ (I6 [] (C₀:=Fu LF) (L7.ok (l:=[(75,FH),(76,Xu),(77,Ni)]) rfl ⟨Ci9,Bx0,Cj0,trivial⟩) (I4 rfl (by kernel_rfl)) follows ?_);intro args ret f h;unfold Pf at h;split at h
 ·rename_i s p;obtain⟨a,h⟩:=B9 h;obtain⟨b,h⟩:=B9 h;obtain⟨rfl,rfl⟩:=J0 h;obtain rfl:p=isl:=by simpa[Zh] using a
  obtain⟨d,H,e,c⟩:=Bt2 s (ab6 b);exact⟨rfl,rfl,rfl,1,d,H,(Bt1 LF noY () 0 s).trans e,c⟩
 ·cases h
theorem Kf{c:Bool}{t:Tr}(h:c=true):L3 (.need c t)=L3 t:=by subst h;rfl
theorem C08:B0 a8 GX 58 QI:=λargs ret c h=>by
 have a:=Ci7 args ret c;have b:=Ci8 args ret c;unfold QI at h;unfold WM at a;unfold WN at b;generalize B8 [[0],[0]] args=l at h a b;unfold WL at h;split at h
 ·rename_i s p;obtain⟨e,h⟩:=B9 h;obtain⟨d,h⟩:=B9 h;by_cases f:s.length<=8
  ·refine b ?_;unfold Pf;rw[Kf d,Kf (ae0 f)];exact h
  ·refine a ?_;unfold Pe;rw[Kf e,Kf d,Kf (ae0 (by omega))];exact h
 ·cases h
section
theorem Cz2:B0 a8 GX 112 A90:=xf [] (RM LF) EC rfl ⟨A80,trivial⟩ rfl (by kernel_rfl) follows λargs=>by
 unfold EC;split
 ·rename_i s p;exact λa=>⟨rfl,rfl,rfl,_,_,(B59 LF noY () 0 s p).trans (As7 s p a),rfl⟩
 ·trivial
theorem Db1:B0 a8 GX 83 Bz8:=xf [] (An3 LF) QM rfl ⟨Cz2,trivial⟩ rfl (by kernel_rfl) follows λargs=>by
 unfold QM;split
 ·rename_i s p;exact λa=>⟨rfl,rfl,rfl,_,_,(Cw7 LF noY () 0 s p).trans (Bu5 s p a),rfl⟩
 ·trivial
theorem VZ:B0 a8 GX 44 CO:=xf [] (SC LF) FK rfl trivial rfl (by kernel_rfl) follows λargs=>by
 unfold FK;split
 ·rename_i s;exact⟨rfl,rfl,rfl,_,_,(Cf0 LF noY () 0 s).trans (A64 s ),rfl⟩
 ·trivial
theorem Xa:B0 a8 GX 22 Ph:=xf [] (SD LF) FL rfl ⟨VZ,trivial⟩ rfl (by kernel_rfl) follows λargs=>by
 unfold FL;split
 ·rename_i s;exact⟨rfl,rfl,rfl,_,_,(Cf3 LF noY () 0 s).trans (A69 s ),rfl⟩
 ·trivial
theorem Cj3:B0 a8 GX 26 Aj9:=xf [] (An4 LF) QP rfl ⟨VZ,trivial⟩ rfl (by kernel_rfl) follows λargs=>by
 unfold QP;split
 ·rename_i n o j k v4 a b c d f g h i l m;exact(let⟨r,H,e,q⟩:=Cx5 n o j k v4 a b c d f g h i l m ; ⟨rfl,rfl,rfl,r,H,(Cx4 LF noY () 0 n o j k v4 a b c d f g h i l m).trans e,q⟩)
 ·trivial
theorem Db4:B0 a8 GX 55 B02:=xf [] (Z0 LF) QQ rfl ⟨VY,trivial⟩ rfl (by kernel_rfl) follows λargs=>by
 unfold QQ;split
 ·rename_i s;exact λa=>⟨rfl,rfl,rfl,_,_,(Cx7 LF noY () 0 s).trans (Bv4 s a),rfl⟩
 ·trivial
theorem Db2:B0 a8 GX 82 B00:=xf [0,0] (Si LF) QN rfl trivial rfl (by kernel_rfl) follows λargs=>by
 unfold QN;split
 ·rename_i s;exact λa=>⟨rfl,rfl,rfl,_,_,(Cx0 LF noY () 0 s).trans (Bu8 s a),rfl⟩
 ·trivial
theorem Cj2:B0 a8 GX 60 WQ:=xf [0,0] (W6 LF) Xx rfl ⟨Bh5,VX,VY,Ch0,Db1,Db2,VZ,trivial⟩ rfl (by kernel_rfl) follows λargs=>by
 unfold Xx;split
 ·rename_i o p k l v4 b c d f g h i j m n a;exact λt=>λu=>λv=>λw=>λx=>(let⟨r,H,e,q⟩:=Bv1 o p k l v4 b c d f g h i j m n a t u v w x;⟨rfl,rfl,rfl,r,H,(Bv0 LF noY () 0 o p k l v4 b c d f g h i j m n a).trans e,q⟩)
 ·trivial
theorem Db3:B0 a8 GX 40 B01:=xf [0,0] (Sj LF) QO rfl ⟨Ci6,Db4,Ch4,Xa,Cg6,C08,VX,Cj2,trivial⟩ rfl (by kernel_rfl) follows λargs=>by
 unfold QO;split
 ·rename_i s;exact λa=>(let⟨r,H,e,q⟩:=Cx2 s a;⟨rfl,rfl,rfl,r,H,(Cx1 LF noY () 0 s).trans e,q⟩)
 ·trivial
theorem C10:B0 a8 GX 42 Ba6:=xf [] (SE LF) FM rfl ⟨Xa,Cg9,Bh4,trivial⟩ rfl (by kernel_rfl) follows λargs=>by
 unfold FM;split
 ·rename_i n o j k v4 a b c d f g h i l m;exact λp=>λt=>λu=>λv=>(let⟨r,H,e,q⟩:=Cf5 n o j k v4 a b c d f g h i l m p t u v;⟨rfl,rfl,rfl,r,H,(Cf4 LF noY () 0 n o j k v4 a b c d f g h i l m).trans e,q⟩)
 ·trivial
theorem NU:B0 a8 GX 16 Xz:=xf [] (Yq LF) Rn rfl ⟨C10,Db3,trivial⟩ rfl (by kernel_rfl) follows λargs=>by
 unfold Rn;split
 ·rename_i n o j k v4 a b c d f g h i l m;exact λp=>λt=>λu=>λv=>(let⟨r,H,e,q⟩:=A71 n o j k v4 a b c d f g h i l m p t u v;⟨rfl,rfl,rfl,r,H,(A70 LF noY () 0 n o j k v4 a b c d f g h i l m).trans e,q⟩)
 ·trivial
end
end
section
open Go
abbrev hK(p:B2 × Nat):Int:=(p.1.kind:Int)
abbrev hN(p:B2 × Nat):By:=p.1.name
abbrev hV(p:B2 × Nat):Int:=(p.1.v4:Int)
abbrev hA(p:B2 × Nat)(i:Nat):Int:=(p.1.v6.getD i 0:Int)
abbrev e0:By:=[]
end
section
open Go Go.Proofs
set_option maxRecDepth 100000
section
variable {Z R : Type} (L : Nat) (Q : G1) (Y : Yh Z) (s : Z) (k : Out -> St Z -> Option R)
noncomputable def GD(L:Nat):Cfg:=B4 L [23] (A2 []) [] (A2 [(1,[2]),(0,[0])]) [] (A2 []) (some [2]) [] [] []
noncomputable def UQ{R:Type}(L:Nat)(b:By)(a:Bool->Option R):Option R:=cond (b==[104,116,116,112]) (a true) (cond (b==[104,116,116,112,115]) (a true) (cond (b==[119,115]) (a true) (a (b==[119,115,115]))))
theorem Bs3(d:Nat)(s0):evC (GD L) (d+1) Z Y 23 [pS s0] [] s=UQ L s0 (λa=>some (pB a,[],s)):=by refine(evE (fn:=Tryz.f23) (by kernel_rfl)).trans ?_;generalize evC (GD L) d=Q;unfold UQ;kernel_rfl
noncomputable def RY(L:Nat):Cfg:=B4 L [45] (A2 []) [] (A2 [(8,[2]),(4,[2]),(7,[2]),(6,[7]),(5,[3,3]),(3,[3,0]),(2,[3,0]),(1,[3]),(0,[0])]) [] (A2 [(0,[])]) (some [2]) [] [] []
noncomputable def Bg3{R:Type}(L:Nat)(b:By)(a:Int->Option R):Option R:=cond (b==[104,116,116,112]) (cond (b==[104,116,116,112]) (a 80) (cond (b==[104,116,116,112,115]) (cond (b==[104,116,116,112,115]) (a 443) (a (-1))) (cond (b==[119,115,115]) (a 443) (a (-1))))) (cond (b==[119,115]) (a 80) (cond (b==[104,116,116,112,115]) (cond (b==[104,116,116,112,115]) (a 443) (a (-1))) (cond (b==[119,115,115]) (a 443) (a (-1)))))
theorem Cc4(d:Nat)(s0):evC (RY L) (d+1) Z Y 45 [pS s0] [] s=Bg3 L s0 (λa=>some (pI a,[],s)):=by refine(evE (fn:=Tryz.f45) (by kernel_rfl)).trans ?_;generalize evC (RY L) d=Q;unfold Bg3;kernel_rfl
noncomputable abbrev Tw:Code:=C3 ai7
noncomputable def Ac(L:Nat):Cfg:=B4 L [62] (A2 [(5,[0,0,2,0,0]),(2,[0,0,2,0])]) [] (A2 [(9,[4]),(3,[0,0,3]),(6,[0,0,3,0]),(8,[4]),(7,[0,0,3,0,18]),(5,[0,0,3,0,9]),(4,[0,0,3,0]),(2,[0,0,3,4]),(1,[0,0,3]),(0,[0,0])]) [] (A2 [(0,[0]),(1,[0,0,3]),(2,[0,0,3]),(3,[0,0,3,0])]) (some [4]) [] [] []
noncomputable def Gp{R:Type}(L n:Nat)(d a:By)(c b:Int)(e:Int->Option R)(f:By->By->Int->Option R):Option R:=match n with|0=>none|n+1=>cond (ltI b (a.length:Int)) (cond (inR c d.length) (cond (inR b a.length) (cond ((bAt d c)==(bAt a b)) (e c) (Gp L n d a c (A1 (b+1)) e f)) none) none) (f d a c)
theorem Ab2(n c a b kk3):C4 0 ((Ac L).keep 5) (bd (Ac L) Q Y (cd [1,0,1,0,0,1,0,0,1,0,0] Tw)) n ⟨gp [(0,pS c),(0,pS a),(3,pI b),(0,pI kk3)] 22,[],s⟩ k =
 Gp L n c a b kk3 (λn0=>k .ret ⟨gp [(4,pI n0)] 24,[],s⟩) (λc a b=>k (.exit 2) ⟨gp [(0,pS c),(0,pS a),(3,pI b)] 23,[],s⟩):=by
 induction n generalizing c a b kk3 with
 | zero=>rfl
 | succ n d=>rw[Gp];simp only[<-d];kernel_rfl
noncomputable def Gq{R:Type}(L n:Nat)(e b:By)(f:Int)(g:Int->Option R)(h:By->Option R):Option R:=match n with|0=>none|n+1=>cond (ltI f (e.length:Int)) (Gp L L e b f 0 g (λd a c=>Gq L n d a (A1 (c+1)) g h)) (h e)
theorem Ab3(n b set1 i2):C4 0 ((Ac L).keep 2) (bd (Ac L) Q Y (cd [1,0,1,0,0] Tw)) n ⟨gp [(0,pS b),(0,pS set1),(3,pI i2)] 23,[],s⟩ k =
 Gq L n b set1 i2 (λn0=>k .ret ⟨gp [(4,pI n0)] 24,[],s⟩) (λb=>k (.exit 0) ⟨gp [(0,pS b)] 28,[],s⟩):=by
 induction n generalizing b set1 i2 with
 | zero=>rfl
 | succ n e=>rw[Gq];exact(c9 (by kernel_rfl) (A0 ((Ab2 L Q Y s (E2 2 (E2 1 (D9 (Ac L) Q Y (cd [1,0,1,0,0,1,1] Tw) (lpK 0 ((Ac L).keep 2) (bd (Ac L) Q Y (cd [1,0,1,0,0] Tw)) n k)))) L b set1 i2 0).trans (congr (congr rfl (by kernel_rfl)) (fx3 λd a c=>(c9 (by kernel_rfl) (e d a (A1 (c+1))))))) rfl))
noncomputable def Cb4{R:Type}(L:Nat)(e a:By)(d:Int->Option R):Option R:=Gq L L e a 0 d (λc=>vl (c.length:Int) λb=>d b)
theorem Cb5(d:Nat)(s0 set1):evC (Ac L) (d+1) Z Y 62 [pS s0,pS set1] [] s=Cb4 L s0 set1 (λa=>some (pI a,[],s)):=by refine(evE (fn:=ai7) (by kernel_rfl)).trans ?_;generalize evC (Ac L) d=Q;unfold Cb4;exact(c9 (by kernel_rfl) ((Ab3 L Q Y s (E2 0 (D9 (Ac L) Q Y (cd [1,1] Tw) (F2 (Ac L) ai7))) L s0 set1 0).trans (by kernel_rfl)))
noncomputable abbrev M7:Code:=C3 ag9
noncomputable def K8(L:Nat):Cfg:=B4 L [61] (A2 [(2,[0,1,0,0,0])]) [(17,Aj3)] (A2 [(11,[2,0,0]),(3,[0,4]),(10,[2,0,0]),(9,[0,4,67]),(8,[0,4,1,0]),(7,[0,4,0,0]),(6,[2,0,0]),(5,[0,4,0,16]),(4,[0,4,0]),(2,[0,4,6]),(1,[0,4]),(0,[0])]) [17] (A2 [(0,[]),(1,[0,4])]) (some [2,0,0]) [] [] []
noncomputable def Jx{R:Type}(a:By)(b f:Int)(e:Bool)(g:By->By->Option R)(h:By->Int->Int->Bool->Option R):Option R:=cond e (cond (I2 0 b a.length) (cond (A3 (b8 (cut a 0 b))) (vl (B6 (cut a 0 b)) λc=>cond (I2 (A1 (b+1)) (a.length:Int) a.length) (vl (cut a (A1 (b+1)) (a.length:Int)) λd=>g c d) none) none) none) (h a b f e)
abbrev Tg(b:Code):Prop:=∀(k:Out->St Z->Option R) a e c d,A9 (K8 L) Q Y b ⟨gp [(0,pS a),(4,pI e),(0,p8 c),(16,pB d)] 50,[],s⟩ k=Jx a e c d (λa f=>k .ret ⟨gp [(2,pS a),(0,pS f),(0,pB true)] 69,[],s⟩) (λa e c d=>k .normal ⟨gp [(0,pS a),(4,pI e),(0,p8 c),(16,pB d)] 50,[],s⟩)
theorem Ac5:Tg (R:=R) L Q Y s (cd [1,0,1,0,0,1,0,0,1,0,1] M7):=by intro k d c a b;unfold Jx;kernel_rfl
noncomputable def Jy{R:Type}(c:By)(a:Int)(b:By->Int->Option R):Option R:=b c a
abbrev Th(b:Code):Prop:=∀(k:Out->St Z->Option R) c a,A9 (K8 L) Q Y b ⟨gp [(0,pS c),(4,pI a),(1,pB true),(0,pB true)] 65,[],s⟩ k=Jy c a (λc a=>k .normal ⟨gp [(0,pS c),(4,pI a),(67,pB false)] 0,[],s⟩)
theorem BS:Th (R:=R) L Q Y s (cd [1,0,1,0,0,1,0,0,1,1,1,1] M7):=by intro k b a;unfold Jy;kernel_rfl
noncomputable def Gu{R:Type}(c:By)(a:Int)(b:By->Int->Option R):Option R:=b c a
abbrev Ti(b:Code):Prop:=∀(k:Out->St Z->Option R) c a other2,A9 (K8 L) Q Y b ⟨gp [(0,pS c),(4,pI a),(1,pB true),(0,pB other2)] 65,[],s⟩ k=Gu c a (λc a=>k .normal ⟨gp [(0,pS c),(4,pI a),(67,pB false)] 0,[],s⟩)
theorem BT:Ti (R:=R) L Q Y s (cd [1,0,1,0,0,1,0,0,1,1,1,1] M7):=by intro k c b a;unfold Gu;kernel_rfl
noncomputable def Wg{R:Type}(c:By)(a d:Int)(b:By->Int->Option R):Option R:=cond (not (ltI d 48)) (cond (not (ltI 57 d)) (Jy c a b) (cond (d==43) (Jy c a b) (cond (d==45) (Jy c a b) (Gu c a b)))) (cond (d==43) (Gu c a b) (cond (d==45) (Gu c a b) (Gu c a b)))
abbrev Tj(b:Code):Prop:=∀(k:Out->St Z->Option R) c a b2,A9 (K8 L) Q Y b ⟨gp [(0,pS c),(4,pI a),(0,p8 b2),(0,pB true)] 66,[],s⟩ k=Wg c a b2 (λc a=>k .normal ⟨gp [(0,pS c),(4,pI a),(67,pB false)] 0,[],s⟩)
theorem Ac6(a:Code)(c:Th (R:=R) L Q Y s a)(b:Ti (R:=R) L Q Y s a):Tj (R:=R) L Q Y s (cd [1,0,1,0,0,1,0,0,1,1,1] (G4 [1,0,1,0,0,1,0,0,1,1,1,1] a M7)):=by intro k e d f;unfold Wg;exact(c9 (by kernel_rfl) (A0 (A0 ((c k e d).trans (by kernel_rfl)) (A0 ((c k e d).trans (by kernel_rfl)) (A0 ((c k e d).trans (by kernel_rfl)) ((b k e d (f==46)).trans (by kernel_rfl))))) (A0 ((b k e d true).trans (by kernel_rfl)) (A0 ((b k e d true).trans (by kernel_rfl)) ((b k e d (f==46)).trans (by kernel_rfl))))))
theorem Ac7:Tj (R:=R) L Q Y s (cd [1,0,1,0,0,1,0,0,1,1,1] M7):=by intro k c b a;exact c9 (by kernel_rfl) (Ac6 L Q Y s (cd [1,0,1,0,0,1,0,0,1,1,1,1] M7) (BS L Q Y s) (BT L Q Y s) k c b a)
noncomputable def Jz{R:Type}(d:By)(b:Int)(a:Bool)(e:Unit->Option R)(c:By->Int->Bool->Option R):Option R:=cond (not a) (cond (b==0) (e ()) (c d b (b==0))) (c d b false)
abbrev IX(b:Code):Prop:=∀(k:Out->St Z->Option R) c a letter2,A9 (K8 L) Q Y b ⟨gp [(0,pS c),(4,pI a),(1,pB letter2),(0,pB true)] 65,[],s⟩ k=Jz c a letter2 (λ_=>k .ret ⟨gp [(2,pS e0),(0,pS e0),(0,pB false)] 69,[],s⟩) (λc a d=>k .normal ⟨gp [(0,pS c),(4,pI a),(67,pB d)] 0,[],s⟩)
theorem Ac8:IX (R:=R) L Q Y s (cd [1,0,1,0,0,1,0,0,1,1,1,1] M7):=by intro k c b a;unfold Jz;kernel_rfl
noncomputable def Gv{R:Type}(f:By)(c:Int)(a b:Bool)(d:Unit->Option R)(e:By->Int->Bool->Option R):Option R:=cond (not a) (cond (not b) (d ()) (cond (c==0) (d ()) (e f c (c==0)))) (e f c false)
abbrev IY(b:Code):Prop:=∀(k:Out->St Z->Option R) c a letter2 other3,A9 (K8 L) Q Y b ⟨gp [(0,pS c),(4,pI a),(1,pB letter2),(0,pB other3)] 65,[],s⟩ k=Gv c a letter2 other3 (λ_=>k .ret ⟨gp [(2,pS e0),(0,pS e0),(0,pB false)] 69,[],s⟩) (λc a d=>k .normal ⟨gp [(0,pS c),(4,pI a),(67,pB d)] 0,[],s⟩)
theorem Ac9:IY (R:=R) L Q Y s (cd [1,0,1,0,0,1,0,0,1,1,1,1] M7):=by intro k d c a b;unfold Gv;kernel_rfl
noncomputable def Gw{R:Type}(f:By)(c b:Int)(a:Bool)(d:Unit->Option R)(e:By->Int->Bool->Option R):Option R:=cond (not (ltI b 48)) (cond (not (ltI 57 b)) (Jz f c a (λ_=>d ()) e) (cond (b==43) (Jz f c a (λ_=>d ()) e) (cond (b==45) (Jz f c a (λ_=>d ()) e) (Gv f c a (b==46) (λ_=>d ()) e)))) (cond (b==43) (Gv f c a true (λ_=>d ()) e) (cond (b==45) (Gv f c a true (λ_=>d ()) e) (Gv f c a (b==46) (λ_=>d ()) e)))
abbrev Tk(b:Code):Prop:=∀(k:Out->St Z->Option R) d c a letter3,A9 (K8 L) Q Y b ⟨gp [(0,pS d),(4,pI c),(0,p8 a),(0,pB letter3)] 66,[],s⟩ k=Gw d c a letter3 (λ_=>k .ret ⟨gp [(2,pS e0),(0,pS e0),(0,pB false)] 69,[],s⟩) (λd c a=>k .normal ⟨gp [(0,pS d),(4,pI c),(67,pB a)] 0,[],s⟩)
theorem Ad0(a:Code)(d:Th (R:=R) L Q Y s a)(e:Ti (R:=R) L Q Y s a)(b:IX (R:=R) L Q Y s a)(c:IY (R:=R) L Q Y s a):Tk (R:=R) L Q Y s (cd [1,0,1,0,0,1,0,0,1,1,1] (G4 [1,0,1,0,0,1,0,0,1,1,1,1] a M7)):=by intro k i h g f;unfold Gw;simp only[<-b k,<-c k];kernel_rfl
theorem Ad1:Tk (R:=R) L Q Y s (cd [1,0,1,0,0,1,0,0,1,1,1] M7):=by intro k d c b a;exact c9 (by kernel_rfl) (Ad0 L Q Y s (cd [1,0,1,0,0,1,0,0,1,1,1,1] M7) (BS L Q Y s) (BT L Q Y s) (Ac8 L Q Y s) (Ac9 L Q Y s) k d c b a)
noncomputable def Ab{R:Type}(f:By)(c a:Int)(d:By->Int->Bool->Option R)(g:Unit->Option R):Option R:=cond (not (ltI a 97)) (cond (not (ltI 122 a)) (Wg f c a (λe b=>d e b false)) (cond (not (ltI a 65)) (Gw f c a (not (ltI 90 a)) (λ_=>g ()) d) (Gw f c a false (λ_=>g ()) d))) (cond (not (ltI a 65)) (Gw f c a (not (ltI 90 a)) (λ_=>g ()) d) (Gw f c a false (λ_=>g ()) d))
abbrev Lt(b:Code):Prop:=∀(k:Out->St Z->Option R) d c a b3,A9 (K8 L) Q Y b ⟨gp [(0,pS d),(4,pI c),(0,p8 a),(16,pB b3)] 50,[],s⟩ k=Ab d c a (λd c a=>k .normal ⟨gp [(0,pS d),(4,pI c),(67,pB a)] 0,[],s⟩) (λ_=>k .ret ⟨gp [(2,pS e0),(0,pS e0),(0,pB false)] 69,[],s⟩)
theorem Ad2(a:Code)(b:Tj (R:=R) L Q Y s a)(c:Tk (R:=R) L Q Y s a):Lt (R:=R) L Q Y s (cd [1,0,1,0,0,1,0,0,1,1] (G4 [1,0,1,0,0,1,0,0,1,1,1] a M7)):=by intro k g f d e;unfold Ab;simp only[<-b k,<-c k];kernel_rfl
theorem Ad3:Lt (R:=R) L Q Y s (cd [1,0,1,0,0,1,0,0,1,1] M7):=by intro k d c a b;exact c9 (by kernel_rfl) (Ad2 L Q Y s (cd [1,0,1,0,0,1,0,0,1,1,1] M7) (Ac7 L Q Y s) (Ad1 L Q Y s) k d c a b)
noncomputable def N4{R:Type}(L n:Nat)(b:By)(a:Int)(c:By->By->Bool->Option R)(t:Unit->Option R):Option R:=match n with|0=>none|n+1=>cond (ltI a (b.length:Int)) (cond (inR a b.length) (cond ((bAt b a)==58) (Jx b a (bAt b a) (ltI 0 a) (λu v=>c u v true) (λw r q A=>Ab w r q (λj e x=>vl (A1 (e+1)) λh=>N4 L n j h c t) (λ_=>c e0 e0 false))) (Jx b a (bAt b a) false (λl m=>c l m true) (λo f d y=>Ab o f d (λp g z=>vl (A1 (g+1)) λi=>N4 L n p i c t) (λ_=>c e0 e0 false)))) none) (t ())
theorem Ad4(b:Code)(c:Tg (R:=R) L Q Y s b)(a:Code)(d:Lt (R:=R) L Q Y s a)(n:Nat)(e:By)(f:Int):C4 0 ((K8 L).keep 2) (bd (K8 L) Q Y (cd [1,0,1,0,0] (G4 [1,0,1,0,0,1,0,0,1,1] a (G4 [1,0,1,0,0,1,0,0,1,0,1] b M7)))) n ⟨gp [(0,pS e),(4,pI f)] 68,[],s⟩ k =
 N4 L n e f (λe D C=>k .ret ⟨gp [(2,pS e),(0,pS D),(0,pB C)] 69,[],s⟩) (λ_=>k (.exit 0) ⟨gp [] 74,[],s⟩):=by
 induction n generalizing e f with
 | zero=>rfl
 | succ n B=>rw[N4];exact let q:=(E2 1 (D9 (K8 L) Q Y (cd [1,0,1,0,0,1,1] M7) (lpK 0 ((K8 L).keep 2) (bd (K8 L) Q Y (cd [1,0,1,0,0] (G4 [1,0,1,0,0,1,0,0,1,1] a (G4 [1,0,1,0,0,1,0,0,1,0,1] b M7)))) n k)));let w:=(D9 (K8 L) Q Y a q);(c9 (by kernel_rfl) (A0 (A0 (A0 ((c w e f (bAt e f) (ltI 0 f)).trans (congr (congr rfl (by kernel_rfl)) (fx4 λv u r t=>(c9 (by kernel_rfl) ((d q v u r t).trans (congr (congr rfl (fx3 λm z x=>(c9 (by kernel_rfl) (A4 λj=>(B m j))))) (by kernel_rfl))))))) ((c w e f (bAt e f) false).trans (congr (congr rfl (by kernel_rfl)) (fx4 λo i g h=>(c9 (by kernel_rfl) ((d q o i g h).trans (congr (congr rfl (fx3 λp A y=>(c9 (by kernel_rfl) (A4 λl=>(B p l))))) (by kernel_rfl)))))))) rfl) rfl))
noncomputable def Ac4{R:Type}(L:Nat)(b:By)(a:By->By->Bool->Option R):Option R:=N4 L L b 0 a (λ_=>a e0 e0 false)
theorem Cc2(a:Code)(c:Tg (R:=PV × List Blk × Z) L Q Y s a)(b:Code)(d:Lt (R:=PV × List Blk × Z) L Q Y s b)(e:By):A9 (K8 L) Q Y (cd [] (G4 [1,0,1,0,0,1,0,0,1,1] b (G4 [1,0,1,0,0,1,0,0,1,0,1] a M7))) ⟨[pS e]++tps 73,[],s⟩ (F2 (K8 L) ag9)=Ac4 L e (λf g h=>some (.tup [pS f,pS g,pB h],[],s)):=by unfold Ac4;exact(c9 (by kernel_rfl) ((Ad4 L Q Y s (E2 0 (D9 (K8 L) Q Y (cd [1,1] M7) (F2 (K8 L) ag9))) a c b d L e 0).trans (by kernel_rfl)))
theorem Cc3(d:Nat)(s0):evC (K8 L) (d+1) Z Y 61 [pS s0] [] s=Ac4 L s0 (λa b c=>some (.tup [pS a,pS b,pB c],[],s)):=
 (evE (fn:=ag9) (by kernel_rfl)).trans (c9 (by kernel_rfl) (Cc2 L (evC (K8 L) d) Y s (cd [1,0,1,0,0,1,0,0,1,0,1] M7) (Ac5 L (evC (K8 L) d) Y s) (cd [1,0,1,0,0,1,0,0,1,1] M7) (Ad3 L (evC (K8 L) d) Y s) s0))
noncomputable abbrev K7:Code:=C3 ag5
noncomputable def I8(L:Nat):Cfg:=B4 L [41] (A2 [(36,[2,0,1,3,0,4,0]),(20,[2,0,1,3,0,0]),(2,[0,1,0,0])]) [(61,Ba4),(23,FD),(62,Ba1),(63,KX),(45,PY)] (A2 [(46,[2,0]),(45,[2,7]),(44,[2,7,173]),(43,[2,2,4]),(42,[2,0]),(41,[2,2,4,4,160]),(37,[2,2,3,0,4,0]),(40,[2,2,3,0,4,0]),(39,[2,0]),(38,[2,2,3,0,4,0,147]),(36,[2,2,3,0,4,0,135]),(35,[2,2,3,0,4,0]),(34,[2,2,3,0,1,2]),(33,[2,2,3,0,1,133]),(32,[2,2,3,0,1]),(31,[2,0]),(30,[2,2,3,0,1,0,0,122]),(29,[2,2,3,0,1,0,0]),(28,[2,0]),(27,[2,2,3,0,1,114]),(26,[2,2,3,0,1]),(25,[2,2,3,0,1,95]),(24,[2,2,3,0,1]),(21,[2,2,3,0,0]),(23,[2,2,3,0]),(22,[2,2,3,0,0,79]),(20,[2,2,3,0,0,73]),(19,[2,2,3,0,0]),(18,[2,2,3,0]),(17,[2,2,0,2,0,66]),(16,[2,2,0,2,0]),(15,[2,2,0,2]),(14,[2,2,0,1]),(13,[2,2,0]),(12,[2,0]),(11,[2,2,0,49]),(10,[2,0]),(9,[2,2,0,38]),(8,[2,0]),(7,[2,2,0,34]),(6,[2,2,0,0]),(3,[0,1,1]),(5,[2,0]),(4,[0,1,1,27]),(2,[0,1,1,15]),(1,[0,1,1]),(0,[0,1])]) [61,23,62,45] (A2 [(4,[2,2,4,4]),(5,[2,2,3,0,4,0]),(2,[2,2,3,0]),(3,[2,2,3,0,0]),(0,[0,1]),(1,[0,1,1])]) (some [2,0]) [] [] []
noncomputable def Dq{R:Type}(L n:Nat)(a:By)(b:Int)(c:(List Blk)->Option R)(d:By->Option R):Option R:=match n with|0=>none|n+1=>cond (ltI b (a.length:Int)) (cond (inR b a.length) (cond (not (ltI 32 (bAt a b))) (c []) (cond (inR b a.length) (cond ((bAt a b)==127) (c []) (Dq L n a (A1 (b+1)) c d)) none)) none) (d a)
theorem Ac0(n a i1):C4 1 ((I8 L).keep 2) (bd (I8 L) Q Y (cd [1,0,1,0,0] K7)) n ⟨gp [(0,pS a),(1,.ptr 0 0 0),(1,pI i1)] 182,[bU0],s⟩ k =
 Dq L n a i1 (λb=>k .ret ⟨gp [(2,.ptr 0 0 0),(0,pI (4:Int))] 183,(bU0::b),s⟩) (λa=>k (.exit 0) ⟨gp [(0,pS a),(1,.ptr 0 0 0)] 184,[bU0],s⟩):=by
 induction n generalizing a i1 with
 | zero=>rfl
 | succ n c=>rw[Dq];simp only[<-c];kernel_rfl
noncomputable def X2{R:Type}(L n:Nat)(b a:By)(c:Int)(g:By)(f:By->By->By->By->Option R):Option R:=match n with|0=>none|n+1=>cond (not (ltI c 0)) (cond (inR c a.length) (cond ((bAt a c)==64) (cond (I2 0 c a.length) (vl (cut a 0 c) λd=>cond (I2 (A1 (c+1)) (a.length:Int) a.length) (vl (cut a (A1 (c+1)) (a.length:Int)) λe=>f b e d g) none) none) (X2 L n b a (A1 (c-1)) g f)) none) (f b a e0 g)
theorem BP(n b a i2 c):C4 2 ((I8 L).keep 20) (bd (I8 L) Q Y (cd [1,1,1,1,1,1,1,1,1,1,1,0,1,0,0] K7)) n ⟨gp [(2,.ptr 0 0 0),(2,pS b),(3,pS a),(0,.ptr 1 0 0),(0,pI i2)] 175,[bU0,(bU b [] 0 [] 0 0 0 0 0 0 0 0 0 (-1) c)],s⟩ k =
 X2 L n b a i2 c (λb a e c=>k (.exit 2) ⟨gp [(2,.ptr 0 0 0),(2,pS b),(3,pS a),(0,.ptr 1 0 0)] 176,[bU0,(bU b e 0 [] 0 0 0 0 0 0 0 0 0 (-1) c)],s⟩):=by
 induction n generalizing b a i2 c with
 | zero=>rfl
 | succ n d=>rw[X2];simp only[<-d];kernel_rfl
noncomputable def Bp{R:Type}(c a:By)(d:Int)(h:Bool)(f g:By)(i:(List Blk)->Option R)(j:By->By->Int->Bool->By->By->Option R)(l:By->By->Int->Bool->By->By->Option R):Option R:=cond h (cond (A3 a.length) (vl (↑(Q0 a ([93]:List UInt8)):Int) λe=>vl (A1 (e+1)) λb=>cond (ltI (a.length:Int) b) (i [(bU c f 0 [] 0 0 0 0 0 0 0 0 0 (-1) g)]) (cond (ltI b (a.length:Int)) (cond (inR b a.length) (cond ((bAt a b)!=58) (i [(bU c f 0 [] 0 0 0 0 0 0 0 0 0 (-1) g)]) (j c a b ((bAt a b)!=58) f g)) none) (j c a b false f g))) none) (l c a d h f g)
abbrev Tb(b:Code):Prop:=∀(k:Out->St Z->Option R) c a d e f g,A9 (I8 L) Q Y b ⟨gp [(2,.ptr 0 0 0),(2,pS c),(3,pS a),(0,.ptr 1 0 0),(1,pI d),(95,pB e)] 78,[bU0,(bU c f 0 [] 0 0 0 0 0 0 0 0 0 (-1) g)],s⟩ k=Bp c a d e f g (λh=>k .ret ⟨gp [(2,.ptr 0 0 0),(0,pI (4:Int))] 183,(bU0::h),s⟩) (λc a d e f g=>k .normal ⟨gp [(2,.ptr 0 0 0),(2,pS c),(3,pS a),(0,.ptr 1 0 0),(1,pI d),(114,pB e)] 59,[bU0,(bU c f 0 [] 0 0 0 0 0 0 0 0 0 (-1) g)],s⟩) (λc a d e f g=>k .normal ⟨gp [(2,.ptr 0 0 0),(2,pS c),(3,pS a),(0,.ptr 1 0 0),(1,pI d),(95,pB e)] 78,[bU0,(bU c f 0 [] 0 0 0 0 0 0 0 0 0 (-1) g)],s⟩)
theorem BM:Tb (R:=R) L Q Y s (cd [1,1,1,1,1,1,1,1,1,1,1,1,1,0,1] K7):=by intro k b a c d e f;unfold Bp;kernel_rfl
noncomputable def Dr{R:Type}(L n:Nat)(b a:By)(x j:Int)(u:By)(m:Int)(q:By)(o n8 p c d e f g h:Int)(i:By)(v:(List Blk)->Option R)(w:By->Int->By->Int->By->Int->Int->Int->Int->Int->Int->Int->Int->Int->By->Option R):Option R:=match n with|0=>none|n+1=>cond (ltI j (a.length:Int)) (cond (inR j a.length) (cond (ltI (bAt a j) (48:Int)) (v [(bU b u m q o n8 p c d e f g h (-1) i),(bH m q o n8 p c d e f g h)]) (cond (inR j a.length) (cond (ltI 57 (bAt a j)) (v [(bU b u m q o n8 p c d e f g h (-1) i),(bH m q o n8 p c d e f g h)]) (cond (inR j a.length) (vl (wu8 ((bAt a j)-48)) λr=>vl (A1 ((A1 (x*10))+(A1 r))) λl=>vl (if ((1048576:Int)<l) then (1048576:Int) else l) λt=>Dr L n b a t (A1 (j+1)) u m q o n8 p c d e f g h i v w) none)) none)) none) (w b x u m q o n8 p c d e f g h i)
theorem BQ(n a authority1 n2 i3 i f s6 g n8 h b c d e n14 n15 s16):C4 3 ((I8 L).keep 36) (bd (I8 L) Q Y (cd [1,1,1,1,1,1,1,1,1,1,1,1,1,1,1,1,1,0,1,0,1,0,1,0,0] K7)) n ⟨gp [(2,.ptr 0 0 0),(2,pS a),(3,pS authority1),(0,.ptr 1 0 0),(4,pI n2),(0,pI i3)] 170,[bU0,(bU a i f s6 g n8 h b c d e n14 n15 (-1) s16),(bH f s6 g n8 h b c d e n14 n15)],s⟩ k =
 Dr L n a authority1 n2 i3 i f s6 g n8 h b c d e n14 n15 s16 (λo=>k .ret ⟨gp [(2,.ptr 0 0 0),(0,pI (16:Int))] 183,(bU0::o),s⟩) (λa q r l i f m g n8 h b c d e j=>k (.exit 4) ⟨gp [(2,.ptr 0 0 0),(2,pS a),(4,.ptr 1 0 0),(4,pI q)] 171,[bU0,(bU a r l i f m g n8 h b c d e (-1) j),(bH l i f m g n8 h b c d e)],s⟩):=by
 induction n generalizing a authority1 n2 i3 i f s6 g n8 h b c d e n14 n15 s16 with
 | zero=>rfl
 | succ n p=>rw[Dr];simp only[<-p];kernel_rfl
noncomputable def Q9{R:Type}(L:Nat)(d b:By)(t:Int)(x y:By)(w:Int->By->By->Int->By->Int->Int->Int->Int->Int->Int->Int->Int->Int->Int->By->(List Blk)->Option R):Option R:=cond (I2 0 t b.length) (vl (cut b 0 t) λv=>cond (A3 v.length) (vl (C6 v) λa=>cond ((↑(a).2:Int)!=0) (w (↑(a).2:Int) e0 e0 0 e0 0 0 0 0 0 0 0 0 0 0 e0 [(bU d x 0 [] 0 0 0 0 0 0 0 0 0 (-1) y),(bH (hK a) (hN a) (hV a) (hA a 0) (hA a 1) (hA a 2) (hA a 3) (hA a 4) (hA a 5) (hA a 6) (hA a 7))]) (vl (A1 (t+1)) λA=>cond (ltI A (b.length:Int)) (vl (A1 (t+1)) λB=>Dr L L d b 0 B x (hK a) (hN a) (hV a) (hA a 0) (hA a 1) (hA a 2) (hA a 3) (hA a 4) (hA a 5) (hA a 6) (hA a 7) y (λz=>w 16 e0 e0 0 e0 0 0 0 0 0 0 0 0 0 0 e0 z) (λc u q e p f g h i j l m n o r=>cond (ltI 65535 u) (w 16 e0 e0 0 e0 0 0 0 0 0 0 0 0 0 0 e0 [(bU c q e p f g h i j l m n o (-1) r),(bH e p f g h i j l m n o)]) (cond (u==(J9 c)) (w 0 c q e p f g h i j l m n o (-1) r [(bU c q e p f g h i j l m n o (-1) r),(bH e p f g h i j l m n o)]) (w 0 c q e p f g h i j l m n o u r [(bU c q e p f g h i j l m n o u r),(bH e p f g h i j l m n o)])))) (cond (((-1):Int)==(J9 d)) (w 0 d x (hK a) (hN a) (hV a) (hA a 0) (hA a 1) (hA a 2) (hA a 3) (hA a 4) (hA a 5) (hA a 6) (hA a 7) (-1) y [(bU d x (hK a) (hN a) (hV a) (hA a 0) (hA a 1) (hA a 2) (hA a 3) (hA a 4) (hA a 5) (hA a 6) (hA a 7) (-1) y),(bH (hK a) (hN a) (hV a) (hA a 0) (hA a 1) (hA a 2) (hA a 3) (hA a 4) (hA a 5) (hA a 6) (hA a 7))]) (w 0 d x (hK a) (hN a) (hV a) (hA a 0) (hA a 1) (hA a 2) (hA a 3) (hA a 4) (hA a 5) (hA a 6) (hA a 7) (-1) y [(bU d x (hK a) (hN a) (hV a) (hA a 0) (hA a 1) (hA a 2) (hA a 3) (hA a 4) (hA a 5) (hA a 6) (hA a 7) (-1) y),(bH (hK a) (hN a) (hV a) (hA a 0) (hA a 1) (hA a 2) (hA a 3) (hA a 4) (hA a 5) (hA a 6) (hA a 7))])))) none) none
abbrev Tc(b:Code):Prop:=∀(k:Out->St Z->Option R) name0 authority1 end2 b3 a s5,A9 (I8 L) Q Y b ⟨gp [(2,.ptr 0 0 0),(2,pS name0),(3,pS authority1),(0,.ptr 1 0 0),(1,pI end2),(114,pB b3)] 59,[bU0,(bU name0 a 0 [] 0 0 0 0 0 0 0 0 0 (-1) s5)],s⟩ k=Q9 L name0 authority1 end2 a s5 (λn0 p q j a l m n n8 o d e f g h i c=>k .ret ⟨gp [(2,.ptr 0 0 0),(0,pI n0)] 183,((bU p q j a l m n n8 o d e f g h i)::c),s⟩)
theorem BN:Tc (R:=R) L Q Y s (cd [1,1,1,1,1,1,1,1,1,1,1,1,1,1] K7):=by intro k c b e j h i;unfold Q9;exact(c9 (by kernel_rfl) (A0 (A4 λg=>(A0 (A4 λa=>(A0 rfl (A4 λf=>(A0 (A4 λd=>((BQ L Q Y s (E2 4 (D9 (I8 L) Q Y (cd [1,1,1,1,1,1,1,1,1,1,1,1,1,1,1,1,1,0,1,0,1,1] K7) (D9 (I8 L) Q Y (cd [1,1,1,1,1,1,1,1,1,1,1,1,1,1,1,1,1,1] K7) k))) L c b 0 d h (hK a) (hN a) (hV a) (hA a 0) (hA a 1) (hA a 2) (hA a 3) (hA a 4) (hA a 5) (hA a 6) (hA a 7) i).trans (by kernel_rfl))) (A0 rfl rfl))))) rfl)) rfl))
noncomputable def Jw{R:Type}(L:Nat)(p c:By)(u:Int)(A B:By)(x:Int->By->By->Int->By->Int->Int->Int->Int->Int->Int->Int->Int->Int->Int->By->(List Blk)->Option R):Option R:=cond (I2 0 u c.length) (vl (cut c 0 u) λv=>cond (A3 v.length) (vl (C6 v) λa=>cond ((↑(a).2:Int)!=0) (x (↑(a).2:Int) e0 e0 0 e0 0 0 0 0 0 0 0 0 0 0 e0 [(bU p A 0 [] 0 0 0 0 0 0 0 0 0 (-1) B),(bH (hK a) (hN a) (hV a) (hA a 0) (hA a 1) (hA a 2) (hA a 3) (hA a 4) (hA a 5) (hA a 6) (hA a 7))]) (vl (A1 (u+1)) λy=>cond (ltI y (c.length:Int)) (vl (A1 (u+1)) λz=>Dr L L p c 0 z A (hK a) (hN a) (hV a) (hA a 0) (hA a 1) (hA a 2) (hA a 3) (hA a 4) (hA a 5) (hA a 6) (hA a 7) B (λw=>x 16 e0 e0 0 e0 0 0 0 0 0 0 0 0 0 0 e0 w) (λb t q d o e f g h i j l m n r=>cond (ltI 65535 t) (x 16 e0 e0 0 e0 0 0 0 0 0 0 0 0 0 0 e0 [(bU b q d o e f g h i j l m n (-1) r),(bH d o e f g h i j l m n)]) (cond (t==(J9 b)) (x 0 b q d o e f g h i j l m n (-1) r [(bU b q d o e f g h i j l m n (-1) r),(bH d o e f g h i j l m n)]) (x 0 b q d o e f g h i j l m n t r [(bU b q d o e f g h i j l m n t r),(bH d o e f g h i j l m n)])))) (cond (((-1):Int)==(J9 p)) (x 0 p A (hK a) (hN a) (hV a) (hA a 0) (hA a 1) (hA a 2) (hA a 3) (hA a 4) (hA a 5) (hA a 6) (hA a 7) (-1) B [(bU p A (hK a) (hN a) (hV a) (hA a 0) (hA a 1) (hA a 2) (hA a 3) (hA a 4) (hA a 5) (hA a 6) (hA a 7) (-1) B),(bH (hK a) (hN a) (hV a) (hA a 0) (hA a 1) (hA a 2) (hA a 3) (hA a 4) (hA a 5) (hA a 6) (hA a 7))]) (x 0 p A (hK a) (hN a) (hV a) (hA a 0) (hA a 1) (hA a 2) (hA a 3) (hA a 4) (hA a 5) (hA a 6) (hA a 7) (-1) B [(bU p A (hK a) (hN a) (hV a) (hA a 0) (hA a 1) (hA a 2) (hA a 3) (hA a 4) (hA a 5) (hA a 6) (hA a 7) (-1) B),(bH (hK a) (hN a) (hV a) (hA a 0) (hA a 1) (hA a 2) (hA a 3) (hA a 4) (hA a 5) (hA a 6) (hA a 7))])))) none) none
abbrev Td(b:Code):Prop:=∀(k:Out->St Z->Option R) name0 authority1 end2 b3 a s5,A9 (I8 L) Q Y b ⟨gp [(2,.ptr 0 0 0),(2,pS name0),(3,pS authority1),(0,.ptr 1 0 0),(1,pI end2),(95,pB b3)] 78,[bU0,(bU name0 a 0 [] 0 0 0 0 0 0 0 0 0 (-1) s5)],s⟩ k=Jw L name0 authority1 end2 a s5 (λn0 p q j a l m n n8 o d e f g h i c=>k .ret ⟨gp [(2,.ptr 0 0 0),(0,pI n0)] 183,((bU p q j a l m n n8 o d e f g h i)::c),s⟩)
theorem BO:Td (R:=R) L Q Y s (cd [1,1,1,1,1,1,1,1,1,1,1,1,1,1] K7):=by intro k d b f j h i;unfold Jw;exact(c9 (by kernel_rfl) (A0 (A4 λg=>(A0 (A4 λa=>(A0 rfl (A4 λe=>(A0 (A4 λc=>((BQ L Q Y s (E2 4 (D9 (I8 L) Q Y (cd [1,1,1,1,1,1,1,1,1,1,1,1,1,1,1,1,1,0,1,0,1,1] K7) (D9 (I8 L) Q Y (cd [1,1,1,1,1,1,1,1,1,1,1,1,1,1,1,1,1,1] K7) k))) L d b 0 c h (hK a) (hN a) (hV a) (hA a 0) (hA a 1) (hA a 2) (hA a 3) (hA a 4) (hA a 5) (hA a 6) (hA a 7) i).trans (by kernel_rfl))) (A0 rfl rfl))))) rfl)) rfl))
noncomputable def Gt{R:Type}(L:Nat)(v b O:By)(A:Int->By->By->Int->By->Int->Int->Int->Int->Int->Int->Int->Int->Int->Int->By->(List Blk)->Option R):Option R:=vl (A1 ((b.length:Int)-1)) λC=>X2 L L v b C O (λg a r t=>cond (A3 a.length) (vl (↑(Q0 a ([58]:List UInt8)):Int) λq=>cond (not (a==e0)) (cond (inR 0 a.length) (vl (bAt a (0:Int)) λD=>Bp g a q (D==91) r t (λB=>A 4 e0 e0 0 e0 0 0 0 0 0 0 0 0 0 0 e0 B) (λm e o M F G=>Q9 L m e o F G A) (λn f p N H I=>Jw L n f p H I A)) none) (Bp g a q false r t (λu=>A 4 e0 e0 0 e0 0 0 0 0 0 0 0 0 0 0 e0 u) (λh c j J w x=>Q9 L h c j w x A) (λi d l K y z=>Jw L i d l y z A))) none)
abbrev Te(b:Code):Prop:=∀(k:Out->St Z->Option R) name0 authority1 a,A9 (I8 L) Q Y b ⟨gp [(2,.ptr 0 0 0),(2,pS name0),(3,pS authority1),(0,.ptr 1 0 0)] 176,[bU0,(bU name0 [] 0 [] 0 0 0 0 0 0 0 0 0 (-1) a)],s⟩ k=Gt L name0 authority1 a (λn0 p a j q l m n n8 o d e f g h i c=>k .ret ⟨gp [(2,.ptr 0 0 0),(0,pI n0)] 183,((bU p a j q l m n n8 o d e f g h i)::c),s⟩)
theorem Ab5(b:Code)(d:Tb (R:=R) L Q Y s b)(a:Code)(e:Tc (R:=R) L Q Y s a)(f:Td (R:=R) L Q Y s a):Te (R:=R) L Q Y s (cd [1,1,1,1,1,1,1,1,1,1,1] (G4 [1,1,1,1,1,1,1,1,1,1,1,1,1,1] a (G4 [1,1,1,1,1,1,1,1,1,1,1,1,1,0,1] b K7))):=by intro k B l T;unfold Gt;exact let S:=(D9 (I8 L) Q Y a k);(c9 (by kernel_rfl) (A4 λJ=>((BP L Q Y s (E2 2 (D9 (I8 L) Q Y (cd [1,1,1,1,1,1,1,1,1,1,1,1] (G4 [1,1,1,1,1,1,1,1,1,1,1,1,1,1] a (G4 [1,1,1,1,1,1,1,1,1,1,1,1,1,0,1] b K7))) k)) L B l J T).trans (congr rfl (fx4 λm c x y=>(c9 (by kernel_rfl) (A0 (A4 λw=>(A0 (A0 (A4 λK=>((d S m c w (K==91) x y).trans (congr (congr (congr rfl (by kernel_rfl)) (fx6 λr i u H M N=>(c9 (by kernel_rfl) ((e k r i u H M N).trans (by kernel_rfl))))) (fx6 λt j v I O P=>(c9 (by kernel_rfl) ((f k t j v I O P).trans (by kernel_rfl))))))) rfl) ((d S m c w false x y).trans (congr (congr (congr rfl (by kernel_rfl)) (fx6 λn g p z C D=>(c9 (by kernel_rfl) ((e k n g p z C D).trans (by kernel_rfl))))) (fx6 λo h q A F G=>(c9 (by kernel_rfl) ((f k o h q A F G).trans (by kernel_rfl)))))))) rfl)))))))
theorem Ab6:Te (R:=R) L Q Y s (cd [1,1,1,1,1,1,1,1,1,1,1] K7):=by intro k b a c;exact c9 (by kernel_rfl) (Ab5 L Q Y s (cd [1,1,1,1,1,1,1,1,1,1,1,1,1,0,1] K7) (BM L Q Y s) (cd [1,1,1,1,1,1,1,1,1,1,1,1,1,1] K7) (BN L Q Y s) (BO L Q Y s) k b a c)
noncomputable def IW{R:Type}(L:Nat)(y z b:By)(J:Int->By->By->Int->By->Int->Int->Int->Int->Int->Int->Int->Int->Int->Int->By->(List Blk)->Option R):Option R:=vl (A1 ((b.length:Int)-1)) λw=>X2 L L y b w z (λg a r t=>cond (A3 a.length) (vl (↑(Q0 a ([58]:List UInt8)):Int) λq=>cond (not (a==e0)) (cond (inR 0 a.length) (vl (bAt a (0:Int)) λx=>Bp g a q (x==91) r t (λu=>J 4 e0 e0 0 e0 0 0 0 0 0 0 0 0 0 0 e0 u) (λh c m K A B=>Q9 L h c m A B J) (λi d n M C D=>Jw L i d n C D J)) none) (Bp g a q false r t (λv=>J 4 e0 e0 0 e0 0 0 0 0 0 0 0 0 0 0 e0 v) (λj e o N F G=>Q9 L j e o F G J) (λl f p O H I=>Jw L l f p H I J))) none)
abbrev Tf(b:Code):Prop:=∀(k:Out->St Z->Option R) name0 rest1 authority2 b3,A9 (I8 L) Q Y b ⟨gp [(2,.ptr 0 0 0),(2,pS name0),(0,pS rest1),(2,pS authority2),(0,.ptr 1 0 0),(66,pB b3)] 109,[bU0,(bU name0 [] 0 [] 0 0 0 0 0 0 0 0 0 (-1) rest1)],s⟩ k=IW L name0 rest1 authority2 (λn0 o p i q j l m n8 n c d e f g h a=>k .ret ⟨gp [(2,.ptr 0 0 0),(0,pI n0)] 183,((bU o p i q j l m n8 n c d e f g h)::a),s⟩)
theorem Ab8(b:Code)(d:Tb (R:=R) L Q Y s b)(a:Code)(e:Tc (R:=R) L Q Y s a)(f:Td (R:=R) L Q Y s a):Tf (R:=R) L Q Y s (cd [1,1,1,1,1,1,1,1,1,1,1] (G4 [1,1,1,1,1,1,1,1,1,1,1,1,1,1] a (G4 [1,1,1,1,1,1,1,1,1,1,1,1,1,0,1] b K7))):=by intro k G H m U;unfold IW;exact let T:=(D9 (I8 L) Q Y a k);(c9 (by kernel_rfl) (A4 λD=>((BP L Q Y s (E2 2 (D9 (I8 L) Q Y (cd [1,1,1,1,1,1,1,1,1,1,1,1] (G4 [1,1,1,1,1,1,1,1,1,1,1,1,1,1] a (G4 [1,1,1,1,1,1,1,1,1,1,1,1,1,0,1] b K7))) k)) L G m D H).trans (congr rfl (fx4 λl c x y=>(c9 (by kernel_rfl) (A0 (A4 λw=>(A0 (A0 (A4 λF=>((d T l c w (F==91) x y).trans (congr (congr (congr rfl (by kernel_rfl)) (fx6 λn g r z I J=>(c9 (by kernel_rfl) ((e k n g r z I J).trans (by kernel_rfl))))) (fx6 λo h t A K M=>(c9 (by kernel_rfl) ((f k o h t A K M).trans (by kernel_rfl))))))) rfl) ((d T l c w false x y).trans (congr (congr (congr rfl (by kernel_rfl)) (fx6 λp i u B N O=>(c9 (by kernel_rfl) ((e k p i u B N O).trans (by kernel_rfl))))) (fx6 λq j v C P S=>(c9 (by kernel_rfl) ((f k q j v C P S).trans (by kernel_rfl)))))))) rfl)))))))
theorem Ab9:Tf (R:=R) L Q Y s (cd [1,1,1,1,1,1,1,1,1,1,1] K7):=by intro k b c a d;exact c9 (by kernel_rfl) (Ab8 L Q Y s (cd [1,1,1,1,1,1,1,1,1,1,1,1,1,0,1] K7) (BM L Q Y s) (cd [1,1,1,1,1,1,1,1,1,1,1,1,1,1] K7) (BN L Q Y s) (BO L Q Y s) k b c a d)
noncomputable def Om{R:Type}(L:Nat)(s0:By)(k0:By->By->Int->By->Int->Int->Int->Int->Int->Int->Int->Int->Int->Int->By->Int->(List Blk)->Option R):Option R:=Dq L L s0 0 (λb4=>k0 e0 e0 0 e0 0 0 0 0 0 0 0 0 0 0 e0 4 (bU0::b4)) (λa=>cond (A3 a.length) (cond (not (((Cu a)).2).2) (k0 e0 e0 0 e0 0 0 0 0 0 0 0 0 0 0 e0 15 [bU0]) (cond (not (G3 ((Cu a)).1)) (k0 ((Cu a)).1 e0 0 e0 0 0 0 0 0 0 0 0 0 (-1) (((Cu a)).2).1 0 [(bU (((Cu a)).1) e0 (0:Int) e0 (0:Int) (0:Int) (0:Int) (0:Int) (0:Int) (0:Int) (0:Int) (0:Int) (0:Int) ((-1):Int) ((((Cu a)).2).1))]) (cond (ltI (↑(b8 (((Cu a)).2).1):Int) (2:Int)) (k0 e0 e0 0 e0 0 0 0 0 0 0 0 0 0 0 e0 4 [bU0]) (cond (I2 0 (2:Int) (b8 (((Cu a)).2).1)) (vl (cut (((Cu a)).2).1 (0:Int) (2:Int)) λb5=>cond (not (b5==[47,47])) (k0 e0 e0 0 e0 0 0 0 0 0 0 0 0 0 0 e0 4 [bU0]) (cond (I2 2 (↑(b8 (((Cu a)).2).1):Int) (b8 (((Cu a)).2).1)) (vl (cut (((Cu a)).2).1 (2:Int) (↑(b8 (((Cu a)).2).1):Int)) λb=>cond (A3 b.length) (vl (↑(Q0 b ([47,63,35]:List UInt8)):Int) λd=>cond (I2 0 d b.length) (cond (I2 d (b.length:Int) b.length) (vl (cut b d (b.length:Int)) λc=>cond (c==e0) (cond (F3 1 c.length) (vl (([47]:List UInt8)++c) λb2=>Gt L ((Cu a)).1 (cut b 0 d) b2 (λa9 P S e T f g h i j l m n o p U a5=>k0 P S e T f g h i j l m n o p U a9 ((bU P S e T f g h i j l m n o p U)::a5))) none) (cond (inR 0 c.length) (cond ((bAt c (0:Int))!=47) (cond (F3 1 c.length) (vl (([47]:List UInt8)++c) λb3=>Gt L ((Cu a)).1 (cut b 0 d) b3 (λb0 V W q X r t u v w x y z A B a0 a6=>k0 V W q X r t u v w x y z A B a0 b0 ((bU V W q X r t u v w x y z A B a0)::a6))) none) (IW L ((Cu a)).1 c (cut b 0 d) (λb1 a1 a2 C a3 D F G H I J K M N O a4 a7=>k0 a1 a2 C a3 D F G H I J K M N O a4 b1 ((bU a1 a2 C a3 D F G H I J K M N O a4)::a7)))) none)) none) none) none) none)) none)))) none)
theorem Cb7(a:Code)(b:Te (R:=PV × List Blk × Z) L Q Y s a)(c:Tf (R:=PV × List Blk × Z) L Q Y s a)(t:By):A9 (I8 L) Q Y (cd [] (G4 [1,1,1,1,1,1,1,1,1,1,1] a K7)) ⟨[pS t]++tps 186,[],s⟩ (F2 (I8 L) ag5)=Om L t (λu v w x y z A B r8 C m n o p q r l=>some (.tup [(gU u v w x y z A B r8 C m n o p q),pI r],l,s)):=by unfold Om;exact let j:=(F2 (I8 L) ag5);(c9 (by kernel_rfl) ((Ac0 L Q Y s (E2 0 (D9 (I8 L) Q Y (cd [1,1] (G4 [1,1,1,1,1,1,1,1,1,1,1] a K7)) j)) L t 0).trans (congr (congr rfl (by kernel_rfl)) (fx1 λe=>(c9 (by kernel_rfl) (A0 (A0 rfl (A0 rfl (A0 rfl (A0 (A4 λD=>(A0 rfl (A0 (A4 λf=>(A0 (A4 λd=>(A0 (A0 (A4 λi=>(A0 (A0 (A4 λg=>((b j ((Cu e)).1 (cut f 0 d) g).trans (by kernel_rfl))) rfl) (A0 (A0 (A0 (A4 λh=>((b j ((Cu e)).1 (cut f 0 d) h).trans (by kernel_rfl))) rfl) ((c j ((Cu e)).1 i (cut f 0 d) ((bAt i (0:Int))!=47)).trans (by kernel_rfl))) rfl))) rfl) rfl)) rfl)) rfl))) rfl)))) rfl))))))
theorem Cb8(d:Nat)(s0):evC (I8 L) (d+1) Z Y 41 [pS s0] [] s=Om L s0 (λi j l m n o p q r8 r b c e f g h a=>some (.tup [(gU i j l m n o p q r8 r b c e f g),pI h],a,s)):=
 (evE (fn:=ag5) (by kernel_rfl)).trans (c9 (by kernel_rfl) (Cb7 L (evC (I8 L) d) Y s (cd [1,1,1,1,1,1,1,1,1,1,1] K7) (Ab6 L (evC (I8 L) d) Y s) (Ab9 L (evC (I8 L) d) Y s) s0))
noncomputable def Yn(L:Nat):Cfg:=B4 L [14] (A2 []) [(41,Ba2)] (A2 [(3,[2,0]),(2,[2,0]),(1,[0,1,3]),(0,[0,1])]) [] (A2 []) (some [2,0]) [] [] []
noncomputable def DI{R:Type}(L:Nat)(b:By)(c:By->By->Int->By->Int->Int->Int->Int->Int->Int->Int->Int->Int->Int->By->Int->(List Blk)->Option R):Option R:=cond (ltI 2048 (b.length:Int)) (c e0 e0 0 e0 0 0 0 0 0 0 0 0 0 0 e0 3 [bU0]) (cond (A3 b.length) (vl (D0 b) λa=>c (uS a) (uU a) (uK a) (uN a) (uV a) (uA a 0) (uA a 1) (uA a 2) (uA a 3) (uA a 4) (uA a 5) (uA a 6) (uA a 7) (uP a) (uR a) (uE a) [(bQ a)]) none)
theorem A30(d:Nat)(s0):evC (Yn L) (d+1) Z Y 14 [pS s0] [] s=DI L s0 (λi j l m n o p q r8 r b c e f g h a=>some (.tup [(gU i j l m n o p q r8 r b c e f g),pI h],a,s)):=by refine(evE (fn:=Tryz.f14) (by kernel_rfl)).trans ?_;generalize evC (Yn L) d=Q;unfold DI;kernel_rfl
noncomputable def RX(L:Nat):Cfg:=B4 L [27] (A2 []) [(45,PY)] (A2 [(3,[2]),(2,[2]),(1,[1,3]),(0,[1])]) [45] (A2 []) (some [2]) [] [] []
noncomputable def Bg2{R:Type}(L:Nat)(f h:By)(i:Int)(j:By)(l m n o u8 p b c d a:Int)(e:By)(g:Int->(List Blk)->Option R):Option R:=cond (a !=((-1):Int)) (g a [(bU f h i j l m n o u8 p b c d a e)]) (g (J9 f) [(bU f h i j l m n o u8 p b c d a e)])
theorem Cc0(d:Nat)(u0 u1 u2 u3 u4 u5 u6 u7 u8 u9 u10 u11 u12 u13 u14):evC (RX L) (d+1) Z Y 27 [(gU u0 u1 u2 u3 u4 u5 u6 u7 u8 u9 u10 u11 u12 u13 u14)] [] s=Bg2 L u0 u1 u2 u3 u4 u5 u6 u7 u8 u9 u10 u11 u12 u13 u14 (λb a=>some (pI b,a,s)):=by refine(evE (fn:=Tryz.f27) (by kernel_rfl)).trans ?_;generalize evC (RX L) d=Q;unfold Bg2;kernel_rfl
end
theorem Ad5{R:Type}{e:Bool->Option R}(s:By):UQ LF s e=e (G3 s):=by unfold UQ G3 AL bWs Ie JU;generalize (s==([104,116,116,112]:List UInt8))=a;generalize (s==([119,115]:List UInt8))=b;generalize (s==([104,116,116,112,115]:List UInt8))=c;generalize (s==([119,115,115]:List UInt8))=d;cases a<;>cases b<;>cases c<;>cases d<;>rfl
theorem A35{R:Type}{e:Int->Option R}(s:By):Bg3 LF s e=e (J9 s):=by unfold Bg3 J9 AL bWs Ie JU;generalize (s==([104,116,116,112]:List UInt8))=a;generalize (s==([119,115]:List UInt8))=b;generalize (s==([104,116,116,112,115]:List UInt8))=c;generalize (s==([119,115,115]:List UInt8))=d;cases a<;>cases b<;>cases c<;>cases d<;>rfl
theorem Js(a b:UInt8):((a.toNat:Int)==(b.toNat:Int))=(a==b):=by rw[p7,beq_iff_eq,beq_iff_eq];exact⟨λh=>x6.1 (by omega),λh=>by rw[h]⟩
theorem Cb6{R:Type}{a:Int->Option R}{b:By->By->Int->Option R}(s t:By)(i:Nat)(h:s.length<=1000000000)(k:t.length<=1000000000)(g:i<s.length):∀(r j n:Nat),j+r=t.length->r<n->
  Gp LF n s t (i:Int) (j:Int) a b=if (t.drop j).contains (s.getD i 0)=true then a (i:Int) else b s t (i:Int):=by
 intro r
 induction r with
 | zero=>
  intro j n d e;obtain⟨n,rfl⟩:∃m,n=m+1:=⟨n-1,by omega⟩
  rw[Gp];rw[A5,s7 (by omega)];rfl
 | succ r f=>
  intro j n d e;obtain⟨n,rfl⟩:∃m,n=m+1:=⟨n-1,by omega⟩
  have c:A1 ((j:Int)+1)=((j+1:Nat):Int):=by rw[A7];rfl
  rw[Gp];rw[A8,E5,E5,C9,C9,Js,D2 t j (by omega),ae8,c];simp only[cond_true];rw[f (j+1) n (by omega) (by omega)];cases (s.getD i 0==t.getD j 0)<;>rfl
theorem Bs1{R:Type}{a:Int->Option R}{c:By->Option R}(s t:By)(j:s.length<=1000000000)(k:t.length<=1000000000):∀(r i n:Nat),i+r=s.length->r<n->
  Gq LF n s t (i:Int) a c=if Q0 (s.drop i) t<r then a ((i+Q0 (s.drop i) t:Nat):Int) else c s:=by
 have e:=C1;intro r
 induction r with
 | zero=>
  intro i n f g;obtain⟨n,rfl⟩:∃m,n=m+1:=⟨n-1,by omega⟩
  rw[Gq];rw[A5,F9];rfl
 | succ r l=>
  intro i n f g;obtain⟨n,rfl⟩:∃m,n=m+1:=⟨n-1,by omega⟩
  have d:A1 ((i:Int)+1)=((i+1:Nat):Int):=by rw[A7];rfl
  rw[Gq];rw[A8,cond_true];refine c9 (Cb6 s t i j k (by omega) t.length 0 LF (by omega) (by omega)) ?_;rw[ac3,d,l (i+1) n (by omega) (by omega),D2 s i (by omega)];unfold Q0;cases h:t.contains (s.getD i 0) with
  | true=>
   rw[if_pos rfl,w9,h];rfl
  | false=>
   rw[if_neg (by simp),w9,h];simp only[p4,if_true,j0,ad1];rw[show i+1+(ag4 (λb=>!t.contains b) (s.drop (i+1))).length=i+((ag4 (λb=>!t.contains b) (s.drop (i+1))).length+1) by omega]
theorem Ap3(s t:By):Q0 s t<=s.length:=ah9 (List.takeWhile_sublist _)
theorem A28{R:Type}{a:Int->Option R}(s t:By)(b:A3 s.length=true)(c:A3 t.length=true):Cb4 LF s t a=a (Q0 s t:Int):=by
 have e:=L4 b;have f:=L4 c;have d:=C1;have g:=Ap3 s t;refine(Bs1 s t e f s.length 0 LF (by omega) (by omega)).trans ?_;rw[ac3,ac0];split
 ·rfl
 ·rw[show Q0 s t=s.length by omega]
set_option maxHeartbeats 4000000 in theorem BU{R:Type}(s:By)(i:Nat)(b:UInt8)(f:By->Int->Option R)(g:Unit->Option R) :
  Ab s (i:Int) (b.toNat:Int) (λs i _=>f s i) g=if O7 b=true\/(i≠0/\N7 b=true) then f s i else g ():=by
 have a:(b=43)=(b.toNat=43):=by rw[eq_iff_iff,<-x6];rfl
 have d:(b=45)=(b.toNat=45):=by rw[eq_iff_iff,<-x6];rfl
 have e:(b=46)=(b.toNat=46):=by rw[eq_iff_iff,<-x6];rfl
 simp only[T3,Hx,a,d,e];unfold Ab Gw Wg Jz Gv Jy Gu;generalize b.toNat=c;simp only[cond_eq_ite,aa3,Jp,beq_iff_eq,Bool.not_eq_false',Le,beq_eq_false_iff_ne,j4,p4,p9,Bool.true_eq_false,if_true,if_false,ne_eq]
 repeat' split
 all_goals first|rfl|(exfalso;omega)
theorem VI{c:UInt8}:∀{p:By},c∉p->p.takeWhile (λb=>b !=c)=p
 | [],_=>rfl
 | b::p,h=>by
  simp only[v7,not_or] at h;rw[w9,if_pos (by simpa using ac8 h.1),VI h.2]
theorem Ce5{c:UInt8}{p:By}(r:By)(h:c∉p):(p++c::r).takeWhile (λb=>b !=c)=p:=by
 rw[List.takeWhile_append_of_pos (λx a=>by
  rw[bne_iff_ne];intro e;subst e;exact h a),w9,if_neg (by simp),List.append_nil]
theorem De6{c b:UInt8}(r:By)(h:b≠c):(b::r).takeWhile (λb=>b !=c)=b::r.takeWhile λb=>b !=c:=by rw[w9,if_pos (by simpa using h)]
theorem B19(b:UInt8):((b.toNat:Int)==58)=(b==58):=Js b 58
theorem A33{R:Type}{c:By->By->Bool->Option R}(s:By)(q:s.length<=1000000000):∀(r i n:Nat),1<=i->i+r=s.length->r<n->
  N4 LF n s (i:Int) c (λ_=>c [] [] false)=if ((s.drop i).takeWhile λb=>b !=58).all N7=true/\((s.drop i).takeWhile λb=>b !=58).length<r then c (B6 (s.take (i+((s.drop i).takeWhile λb=>b !=58).length))) (s.drop (i+((s.drop i).takeWhile λb=>b !=58).length+1)) true else c [] [] false:=by
 intro r
 induction r with
 | zero=>
  intro i n k l o;obtain⟨n,rfl⟩:∃m,n=m+1:=⟨n-1,by omega⟩
  rw[N4];rw[A5,F9];rfl
 | succ r p=>
  intro i n k l o;obtain⟨n,rfl⟩:∃m,n=m+1:=⟨n-1,by omega⟩
  have g:A1 ((i:Int)+1)=((i+1:Nat):Int):=by rw[A7];rfl
  rw[N4];unfold Jx;rw[A8,E5,C9,D2 s i (by omega),B19,A8];simp only[cond_true,cond_false];by_cases a:s.getD i 0=58
  ·rw[a,show((58:UInt8)==58)=true from rfl,cond_true,show((58:UInt8)::s.drop (i+1)).takeWhile (λb=>b !=58)=[] from rfl,if_pos ⟨rfl,by simp⟩];simp only[vl];rw[H9,J8,j7,E1 (by rw[j8];omega),g,H9,P9,j7];rfl
  ·rw[show(s.getD i 0==58)=false by simpa using a,cond_false,De6 _ a];simp only[vl];refine(BU s i (s.getD i 0) (λf e=>N4 LF n f (A1 (e+1)) c λ_=>c [] [] false) (λ_=>c [] [] false)).trans ?_;rw[g,p (i+1) n (by omega) (by omega) (by omega),ae6,j0];have j:(O7 (s.getD i 0)=true\/i≠0/\N7 (s.getD i 0)=true)↔N7 (s.getD i 0)=true:=by
    refine⟨λh=>?_,λh=>.inr ⟨by omega,h⟩⟩;rcases h with h|⟨_,h⟩
    ·rw[Hx];rw[T3] at h;exact h.elim .inl λh=>.inr (.inl h)
    ·exact h
   by_cases d:N7 (s.getD i 0)=true
   ·rw[if_pos (j.2 d)];simp only[d,ah4,ad1];rw[show i+1+((s.drop (i+1)).takeWhile λb=>b !=58).length=i+(((s.drop (i+1)).takeWhile λb=>b !=58).length+1) by omega]
   ·rw[if_neg (λh=>d (j.1 h)),if_neg (λh=>d (by have:=h.1;rw[s8] at this;exact this.1))]
theorem A34{R:Type}{a:By->By->Bool->Option R}(s:By)(n:A3 s.length=true):Ac4 LF s a=a (Cu s).1 (Cu s).2.1 (Cu s).2.2:=by
 have u:=L4 n;have o:=C1;obtain⟨N,hN⟩:∃m,LF=m+1:=⟨LF-1,by omega⟩
 unfold Ac4;rw[show N4 LF LF = @N4 R LF (N+1) by rw[<-hN],N4];unfold Jx;cases s with
 | nil=>
  rfl
 | cons b r=>
  rw[j0] at u;rw[B5 (by simp only[j0];omega),J6 (by omega) (by simp),Z5,y7,B19,A5];simp only[cond_true,cond_false,vl];have l:A1 (((0:Nat):Int)+1)=((1:Nat):Int):=rfl;have go:Ab (b::r) ((0:Nat):Int) (b.toNat:Int) (λe d _=>N4 LF N e (A1 (d+1)) a λ_=>a [] [] false) (λ_=>a [] [] false)=if O7 b=true/\(r.takeWhile λb=>b !=58).all N7=true/\(r.takeWhile λb=>b !=58).length<r.length then a (B6 ((b::r).take (1+(r.takeWhile λb=>b !=58).length))) ((b::r).drop (1+(r.takeWhile λb=>b !=58).length+1)) true else a [] [] false:=by
   refine(BU (b::r) 0 b (λe d=>N4 LF N e (A1 (d+1)) a λ_=>a [] [] false) (λ_=>a [] [] false)).trans ?_;rw[l,A33 (b::r) (by simp;omega) r.length 1 N (by omega) (by simp;omega) (by omega)];by_cases j:O7 b=true
   ·rw[if_pos (.inl j)];simp only[j,true_and];rfl
   ·rw[if_neg (by simp[j]),if_neg (λh=>j h.1)]
  have k:∀c,(bif c then Ab (b::r) 0 (b.toNat:Int) (λe d _=>N4 LF N e (A1 (d+1)) a λ_=>a [] [] false) (λ_=>a [] [] false) else Ab (b::r) 0 (b.toNat:Int) (λe d _=>N4 LF N e (A1 (d+1)) a λ_=>a [] [] false) (λ_=>a [] [] false))=Ab (b::r) ((0:Nat):Int) (b.toNat:Int) (λe d _=>N4 LF N e (A1 (d+1)) a λ_=>a [] [] false) (λ_=>a [] [] false):=λc=>by cases c<;>rfl
  refine(k _).trans (go.trans ?_);unfold Cu;rcases T0 58 r with f|⟨p,t,rfl,f⟩
  ·rw[VI f,F9];by_cases i:b=58
   ·subst i;rw[show v8 (58::r) [58]=([],r,true) from Z7 (p:=[]) (by simp)];rfl
   ·rw[Pm (by simp only[v7,not_or];exact⟨ac8 i,f⟩)];rfl
  ·rw[Ce5 t f];by_cases i:b=58
   ·subst i;rw[show v8 (58::(p++58::t)) [58]=([],p++58::t,true) from Z7 (p:=[]) (by simp),if_neg (λh=>by cases h.1)];rfl
   ·rw[show v8 (b::(p++58::t)) [58]=(b::p,t,true) from Z7 (p:=b::p) (by simp only[v7,not_or];exact⟨ac8 i,f⟩)];simp only[ah4];have q:V7 (b::p)=(O7 b&&p.all N7):=rfl;rw[q];by_cases g:O7 b=true/\p.all N7=true
    ·rw[if_pos ⟨g.1,g.2,by simp⟩,g.1,g.2,show(b::(p++58::t))=(b::p)++58::t from rfl,show 1+p.length=(b::p).length by rw[j0];omega,ae2,show(b::p)++58::t=((b::p)++[58])++t by simp,ad8 (by simp)];rfl
    ·rw[if_neg (λh=>g ⟨h.1,h.2.1⟩),if_neg (by simpa using g)]
end
end Go.Proofs.YtcfingekgbbclaaGreatDoor.E
