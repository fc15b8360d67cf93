/-
  Parts of the proof, merged by a program of the prover's own; no condition.
-/
import Derived.Test.YtcfingekgbbclaaGreatDoorKOM4
import Derived.LaidMore
import Derived.LaidSub
import Derived.Laws.Runes
import Derived.Lay
import Derived.Lib.IndexAny
import Derived.Lib.MapLaws
import Derived.OpenShut
import Derived.ProofKit
import Derived.Shelf.Vars
import Derived.Test.YtcfingekgbbclaaGreatDoorChecked
import Derived.Test.YtcfingekgbbclaaGreatDoorRows
open Go.Proofs.Tryz renaming prog->a8,checked->af5,f101->ag0,f41->ag5,f55->ag6,f58->ag7,f60->ag8,f61->ag9,f75->ah0,f40->ai7,f62->ai8,f82->ai9
open List renaming length->b8,getD->b9,length_cons->j0,length_drop->j1,length_append->j2,length_singleton->j5,length_take->j8,drop_of_length_le->s7,size_toArray->s9,mem_cons->v7,getElem?_append_right->w6,toArray->w8,takeWhile_cons->w9,mem_of_mem_drop->x3,isPrefixOf->x5,getElem?_take_of_lt->x9,getD_cons_zero->y7,getElem?_cons_zero->y9,getElem?_take->aa0,length_nil->aa1,getElem?_toArray->aa2,getElem?_append_left->aa6,getElem?_cons_succ->ab1,length_eq_zero_iff->ab2,mem_of_mem_take->ab8,drop_zero->ac4,getElem?_eq_some_iff->ac7,getElem?_eq_getElem->ad1,isEmpty_iff->ad4,not_mem_nil->ad5,take_of_length_le->ad7,drop_left'->ad9,getElem?_eq_none->ae0,take_left->ae3,getD_cons_succ->ae4,getElem?_range->ae5,all_cons->ae6,map_cons->ae7,contains_cons->ae8,getElem?_drop->ae9,getElem?_map->af3,cons_append->af8,nil_append->ag2,takeWhile->ag4,map_map->ai1,map_nil->ai2
open Eq renaming trans->c9
open Bool renaming not_true->j4,not_false->p4,eq_iff_iff->p7,false_eq_true->p9,and_eq_true->s8,not_eq_true'->aa3,or_eq_true->aa8,eq_false_iff->af1,not_eq_true->af6,and_true->ah2,false_or->ah3,true_and->ah4
open Go.Value renaming int->j6
open Int renaming toNat_natCast->j7,eq_ofNat_of_zero_le->y8,toNat->ah7
open Option.some renaming inj->j9,injEq->p5
open Go.Lib renaming indexByte->k9,cut->v8,decodeL->aa4,indexAny->aa5,tabData->ab0,VarReads->ab4,decDigits->ab7,acceptData->ae2,deBruijn64tab->af2,indexByte_ge->af7,size_eq->ag1,firstTab->ah8,pow10Tab->ah9
open Exists renaming intro->p6
open Go.Utf8 renaming decode->x4,encode->ab3
open UInt8 renaming toNat_inj->x6,ofNat->ac0
open Nat renaming ble->x7,eq_of_beq_eq_true->x8,mul_one->z7,le_of_ble_eq_true->ab6,le_refl->ab9,zero_add->ac1,ble_eq->ac5,add_lt_add_iff_right->ad2,ble_eq_true_of_le->ae1,add_zero->ai3,beq->ai4,sub_self->ai5
open Array renaming length_toList->y5,getElem?_append_left->ac2,getElem?_eq_some_iff->ac3,getElem?_eq_getElem->ac6,size_append->af0
open Go.World renaming laidAll->aa7,cell?->ad0,frozen?->ad3,shape?->ad8
open Option renaming map_some->aa9,bind_some->ad6,getD_some->af9,isSome->ah5
open Go.Lib.laidMet renaming reads->ab5
open Go.MakeChecks renaming laidMetH_plain->ac8
open Ne renaming symm->ac9
open Go.RowKit.Below renaming refl->af4
open Go.DataW renaming trod->ag3
open Prod.mk renaming injEq->ah6
open List.Sublist renaming length_le->ai0
namespace Go.Proofs.YtcfingekgbbclaaGreatDoor.E
set_option linter.all false
section
open Go Go.Proofs
theorem ZY{R:Type}{k0 k1:Unit->Option R}:∀l:List By,(∀x∈l,x.length<=1000000000)->IM LF l k0 k1=if l.all K6 then k0 () else k1 ()
 | [],_=>rfl
 | x::r,h=>by
  rw[ZX];unfold EA;rw[E3 (h x (by simp)),cond_true,ae6];have b:=ZY (k0:=k0) (k1:=k1) r (λy a=>h y (by simp[a]));grind
theorem Db1(s:By)(a:A3 s.length=true):∃r H,hvn LF s (λ_=>rv (.s (.bool false)) [.box [.s (.bool false)]]) (λd b=>rv (.s (.bool d)) [.box [.s (.bool b)],.box [.bad],.box [.bad],.box [.bad]])=rv r H/\r.stab [] H = .s (.bool (S8 s)):=by
 have h:=K7 a;unfold hvn UF S8;by_cases e:253<s.length
 ·rw[A8,show x7 s.length 253=false by rw[af1,ne_eq,ac5];omega];exact⟨_,_,rfl,rfl⟩
 ·rw[A6,cond_false,a,cond_true,show x7 s.length 253=true by rw[ac5];omega];cases f:G2 s with
  | true=>exact⟨_,_,rfl,rfl⟩
  | false=>
   rw[cond_false,show((1:Nat)==1&&(0:Int)==(0:Int))=true from rfl,show([46]:By).getD 0 0=46 from rfl,ah2,cond_true,ZY _ (λx c=>by have:=(Dj c).2;omega)];cases g:(pcs 46 s).all K6 with
   | true=>exact⟨_,_,rfl,rfl⟩
   | false=>exact⟨_,_,rfl,rfl⟩
theorem Dj5(a c d f g h i j:Nat):(n8 (a:Int) c d f g h i j==z8)=(((a:Int)==0)&&(((c:Int)==0)&&(((d:Int)==0)&&(((f:Int)==0)&&(((g:Int)==0)&&(((h:Int)==0)&&(((i:Int)==0)&&(((j:Int)==0)&&true)))))))):=by
 have e:n8 (a:Int) c d f g h i j=[a,c,d,f,g,h,i,j]:=rfl;have q:∀b:Nat,((b:Int)==0)=(b==0):=λb=>by grind
 rw[e];simp only[q,z8];rfl
theorem Bh6(a:Int)(b:By)(v4 l m n o p q t u:Int)(D:A3 b.length=true)(F:ltN v4 4294967296=true)(G:ok8 l m n o p q t u=true) :
  ∃r H,Nl LF a b v4 l m n o p q t u (λV M W N O P Q R n8 S y z x=>rv (.s (.bool V)) [.box (Rc M W N O P Q R n8 S y z),.arr false 25 1 x])=rv r H/\
   r.stab [] H = .s (.bool (M7 (mkH a b v4 (n8 l m n o p q t u)))):=by
 obtain⟨c,d,e,f,g,i,j,k,rfl,rfl,rfl,rfl,rfl,rfl,rfl,rfl,X⟩:=Ql G;obtain⟨v0,v1⟩:=E2.1 F;obtain⟨v,rfl⟩:=y8 v0;have U:((v:Int)==0)=(v==0):=by
  rw[p7,beq_iff_eq,beq_iff_eq];omega
 have T:(b==([]:By))=b.isEmpty:=by cases b<;>rfl
 have J:(mkH a b (v:Int) (n8 (c:Int) d e f g i j k)).kind=if ltN a 4 then a.toNat else 0:=rfl
 have K:(mkH a b (v:Int) (n8 (c:Int) d e f g i j k)).name=b:=rfl;have L:(mkH a b (v:Int) (n8 (c:Int) d e f g i j k)).v4=v:=j7 v;have I:(mkH a b (v:Int) (n8 (c:Int) d e f g i j k)).v6=n8 (c:Int) d e f g i j k:=rfl;unfold Nl M7;rw[J,K,L,I,Dj5,U,T];by_cases A:a=1
 ·subst A;rw[show((1:Int)==1)=true from rfl,cond_true,D,cond_true,if_pos (by decide)];cases S8 b with
  | false=>exact⟨_,_,rfl,rfl⟩
  | true=>
   cases (v==0) with
   | false=>exact⟨_,_,rfl,rfl⟩
   | true=>exact⟨_,_,rfl,rfl⟩
 ·rw[show(a==(1:Int))=false by simpa using A,cond_false];by_cases B:a=2
  ·subst B;rw[show((2:Int)==2)=true from rfl,cond_true,if_neg (by decide),if_pos (by decide)];cases b.isEmpty with
   | false=>exact⟨_,_,rfl,rfl⟩
   | true=>exact⟨_,_,rfl,rfl⟩
  ·rw[show(a==(2:Int))=false by simpa using B,cond_false];by_cases C:a=3
   ·subst C;rw[show((3:Int)==3)=true from rfl,cond_true,if_neg (by decide),if_neg (by decide),if_pos (by decide)];cases b.isEmpty with
    | false=>exact⟨_,_,rfl,rfl⟩
    | true=>exact⟨_,_,rfl,rfl⟩
   ·rw[show(a==(3:Int))=false by simpa using C,cond_false];have w:(if ltN a 4 then a.toNat else 0)=0:=by
     split
     ·rename_i h;have:=E2.1 h;omega
     ·rfl
    rw[w];exact⟨_,_,rfl,rfl⟩
theorem C86{a b c d e f g i:Int}(h:ok8 a b c d e f g i=true):(n8 a b c d e f g i).length=8/\∀x∈n8 a b c d e f g i,x<65536:=by obtain⟨k,l,m,n,o,p,q,r,rfl,rfl,rfl,rfl,rfl,rfl,rfl,rfl,t⟩:=Ql h;refine⟨rfl,λx j=>?_⟩;simp only[n8,j7,v7,ad5,or_false] at j;omega
theorem Bh5(a:Int)(j:By)(v4 b c d e f g h i:Int)(q:A3 j.length=true)(t:ltN v4 4294967296=true)(n:ok8 b c d e f g h i=true) :
  ∃r H,Ct5 LF a j v4 b c d e f g h i (λI k J y z A B C n8 D l m=>rv (.s (.str I)) [.box (Rc k J y z A B C n8 D l m)])=rv r H/\
   r.stab [] H = .s (.str (Gn (mkH a j v4 (n8 b c d e f g h i)))):=by
 obtain⟨F,G⟩:=C86 n;have v:=Cl2 _ F G;unfold Ct5 Gn;rw[q,t,n];simp only[cond_true,vl];have u:(mkH a j v4 (n8 b c d e f g h i)).kind=if ltN a 4 then a.toNat else 0:=rfl
 cases w:M7 (mkH a j v4 (n8 b c d e f g h i)) with
 | false=>exact⟨_,_,rfl,rfl⟩
 | true=>
  rw[if_pos rfl,j4,cond_false,u];by_cases o:a=1
  ·subst o;rw[if_pos (by decide)];exact⟨_,_,rfl,rfl⟩
  ·rw[show(a==(1:Int))=false by simpa using o,cond_false];have k:¬(if ltN a 4 then a.toNat else 0)=1:=by grind
   rw[if_neg k];by_cases p:a=2
   ·subst p;rw[if_pos (by decide)];exact⟨_,_,rfl,rfl⟩
   ·rw[show(a==(2:Int))=false by simpa using p,cond_false];have x:¬(if ltN a 4 then a.toNat else 0)=2:=by grind
    rw[if_neg x,E7 (by omega),cond_true,E7 (by rw[j2,j5];omega),cond_true];exact⟨_,_,rfl,rfl⟩
theorem Bp0{R:Type}{b:Bool->Option R}(p s:By)(a:A3 p.length=true)(c:A3 s.length=true):Cs7 LF p s b=b (Em p s):=by have d:=K7 a;unfold Cs7 Em;rw[a,c,E7 (by omega)];grind
theorem Ax1{R:Type}{a:By->By->Int->Option R}(t p:By)(n:Int):Cb0 LF t p n a=a t p n:=rfl
theorem Bz1{R:Type}{a:By->By->Option R}(t p:By):Dd1 LF t p a=a t p:=rfl
theorem A99{Z R:Type}(g:Yh Z)(c:UInt8):∀(m:Nat) (t:By) (n:Nat) (s i:Z),t.length<=m->t.length<=1000000000->m<n->Dd g ((pcs c t).map λx=>([.s (.str x)]:List PV)) s=some i->
  ∃o , (∃v:Z,∃b:Bool,g [.s (.str o)] v=some (b,i)/\∀(a d:By->By->Int->Z->Option R),S7 g LF n [c] t 0 s a d=a [c] o 0 v)\/(∀(a d:By->By->Int->Z->Option R),S7 g LF n [c] t 0 s a d=d [c] o 0 i):=by
 intro m
 induction m with
 | zero=>
  intro t n s i y l D h;obtain rfl:=ab2.1 (Nat.le_zero.1 y);obtain⟨n,rfl⟩:∃m,n=m+1:=⟨n-1,by omega⟩
  rw[Pa (by simp)] at h;simp only[ae7,ai2,Dd] at h;refine⟨[],.inl ⟨s,?_⟩⟩;have e:∀(a d:By->By->Int->Z->Option R),S7 g LF (n+1) [c] [] 0 s a d=a [c] [] 0 s:=λa d=>by
   rw[S7];rw[Tk (by simp)];rfl
  cases k:g [.s (.str [])] s with
  | none=>rw[k] at h;cases h
  | some q=>
   obtain⟨b,j⟩:=q;rw[k] at h;have:j=i:=by cases b<;>simpa using h
   subst this;exact⟨b,rfl,e⟩
 | succ m F=>
  intro t n s i y l D h;obtain⟨n,rfl⟩:∃m,n=m+1:=⟨n-1,by omega⟩
  rcases T1 c t with u|⟨p,r,rfl,u⟩
  ·rw[Pa u] at h;simp only[ae7,ai2,Dd] at h;refine⟨t,.inl ⟨s,?_⟩⟩;have e:∀(a d:By->By->Int->Z->Option R),S7 g LF (n+1) [c] t 0 s a d=a [c] t 0 s:=λa d=>by
    rw[S7];rw[Tk u,E3 l];rfl
   cases k:g [.s (.str t)] s with
   | none=>rw[k] at h;cases h
   | some q=>
    obtain⟨b,j⟩:=q;rw[k] at h;have:j=i:=by cases b<;>simpa using h
    subst this;exact⟨b,rfl,e⟩
  ·rw[VG u] at h;simp only[ae7,Dd] at h;have w:(p++c::r).length=p.length+r.length+1:=by rw[j2,j0];omega
   have z:A1 ((p.length:Int)+0)=((p.length:Nat):Int):=by rw[A7];omega
   have A:A1 ((p.length:Int)+(([c]:By).length:Int))=((p.length+1:Nat):Int):=by
    rw[C6 (by simp;omega) (by simp;omega)];simp
   have B:cut (p++c::r) 0 (p.length:Int)=p:=by rw[J8,j7,ae3]
   have C:cut (p++c::r) ((p.length+1:Nat):Int) ((p++c::r).length:Int)=r:=by
    rw[O5,j7,show p++c::r=(p++[c])++r by simp,ad9 (by simp)]
   have top:∀(a d:By->By->Int->Z->Option R),S7 g LF (n+1) [c] (p++c::r) 0 s a d=ydK (g [.s (.str p)] s) λb j=>cond (not b) (d [c] (p++c::r) 0 j) (S7 g LF n [c] r 0 j a d):=λa d=>by
    rw[S7];rw[AJ u,E3 l,cond_true,A6,cond_false];simp only[vl,z,A,B,C];rw[H5,cond_true,H5];rfl
   cases k:g [.s (.str p)] s with
   | none=>rw[k] at h;cases h
   | some q=>
    obtain⟨b,j⟩:=q;rw[k] at h top;cases b with
    | false=>
     have:j=i:=by simpa using h
     subst this;exact⟨p++c::r,.inr λa d=>by rw[top];rfl⟩
    | true=>
     simp only at h;obtain⟨o,⟨v,b,e,f⟩|f⟩:=F r n j i (by omega) (by omega) (by omega) h
     ·exact⟨o,.inl ⟨v,b,e,λa d=>by rw[top];exact f a d⟩⟩
     ·exact⟨o,.inr λa d=>by rw[top];exact f a d⟩
theorem Ba0{Z R:Type}(i:Yh Z)(p t:By)(n:Int)(s g:Z)(h:(A3 t.length&&(p.length==1&&n==0))=true)(m:Dd i ((pcs (p.getD 0 0) t).map λx=>([.s (.str x)]:List PV)) s=some g) :
  ∃d,∀(a:By->By->Int->Z->Option R),Aj0 i LF p t n s a=a p d n g:=by
 have l:=C2;simp only[s8,beq_iff_eq] at h;obtain⟨j,k,rfl⟩:=h;obtain⟨c,rfl⟩:=List.length_eq_one_iff.1 k;have o:=K7 j;obtain⟨d,⟨q,b,e,f⟩|f⟩:=A99 (R:=R) i c t.length t LF s g (ab9 _) o (by omega) m
 ·refine⟨d,λa=>?_⟩;unfold Aj0;rw[show(((([c]:By).length:Nat):Int)==0)=false from rfl,cond_false];refine c9 (f _ _) ?_;rw[e];rfl
 ·refine⟨d,λa=>?_⟩;unfold Aj0;rw[show(((([c]:By).length:Nat):Int)==0)=false from rfl,cond_false];exact f _ _
end
section
open Go Go.ChangeAt Go.ChangeShapes Go.Proofs Go.RowKit Go.WideShapes
set_option maxRecDepth 100000
theorem own:ownKnob a8.godebug=none:=by kernel_rfl
theorem Cu4:laidOutB a8=true:=by kernel_rfl
noncomputable def gTy(g:Nat):Nat:=match a8.globals[g]? with|some x=>x.type|none=>0
noncomputable def dbT:Nat:=gTy 5
noncomputable def Cx6:Nat:=gTy 1
noncomputable def SL:Nat:=gTy 3
noncomputable def Cr8:Nat:=gTy 2
noncomputable def SK:Nat:=match a8.underlying SL with|some (.array _ e)=>e|_=>0
noncomputable def Zf:Array Field:=match a8.underlying SK with|some (.struct a)=>a|_=>#[]
noncomputable def MN:Field:=match Zf.toList with|a::_=>a|_=>default
noncomputable def MO:Field:=match Zf.toList with|_::a::_=>a|_=>default
theorem C94:Zf[0]? = some MN:=by unfold MN Zf SK SL gTy;kernel_rfl
theorem C95:Zf[1]? = some MO:=by unfold MO Zf SK SL gTy;kernel_rfl
def Ei:List (String × DataW Unit):=[("math/bits.deBruijn32tab", Rows.laid_math_bits_deBruijn32tab), ("math/bits.deBruijn64tab", Rows.laid_math_bits_deBruijn64tab), ("internal/strconv.uint64pow10", Rows.laid_internal_strconv_uint64pow10), ("unicode/utf8.acceptRanges", Rows.laid_unicode_utf8_acceptRanges), ("unicode/utf8.first", Rows.laid_unicode_utf8_first)]
theorem PC{W:World}{n:String}{g:Nat}{a:Array Value}(b:a8.globalNamed n=some g)(h:W.var? a8 n=some a):∃e x,W.heap[g]? = some (.cells a e x):=by
 unfold World.var? at h;rw[b,ad6] at h;split at h
 ·rename_i c e x d;simp only[p5] at h;subst h;exact⟨e,x,d⟩
 ·cases h
theorem BH{W:World}{n:String}{g t e m:Nat}{k:IntKind}{f:List Int}(l:a8.globalNamed n=some g)(d:(a8.globals[g]?).map (·.type)=some t)(w:a8.underlying t=some (.array m e))(v:a8.underlying e=some (.int k))(a:a8.cellsOf e=1)(c:a8.cellsOf t=m)
  (h:ab4 a8 W n (ab0 k f)):∃e x,W.heap[g]? = some (.cells (f.map λz=>j6 k z).toArray e x):=by
 obtain⟨y,A,o,i,p,q,r,j,u⟩:=h;obtain rfl:=j9 (l.symm.trans q);obtain rfl:=j9 (d.symm.trans r);have b:=Lib.cells_of_tab w v a c u;have:o=(f.map λz=>j6 k z).toArray:=by rw[<-b]
 rw[this] at j;exact PC l j
theorem KP{H:Type}{enc:TypeId × Value->H}{P:Program}{w:World}{base:Nat}{sp:Nat->Bool}{held:Bool}{a:Nat}{t e:TypeId}{n:Nat}{b:List Value}{d:DataW H}{p:List MemPlace}(f:P.underlying t=some (.array n e))
  (h:ag3 enc P w base sp held a t b=some (d,p)):b.length=P.cellsOf t:=by
 cases a with
 | zero=>simp[ag3] at h
 | succ a=>
  simp only[ag3,f] at h;split at h
  ·rename_i c;simpa using c
  ·cases h
theorem Bn3{W:World}(C : a8.globalNamed "unicode/utf8.acceptRanges" = some 3)(h:ab4 a8 W "unicode/utf8.acceptRanges" ae2) :
  ∃e x,W.heap[3]? = some (.cells (Fy.map λz=>j6 .u8 z).toArray e x):=by
 obtain⟨M,t,v,w,p,H,a,y,A⟩:=h;obtain rfl:=j9 (C.symm.trans H);have n:(a8.globals[3]?).map (·.type)=some SL:=by unfold SL;kernel_rfl
 obtain rfl:=j9 (n.symm.trans a);have F:a8.underlying SL=some (.array 16 SK):=by unfold SL SK;kernel_rfl
 have N:=KP F A;have I:a8.cellsOf SL=32:=by unfold SL;kernel_rfl
 have b:a8.cellsOf SK=2:=by unfold SK;kernel_rfl
 have K:∃j,a8.underlying SK=some (.struct j)/\j.size=2/\∀(i:Nat) (f:Field),j[i]? = some f->a8.underlying f.type=some (.int .u8)/\f.offset=i/\a8.cellsOf f.type=1:=by
  refine⟨Zf,by unfold SK Zf;kernel_rfl,by unfold Zf;kernel_rfl,λi f m=>?_⟩;have:i<2:=by
   have:=(ac3.1 m).1;rwa [show Zf.size=2 by unfold Zf;kernel_rfl] at this
  match i,this with
  | 0,_=>
   obtain rfl:=j9 (m.symm.trans (show Zf[0]? = some MN from C94));exact⟨by unfold MN;kernel_rfl,by unfold MN;kernel_rfl,by unfold MN;kernel_rfl⟩
  | 1,_=>
   obtain rfl:=j9 (m.symm.trans (show Zf[1]? = some MO from C95));exact⟨by unfold MO;kernel_rfl,by unfold MO;kernel_rfl,by unfold MO;kernel_rfl⟩
 obtain⟨j,o,r,u⟩:=K;have l:v.toList=Fy.map λz=>j6 .u8 z:=by
  have D:(Fy.map λz=>j6 .u8 z).length=32:=by rw[List.length_map];rfl
  apply List.ext_getElem?;intro q;by_cases J:q<32
  ·obtain⟨k,d,O,c,B⟩:=Lib.array_elem F A (q / 2) (by omega);simp only[af3,ae5 (show q / 2<16 by omega),aa9,p5] at c;subst c;rw[b] at B;have L:=Lib.ints_of_struct o u (by rw[b,r]) B;have e0:=congrArg (·[q % 2]?) L;simp only[aa0,ae9] at e0;rw[S6,show q / 2*2+q % 2=q by omega] at e0;rw[e0];unfold Fy;have G:∀g:Nat->Value,(List.map g (List.range 32))[q]? = some (g q):=λg=>by
    rw[af3,ae5 J];rfl
   rw[ai1,G];rcases Nat.mod_two_eq_zero_or_one q with a|a
   ·simp[a]
   ·simp[a]
  ·rw[ae0 (by omega),ae0 (by omega)]
 have:v=(Fy.map λz=>j6 .u8 z).toArray:=by rw[<-l]
 rw[this] at y;exact PC C y
theorem Au8{C:Cfg}(r:C.G=GX){W:World}(b:laidMet a8 Ei W)(p:W.ShapedOpen a8):GOK C (· < W.heap.size) W:=by
 have lt:∀{g:Nat} {o:Obj},W.heap[g]? = some o->g<W.heap.size:=λh=>(ac3.1 h).1
 have I:ab4 a8 W "math/bits.deBruijn64tab" (ab0 .u8 (af2.map λn:Nat=>(n:Int))):=ab5 b (by rw [show (ab0 .u8 (af2.map λn:Nat=>(n:Int)):DataW Unit)=Rows.laid_math_bits_deBruijn64tab by kernel_rfl];simp [Ei])
 have J:ab4 a8 W "internal/strconv.uint64pow10" (ab0 .u64 ah9):=ab5 b (by rw [show (ab0 .u64 ah9:DataW Unit)=Rows.laid_internal_strconv_uint64pow10 by kernel_rfl];simp [Ei])
 have K:ab4 a8 W "unicode/utf8.acceptRanges" ae2:=ab5 b (by rw [show ae2=Rows.laid_unicode_utf8_acceptRanges by kernel_rfl];simp [Ei])
 have L:ab4 a8 W "unicode/utf8.first" (ab0 .u8 ah8):=ab5 b (by rw [show (ab0 .u8 ah8:DataW Unit)=Rows.laid_unicode_utf8_first by kernel_rfl];simp [Ei])
 have y:=BH (g:=5) (t:=dbT) (e:=5) (m:=64) (by kernel_rfl) (by unfold dbT;kernel_rfl) (by unfold dbT;kernel_rfl) (by kernel_rfl) (by kernel_rfl) (by unfold dbT;kernel_rfl) I;have A:=BH (g:=1) (t:=Cx6) (e:=112) (m:=20) (by kernel_rfl) (by unfold Cx6;kernel_rfl) (by unfold Cx6;kernel_rfl) (by kernel_rfl) (by kernel_rfl) (by unfold Cx6;kernel_rfl) J;have B:=Bn3 (by kernel_rfl) K;have D:=BH (g:=2) (t:=Cr8) (e:=5) (m:=256) (by kernel_rfl) (by unfold Cr8;kernel_rfl) (by unfold Cr8;kernel_rfl) (by kernel_rfl) (by kernel_rfl) (by unfold Cr8;kernel_rfl) L;have F:=cell_of_shapedOpen_int (k:=.i64) (g:=0) (t:=3) (zero:=#[.int .i64 0]) p (of_decide_eq_true (by kernel_rfl)) (by kernel_rfl) rfl (by kernel_rfl) (by kernel_rfl) (by kernel_rfl);refine⟨λg k w h=>?_,λg h=>?_⟩
 ·rw[r] at h;simp only[GX] at h;have key:∀{q:Nat} {v:IntKind} {a:List Int},(∃e x,W.heap[q]? = some (.cells (a.map λz=>j6 v z).toArray e x))->g=q->(v,a)=(k,w)->g<W.heap.size/\∃e x,W.heap[g]? = some (.cells (w.map λz=>j6 k z).toArray e x):=λc G H=>by
   subst G;cases H;obtain⟨e,x,c⟩:=c;exact⟨lt c,e,x,c⟩
  cases d:ai4 g 2 with
  | true=>rw[d,cond_true] at h;exact key D (x8 d) (j9 h)
  | false=>
   rw[d,cond_false] at h;cases f:ai4 g 3 with
   | true=>rw[f,cond_true] at h;exact key B (x8 f) (j9 h)
   | false=>
    rw[f,cond_false] at h;cases i:ai4 g 1 with
    | true=>rw[i,cond_true] at h;exact key A (x8 i) (j9 h)
    | false=>
     rw[i,cond_false] at h;cases j:ai4 g 5 with
     | true=>rw[j,cond_true] at h;exact key y (x8 j) (j9 h)
     | false=>rw[j,cond_false] at h;cases h
 ·rw[r] at h;have e:=x8 h;subst e;obtain⟨m,u⟩:=F;refine⟨?_,m,u⟩;apply Classical.byContradiction;intro l;simp[ad0,Array.getElem?_eq_none (Nat.le_of_not_lt l)] at u
theorem AO(os:Os)(args:Array Value):((aa7 a8 os Ei).forCall (λ_ _=>0) ⟨#[],args,[]⟩).Shaped a8:=
 World.shaped_of_ZipB (by kernel_rfl) (by kernel_rfl)
theorem LJ(os:Os)(args:Array Value):laidMetH a8 Ei ((aa7 a8 os Ei).forCall (λ_ _=>0) ⟨#[],args,[]⟩).memory:=by rw[ac8 _ _ _ (by kernel_rfl)];exact laidMet_laidAll _ (by kernel_rfl) (by kernel_rfl)
theorem Av9{H:Type}{enc:TypeId × Value->H}{os:Os}(j:os.Started){C:Cfg}(u:C.P=a8)(r:C.G=GX)(Z:XOK C)(W:Np C){f tb:Nat}{fn:Func}{c:Code}{s:ChangeSpec}{g:List PathCond}{apart fresh handsOn again:Bool}(l:a8.inits.idxOf? f=none)(x:a8.funcs[f]? = some fn)(hb:fn.body=some c)(n:(fn.name == "runtime.NumGoroutine")=false)
  (F:∀t∈fn.params.toList,(a8.readableRec t=true/\t<a8.types.size)/\(Ni a8 20 t).isSome=true) (z:fn.resultTypes = #[tb]) (m:a8.underlying tb=some .bool) (q:s.vars=[])
  (p:∀ds:List (DataW H),ds.length=fn.params.toList.length->s.fn H ds = { results:=[.lit (.bool true)],args:=ds })
  (a:Array Value) (h:Nat) (o:Input.okWideB a8 ((aa7 a8 os Ei).forCall (λ_ _=>0) ⟨#[],a,[]⟩) f ⟨#[],a,[]⟩=true)
  (Tj:s.preB enc a8 fn g apart ((aa7 a8 os Ei).forCall (λ_ _=>0) ⟨#[],a,[]⟩).memory a h=true)
  (J:s.sizedB enc a8 fn apart ((aa7 a8 os Ei).forCall (λ_ _=>0) ⟨#[],a,[]⟩).memory a h=true)
  (D:∀args,Kr a8 fn.params.toList args->∃d T,evC C d Unit noY f args [] ()=some (.s (.bool true),T,())) :
  ReturnsInHanded {} af5 os f .any (λw args=>(s.pre enc a8 fn g apart w args/\laidMetH a8 Ei w)/\sizedMet enc a8 fn (OpenSpec.ofChange s) apart w args) (s.post enc a8 fn apart fresh handsOn again):=by
 obtain⟨P,G,X,R,a0,lf,Q,M,xp,L,N,Y,S,nt,a1⟩:=C;simp only at u r;subst u;refine returnsInHanded_of_calls (C:=af5) own j l
  (ChangeSpec.witness_shaped (enc:=enc) (C:=af5) (os:=os) (X:=λw _=>laidMetH a8 Ei w) false (aa7 a8 os Ei) a h (World.laidAll_os _ _ _) (AO os a) o Tj J (LJ os a)) ?_
 intro w b i _ I _ o Tj A;obtain⟨_,_,_,B,y,_,_,_,_,Nl⟩:=o;have e:B=fn:=j9 (y.symm.trans x);subst e;obtain⟨⟨⟨ds,U,k,hw,hc⟩,O⟩,hz⟩:=Tj;have K:=DataW.Whole.of_heap (w':=w.forCall b i) (by rfl) hw;have V:laidMet a8 Ei (w.forCall b i):=by
  rw[ac8 _ _ _ (by kernel_rfl)] at O;exact laidMet.of_heap (w':=w.forCall b i) (by rfl) O
 refine(B77 (apart:=apart) (fresh:=fresh) (handsOn:=handsOn) (again:=again) Z W follows Cu4 x hb n F z m q p D (w.forCall b i) (Au8 r V I) w.heap.size i.args ds U k Nl K).mono λe W' ⟨v,he,F⟩=>?_
 subst he;exact ChangeSpec.post_blind F
end
section
open Go Go.Proofs
set_option maxRecDepth 100000
section
theorem PD:B0 a8 GX 165 Jl:=λargs ret a h=>by
 have:L4 (Jl args)=none:=by unfold Jl ER;split<;>rfl
 rw[this] at h;cases h
theorem Bc8:B0 a8 GX 79 QI:=xf [] (Aq8 LF) QJ rfl trivial rfl (by kernel_rfl) follows λargs=>by
 unfold QJ;split
 ·rename_i s p;exact λa=>⟨rfl,rfl,rfl,_,_,(Cv3 LF noY () 0 s p).trans (Br7 s p a),rfl⟩
 ·trivial
theorem XJ:B0 a8 GX 59 EW:=xf [] (Aq5 LF) PX rfl ⟨Bc8,trivial⟩ rfl (by kernel_rfl) follows λargs=>by
 unfold PX;split
 ·rename_i s p;exact λa=>⟨rfl,rfl,rfl,_,_,(Ct7 LF noY () 0 s p).trans (Bp7 s p a),rfl⟩
 ·trivial
theorem Cm9:B0 a8 GX 93 Am6:=xf [] (Aq9 LF) QL rfl trivial rfl (by kernel_rfl) follows λargs=>by
 unfold QL;split
 ·rename_i s p;exact λa=>⟨rfl,rfl,rfl,_,_,(Cv5 LF noY () 0 s p).trans (Br8 s p a),rfl⟩
 ·trivial
theorem Df4:B0 a8 GX 65 B36:=xf [] (Aq6 LF) PY rfl ⟨Cm9,trivial⟩ rfl (by kernel_rfl) follows λargs=>by
 unfold PY;split
 ·rename_i s p;exact λa=>⟨rfl,rfl,rfl,_,_,(Ct9 LF noY () 0 s p).trans (Bp8 s p a),rfl⟩
 ·trivial
theorem C50:B0 a8 GX 137 Bd9:=xf [] (TF LF) FI rfl ⟨Cm9,trivial⟩ rfl (by kernel_rfl) follows λargs=>by
 unfold FI;split
 ·rename_i s p;exact λa=>⟨rfl,rfl,rfl,_,_,(Cb3 LF noY () 0 s p).trans (Ax3 s p a),rfl⟩
 ·trivial
theorem C65:B0 a8 GX 107 Bf3:=xf [] (TR LF) GK rfl ⟨C50,trivial⟩ rfl (by kernel_rfl) follows λargs=>by
 unfold GK;split
 ·rename_i s p;exact λa=>⟨rfl,rfl,rfl,_,_,(Cj6 LF noY () 0 s p).trans (Ba5 s p a),rfl⟩
 ·trivial
theorem C46:B0 a8 GX 74 Bd6:=xf [0,0] (TC LF) FE rfl ⟨Bc8,trivial⟩ rfl (by kernel_rfl) follows λargs=>by
 unfold FE;split
 ·rename_i s p;exact λa=>⟨rfl,rfl,rfl,_,_,(Ca8 LF noY () 0 s p).trans (Aw1 s p a),rfl⟩
 ·trivial
theorem Cl9:B0 a8 GX 57 Al9:=xf [0,0] (Aq0 LF) PJ rfl ⟨C46,trivial⟩ rfl (by kernel_rfl) follows λargs=>by
 unfold PJ;split
 ·rename_i s p;exact λa=>⟨rfl,rfl,rfl,_,_,(Cq6 LF noY () 0 s p).trans (Bn7 s p a),rfl⟩
 ·trivial
theorem Cm0:B0 a8 GX 138 XV:=xf [1] (Dp LF) Ye rfl ⟨PD,Cn9,Bc9,trivial⟩ rfl (by kernel_rfl) follows λargs=>by
 unfold Ye;split
 ·rename_i s p v n;exact λa=>λb=>λc=>λd=>(let⟨r,H,e,q⟩:=ZU s p v n a b c d;⟨rfl,rfl,rfl,r,H,(NN LF noY () 0 s p v n).trans e,q⟩)
 ·trivial
theorem LC:B0 a8 GX 109 Uu:=xf [1] (HL LF) Yz rfl ⟨Cm0,trivial⟩ rfl (by kernel_rfl) follows λargs=>by
 unfold Yz;split
 ·rename_i s p;exact λa=>λb=>⟨rfl,rfl,rfl,_,_,(Bz2 LF noY () 0 s p).trans (Aj3 s p a b),rfl⟩
 ·trivial
theorem Cm8:B0 a8 GX 56 Am5:=xf [] (Sv LF) QH rfl trivial rfl (by kernel_rfl) follows λargs=>by
 unfold QH;split
 ·rename_i s;exact λa=>⟨rfl,rfl,rfl,_,_,(Cv1 LF noY () 0 s).trans (Br5 s a),rfl⟩
 ·trivial
theorem Cm1:B0 a8 GX 122 Am1:=xf [] (Aq3 LF) PU rfl ⟨XJ,trivial⟩ rfl (by kernel_rfl) follows λargs=>by
 unfold PU;split
 ·rename_i s;exact λa=>⟨rfl,rfl,rfl,_,_,(Ct4 LF noY () 0 s).trans (Bp4 s a),rfl⟩
 ·trivial
theorem Bc5:B0 a8 GX 124 PK:=xf [0,0] (V2 LF) PL rfl trivial rfl (by kernel_rfl) follows λargs=>by
 unfold PL;split
 ·rename_i s base;exact λa=>λb=>⟨rfl,rfl,rfl,_,_,(Cr4 LF noY () 0 s base).trans (Bo2 s base a b),rfl⟩
 ·trivial
theorem C90:B0 a8 GX 123 B39:=xf [0,0] (B72 LF) Am7 rfl ⟨Cm1,Bc5,trivial⟩ rfl (by kernel_rfl) follows λargs=>by
 unfold Am7;split
 ·rename_i s;exact λa=>⟨rfl,rfl,rfl,_,_,(Db6 LF noY () 0 s).trans (Cc0 s a),rfl⟩
 ·trivial
theorem Bm4:B0 a8 GX 121 QQ:=xf [1] (TH LF) FK rfl ⟨LC,trivial⟩ rfl (by kernel_rfl) follows λargs=>by
 unfold FK;split
 ·rename_i s;exact λa=>⟨rfl,rfl,rfl,_,_,(Cc9 LF noY () 0 s).trans (Ay5 s a),rfl⟩
 ·trivial
theorem PG:B0 a8 GX 90 Pt:=xf [] (Zp LF) Rx rfl ⟨Bm4,Cm1,C90,Bc5,trivial⟩ rfl (by kernel_rfl) follows λargs=>by
 unfold Rx;split
 ·rename_i s;exact λa=>⟨rfl,rfl,rfl,_,_,(Ay0 LF noY () 0 s).trans (UY s a),rfl⟩
 ·trivial
theorem Df9:B0 a8 GX 108 B41:=xf [0,0] (Sx LF) QU rfl ⟨Bm4,C90,trivial⟩ rfl (by kernel_rfl) follows λargs=>by
 unfold QU;split
 ·rename_i s;exact λa=>⟨rfl,rfl,rfl,_,_,(Cx5 LF noY () 0 s).trans (Bt7 s a),rfl⟩
 ·trivial
theorem Dk9:B0 a8 GX 180 C73:=xf [0,0] (HN LF) Ao5 rfl ⟨LC,Bc5,Cm5,trivial⟩ rfl (by kernel_rfl) follows λargs=>by
 unfold Ao5;split
 ·rename_i s;exact λa=>⟨rfl,rfl,rfl,_,_,(Dd7 LF noY () 0 s).trans (Cl1 s a),rfl⟩
 ·trivial
theorem Dk8:B0 a8 GX 67 C72:=xf [] (HM LF) Ao4 rfl ⟨Cm5,trivial⟩ rfl (by kernel_rfl) follows λargs=>by
 unfold Ao4;split
 ·rename_i v;exact λa=>⟨rfl,rfl,rfl,_,_,(Dd6 LF noY () 0 v).trans (Ck9 v a),rfl⟩
 ·trivial
theorem B20:B0 a8 GX 117 MI:=xf [] (Ck LF) Ry rfl trivial rfl (by kernel_rfl) follows λargs=>by
 unfold Ry;split
 ·rename_i s;exact λa=>⟨rfl,rfl,rfl,_,_,(A10 LF noY () 0 s).trans (VQ s a),rfl⟩
 ·trivial
theorem Cn5:B0 a8 GX 17 An6:=xf [] (Ta LF) RF rfl trivial rfl (by kernel_rfl) follows λargs=>by
 unfold RF;split
 ·rename_i s;exact λa=>⟨rfl,rfl,rfl,_,_,(Cz4 LF noY () 0 s).trans (Bv8 s a),rfl⟩
 ·trivial
theorem Pq:B0 a8 GX 88 Jm:=xf [1] (Gc LF) Yt rfl trivial rfl (by kernel_rfl) follows λargs=>by
 unfold Yt;split
 ·rename_i s c;exact λa=>λb=>(let⟨r,H,e,q⟩:=Ae8 s c a b;⟨rfl,rfl,rfl,r,H,(Bx0 LF noY () 0 s c).trans e,q⟩)
 ·trivial
theorem Dg2:B0 a8 GX 147 B43:=xf [] (Iv LF) QZ rfl trivial rfl (by kernel_rfl) follows λargs=>by
 unfold QZ;split
 ·rename_i b;exact λa=>⟨rfl,rfl,rfl,_,_,(Cy4 LF noY () 0 b).trans (Bu7 b a),rfl⟩
 ·trivial
theorem Cn6:B0 a8 GX 118 An7:=xf [0,0] (O4 LF) RH rfl ⟨Dg2,trivial⟩ rfl (by kernel_rfl) follows λargs=>by
 unfold RH;split
 ·rename_i s;exact λa=>⟨rfl,rfl,rfl,_,_,(Cz6 LF noY () 0 s).trans (Bv9 s a),rfl⟩
 ·trivial
theorem Al5:B0 a8 GX 116 FX:=xf [1] (HG LF) Yr rfl ⟨Pq,trivial⟩ rfl (by kernel_rfl) follows λargs=>by
 unfold Yr;split
 ·rename_i s;exact λa=>⟨rfl,rfl,rfl,_,_,(Bw4 LF noY () 0 s).trans (Ad8 s a),rfl⟩
 ·trivial
theorem KY:B0 a8 GX 86 Sb:=xf [] (Tb LF) Nv rfl ⟨Al5,B20,Cn6,trivial⟩ rfl (by kernel_rfl) follows λargs=>by
 unfold Nv;split
 ·rename_i s;exact λa=>⟨rfl,rfl,rfl,_,_,(Ad7 LF noY () 0 s).trans (LZ s a),rfl⟩
 ·trivial
theorem C59:B0 a8 GX 87 Be8:=xf [0,0] (Lc LF) FZ rfl ⟨Al5,Cn6,trivial⟩ rfl (by kernel_rfl) follows λargs=>by
 unfold FZ;split
 ·rename_i s;exact λa=>⟨rfl,rfl,rfl,_,_,(Cg3 LF noY () 0 s).trans (A62 s a),rfl⟩
 ·trivial
theorem Dg1:B0 a8 GX 173 B42:=xf [0,0] (Sy LF) QY rfl ⟨PE,trivial⟩ rfl (by kernel_rfl) follows λargs=>by
 unfold QY;split
 ·rename_i s;exact λa=>⟨rfl,rfl,rfl,_,_,(Cy2 LF noY () 0 s).trans (Bu6 s a),rfl⟩
 ·trivial
theorem Dg7:B0 a8 GX 145 B47:=xf [0,0] (Td LF) RP rfl ⟨Pq,Dg1,trivial⟩ rfl (by kernel_rfl) follows λargs=>by
 unfold RP;split
 ·rename_i s;exact λa=>⟨rfl,rfl,rfl,_,_,(C10 LF noY () 0 s).trans (Bx9 s a),rfl⟩
 ·trivial
theorem Dg6:B0 a8 GX 70 B46:=xf [] (Ar5 LF) RO rfl ⟨PE,trivial⟩ rfl (by kernel_rfl) follows λargs=>by
 unfold RO;split
 ·rename_i v;exact λa=>⟨rfl,rfl,rfl,_,_,(C08 LF noY () 0 v).trans (Bx7 v a),rfl⟩
 ·trivial
theorem B19:B0 a8 GX 138 Yf:=by
 refine B0.fix (pf:=Rw) _ (Bz (C₀:=Dp LF) (L7.ok (l:=[(165,Jl),(166,Ao0),(154,GG)]) rfl ⟨PD,Cn9,Bc9,trivial⟩) (I4 rfl (by kernel_rfl)) follows ?_);intro args ret f h;unfold Rw at h;split at h
 ·rename_i s p v n;obtain⟨a,h⟩:=C0 h;obtain⟨b,h⟩:=C0 h;obtain⟨c,h⟩:=C0 h;obtain⟨d,h⟩:=C0 h;obtain⟨rfl,rfl⟩:=J0 h;have e:=(NN LF noY () 0 s p v n).trans (IJ s p v n a b c d);exact⟨rfl,1,_,[],e,rfl,rfl⟩
 ·cases h
theorem B26:B0 a8 GX 109 MM:=by
 refine B0.fix (pf:=Sg) _ (Bz (C₀:=Zt LF) (L7.ok (l:=[(138,Yf)]) rfl ⟨B19,trivial⟩) (I4 rfl (by kernel_rfl)) follows ?_);intro args ret c h;unfold Sg at h;split at h
 ·rename_i s p;obtain⟨a,h⟩:=C0 h;obtain⟨b,h⟩:=C0 h;obtain⟨rfl,rfl⟩:=J0 h;have e:=(Ba2 LF noY () 0 s p).trans (WS s p a b);exact⟨rfl,1,_,[],e,rfl,rfl⟩
 ·cases h
end
section
theorem Df0:B0 a8 GX 179 B32:=xf [0,0] (Z1 LF) PP rfl trivial rfl (by kernel_rfl) follows λargs=>by
 unfold PP;split
 ·rename_i s;exact λa=>⟨rfl,rfl,rfl,_,_,(Cs6 LF noY () 0 s).trans (Bo9 s a),rfl⟩
 ·trivial
theorem C42:B0 a8 GX 164 Bd4:=xf [1,0] (Kx LF) EU rfl ⟨LC,Df0,Dk9,trivial⟩ rfl (by kernel_rfl) follows λargs=>by
 unfold EU;split
 ·rename_i s last;exact λa=>(let⟨r,H,e,q⟩:=Au7 s last a;⟨rfl,rfl,rfl,r,H,(B94 LF noY () 0 s last).trans e,q⟩)
 ·trivial
theorem Dl2:B0 a8 GX 135 C76:=xf [0,0] (BT LF) Ao8 rfl ⟨Co0,C42,trivial⟩ rfl (by kernel_rfl) follows λargs=>by
 unfold Ao8;split
 ·rename_i s;exact λa=>(let⟨r,H,e,q⟩:=De5 s a;⟨rfl,rfl,rfl,r,H,(De4 LF noY () 0 s).trans e,q⟩)
 ·trivial
theorem C67:B0 a8 GX 95 Bf5:=xf [0,0] (Y0 LF) GP rfl trivial rfl (by kernel_rfl) follows λargs=>by
 unfold GP;split
 ·rename_i a b c d e f g h;exact λi=>⟨rfl,rfl,rfl,_,_,(Cp1 LF noY () 0 a b c d e f g h).trans (Bd2 a b c d e f g h i),rfl⟩
 ·trivial
theorem Dl1:B0 a8 GX 96 C75:=xf [] (HO LF) Ao7 rfl ⟨De9,Bm9,trivial⟩ rfl (by kernel_rfl) follows λargs=>by
 unfold Ao7;split
 ·rename_i b a l;exact λc=>λd=>(let⟨r,H,e,q⟩:=De2 b a l c d;⟨rfl,rfl,rfl,r,H,(De1 LF noY () 0 b a l).trans e,q⟩)
 ·trivial
theorem Dl0:B0 a8 GX 68 C74:=xf [] (B74 LF) Ao6 rfl ⟨C67,Dl1,trivial⟩ rfl (by kernel_rfl) follows λargs=>by
 unfold Ao6;split
 ·rename_i a b c d f g h i;exact λj=>(let⟨r,H,e,q⟩:=De0 a b c d f g h i j;⟨rfl,rfl,rfl,r,H,(Dd9 LF noY () 0 a b c d f g h i).trans e,q⟩)
 ·trivial
theorem Dg3:B0 a8 GX 146 B44:=xf [0,0] (Z3 LF) RC rfl trivial rfl (by kernel_rfl) follows λargs=>by
 unfold RC;split
 ·rename_i s;exact λa=>⟨rfl,rfl,rfl,_,_,(Cz0 LF noY () 0 s).trans (Bv1 s a),rfl⟩
 ·trivial
theorem C52:B0 a8 GX 114 Be1:=xf [1,0] (Q5 LF) FO rfl ⟨Pq,Dg7,Dg3,trivial⟩ rfl (by kernel_rfl) follows λargs=>by
 unfold FO;split
 ·rename_i s last;exact λa=>(let⟨r,H,e,q⟩:=A30 s last a;⟨rfl,rfl,rfl,r,H,(Ce5 LF noY () 0 s last).trans e,q⟩)
 ·trivial
theorem B21:B0 a8 GX 113 MJ:=xf [] (Cl LF) Rz rfl trivial rfl (by kernel_rfl) follows λargs=>by
 unfold Rz;split
 ·rename_i s;exact λa=>⟨rfl,rfl,rfl,_,_,(A11 LF noY () 0 s).trans (VT s a),rfl⟩
 ·trivial
theorem Dg9:B0 a8 GX 84 B49:=xf [0,0] (Z4 LF) RS rfl ⟨B21,C52,trivial⟩ rfl (by kernel_rfl) follows λargs=>by
 unfold RS;split
 ·rename_i s;exact λa=>(let⟨r,H,e,q⟩:=C15 s a;⟨rfl,rfl,rfl,r,H,(C14 LF noY () 0 s).trans e,q⟩)
 ·trivial
theorem C55:B0 a8 GX 98 Be4:=xf [] (La LF) FR rfl trivial rfl (by kernel_rfl) follows λargs=>by
 unfold FR;split
 ·rename_i v;exact λa=>⟨rfl,rfl,rfl,_,_,(Ce9 LF noY () 0 v).trans (A34 v a),rfl⟩
 ·trivial
theorem Dg8:B0 a8 GX 71 B48:=xf [] (W8 LF) RQ rfl ⟨C55,trivial⟩ rfl (by kernel_rfl) follows λargs=>by
 unfold RQ;split
 ·rename_i a b c d e f g h;exact λi=>⟨rfl,rfl,rfl,_,_,(C12 LF noY () 0 a b c d e f g h).trans (By0 a b c d e f g h i),rfl⟩
 ·trivial
theorem Al2:B0 a8 GX 168 Nu:=xf [] (HE LF) Yn rfl trivial rfl (by kernel_rfl) follows λargs=>by
 unfold Yn;split
 ·rename_i n;exact⟨rfl,rfl,rfl,_,_,(Bt8 LF noY () 0 n).trans (Ac0 n ),rfl⟩
 ·trivial
theorem Al1:B0 a8 GX 170 Nt:=xf [] (W6 LF) Ym rfl trivial rfl (by kernel_rfl) follows λargs=>by
 unfold Ym;split
 ·rename_i d c f;exact λa=>λb=>λe=>⟨rfl,rfl,rfl,_,_,(Bs6 LF noY () 0 d c f).trans (Ab6 d c f a b e),rfl⟩
 ·trivial
theorem Df8:B0 a8 GX 183 An0:=xf [] (Ar1 LF) QS rfl trivial rfl (by kernel_rfl) follows λargs=>by
 unfold QS;split
 ·rename_i d;exact λa=>⟨rfl,rfl,rfl,_,_,(Cx0 LF noY () 0 d).trans (Bt4 d a),rfl⟩
 ·trivial
theorem Dg0:B0 a8 GX 189 An2:=xf [] (Iu LF) QX rfl trivial rfl (by kernel_rfl) follows λargs=>by
 unfold QX;split
 ·rename_i b;exact λa=>⟨rfl,rfl,rfl,_,_,(Cy0 LF noY () 0 b).trans (Bu1 b a),rfl⟩
 ·trivial
end
section
theorem Cn2:B0 a8 GX 182 FL:=by
 refine B0.fix (pf:=QW) _ (Bz (C₀:=Ar2 LF) (L7.ok (l:=[]) rfl trivial) (I4 rfl (by kernel_rfl)) follows ?_);intro args ret a h;unfold QW at h;split at h
 ·rename_i b;obtain⟨rfl,rfl⟩:=J0 h;have e:=(Cx7 LF noY () 0 b).trans (Bt9 b );exact⟨rfl,1,_,[],e,rfl,rfl⟩
 ·cases h
theorem Bn0:BP a8 GX 188 Pv:=by
 refine Fh (C₀:=TJ LF) (L7.ok (l:=[]) rfl trivial) (I4 rfl (by kernel_rfl)) follows ?_;intro args H ret f h;unfold Pv at h;split at h
 ·rename_i k b;obtain⟨a,h⟩:=C0 h;obtain⟨c,h⟩:=C0 h;obtain⟨rfl,rfl⟩:=J0 h;refine⟨rfl,rfl,λZ d s=>?_⟩;have e:=(Cd3 LF d s 0 k b).trans (Az8 k b a c);exact⟨1,_,e,rfl⟩
 ·cases h
theorem Dh7:BP a8 GX 169 QP:=by
 refine Fh (C₀:=Zq LF) (Um (lx:=[(182,FL),(183,An0)]) (ly:=[(188,Pv)]) (ls:=[]) rfl rfl rfl ⟨Cn2,Df8,trivial⟩ ⟨Bn0,trivial⟩ trivial) (I4 rfl (by kernel_rfl)) follows ?_;intro args H ret f h;unfold QP at h;split at h
 ·rename_i q b z l;obtain⟨a,h⟩:=C0 h;obtain⟨c,h⟩:=C0 h;obtain⟨d,h⟩:=C0 h;obtain⟨rfl,rfl⟩:=J0 h;obtain⟨g,i,e0⟩:=Bs8 q b z l a c d;exact⟨rfl,rfl,λZ e s=>⟨1,_,(Cw6 LF e s 0 q b z l).trans (e0 _ _),rfl⟩⟩
 ·cases h
theorem Cn1:B0 a8 GX 141 An1:=by
 refine B0.fix (pf:=QT) _ (I6 [0,0] (C₀:=P7 LF) (Um (lx:=[(168,Nu),(170,Nt)]) (ly:=[(169,QP)]) (ls:=[]) rfl rfl rfl ⟨Al2,Al1,trivial⟩ ⟨Dh7,trivial⟩ trivial) (I4 rfl (by kernel_rfl)) follows ?_);intro args ret f h;unfold QT at h;split at h
 ·rename_i b a p;obtain⟨c,h⟩:=C0 h;obtain⟨rfl,rfl⟩:=J0 h;obtain⟨r,H,e,d⟩:=Cx2 b a p c;exact⟨rfl,rfl,rfl,1,r,H,(Cx1 LF noY () 0 b a p).trans e,d⟩
 ·cases h
end
section
theorem Dh6:BP a8 GX 186 PM:=by
 refine Fh (C₀:=Zn LF) (Um (lx:=[(182,FL),(189,An2)]) (ly:=[(188,Pv)]) (ls:=[]) rfl rfl rfl ⟨Cn2,Dg0,trivial⟩ ⟨Bn0,trivial⟩ trivial) (I4 rfl (by kernel_rfl)) follows ?_;intro args H ret j h;unfold PM at h;split at h
 ·rename_i a n i b c z l;obtain⟨d,h⟩:=C0 h;obtain⟨e,h⟩:=C0 h;obtain⟨f,h⟩:=C0 h;obtain⟨rfl,rfl⟩:=J0 h;obtain⟨k,e0⟩:=Bo4 a n i b c z l d e f;exact⟨rfl,rfl,λZ g s=>⟨1,_,(Cr5 LF g s 0 a n i b c z l).trans (e0 _ _),rfl⟩⟩
 ·cases h
theorem Cm4:B0 a8 GX 104 XX:=xf [] (Ga LF) Yi rfl trivial rfl (by kernel_rfl) follows λargs=>by
 unfold Yi;split
 ·rename_i s c;exact λa=>λb=>⟨rfl,rfl,rfl,_,_,(Bq3 LF noY () 0 s c).trans (Aa1 s c a b),rfl⟩
 ·trivial
theorem Bm3:B0 a8 GX 80 DU:=xf [] (TB LF) FD rfl ⟨Cm4,trivial⟩ rfl (by kernel_rfl) follows λargs=>by
 unfold FD;split
 ·rename_i s c;exact λa=>λb=>⟨rfl,rfl,rfl,_,_,(Ca7 LF noY () 0 s c).trans (Av8 s c a b),rfl⟩
 ·trivial
end
end
section
open Go Go.Proofs Go.Sort
set_option maxRecDepth 100000
theorem KJ{C:Cfg}{Z:Type}{I:Z->(Nat->Prop)->(Nat->Prop)->World->Prop}(J:HI I){f:Ctx}{u:Nat->Prop}{w w':World}{z v1:Bool}{E o r:Nat}{l l' m:LL}{s:Z}(g cap:Nat)(H:List Value)(i:Array Value)
  (P:On C E=false) (j:HR f [.arr z E 1 l,.arr v1 o r m] w) (K:I s f.St u w) (M:∀b g,f.nm b=some g->¬u g)
  (d:f.nm 0=some g\/g=w.heap.size) (O:g<w'.heap.size) (e:∀k,k<w.heap.size->f.nm 0≠some k->w'.heap[k]? = w.heap[k]?) (p:w.heap.size<=w'.heap.size) (R:w'.os=w.os) (S:w'.tape=w.tape) (T:w'.output=w.output)
  (n:w'.heap[g]? = some (.cells i E (0,0))) (X:Els f.St w' 1 l' H) (D:l'≠[]) (t:∀q,q<H.length->i[q]? = H[q]?) (Y:H.length<=i.size) (B:l'.length<=cap) (hm:cap<=maxLen) (L:i.size=cap) :
  Dn C I f [.arr z E 1 l,.arr v1 o r m] w u (.fl 0) [.arr z E 1 l',.arr v1 o r m] s (.slice (some ⟨g,0,none⟩) l'.length cap) w':=by
 have x:0<[Blk.arr z E 1 l,.arr v1 o r m].length:=by simp
 have G:(f.re 0 (some g)).nm 0=some g:=by simp[Ctx.re]
 have F:¬Lf C (A5 [Blk.arr z E 1 l,.arr v1 o r m] 0):=by simp[A5,Blk.shp,Lf,P]
 have a:([Blk.arr z E 1 l,.arr v1 o r m].map (Blk.kill 0)).set 0 (.arr z E 1 l')=[.arr z E 1 l',.arr v1 o r m]:=rfl;have N:¬f.St g:=by
  rcases d with h|h
  ·exact(j.lt 0 g h).2.2
  ·intro hs;have:=j.stlt g hs;omega
 obtain⟨U,V,q3⟩:=VV (C:=C) (y:=.arr z E 1 l') (ng:=some g) (w':=w') j x F (λk a=>by
   simp only[p5] at a;subst a;refine⟨O,N,λc t A=>?_⟩;rcases d with h|h
   ·exact t (j.inj c 0 _ A h)
   ·have:=(j.lt c _ A).2.1;omega)
  (λk a=>by
   simp only[p5] at a;subst a;rcases d with h|h
   ·exact .inl h
   ·exact .inr (by omega)) e p R S T
  (BR.els G n X (by rintro⟨_,h⟩;exact D h) t Y) rfl
 rw[a] at U V;refine⟨_,u,U.lift u,V,?_,λc t=>?_,?_,λb W v=>?_⟩
 ·refine .fl 0 g z E 1 l'.length cap rfl (λ_ h=>D (ab2.1 h)) G B hm ?_;simp only[ad8,n,L,z7]
 ·simp only[PV.nms,List.mem_singleton] at t;subst t;simp
 ·refine J.mono s f.St u w f.St w' K (λ_ h=>h) (λk a Q=>(J.foot _ _ _ _ K k Q).2 a) (λk a=>Nat.lt_of_lt_of_le (j.stlt k a) p) (λk a=>?_) p R S T;rcases a with a|a
  ·exact e k (j.stlt k a) (λh=>(j.lt 0 k h).2.2 a)
  ·exact e k (J.foot _ _ _ _ K k a).1 (λh=>M 0 k h a)
 ·simp only[Ctx.re] at v;split at v
  ·simp only[p5] at v;subst v;rcases d with h|h
   ·exact M 0 _ h
   ·intro Q;have:=(J.foot _ _ _ _ K _ Q).1;omega
  ·exact M b W v
theorem Bw{w:World}{g o e:Nat}{vs:List Value}{a:Array Value}(c:w.heap[g]? = some (.cells a e (0,0)))(f:o+vs.length<=a.size)(l:∀v∈vs,v.oneCell'=true) :
  (w.setCells g o vs).heap[g]? = some (.cells (F9 a.toList o vs).toArray e (0,0))/\(∀k,k≠g->(w.setCells g o vs).heap[k]? = w.heap[k]?)/\(w.setCells g o vs).heap.size=w.heap.size/\(w.setCells g o vs).os=w.os/\(w.setCells g o vs).tape=w.tape/\(w.setCells g o vs).output=w.output:=by
 obtain⟨w',i,m,n,p,q,t,u,_⟩:=M6 (P:=a8) (o:=o) c f l;have b:∀j,j<vs.length->∃v,w.cell? ⟨g,o+0+j,none⟩=some v:=λj d=>by
  refine⟨a[o+j]'(by omega),?_⟩;simp[ad0,c,ac6 (show o+j<a.size by omega)]
 have r:=run_storeCells_cells (P:=a8) g o vs 0 w (λj d=>by obtain⟨v,h⟩:=b j d;rw[h];rfl) (λj d=>by simp[ad3,c]) l;rw[r] at i;simp only[ai3,Result.ok.injEq,true_and] at i;rw[i];exact⟨m,n,p,q,t,u⟩
theorem IN{St:Nat->Prop}{w:World}{l:LL}{d:List Value}{i:Nat}{n:Int}(h:Els St w 1 l d)(q:i<=l.length):Els St w 1 (Lj l i n) (d.take i++j6 .i64 n::d.drop i):=by
 have c:=h.1;rw[z7] at c;have m:Els St w 1 (l.take i) (d.take i):=by
  refine⟨by rw[j8,j8,c,z7],λj f=>?_⟩;rw[j8] at f;rw[List.getElem_take];obtain⟨a,b⟩:=h.2 j (by omega);refine⟨a,λk g=>?_⟩;obtain⟨U,e,v⟩:=b k g;exact⟨U,by rw[x9 (by omega)];exact e,v⟩
 have o:Els St w 1 [[SV.int .i64 n]] [j6 .i64 n]:=by
  refine⟨rfl,λj f=>?_⟩;have:j=0:=by simpa using f
  subst this;refine⟨rfl,λk g=>?_⟩;have:k=0:=by simpa using g
  subst this;exact⟨_,rfl,.int _ _⟩
 have p:Els St w 1 (l.drop i) (d.drop i):=by
  refine⟨by rw[j1,j1,c,z7],λj f=>?_⟩;rw[j1] at f;rw[List.getElem_drop];obtain⟨a,b⟩:=h.2 (i+j) (by omega);refine⟨a,λk g=>?_⟩;obtain⟨U,e,v⟩:=b k g;exact⟨U,by rw[ae9];rw[show i+(j*1+k)=(i+j)*1+k by omega];exact e,v⟩
 have:=(m.append o).append p;unfold Lj;simpa using this
theorem IO(l:LL)(i:Nat)(n:Int)(h:i<=l.length):(Lj l i n).length=l.length+1:=by unfold Lj;rw[j2,j0,j8,j1];omega
theorem UK(l:LL)(i:Nat)(n:Int):Lj l i n≠[]:=by unfold Lj;simp
theorem Dh8:BP a8 GX 187 RY:=by
 intro C hP hG Z I yh yv hI hy args H s ret Hc G Γ Φ w Vs g2 hH hg hi hd hc hn;unfold RY at G;split at G
 ·rename_i i z l d;obtain⟨h0,G⟩:=C0 G;obtain⟨h1,G⟩:=C0 G;obtain⟨rfl,rfl⟩:=J0 G;obtain⟨i0,i1⟩:=E2.1 h0;obtain⟨i,rfl⟩:=y8 i0;have hl:=ab6 h1;have X:i<=l.length:=by
   have:(i:Int)<((l.length+1:Nat):Int):=i1;omega
  obtain⟨S,X0,V,rfl,hs,hx,hv⟩:=hc.arr3;obtain rfl:=hx.inv_int;have c0:On C 3=false:=by
   unfold On Cfg.sh;rw[hP];kernel_rfl
  obtain⟨g1,d0,n1,n2,n3,n4,n5⟩:=hH.arr' (b:=1) rfl (by simp);have f5:∃cap,V = .slice (some ⟨g1,0,none⟩) 1 cap:=by
   cases hv with
   | flv _ e sz h=>simp[A5,Blk.shp] at h
   | fl _ g v e sz n cap h e8 y R hm e6=>
    rw[n1] at y;simp only[p5] at y;subst y;simp only[A5,ab1,y9,aa9,Blk.shp,p5,Shp.arr.injEq] at h;obtain⟨_,_,_,h4⟩:=h;subst h4;exact⟨cap,rfl⟩
  obtain⟨A,rfl⟩:=f5;obtain⟨V1,p1,p2⟩:=n5 0 (by simp) 0 (by simp);have p3:V1 = .int .i64 d:=by cases p2;rfl
  subst p3;have t:∀j v,[j6 .i64 d][j]? = some v->w.cell? ⟨g1,0+j,none⟩=some v:=by
   intro j v x;have:j=0:=by
    have:=(ac7.1 x).1;simpa using this
   subst this;simp only[y9,p5] at x;subst x;simpa[ad0,n2] using p1
  have M:∀v∈[j6 .i64 d],v.oneCell'=true:=by simp[Value.oneCell']
  rw[j7];refine Rs (fn:=Tryz.f187) (by kernel_rfl) (by kernel_rfl) (by kernel_rfl) ?_;have B:∀(base:Option Addr) (c:Nat) (f:List Value),l.length<=c->c<l.length+1->f.length=l.length->(base=none->l.length=0)->(∀a,base=some a->∀j v,f[j]? = some v->w.cell? (a.add j)=some v)->Els Γ.St w 1 l f->
    Calls a8 187 #[.slice base l.length c,.int .i64 (l.length:Int),.slice (some ⟨g1,0,none⟩) 1 A] w λe w'=>∃V,e = .returned V/\Dn C I Γ [.arr z 3 1 l,.arr false 3 1 [[SV.int .i64 d]]] w Φ (.fl 0) [.arr z 3 1 (Lj l l.length d),.arr false 3 1 [[SV.int .i64 d]]] s V w':=by
   intro base c f a1 a2 a3 a4 a5 a6;refine(Any2.slices_Insert_int_end_grow Tryz.lays2_21 base l.length c g1 0 1 A f [.int .i64 d] w (by omega) a1 a2 (by omega) a3 rfl a4 a5 t M).mono ?_;rintro e w' ⟨rfl,rfl⟩;refine⟨_,rfl,?_⟩;obtain⟨T,b7⟩:=Hy (w:=w) (need:=l.length+1) (cap:=c) (e:=3) (by omega);have hE:=IN (n:=d) a6 (ab9 l.length);have d8:f.take l.length++j6 .i64 d::f.drop l.length=f++[j6 .i64 d]:=by
    rw[ad7 (by omega),s7 (by omega)]
   rw[d8] at hE;have r:=IO l l.length d (ab9 _);obtain⟨r1,r2⟩:=AD (olds:=f) (Vs:=[j6 .i64 d]) (z:=(j6 .i64 0).cells) (k:=grownCap w (l.length+1) c 3) (n:=l.length) (m:=1) (size:=1) rfl (by omega) rfl T;have c7:(f.toArray++[j6 .i64 d].toArray)=(f++[j6 .i64 d]).toArray:=by simp
   rw[c7] at r1 r2;have key:∀(row:Array Value) (O:Nat),row.size=O->(∀q,q<(f++[j6 .i64 d]).length->row[q]? = (f++[j6 .i64 d])[q]?)->l.length+1<=O->O<=maxLen->
     Dn C I Γ [.arr z 3 1 l,.arr false 3 1 [[SV.int .i64 d]]] w Φ (.fl 0) [.arr z 3 1 (Lj l l.length d),.arr false 3 1 [[SV.int .i64 d]]] s (.slice (some ⟨w.heap.size,0,none⟩) (l.length+1) O) (w.drew.alloc (.cells row 3)):=by
    intro row O b1 b2 b3 b4;have D:(w.drew.alloc (.cells row 3)).heap=w.heap.push (.cells row 3):=rfl;have:=KJ (C:=C) (w':=w.drew.alloc (.cells row 3)) (l':=Lj l l.length d) hI w.heap.size O (f++[j6 .i64 d]) row c0 hH hi hd (.inr rfl) (by rw[D];simp) (λk N _=>H9 D N) (by rw[D];simp) rfl rfl rfl (H8 D) (hE.mono (λg hg=>H9 D (hH.stlt g hg)) (λ_ h=>h)) (UK _ _ _) b2 (by rw[b1,j2,j5];omega) (by rw[r];exact b3) b4 b1;rw[r] at this;exact this
   exact key _ _ (r1.trans (z7 _)) r2 T b7
  have f9:∀(row:Array Value) (f:List Value),f.length=l.length->i<l.length->l.length+1<=row.size->(∀q,q<i->row[q]? = f[q]?)->
    ∀q,q<(f.take i++j6 .i64 d::f.drop i).length->(F9 (F9 row.toList i [j6 .i64 d]) (i+1) (f.drop i)).toArray[q]? = (f.take i++j6 .i64 d::f.drop i)[q]?:=by
   intro row f a1 a2 a3 a4 q hq;have f3:q<l.length+1:=by
    rw[j2,j0,j8,j1] at hq;omega
   have ht:(f.take i).length=i:=by rw[j8];omega
   have Y:row.toList.length=row.size:=y5;simp only[aa2];rw[M5 _ _ _ (by rw[D5,j1,Y];omega),M5 _ _ _ (by rw[j5,Y];omega)];by_cases h1:q<i
   ·rw[G1,G1,aa6 (by omega),x9 h1];simpa using a4 q h1
   ·by_cases h2:q=i
    ·subst h2;rw[G1,if_pos (by rw[j5];omega),w6 (by omega),ht,ai5];rfl
    ·rw[if_pos (by rw[j1];omega),w6 (by omega),ht,show q-i=(q-(i+1))+1 by omega,ab1]
  have P:∀(g c:Nat) (f:List Value),i<l.length->l.length<=c->c<l.length+1->f.length=l.length->(∀j v,f[j]? = some v->w.cell? ⟨g,0+j,none⟩=some v)->(∀v∈f,v.oneCell'=true)->Els Γ.St w 1 l f->
    Calls a8 187 #[.slice (some ⟨g,0,none⟩) l.length c,.int .i64 (i:Int),.slice (some ⟨g1,0,none⟩) 1 A] w λe w'=>∃V,e = .returned V/\Dn C I Γ [.arr z 3 1 l,.arr false 3 1 [[SV.int .i64 d]]] w Φ (.fl 0) [.arr z 3 1 (Lj l i d),.arr false 3 1 [[SV.int .i64 d]]] s V w':=by
   intro g c f W a1 a2 a3 a4 a5 a6;refine(Any2.slices_Insert_int_grow Tryz.lays2_21 g 0 l.length c i g1 0 1 A f [.int .i64 d] w W (by omega) a1 a2 (by omega) a3 rfl a4 t a5 M).mono ?_;rintro e w' ⟨rfl,rfl⟩;refine⟨_,rfl,?_⟩;obtain⟨T,b7⟩:=Hy (w:=w) (need:=l.length+1) (cap:=c) (e:=3) (by omega);have hE:=IN (n:=d) a6 X;have r:=IO l i d X;have key:∀(row:Array Value) (O:Nat),row.size=O->(∀q,q<i->row[q]? = f[q]?)->l.length+1<=O->O<=maxLen->
     Dn C I Γ [.arr z 3 1 l,.arr false 3 1 [[SV.int .i64 d]]] w Φ (.fl 0) [.arr z 3 1 (Lj l i d),.arr false 3 1 [[SV.int .i64 d]]] s (.slice (some ⟨w.heap.size,0,none⟩) (l.length+1) O) (((w.alloc (.cells row 3)).drew.setCells w.heap.size i [j6 .i64 d]).drew.setCells w.heap.size (i+1) (f.drop i)):=by
    intro row O b1 b2 b3 b4;have D:(w.alloc (.cells row 3)).drew.heap=w.heap.push (.cells row 3):=rfl;obtain⟨c1,c2,c3,c4,c5,c6⟩:=Bw (w:=(w.alloc (.cells row 3)).drew) (o:=i) (vs:=[j6 .i64 d]) (H8 D) (by rw[j5];omega) M;generalize f6:(w.alloc (.cells row 3)).drew.setCells w.heap.size i [j6 .i64 d]=w1 at *;have Q:(F9 row.toList i [j6 .i64 d]).toArray.size=O:=by rw[s9,D5];simpa using b1
    obtain⟨d1,d2,d3,d4,d5,d6⟩:=Bw (w:=w1.drew) (o:=i+1) (vs:=f.drop i) c1 (by rw[Q,j1];omega) (λv hv=>a5 v (x3 hv));have b0:∀k,k<w.heap.size->(w1.drew.setCells w.heap.size (i+1) (f.drop i)).heap[k]? = w.heap[k]?:=λk N=>by
     rw[d2 k (by omega)];exact(c2 k (by omega)).trans (H9 D N)
    have e7:(w1.drew.setCells w.heap.size (i+1) (f.drop i)).heap.size=w.heap.size+1:=by
     rw[d3];show w1.heap.size=_;rw[c3,D];simp
    have:=KJ (C:=C) (w':=w1.drew.setCells w.heap.size (i+1) (f.drop i)) (l':=Lj l i d) hI w.heap.size O (f.take i++j6 .i64 d::f.drop i) _ c0 hH hi hd (.inr rfl) (by rw[e7];omega) (λk N _=>b0 k N) (by rw[e7];omega) (d4.trans c4) (d5.trans c5) (d6.trans c6) d1 (hE.mono (λg hg=>b0 g (hH.stlt g hg)) (λ_ h=>h)) (UK _ _ _) (f9 row f a3 W (by omega) b2) (by rw[s9,D5,j2,j0,j8,j1];simp only[s9,D5] at Q ⊢;omega) (by rw[r];exact b3) b4 (by rw[s9,D5];simpa using Q);rw[r] at this;exact this
   have f7:(j6 .i64 0).cells.size=1:=rfl;have ht:(f.take i).length=i:=by rw[j8];omega
   refine key _ _ ?_ (λq hq=>?_) T b7
   ·simp only[af0,s9,size_zeroCells,f7,z7,ht];have:l.length+1<=grownCap w (l.length+1) c 3:=T;show i+(l.length+1-i)+(grownCap w (l.length+1) c 3-(l.length+1))=grownCap w (l.length+1) c 3;omega
   ·rw[ac2 (by simp only[af0,s9,ht];omega),ac2 (by simp only[s9,ht];omega),aa2,x9 hq]
  have e9:∀(row:Array Value) (f:List Value),f.length=l.length->i<l.length->l.length+1<=row.size->(∀q,q<i->row[q]? = f[q]?)->
    ∀q,q<(f.take i++j6 .i64 d::f.drop i).length->(F9 (F9 row.toList (i+1) (f.drop i)) i [j6 .i64 d]).toArray[q]? = (f.take i++j6 .i64 d::f.drop i)[q]?:=by
   intro row f a1 a2 a3 a4 q hq;have f3:q<l.length+1:=by
    rw[j2,j0,j8,j1] at hq;omega
   have ht:(f.take i).length=i:=by rw[j8];omega
   have Y:row.toList.length=row.size:=y5;simp only[aa2];rw[M5 _ _ _ (by rw[D5,j5,Y];omega),M5 _ _ _ (by rw[j1,Y];omega)];by_cases h1:q<i
   ·rw[G1,G1,aa6 (by omega),x9 h1];simpa using a4 q h1
   ·by_cases h2:q=i
    ·subst h2;rw[if_pos (by rw[j5];omega),w6 (by omega),ht,ai5];rfl
    ·rw[if_neg (by rw[j5];omega),if_pos (by rw[j1];omega),w6 (by omega),ht,show q-i=(q-(i+1))+1 by omega,ab1]
  cases hs with
  | flv _ e2 f8 h'=>
   simp only[A5,y9,aa9,Blk.shp,p5,Shp.arr.injEq] at h';obtain⟨q1,q2,q3,h4⟩:=h';obtain rfl:=ab2.1 h4;obtain rfl:i=0:=by simpa using X
   exact B none 0 [] (by simp) (by simp) rfl (λ_=>rfl) (λa h=>by cases h) ⟨rfl,λj x=>by simp at x⟩
  | fl _ g z' e2 f8 n' cap h' e8 y R hm e6=>
   simp only[A5,y9,aa9,Blk.shp,p5,Shp.arr.injEq] at h';obtain⟨rfl,rfl,rfl,rfl⟩:=h';have f2:¬(z=true/\l=[]):=by rintro⟨q1,q2⟩;exact e8 q1 (by rw[q2];rfl)
   obtain⟨g',p,e3,hh,c8,K,d9⟩:=hH.arr' (b:=0) rfl f2;obtain rfl:g=g':=by
    rw[y] at e3;exact j9 e3
   have d7:p.size=cap:=by
    have:=e6;simp only[ad8,hh,p5,ah6,true_and,z7] at this;exact this
   rw[z7] at c8;have hO:Els Γ.St w 1 l (p.toList.take l.length):=by
    refine⟨by rw[j8,y5 (xs:=p)];omega,λj x=>⟨K j x,λk N=>?_⟩⟩;obtain⟨U,e1,u⟩:=d9 j x k N;refine⟨U,?_,u⟩;have g0:k<1:=by rw[<-K j x];exact N
    rw[aa0,S6];simpa using e1
   have F:(p.toList.take l.length).length=l.length:=by rw[j8,y5 (xs:=p)];omega
   have J:∀j v,(p.toList.take l.length)[j]? = some v->w.cell? ⟨g,0+j,none⟩=some v:=by
    intro j v x;have a7:j<l.length:=by
     have:=(ac7.1 x).1;omega
    rw[aa0,if_pos a7] at x;simpa[ad0,hh] using x
   have b5:∀v∈p.toList.take l.length,v.oneCell'=true:=by
    intro v hv;obtain⟨j,x,rfl⟩:=List.getElem_of_mem hv;have a7:j<l.length:=by omega
    obtain⟨_,u⟩:=hO.2 j a7;obtain⟨U,e1,u2⟩:=u 0 (by rw[K j a7];exact Nat.one_pos);rw[z7,ai3,ad1 x] at e1;cases e1;exact u2.oneCell
   have r:=IO l i d X;have hE:=IN (n:=d) hO X;have a0:∀j,j<cap->(w.cell? ⟨g,j,none⟩).isSome=true:=by
    intro j x;simp only[ad0,hh];rw[ac6 (by omega)];rfl
   have a9:∀j,w.frozen? ⟨g,j,none⟩=false:=λj=>by simp[ad3,hh]
   have e5:g1≠g:=λe=>by
    have:=hH.inj 1 0 g (by rw[<-e];exact n1) y;omega
   have e4:cap<=9223372036854775807:=by
    simp only[maxLen] at hm;omega
   by_cases L:l.length+1<=cap
   ·have key:∀(w':World) (row:List Value),w'.heap[g]? = some (.cells row.toArray 3 (0,0))->(∀k,k≠g->w'.heap[k]? = w.heap[k]?)->w'.heap.size=w.heap.size->w'.os=w.os->w'.tape=w.tape->w'.output=w.output->row.length=cap->
      (∀q,q<((p.toList.take l.length).take i++j6 .i64 d::(p.toList.take l.length).drop i).length->row.toArray[q]? = ((p.toList.take l.length).take i++j6 .i64 d::(p.toList.take l.length).drop i)[q]?)->
      Dn C I Γ [.arr z 3 1 l,.arr false 3 1 [[SV.int .i64 d]]] w Φ (.fl 0) [.arr z 3 1 (Lj l i d),.arr false 3 1 [[SV.int .i64 d]]] s (.slice (some ⟨g,0,none⟩) (l.length+1) cap) w':=by
     intro w' row k1 k2 k3 k4 k5 k6 k7 k8;have f0:¬ Γ.St g:=(hH.lt 0 g y).2.2;have:=KJ (C:=C) (w':=w') (l':=Lj l i d) hI g cap ((p.toList.take l.length).take i++j6 .i64 d::(p.toList.take l.length).drop i) row.toArray c0 hH hi hd (.inl y) (by rw[k3];exact(hH.lt 0 g y).2.1) (λk N f1=>k2 k (λe=>f1 (e▸y))) (by omega) k4 k5 k6 k1
      (hE.mono (λk N=>k2 k (λe=>f0 (e▸N))) (λ_ h=>h)) (UK _ _ _) k8
      (by rw[s9,k7,j2,j0,j8,j1,F];omega) (by rw[r];exact L) hm (by rw[s9,k7])
     rw[r] at this;exact this
    by_cases b6:i=l.length
    ·subst b6;refine(Any2.slices_Insert_int_end_room Tryz.lays2_21 g 0 l.length cap g1 0 1 A [.int .i64 d] w (by omega) L e4 rfl (λj x=>a0 _ (by omega)) (λj x=>a9 _) t M).mono ?_;rintro e w' ⟨rfl,rfl⟩;refine⟨_,rfl,?_⟩;obtain⟨c1,c2,c3,c4,c5,c6⟩:=Bw (w:=w) (o:=0+l.length) (vs:=[j6 .i64 d]) hh (by rw[j5];omega) M;refine key _ _ c1 c2 c3 c4 c5 c6 (by rw[D5];simpa using d7) (λq hq=>?_);rw[ad7 (by omega),s7 (by omega)] at hq ⊢;rw[j2,F,j5] at hq;simp only[aa2];rw[M5 _ _ _ (by rw[j5,y5 (xs:=p)];omega)];by_cases f4:q<l.length
     ·rw[G1,aa6 (by omega),aa0,if_pos f4]
     ·obtain rfl:q=l.length:=by omega
      rw[if_pos (by rw[j5];omega),w6 (by omega),F];simp
    ·have W:i<l.length:=by omega
     refine(Any2.slices_Insert_int_shift Tryz.lays2_21 g 0 l.length cap i g1 0 1 A (p.toList.take l.length) [.int .i64 d] w W (by omega) L e4 e5 F rfl J (λj x=>a0 _ (by omega)) (λj x=>a9 _) t b5 M 3 3 d0.size p.size (by simp[ad8,n2]) (by simp[ad8,hh]) (by omega) (by simp[ad3,n2]) (by simp[ad3,n2])).mono ?_;rintro e w' ⟨rfl,rfl⟩;refine⟨_,rfl,?_⟩;obtain⟨c1,c2,c3,c4,c5,c6⟩:=Bw (w:=w.drew) (o:=0+(i+1)) (vs:=(p.toList.take l.length).drop i) hh (by rw[j1,F];omega) (λv hv=>b5 v (x3 hv));generalize f6:w.drew.setCells g (0+(i+1)) ((p.toList.take l.length).drop i)=w1 at *;have Q:(F9 p.toList (0+(i+1)) ((p.toList.take l.length).drop i)).toArray.size=cap:=by rw[s9,D5];simpa using d7
     obtain⟨d1,d2,d3,d4,d5,d6⟩:=Bw (w:=w1) (o:=0+i) (vs:=[j6 .i64 d]) c1 (by rw[Q,j5];omega) M;refine key _ _ d1 (λk N=>(d2 k N).trans (c2 k N)) (d3.trans c3) (d4.trans c4) (d5.trans c5) (d6.trans c6) (by rw[D5];simpa using Q) ?_;rw[ac1,ac1];exact e9 p _ F W (by omega) (λq hq=>by rw[aa0,S6];simp)
   ·by_cases b6:i=l.length
    ·subst b6;exact B (some ⟨g,0,none⟩) cap (p.toList.take l.length) R (by omega) F (λh=>by cases h) (λa h j v x=>by
      obtain rfl:=j9 h;rw[L9];exact J j v x) hO
    ·exact P g cap _ (by omega) R (by omega) F J b5 hO
 ·cases G
end
section
open Go Go.Proofs
set_option maxRecDepth 100000
section
theorem C68:BP a8 GX 175 DT:=by
 refine Fh (C₀:=SX LF) (Um (lx:=[(170,Nt),(168,Nu)]) (ly:=[(186,PM),(187,RY)]) (ls:=[]) rfl rfl rfl ⟨Al1,Al2,trivial⟩ ⟨Dh6,Dh8,trivial⟩ trivial) (I4 rfl (by kernel_rfl)) follows ?_;intro args H ret o h;unfold DT at h;split at h
 ·rename_i a n i b c z l;obtain⟨d,h⟩:=C0 h;obtain⟨f,h⟩:=C0 h;obtain⟨g,h⟩:=C0 h;obtain⟨j,h⟩:=C0 h;obtain⟨k,h⟩:=C0 h;obtain⟨rfl,rfl⟩:=J0 h;refine⟨rfl,rfl,λZ m s=>?_⟩;have e:=(B82 LF m s 0 a n i b c z l).trans (At1 a n i b c z l d f g j k);exact⟨1,_,e,rfl⟩
 ·cases h
theorem Df7:B0 a8 GX 155 B40:=by
 refine B0.fix (pf:=QR) _ (I6 [1,0] (C₀:=Z2 LF) (Um (lx:=[(80,DU)]) (ly:=[(175,DT)]) (ls:=[]) rfl rfl rfl ⟨Bm3,trivial⟩ ⟨C68,trivial⟩ trivial) (I4 rfl (by kernel_rfl)) follows ?_);intro args ret c h;unfold QR at h;split at h
 ·rename_i s;obtain⟨a,h⟩:=C0 h;obtain⟨rfl,rfl⟩:=J0 h;obtain⟨r,H,e,b⟩:=Cw8 s a;exact⟨rfl,rfl,rfl,1,r,H,(Cw7 LF noY () 0 s).trans e,b⟩
 ·cases h
end
end
section
open Go Go.Proofs Go.Sort
set_option maxRecDepth 100000
theorem Co8:B0 a8 GX 139 YG:=by
 refine B0.fix (pf:=Zc) _ (J1 (fn:=Tryz.f139) (by kernel_rfl) (by kernel_rfl) (by kernel_rfl) ?_);intro args ret l h;unfold Zc at h;split at h
 ·rename_i s;obtain⟨b,h⟩:=C0 h;obtain⟨rfl,rfl⟩:=J0 h;refine⟨rfl,rfl,λC n a o w m c g f=>?_⟩;obtain⟨U,rfl,j⟩:=f.arr1;obtain⟨k,rfl,rfl⟩:=j.inv_str;have i:=K7 b;refine(Any.utf8_ValidString Tryz.lays196 k w (by simp at i;omega) (Cs4 c a)).mono ?_;rintro e w' ⟨rfl,d⟩;rw[<-Bc2];exact⟨_,rfl,d,VP.mk_bool _⟩
 ·cases h
theorem Co5:B0 a8 GX 140 YE:=by
 refine B0.fix (pf:=Za) _ (J1 (fn:=Tryz.f140) (by kernel_rfl) (by kernel_rfl) (by kernel_rfl) ?_);intro args ret j h;unfold Za at h;split at h
 ·rename_i s;obtain⟨a,h⟩:=C0 h;obtain⟨rfl,rfl⟩:=J0 h;refine⟨rfl,rfl,λC m b n w k l d c=>?_⟩;obtain⟨U,rfl,g⟩:=c.arr1;obtain⟨i,rfl,rfl⟩:=g.inv_str;have f:=K7 a;refine(Any.utf8_RuneCountInString Tryz.lays195 i w (by simp at f;omega)).mono ?_;rintro e w' ⟨rfl,pos,rfl⟩;rw[Lib.runeCountL_eq];exact⟨_,rfl,Ap5 _ _ _,VP.mk_int _ _⟩
 ·cases h
theorem C40:B0 a8 GX 153 Uo:=λargs ret a h=>by
 have:L4 (Uo args)=none:=by unfold Uo XT;split<;>rfl
 rw[this] at h;cases h
theorem C69:Bd3 a8 GX 152 DV:=by
 refine Ah9 (C₀:=Ah LF) ((L7.ok (l:=[(153,Uo),(154,GG)]) rfl ⟨C40,Bc9,trivial⟩)) (I4 rfl (by kernel_rfl)) follows ?_;intro args H L h Z a s d c;unfold DV at h;split at h
 ·rename_i p t n;simp only[p5,ah6] at h;obtain⟨b,rfl⟩:=h;obtain⟨e,f⟩:=Ba0 (R:=PV × List Blk × Z) a p t n s d b c;exact⟨1,_,(Ci3 LF a 0 p t n s).trans (f _)⟩
 ·cases h
end
section
open Go Go.Proofs
set_option maxRecDepth 100000
section
theorem C47:B0 a8 GX 126 Bd7:=xf [] (Ky LF) FF rfl ⟨Df7,Cn1,trivial⟩ rfl (by kernel_rfl) follows λargs=>by
 unfold FF;split
 ·rename_i s;exact λa=>⟨rfl,rfl,rfl,_,_,(Ca9 LF noY () 0 s).trans (Ax0 s a),rfl⟩
 ·trivial
theorem Cn0:B0 a8 GX 92 QM:=xf [] (Sw LF) QN rfl ⟨Cl9,C47,trivial⟩ rfl (by kernel_rfl) follows λargs=>by
 unfold QN;split
 ·rename_i s;exact λa=>⟨rfl,rfl,rfl,_,_,(Cv7 LF noY () 0 s).trans (Bs0 s a),rfl⟩
 ·trivial
theorem Df5:B0 a8 GX 110 B38:=xf [0,0] (Oi LF) QG rfl ⟨Co8,Co5,Cm8,Cn1,Cn0,trivial⟩ rfl (by kernel_rfl) follows λargs=>by
 unfold QG;split
 ·rename_i s;exact λa=>(let⟨r,H,e,q⟩:=Cu6 s a;⟨rfl,rfl,rfl,r,H,(Cu5 LF noY () 0 s).trans e,q⟩)
 ·trivial
theorem Df3:B0 a8 GX 136 B35:=xf [] (It LF) PT rfl trivial rfl (by kernel_rfl) follows λargs=>by
 unfold PT;split
 ·rename_i b;exact λa=>⟨rfl,rfl,rfl,_,_,(Ct2 LF noY () 0 b).trans (Bp2 b a),rfl⟩
 ·trivial
theorem Df2:B0 a8 GX 106 B34:=xf [0,0] (Su LF) PS rfl ⟨Df3,trivial⟩ rfl (by kernel_rfl) follows λargs=>by
 unfold PS;split
 ·rename_i s;exact λa=>(let⟨r,H,e,q⟩:=Ct0 s a;⟨rfl,rfl,rfl,r,H,(Cs9 LF noY () 0 s).trans e,q⟩)
 ·trivial
theorem C43:B0 a8 GX 105 Bd5:=xf [0,0] (SY LF) EV rfl ⟨Dl2,trivial⟩ rfl (by kernel_rfl) follows λargs=>by
 unfold EV;split
 ·rename_i s;exact λa=>λb=>(let⟨r,H,e,q⟩:=B96 s a b;⟨rfl,rfl,rfl,r,H,(B95 LF noY () 0 s).trans e,q⟩)
 ·trivial
theorem Cm3:B0 a8 GX 81 XW:=xf [0,0] (Fz LF) Yg rfl ⟨XJ,C43,Df2,C65,PG,Df9,B26,Df5,Bm9,trivial⟩ rfl (by kernel_rfl) follows λargs=>by
 unfold Yg;split
 ·rename_i s;exact λa=>(let⟨r,H,e,q⟩:=Bp6 s a;⟨rfl,rfl,rfl,r,H,(Bp5 LF noY () 0 s).trans e,q⟩)
 ·trivial
theorem C48:B0 a8 GX 125 QK:=by
 refine B0.fix (pf:=FG) _ (Bz (C₀:=TD LF) (L7.ok (l:=[]) rfl trivial) (I4 rfl (by kernel_rfl)) follows ?_);intro args ret a h;unfold FG at h;split at h
 ·rename_i t p n;obtain⟨rfl,rfl⟩:=J0 h;have e:=(Cb1 LF noY () 0 t p n).trans (Ax1 t p n );exact⟨rfl,1,_,[],e,rfl,rfl⟩
 ·cases h
theorem Dh1:B0 a8 GX 91 Ao2:=by
 refine B0.fix (pf:=SC) _ (Bz (C₀:=Ar6 LF) (L7.ok (l:=[(125,QK)]) rfl ⟨C48,trivial⟩) (I4 rfl (by kernel_rfl)) follows ?_);intro args ret a h;unfold SC at h;split at h
 ·rename_i t p;obtain⟨rfl,rfl⟩:=J0 h;have e:=(C19 LF noY () 0 t p).trans (Bz1 t p );exact⟨rfl,1,_,[],e,rfl,rfl⟩
 ·cases h
theorem C89:B0 a8 GX 64 B37:=by
 refine B0.fix (pf:=Am3) _ (I6 [] (C₀:=Oh LF) (Um (lx:=[(90,Pt),(91,Ao2),(92,QM)]) (ly:=[]) (ls:=[(152,DV)]) rfl rfl rfl ⟨PG,Dh1,Cn0,trivial⟩ trivial ⟨C69,trivial⟩) (I4 rfl (by kernel_rfl)) follows ?_);intro args ret c h;unfold Am3 at h;split at h
 ·rename_i s;obtain⟨a,h⟩:=C0 h;obtain⟨rfl,rfl⟩:=J0 h;obtain⟨r,H,e,b⟩:=Db1 s a;exact⟨rfl,rfl,rfl,1,r,H,(Db0 LF noY () 0 s).trans e,b⟩
 ·cases h
theorem Bc7:B0 a8 GX 46 PZ:=xf [] (Aq7 LF) QA rfl ⟨C89,trivial⟩ rfl (by kernel_rfl) follows λargs=>by
 unfold QA;split
 ·rename_i j k v4 a b c d f g h i;exact λl=>λm=>λn=>(let⟨r,H,e,q⟩:=Bh6 j k v4 a b c d f g h i l m n;⟨rfl,rfl,rfl,r,H,(Cu0 LF noY () 0 j k v4 a b c d f g h i).trans e,q⟩)
 ·trivial
theorem Cm2:B0 a8 GX 50 Am2:=xf [] (Aq4 LF) PW rfl ⟨Bc7,Dk8,Dl0,trivial⟩ rfl (by kernel_rfl) follows λargs=>by
 unfold PW;split
 ·rename_i j k v4 a b c d f g h i;exact λl=>λm=>λn=>(let⟨r,H,e,q⟩:=Bh5 j k v4 a b c d f g h i l m n;⟨rfl,rfl,rfl,r,H,(Ct6 LF noY () 0 j k v4 a b c d f g h i).trans e,q⟩)
 ·trivial
theorem Df1:B0 a8 GX 47 B33:=xf [] (Aq2 LF) PQ rfl ⟨C89,Df4,trivial⟩ rfl (by kernel_rfl) follows λargs=>by
 unfold PQ;split
 ·rename_i p s;exact λa=>λb=>⟨rfl,rfl,rfl,_,_,(Cs8 LF noY () 0 p s).trans (Bp0 p s a b),rfl⟩
 ·trivial
end
end
section
open Go
structure Y9 where
 sch:By
 user:By
 host:B2
 port:Int
 rest:By
def Cd:Y9:=⟨[],[],K4,0,[]⟩
def My:By:=[104,116,116,112]
def Cf:By:=[104,116,116,112,115]
def bWs:By:=[119,115]
def Zi:By:=[119,115,115]
def M0(s:By):Int:=if s==My||s==bWs then 80 else if s==Cf||s==Zi then 443 else -1
def F4(s:By):Bool:=s==My||s==bWs||(s==Cf||s==Zi)
def Dj3(s:By):Bool:=s==My||s==bWs
def ctl(b:UInt8):Bool:=x7 b.toNat 32||b==127
def O8(b:UInt8):Bool:=(x7 97 b.toNat&&x7 b.toNat 122)||(x7 65 b.toNat&&x7 b.toNat 90)
def N7(b:UInt8):Bool:=O8 b||(x7 48 b.toNat&&x7 b.toNat 57)||b==43||b==45||b==46
def W0:By->Bool
 | []=>false
 | b::r=>O8 b&&r.all N7
def V6(b:UInt8):Bool:=b==47||b==63||b==35
def J5(s:By):Nat:=(s.takeWhile λb=>!V6 b).length
def Gr(c:UInt8):By->Option Nat
 | []=>none
 | b::r=>if b=c then some 0 else (Gr c r).map (· + 1)
def Jd:Int->By->Option Int
 | n,[]=>if n<65536 then some n else none
 | n,b::r=>if 48<=b.toNat/\b.toNat<=57 then Jd (min (10*max n 0+((b.toNat-48:Nat):Int)) 65536) r else none
def Jz(a:By):Option (By × By):=
 if a.head? = some 91 then (match Gr 93 a with
  | some k=>some (a.take (k+1),a.drop (k+1))
  | none=>none)
 else match Gr 58 a with
  | some k=>some (a.take k,a.drop k)
  | none=>some (a,[])
def U0(c user b:By)(a:By):Y9 × Nat:=
 match Jz a with
 | none=>(Cd,4)
 | some (name,tail)=>
  if tail≠[]/\tail.head?≠some 58 then (Cd,4)
  else if (C7 name).2≠0 then (Cd,(C7 name).2)
  else match Jd (-1) (tail.drop 1) with
   | none=>(Cd,16)
   | some p=>(⟨c,user,(C7 name).1,if p=M0 c then -1 else p,b⟩,0)
def H4(c b a:By):Y9 × Nat:=
 if 0<=L1 64 a then U0 c (a.take (L1 64 a).toNat) b (a.drop ((L1 64 a).toNat+1)) else U0 c [] b a
def W3(r:By):By:=if r.head? = some 47 then r else 47::r
def B9(s:By):Y9 × Nat:=
 if s.any ctl then (Cd,4)
 else if !(v8 s [58]).2.2||!W0 (v8 s [58]).1 then (Cd,15)
 else if !F4 (B6 (v8 s [58]).1) then (⟨B6 (v8 s [58]).1,[],K4,-1,(v8 s [58]).2.1⟩,0)
 else if !([47,47]:By).isPrefixOf (v8 s [58]).2.1 then (Cd,4)
 else H4 (B6 (v8 s [58]).1) (W3 (((v8 s [58]).2.1.drop 2).drop (J5 ((v8 s [58]).2.1.drop 2)))) (((v8 s [58]).2.1.drop 2).take (J5 ((v8 s [58]).2.1.drop 2)))
def V5(s:By):Y9 × Nat:=if 2048<s.length then (Cd,3) else B9 s
def Cc(p:Int):By:=if p<0 then 45::ab7 (-p).toNat else ab7 p.toNat
def GW(u:Y9):By:=(if u.user=[] then [] else u.user++[64])++(Gn u.host++(if u.port=-1 then [] else 58::Cc u.port))
def Bg(u:Y9):By:=if F4 u.sch then u.sch++58::47::47::(GW u++u.rest) else u.sch++58::u.rest
def Hn(u:Y9):By:=if u.port < -1 then (if F4 u.sch then u.sch++58::47::47::(((if u.user=[] then [] else u.user++[64])++(Gn u.host++[58,120]))++u.rest) else u.sch++58::u.rest) else Bg u
def Cv8(b:Int)(c:By)(v4:Int)(a:List Nat):B2:=⟨if ltN b 4 then b.toNat else 4,c,v4.toNat,a⟩
def mkU(f g:By)(b:Int)(c:By)(v4:Int)(a:List Nat)(d:Int)(e:By):Y9:=⟨f,g,Cv8 b c v4 a,d,e⟩
def smU(c d a b:By):Bool:=x7 c.length 100000000&&x7 d.length 100000000&&x7 a.length 100000000&&x7 b.length 100000000
def eqH(a b:B2):Bool:=a.kind==b.kind&&a.name==b.name&&a.v4==b.v4&&a.v6==b.v6
def eqU(a b:Y9):Bool:=a.sch==b.sch&&a.user==b.user&&eqH a.host b.host&&a.port==b.port&&a.rest==b.rest
def X8(u:Y9):Bool:=(B9 (Bg u)).2==0&&eqU (B9 (Bg u)).1 u
def BE(c d a b:By):Bool:=Mm 1500 [c,d,a,b]
def prt(b:By)(a:Int):Int:=if a==-1 then M0 b else a
def DP:By->Int
 | s=>let rec go:Int->By->Int
   | n,[]=>n
   | n,b::r=>if 48<=b.toNat/\b.toNat<=57 then go (min (10*max n 0+((b.toNat-48:Nat):Int)) 65536) r else 0
  go (-1) s
def Q0(s t:By):Nat:=(s.takeWhile λb=>!t.contains b).length
def Dc(s:By):By × By × Bool:=if (v8 s [58]).2.2&&W0 (v8 s [58]).1 then (B6 (v8 s [58]).1,(v8 s [58]).2.1,true) else ([],[],false)
def isl:By:=[47,63,35]
def AL(p:By):Bool:=p==isl
def KV(r:Int):Bool:=ltN r 55296||(ltI 57343 r&&ltN r 1114112)
def irn(r:Int):Int:=if r=47 then 0 else if r=63 then 1 else if r=35 then 2 else -1
def V4(n:Int):Bool:=ltN (n+9223372036854775808) 18446744073709551616
abbrev uS(p:Y9 × Nat):By:=p.1.sch
abbrev uU(p:Y9 × Nat):By:=p.1.user
abbrev uK(p:Y9 × Nat):Int:=p.1.host.kind
abbrev uN(p:Y9 × Nat):By:=p.1.host.name
abbrev uV(p:Y9 × Nat):Int:=p.1.host.v4
abbrev uA(p:Y9 × Nat)(i:Nat):Int:=(p.1.host.v6.getD i 0:Nat)
abbrev uP(p:Y9 × Nat):Int:=p.1.port
abbrev uR(p:Y9 × Nat):By:=p.1.rest
abbrev uE(p:Y9 × Nat):Int:=p.2
theorem LH(s:By):decide (0<M0 s)=F4 s:=by
 unfold M0 F4;cases (s==My||s==bWs) with
 | true=>rfl
 | false=>cases (s==Cf||s==Zi)<;>rfl
theorem Cp3{s:By}(h:F4 s=true):s=My\/s=bWs\/s=Cf\/s=Zi:=by simp only[F4,aa8,beq_iff_eq] at h;rcases h with(h|h)|(h|h)<;>simp[h]
theorem Bq1{c:UInt8}:∀{s:By},c∉s->Gr c s=none
 | [],_=>rfl
 | b::r,h=>by
  simp only[v7,not_or] at h;rw[Gr,if_neg (ac9 h.1),Bq1 h.2];rfl
theorem ZZ{c:UInt8}:∀{p:By} (r:By),c∉p->Gr c (p++c::r)=some p.length
 | [],r,_=>by rw[ag2,Gr,if_pos rfl];rfl
 | b::p,r,h=>by
  simp only[v7,not_or] at h;rw[af8,Gr,if_neg (ac9 h.1),ZZ r h.2];rfl
theorem Qi{c:UInt8}:∀{s:By} {k:Nat},Gr c s=some k->∃p r,s=p++c::r/\c∉p/\p.length=k
 | [],k,h=>by cases h
 | b::s,k,h=>by
  rw[Gr] at h;split at h
  ·rename_i a;obtain rfl:=j9 h;exact⟨[],s,by rw[a];rfl,by simp,rfl⟩
  ·rename_i a;cases d:Gr c s with
   | none=>rw[d] at h;cases h
   | some j=>
    rw[d] at h;obtain rfl:=j9 h;obtain⟨p,r,rfl,e,rfl⟩:=Qi d;exact⟨b::p,r,rfl,by simp only[v7,not_or];exact⟨ac9 a,e⟩,rfl⟩
theorem Tm{c:UInt8}:∀{s:By},c∉s->L1 c s=-1
 | [],_=>rfl
 | b::r,h=>by
  simp only[v7,not_or] at h;rw[L1,Tm h.2,if_pos (by decide),if_neg (ac9 h.1)]
theorem AQ{c:UInt8}:∀(p:By) {r:By},c∉r->L1 c (p++c::r)=(p.length:Int)
 | [],r,h=>by rw[ag2,L1,Tm h,if_pos (by decide),if_pos rfl];rfl
 | b::p,r,h=>by
  rw[af8,L1,AQ p h,G1,j0];omega
theorem AR{c:UInt8}:∀{s:By},c∈s->∃p r,s=p++c::r/\c∉r
 | [],h=>by cases h
 | b::s,h=>by
  by_cases a:c∈s
  ·obtain⟨p,r,rfl,d⟩:=AR a;exact⟨b::p,r,rfl,d⟩
  ·simp only[v7,a,or_false] at h;subst h;exact⟨[],s,rfl,a⟩
theorem IT{c:UInt8}{s:By}(h:0<=L1 c s):∃p r,s=p++c::r/\c∉r/\L1 c s=(p.length:Int):=by
 by_cases b:c∈s
 ·obtain⟨p,r,rfl,a⟩:=AR b;exact⟨p,r,rfl,a,AQ p a⟩
 ·rw[Tm b] at h;omega
theorem A96(s:By):∀b∈s.take (J5 s),V6 b=false:=by
 intro b a;have h:s.take (J5 s)=s.takeWhile λb=>!V6 b:=by
  unfold J5;exact(List.prefix_iff_eq_take.1 (List.takeWhile_prefix _)).symm
 rw[h] at a;have:∀l:By,b∈l.takeWhile (λb=>!V6 b)->V6 b=false:=by
  intro l
  induction l with
  | nil=>intro h;cases h
  | cons x l d=>
   intro h;rw[w9] at h;split at h
   ·rename_i c;rcases v7.1 h with rfl|h
    ·simpa using c
    ·exact d h
   ·cases h
 exact this s a
theorem T4{b:UInt8}:O8 b=true↔(97<=b.toNat/\b.toNat<=122)\/(65<=b.toNat/\b.toNat<=90):=by simp[O8,ac5]
theorem Cq7{b:UInt8}:ctl b=true↔b.toNat<=32\/b.toNat=127:=by
 unfold ctl;rw[aa8,ac5,beq_iff_eq];have:b=127↔b.toNat=127:=⟨λh=>by rw[h];rfl,λh=>x6.1 h⟩
 rw[this]
theorem Il{b:UInt8}:N7 b=true↔(97<=b.toNat/\b.toNat<=122)\/(65<=b.toNat/\b.toNat<=90)\/(48<=b.toNat/\b.toNat<=57)\/b=43\/b=45\/b=46:=by simp only[N7,aa8,T4,s8,ac5,beq_iff_eq,or_assoc]
abbrev clU(a b:By)(k:Int)(n:By)(v c d e f g h i j p:Int)(r:By):List PV:=[.s (.str a),.s (.str b),.s (.int .i64 k),.s (.str n),.s (.int .u32 v),.s (.int .u16 c),.s (.int .u16 d),.s (.int .u16 e),.s (.int .u16 f),.s (.int .u16 g),.s (.int .u16 h),.s (.int .u16 i),.s (.int .u16 j),.s (.int .i64 p),.s (.str r)]
abbrev clH(k:Int)(n:By)(v c d e f g h i j:Int):List PV:=[.s (.int .i64 k),.s (.str n),.s (.int .u32 v),.s (.int .u16 c),.s (.int .u16 d),.s (.int .u16 e),.s (.int .u16 f),.s (.int .u16 g),.s (.int .u16 h),.s (.int .u16 i),.s (.int .u16 j)]
abbrev bU(a b:By)(k:Int)(n:By)(v c d e f g h i j p:Int)(r:By):Blk:=.box (clU a b k n v c d e f g h i j p r)
abbrev gU(a b:By)(k:Int)(n:By)(v c d e f g h i j p:Int)(r:By):PV:=.agg (clU a b k n v c d e f g h i j p r)
abbrev bH(k:Int)(n:By)(v c d e f g h i j:Int):Blk:=.box (clH k n v c d e f g h i j)
abbrev gH(k:Int)(n:By)(v c d e f g h i j:Int):PV:=.agg (clH k n v c d e f g h i j)
abbrev clO(a:By)(k:Int)(n:By)(v c d e f g h i j p:Int):List PV:=[.s (.str a),.s (.int .i64 k),.s (.str n),.s (.int .u32 v),.s (.int .u16 c),.s (.int .u16 d),.s (.int .u16 e),.s (.int .u16 f),.s (.int .u16 g),.s (.int .u16 h),.s (.int .u16 i),.s (.int .u16 j),.s (.int .i64 p)]
abbrev bO(a:By)(k:Int)(n:By)(v c d e f g h i j p:Int):Blk:=.box (clO a k n v c d e f g h i j p)
abbrev gO(a:By)(k:Int)(n:By)(v c d e f g h i j p:Int):PV:=.agg (clO a k n v c d e f g h i j p)
abbrev bO0:Blk:=bO [] 0 [] 0 0 0 0 0 0 0 0 0 0
abbrev bU0:Blk:=bU [] [] 0 [] 0 0 0 0 0 0 0 0 0 0 []
abbrev bQ(p:Y9 × Nat):Blk:=bU (uS p) (uU p) (uK p) (uN p) (uV p) (uA p 0) (uA p 1) (uA p 2) (uA p 3) (uA p 4) (uA p 5) (uA p 6) (uA p 7) (uP p) (uR p)
end
section
open Go Go.Proofs
set_option maxRecDepth 100000
section
def GL:List PV->Tr
 | [.s (.str s)]=>.ret (.s (.int .i64 (M0 s))) []
 | _=>.fail
def DW(args:List PV):Tr:=GL (B8 [[0]] args)
def GM:List PV->Tr
 | [.s (.str s)]=>.ret (.s (.bool (F4 s))) []
 | _=>.fail
def Py(args:List PV):Tr:=GM (B8 [[0]] args)
def Dl3:List PV->Tr
 | [.agg [.s (.str a),.s (.str n),.s (.int .i64 j),.s (.str k),.s (.int .u32 v4),.s (.int .u16 b),.s (.int .u16 c),.s (.int .u16 d),.s (.int .u16 e),.s (.int .u16 f),.s (.int .u16 g),.s (.int .u16 h),.s (.int .u16 i),.s (.int .i64 l),.s (.str m)]]=>.ret (.s (.bool (Dj3 a))) []
 | _=>.fail
def SH:List PV->Tr
 | [.agg [.s (.str b),.s (.str n),.s (.int .i64 k),.s (.str l),.s (.int .u32 v4),.s (.int .u16 c),.s (.int .u16 d),.s (.int .u16 e),.s (.int .u16 f),.s (.int .u16 g),.s (.int .u16 h),.s (.int .u16 i),.s (.int .u16 j),.s (.int .i64 a),.s (.str m)]]=>.ret (.s (.int .i64 (prt b a))) []
 | _=>.fail
def Ao3(args:List PV):Tr:=SH (B8 [[0,0,0,0,0,0,0,0,0,0,0,0,0,0,0]] args)
def SJ:List PV->Tr
 | [.s (.str s)]=>.need (A3 (b8 s)) (.ret (.s (.bool (W0 s))) [])
 | _=>.fail
def B55(args:List PV):Tr:=SJ (B8 [[0]] args)
def SE:List PV->Tr
 | [.s (.str s)]=>.need (A3 (b8 s)) (.ret (.tup [.s (.int .i64 (DP s)),.s (.bool (ah5 (Jd ((-1):Int) s)))]) [])
 | _=>.fail
def B53(args:List PV):Tr:=SE (B8 [[0]] args)
def Zb:List PV->Tr
 | [.agg [.s (.str c),.s (.str e),.s (.int .i64 n),.s (.str o),.s (.int .u32 v4),.s (.int .u16 f),.s (.int .u16 g),.s (.int .u16 h),.s (.int .u16 i),.s (.int .u16 j),.s (.int .u16 k),.s (.int .u16 l),.s (.int .u16 m),.s (.int .i64 d),.s (.str b)],.s (.str a)]=>.need (A3 (b8 c)) (.need (A3 (b8 b)) (.need (A3 (b8 a)) (.need (List.isEmpty e) (.need (d==((-1):Int)) (.ret (.tup [.agg [.s (.str (uS (H4 c b a))),.s (.str (uU (H4 c b a))),.s (.int .i64 (uK (H4 c b a))),.s (.str (uN (H4 c b a))),.s (.int .u32 (uV (H4 c b a))),.s (.int .u16 (uA (H4 c b a) 0)),.s (.int .u16 (uA (H4 c b a) 1)),.s (.int .u16 (uA (H4 c b a) 2)),.s (.int .u16 (uA (H4 c b a) 3)),.s (.int .u16 (uA (H4 c b a) 4)),.s (.int .u16 (uA (H4 c b a) 5)),.s (.int .u16 (uA (H4 c b a) 6)),.s (.int .u16 (uA (H4 c b a) 7)),.s (.int .i64 (uP (H4 c b a))),.s (.str (uR (H4 c b a)))],.s (.int .i64 (uE (H4 c b a)))]) [])))))
 | _=>.fail
def YF(args:List PV):Tr:=Zb (B8 [[0,0,0,0,0,0,0,0,0,0,0,0,0,0,0],[0]] args)
def SG:List PV->Tr
 | [.s (.str s)]=>.need (A3 (b8 s)) (.ret (.tup [.agg [.s (.str (uS (B9 s))),.s (.str (uU (B9 s))),.s (.int .i64 (uK (B9 s))),.s (.str (uN (B9 s))),.s (.int .u32 (uV (B9 s))),.s (.int .u16 (uA (B9 s) 0)),.s (.int .u16 (uA (B9 s) 1)),.s (.int .u16 (uA (B9 s) 2)),.s (.int .u16 (uA (B9 s) 3)),.s (.int .u16 (uA (B9 s) 4)),.s (.int .u16 (uA (B9 s) 5)),.s (.int .u16 (uA (B9 s) 6)),.s (.int .u16 (uA (B9 s) 7)),.s (.int .i64 (uP (B9 s))),.s (.str (uR (B9 s)))],.s (.int .i64 (uE (B9 s)))]) [])
 | _=>.fail
def B54(args:List PV):Tr:=SG (B8 [[0]] args)
def GN:List PV->Tr
 | [.agg [.s (.str l),.s (.str m),.s (.int .i64 n),.s (.str i),.s (.int .u32 v4),.s (.int .u16 a),.s (.int .u16 b),.s (.int .u16 c),.s (.int .u16 d),.s (.int .u16 e),.s (.int .u16 f),.s (.int .u16 g),.s (.int .u16 h),.s (.int .i64 j),.s (.str k)]]=>.need (smU l m i k) (.need (ltN v4 4294967296) (.need (ok8 a b c d e f g h) (.need (V4 j) (.ret (.s (.str (Bg (mkU l m n i v4 (n8 a b c d e f g h) j k)))) []))))
 | _=>.fail
def Bf4(args:List PV):Tr:=GN (B8 [[0,0,0,0,0,0,0,0,0,0,0,0,0,0,0]] args)
def Si:List PV->Tr
 | [.agg [.s (.str l),.s (.str m),.s (.int .i64 n),.s (.str i),.s (.int .u32 v4),.s (.int .u16 a),.s (.int .u16 b),.s (.int .u16 c),.s (.int .u16 d),.s (.int .u16 e),.s (.int .u16 f),.s (.int .u16 g),.s (.int .u16 h),.s (.int .i64 j),.s (.str k)]]=>.need (smU l m i k) (.need (ltN v4 4294967296) (.need (ok8 a b c d e f g h) (.need (V4 j) (.ret (.s (.bool (X8 (mkU l m n i v4 (n8 a b c d e f g h) j k)))) []))))
 | _=>.fail
def Zd(args:List PV):Tr:=Si (B8 [[0,0,0,0,0,0,0,0,0,0,0,0,0,0,0]] args)
def Yv:List PV->Tr
 | [.s (.str s)]=>.ret (.s (.bool (F4 s))) []
 | _=>.fail
def Ur(args:List PV):Tr:=Yv (B8 [[0]] args)
def GF:List PV->Tr
 | [.s (.str s)]=>.ret (.s (.int .i64 (M0 s))) []
 | _=>.fail
def RN(args:List PV):Tr:=GF (B8 [[0]] args)
def GB:List PV->Tr
 | [.s (.str s),.s (.str t)]=>.need (A3 (b8 s)) (.need (A3 (b8 t)) (.ret (.s (.int .i64 (↑(Q0 s t):Int))) []))
 | _=>.fail
def Bf0(args:List PV):Tr:=GB (B8 [[0],[0]] args)
def GE:List PV->Tr
 | [.s (.str s)]=>.need (A3 (b8 s)) (.ret (.tup [.s (.str ((Dc s)).1),.s (.str (((Dc s)).2).1),.s (.bool (((Dc s)).2).2)]) [])
 | _=>.fail
def Bf2(args:List PV):Tr:=GE (B8 [[0]] args)
def GC:List PV->Tr
 | [.s (.str s)]=>.need (A3 (b8 s)) (.ret (.tup [.agg [.s (.str (uS (B9 s))),.s (.str (uU (B9 s))),.s (.int .i64 (uK (B9 s))),.s (.str (uN (B9 s))),.s (.int .u32 (uV (B9 s))),.s (.int .u16 (uA (B9 s) 0)),.s (.int .u16 (uA (B9 s) 1)),.s (.int .u16 (uA (B9 s) 2)),.s (.int .u16 (uA (B9 s) 3)),.s (.int .u16 (uA (B9 s) 4)),.s (.int .u16 (uA (B9 s) 5)),.s (.int .u16 (uA (B9 s) 6)),.s (.int .u16 (uA (B9 s) 7)),.s (.int .i64 (uP (B9 s))),.s (.str (uR (B9 s)))],.s (.int .i64 (uE (B9 s)))]) [])
 | _=>.fail
def RM(args:List PV):Tr:=GC (B8 [[0]] args)
def Sd:List PV->Tr
 | [.s (.str s)]=>.need (A3 (b8 s)) (.ret (.tup [.agg [.s (.str (uS (V5 s))),.s (.str (uU (V5 s))),.s (.int .i64 (uK (V5 s))),.s (.str (uN (V5 s))),.s (.int .u32 (uV (V5 s))),.s (.int .u16 (uA (V5 s) 0)),.s (.int .u16 (uA (V5 s) 1)),.s (.int .u16 (uA (V5 s) 2)),.s (.int .u16 (uA (V5 s) 3)),.s (.int .u16 (uA (V5 s) 4)),.s (.int .u16 (uA (V5 s) 5)),.s (.int .u16 (uA (V5 s) 6)),.s (.int .u16 (uA (V5 s) 7)),.s (.int .i64 (uP (V5 s))),.s (.str (uR (V5 s)))],.s (.int .i64 (uE (V5 s)))]) [])
 | _=>.fail
def Yu(args:List PV):Tr:=Sd (B8 [[0]] args)
def Yw:List PV->Tr
 | [.agg [.s (.str l),.s (.str m),.s (.int .i64 n),.s (.str i),.s (.int .u32 v4),.s (.int .u16 a),.s (.int .u16 b),.s (.int .u16 c),.s (.int .u16 d),.s (.int .u16 e),.s (.int .u16 f),.s (.int .u16 g),.s (.int .u16 h),.s (.int .i64 j),.s (.str k)]]=>.need (smU l m i k) (.need (ltN v4 4294967296) (.need (ok8 a b c d e f g h) (.need (V4 j) (.ret (.s (.str (Hn (mkU l m n i v4 (n8 a b c d e f g h) j k)))) []))))
 | _=>.fail
def YA(args:List PV):Tr:=Yw (B8 [[0,0,0,0,0,0,0,0,0,0,0,0,0,0,0]] args)
def Nw:List PV->Tr
 | [.agg [.s (.str l),.s (.str m),.s (.int .i64 n),.s (.str i),.s (.int .u32 v4),.s (.int .u16 a),.s (.int .u16 b),.s (.int .u16 c),.s (.int .u16 d),.s (.int .u16 e),.s (.int .u16 f),.s (.int .u16 g),.s (.int .u16 h),.s (.int .i64 j),.s (.str k)]]=>.need (smU l m i k) (.need (ltN v4 4294967296) (.need (ok8 a b c d e f g h) (.need (V4 j) (.ret (.s (.bool (X8 (mkU l m n i v4 (n8 a b c d e f g h) j k)))) []))))
 | _=>.fail
def Se(args:List PV):Tr:=Nw (B8 [[0,0,0,0,0,0,0,0,0,0,0,0,0,0,0]] args)
def GD:List PV->Tr
 | [.agg [.s (.str b),.s (.str n),.s (.int .i64 k),.s (.str l),.s (.int .u32 v4),.s (.int .u16 c),.s (.int .u16 d),.s (.int .u16 e),.s (.int .u16 f),.s (.int .u16 g),.s (.int .u16 h),.s (.int .u16 i),.s (.int .u16 j),.s (.int .i64 a),.s (.str m)]]=>.ret (.s (.int .i64 (prt b a))) []
 | _=>.fail
def Bf1(args:List PV):Tr:=GD (B8 [[0,0,0,0,0,0,0,0,0,0,0,0,0,0,0]] args)
def XU:List PV->Tr
 | [.s (.int .i64 n)]=>.need (ltN n 9223372036854775808) (.ret (.s (.str (ab7 (ah7 n)))) [])
 | _=>.fail
def ET(args:List PV):Tr:=XU (B8 [[0]] args)
def EZ:List PV->Tr
 | [.s (.int .i64 n)]=>.need (V4 n) (.ret (.s (.str (Cc n))) [])
 | _=>.fail
def QE(args:List PV):Tr:=EZ (B8 [[0]] args)
def GH:List PV->Tr
 | [.s (.str s),.s (.int .u8 c)]=>.need (A3 (b8 s)) (.need (inR c 256) (.ret (.s (.int .i64 (k9 s (u8n c)))) []))
 | _=>.fail
def Ut(args:List PV):Tr:=GH (B8 [[0],[0]] args)
def FH:List PV->Tr
 | [.s (.str s),.s (.str p)]=>.need (A3 (b8 s)) (.ret (.s (.str (Gi s p))) [])
 | _=>.fail
def Bd8(args:List PV):Tr:=FH (B8 [[0],[0]] args)
def SD:List PV->Tr
 | [.s (.str s),.s (.str p)]=>.need (A3 (b8 s)) (.ret (.s (.str (Gi s p))) [])
 | _=>.fail
def B51(args:List PV):Tr:=SD (B8 [[0],[0]] args)
def YB:List PV->Tr
 | [.s (.str s),.s (.str p)]=>.need (A3 (b8 s)) (.need (AL p) (.ret (.s (.int .i64 (aa5 s p))) []))
 | _=>.fail
def RX(args:List PV):Tr:=YB (B8 [[0],[0]] args)
def Yk:List PV->Tr
 | [.agg [.s (.str c),.s (.str d),.s (.int .i64 m),.s (.str a),.s (.int .u32 v4),.s (.int .u16 e),.s (.int .u16 f),.s (.int .u16 g),.s (.int .u16 h),.s (.int .u16 i),.s (.int .u16 j),.s (.int .u16 k),.s (.int .u16 l),.s (.int .i64 n),.s (.str b)]]=>.ret (.s (.bool (BE c d a b))) []
 | _=>.fail
def FC(args:List PV):Tr:=Yk (B8 [[0,0,0,0,0,0,0,0,0,0,0,0,0,0,0]] args)
def Pw:List PV->Tr
 | [.s (.str s),.s (.str p)]=>.need (A3 (b8 s)) (.need (AL p) (.need (x7 9 (b8 s)) (.ret (.s (.int .i64 (aa5 s p))) [])))
 | _=>.fail
def YC(args:List PV):Tr:=Pw (B8 [[0],[0]] args)
def Px:List PV->Tr
 | [.s (.str s),.s (.str p)]=>.need (AL p) (.need (x7 (b8 s) 8) (.ret (.s (.int .i64 (aa5 s p))) []))
 | _=>.fail
def YD(args:List PV):Tr:=Px (B8 [[0],[0]] args)
def Sf:List PV->Tr
 | [.s (.int .i64 n)]=>.ret (.s (.bool (ltI (8:Int) n))) []
 | _=>.fail
def Yy(args:List PV):Tr:=Sf (B8 [[0]] args)
def Yx:List PV->Tr
 | [.s (.str p),.s (.int .i32 r)]=>.need (AL p) (.need (ltN r 1114112) (.ret (.s (.int .i64 (irn r))) []))
 | _=>.fail
def GI(args:List PV):Tr:=Yx (B8 [[0],[0]] args)
def ML:List PV->Tr
 | [.s (.str s)]=>.fail
 | _=>.fail
def Nx(args:List PV):Tr:=ML (B8 [[0]] args)
def Ze:List PV->Tr
 | [.s (.int .i32 r)]=>.ret (.s (.bool (KV r))) []
 | _=>.fail
def GO(args:List PV):Tr:=Ze (B8 [[0]] args)
end
section
variable {Z R : Type} (L : Nat) (Q : G0) (Y : Yh Z) (s : Z) (k : Out -> St Z -> Option R)
noncomputable def TE(L:Nat):Cfg:=B4 L [112] (A2 []) [(79,QI)] (A2 [(3,[4]),(2,[4]),(1,[0,0,5]),(0,[0,0])]) [79] (A2 []) (some [4]) [] [] []
noncomputable def Bi6{R:Type}(L:Nat)(b a:By)(d:By->Option R):Option R:=cond (A3 b.length) (cond (x5 a b) (cond (I1 (a.length:Int) (b.length:Int) b.length) (vl (cut b (a.length:Int) (b.length:Int)) λc=>d c) none) (d b)) none
theorem Cb2(d:Nat)(s0 prefix1):evC (TE L) (d+1) Z Y 112 [pS s0,pS prefix1] [] s=Bi6 L s0 prefix1 (λa=>some (pS a,[],s)):=by refine(evE (fn:=Tryz.f112) (by kernel_rfl)).trans ?_;generalize evC (TE L) d=Q;unfold Bi6;kernel_rfl
noncomputable def Ar7(L:Nat):Cfg:=B4 L [83] (A2 []) [(112,Bd8)] (A2 [(1,[4]),(0,[0,0])]) [112] (A2 []) (some [4]) [] [] []
noncomputable def C23{R:Type}(L:Nat)(b a:By)(c:By->Option R):Option R:=cond (A3 b.length) (c (Gi b a)) none
theorem C24(d:Nat)(s0 prefix1):evC (Ar7 L) (d+1) Z Y 83 [pS s0,pS prefix1] [] s=C23 L s0 prefix1 (λa=>some (pS a,[],s)):=by refine(evE (fn:=Tryz.f83) (by kernel_rfl)).trans ?_;generalize evC (Ar7 L) d=Q;unfold C23;kernel_rfl
noncomputable def TS(L:Nat):Cfg:=B4 L [44] (A2 []) [] (A2 [(8,[2]),(4,[2]),(7,[2]),(6,[7]),(5,[3,3]),(3,[3,0]),(2,[3,0]),(1,[3]),(0,[0])]) [] (A2 [(0,[])]) (some [2]) [] [] []
noncomputable def Bl6{R:Type}(L:Nat)(a:By)(b:Int->Option R):Option R:=cond (a==[104,116,116,112]) (cond (a==[104,116,116,112]) (b 80) (cond (a==[104,116,116,112,115]) (cond (a==[104,116,116,112,115]) (b 443) (b (-1))) (cond (a==[119,115,115]) (b 443) (b (-1))))) (cond (a==[119,115]) (b 80) (cond (a==[104,116,116,112,115]) (cond (a==[104,116,116,112,115]) (b 443) (b (-1))) (cond (a==[119,115,115]) (b 443) (b (-1)))))
theorem Ck2(d:Nat)(scheme0):evC (TS L) (d+1) Z Y 44 [pS scheme0] [] s=Bl6 L scheme0 (λa=>some (pI a,[],s)):=by refine(evE (fn:=Tryz.f44) (by kernel_rfl)).trans ?_;generalize evC (TS L) d=Q;unfold Bl6;kernel_rfl
noncomputable def TT(L:Nat):Cfg:=B4 L [22] (A2 []) [(44,DW)] (A2 [(1,[2]),(0,[0])]) [44] (A2 []) (some [2]) [] [] []
noncomputable def Bl7{R:Type}(L:Nat)(a:By)(b:Bool->Option R):Option R:=b (ltI 0 (M0 a))
theorem Ck6(d:Nat)(scheme0):evC (TT L) (d+1) Z Y 22 [pS scheme0] [] s=Bl7 L scheme0 (λa=>some (pB a,[],s)):=by refine(evE (fn:=Tryz.f22) (by kernel_rfl)).trans ?_;generalize evC (TT L) d=Q;unfold Bl7;kernel_rfl
noncomputable def Ar8(L:Nat):Cfg:=B4 L [26] (A2 []) [(44,DW)] (A2 [(3,[2]),(2,[2]),(1,[1,3]),(0,[1])]) [44] (A2 []) (some [2]) [] [] []
noncomputable def C30{R:Type}(L:Nat)(f h:By)(i:Int)(j:By)(l m n o u8 p b c d a:Int)(e:By)(g:Int->(List Blk)->Option R):Option R:=cond (a !=((-1):Int)) (g a [(bU f h i j l m n o u8 p b c d a e)]) (g (M0 f) [(bU f h i j l m n o u8 p b c d a e)])
theorem C31(d:Nat)(u0 u1 u2 u3 u4 u5 u6 u7 u8 u9 u10 u11 u12 u13 u14):evC (Ar8 L) (d+1) Z Y 26 [(gU u0 u1 u2 u3 u4 u5 u6 u7 u8 u9 u10 u11 u12 u13 u14)] [] s=C30 L u0 u1 u2 u3 u4 u5 u6 u7 u8 u9 u10 u11 u12 u13 u14 (λb a=>some (pI b,a,s)):=by refine(evE (fn:=Tryz.f26) (by kernel_rfl)).trans ?_;generalize evC (Ar8 L) d=Q;unfold C30;kernel_rfl
noncomputable abbrev Oe:Code:=C4 ag6
noncomputable def Z5(L:Nat):Cfg:=B4 L [55] (A2 [(2,[0,1,4,0])]) [(73,Ut)] (A2 [(9,[2]),(8,[0,6,0]),(7,[2]),(6,[0,6,0,29]),(5,[0,2,0,0,1,0]),(4,[0,2,0,2,0]),(3,[0,2,3,0]),(2,[0,6,0,0]),(1,[0,6,0]),(0,[0])]) [73] (A2 [(0,[0]),(1,[0,6,0])]) (some [2]) [] [] []
noncomputable def EP{R:Type}(d:By)(a c:Int)(b:By->Int->Int->Option R):Option R:=b d c a
abbrev BK(b:Code):Prop:=∀(k:Out->St Z->Option R) a i1 b2 n3,A9 (Z5 L) Q Y b ⟨gp [(0,pS a),(2,pI i1),(0,p8 b2),(0,pB true),(1,pI n3),(0,pI i1)] 33,[],s⟩ k=EP a i1 n3 (λa c d=>k .normal ⟨gp [(0,pS a),(6,pI c),(0,pI d),(29,pB false)] 3,[],s⟩)
theorem Bb4:BK (R:=R) L Q Y s (cd [1,0,1,0,0,1,1,0,0,1,1,1] Oe):=by intro k d b a c;unfold EP;kernel_rfl
noncomputable def Ff{R:Type}(h:By)(c d:Int)(a:Bool)(g:Int)(e:Unit->Option R)(f:By->Int->Int->Bool->Option R):Option R:=cond (not a) (cond (c==0) (e ()) (cond (inR d 256) (vl (k9 ([48,49,50,51,52,53,54,55,56,57,43,45,46]:List UInt8) (u8n d)) λb=>cond (ltI b 0) (e ()) (f h g c (ltI b 0))) none)) (f h g c false)
abbrev BL(b:Code):Prop:=∀(k:Out->St Z->Option R) a i1 b2 letter3 n4,A9 (Z5 L) Q Y b ⟨gp [(0,pS a),(2,pI i1),(0,p8 b2),(0,pB letter3),(1,pI n4),(0,pI i1)] 33,[],s⟩ k=Ff a i1 b2 letter3 n4 (λ_=>k .ret ⟨gp [(2,pB false)] 39,[],s⟩) (λa d e c=>k .normal ⟨gp [(0,pS a),(6,pI d),(0,pI e),(29,pB c)] 3,[],s⟩)
theorem Bb5:BL (R:=R) L Q Y s (cd [1,0,1,0,0,1,1,0,0,1,1,1] Oe):=by intro k e c b a d;unfold Ff;kernel_rfl
noncomputable def N1{R:Type}(L n:Nat)(b:By)(e a:Int)(c:Unit->Option R)(d:By->Option R):Option R:=match n with|0=>none|n+1=>cond (ltI a e) (cond (inR a b.length) (cond (not (ltI (bAt b a) (97:Int))) (cond (not (ltI 122 (bAt b a))) (EP b a e (λx r t=>N1 L n x r (A1 (t+1)) c d)) (cond (not (ltI (bAt b a) (65:Int))) (Ff b a (bAt b a) (not (ltI 90 (bAt b a))) e (λ_=>c ()) (λy u v D=>N1 L n y u (A1 (v+1)) c d)) (Ff b a (bAt b a) false e (λ_=>c ()) (λz w f A=>vl (A1 (f+1)) λg=>N1 L n z w g c d)))) (cond (not (ltI (bAt b a) (65:Int))) (Ff b a (bAt b a) (not (ltI 90 (bAt b a))) e (λ_=>c ()) (λp h i B=>vl (A1 (i+1)) λj=>N1 L n p h j c d)) (Ff b a (bAt b a) false e (λ_=>c ()) (λq l m C=>vl (A1 (m+1)) λo=>N1 L n q l o c d)))) none) (d b)
theorem Bb6(a:Code)(d:BK (R:=R) L Q Y s a)(b:BL (R:=R) L Q Y s a)(n:Nat)(c:By)(f e:Int):C5 0 ((Z5 L).keep 2) (bd (Z5 L) Q Y (cd [1,0,1,0,0] (G4 [1,0,1,0,0,1,1,0,0,1,1,1] a Oe))) n ⟨gp [(0,pS c),(6,pI f),(0,pI e)] 33,[],s⟩ k =
 N1 L n c f e (λ_=>k .ret ⟨gp [(2,pB false)] 39,[],s⟩) (λc=>k (.exit 0) ⟨gp [(0,pS c)] 41,[],s⟩):=by
 induction n generalizing c f e with
 | zero=>rfl
 | succ n h=>rw[N1];exact let g:=(E1 1 (E0 (Z5 L) Q Y (cd [1,0,1,0,0,1,1,1] Oe) (lpK 0 ((Z5 L).keep 2) (bd (Z5 L) Q Y (cd [1,0,1,0,0] (G4 [1,0,1,0,0,1,1,0,0,1,1,1] a Oe))) n k)));(c9 (by kernel_rfl) (A0 (A0 (A0 (A0 ((d g c e (bAt c e) f).trans (congr rfl (fx3 λx r t=>(c9 (by kernel_rfl) (h x r (A1 (t+1))))))) (A0 ((b g c e (bAt c e) (not (ltI 90 (bAt c e))) f).trans (congr (congr rfl (by kernel_rfl)) (fx4 λy u v H=>(c9 (by kernel_rfl) (h y u (A1 (v+1))))))) ((b g c e (bAt c e) false f).trans (congr (congr rfl (by kernel_rfl)) (fx4 λz w D A=>(c9 (by kernel_rfl) (A4 λi=>(h z w i)))))))) (A0 ((b g c e (bAt c e) (not (ltI 90 (bAt c e))) f).trans (congr (congr rfl (by kernel_rfl)) (fx4 λp j F B=>(c9 (by kernel_rfl) (A4 λl=>(h p j l)))))) ((b g c e (bAt c e) false f).trans (congr (congr rfl (by kernel_rfl)) (fx4 λq m G C=>(c9 (by kernel_rfl) (A4 λo=>(h q m o)))))))) rfl) rfl))
noncomputable def Ck5{R:Type}(L:Nat)(c:By)(b:Bool->Option R):Option R:=N1 L L c (c.length:Int) 0 (λ_=>b false) (λa=>b (not (a==[])))
theorem C33(a:Code)(b:BK (R:=PV × List Blk × Z) L Q Y s a)(c:BL (R:=PV × List Blk × Z) L Q Y s a)(d:By):A9 (Z5 L) Q Y (cd [] (G4 [1,0,1,0,0,1,1,0,0,1,1,1] a Oe)) ⟨[pS d]++tps 41,[],s⟩ (F1 (Z5 L) ag6)=Ck5 L d (λe=>some (pB e,[],s)):=by unfold Ck5;exact(c9 (by kernel_rfl) ((Bb6 L Q Y s (E1 0 (E0 (Z5 L) Q Y (cd [1,1] Oe) (F1 (Z5 L) ag6))) a b c L d (d.length:Int) 0).trans (by kernel_rfl)))
theorem C34(d:Nat)(s0):evC (Z5 L) (d+1) Z Y 55 [pS s0] [] s=Ck5 L s0 (λa=>some (pB a,[],s)):=
 (evE (fn:=ag6) (by kernel_rfl)).trans (c9 (by kernel_rfl) (C33 L (evC (Z5 L) d) Y s (cd [1,0,1,0,0,1,1,0,0,1,1,1] Oe) (Bb4 L (evC (Z5 L) d) Y s) (Bb5 L (evC (Z5 L) d) Y s) s0))
noncomputable abbrev B66:Code:=C4 ai9
noncomputable def Te(L:Nat):Cfg:=B4 L [82] (A2 [(3,[0,1,0,0,2,0])]) [] (A2 [(9,[2,0]),(8,[0,3,2,0]),(7,[0,3,2,0]),(6,[2,0]),(5,[0,3,0,1,0,11]),(4,[0,3,0,1,0]),(3,[0,3,2,0,0]),(2,[0,3,2,0]),(1,[0,3]),(0,[0])]) [] (A2 [(0,[4]),(1,[0,3,2,0])]) (some [2,0]) [] [] []
noncomputable def Mr{R:Type}(L n:Nat)(b:By)(h j a:Int)(d:Unit->Option R)(i:Int->Option R):Option R:=match n with|0=>none|n+1=>cond (ltI a j) (cond (inR a b.length) (cond (ltI (bAt b a) (48:Int)) (d ()) (cond (inR a b.length) (cond (ltI 57 (bAt b a)) (d ()) (vl (A1 ((10:Int)*(if ((0:Int) > h) then (0:Int) else h))) λe=>cond (inR a b.length) (vl (wu8 ((bAt b a)-48)) λf=>vl (A1 (e+(A1 f))) λc=>vl (if ((65536:Int)<c) then (65536:Int) else c) λg=>Mr L n b g j (A1 (a+1)) d i) none)) none)) none) (i h)
theorem Ba9(n s0 n1 n2 n3):C5 0 ((Te L).keep 3) (bd (Te L) Q Y (cd [1,1,0,1,0,0] B66)) n ⟨gp [(0,pS s0),(3,pI n1),(2,pI n2),(0,pI n3)] 26,[],s⟩ k =
 Mr L n s0 n1 n2 n3 (λ_=>k .ret ⟨gp [(2,pI (0:Int)),(0,pB false)] 31,[],s⟩) (λn0=>k (.exit 0) ⟨gp [(4,pI n0)] 30,[],s⟩):=by
 induction n generalizing s0 n1 n2 n3 with
 | zero=>rfl
 | succ n a=>rw[Mr];simp only[<-a];kernel_rfl
noncomputable def C26{R:Type}(L:Nat)(c:By)(b:Int->Bool->Option R):Option R:=Mr L L c (-1) (c.length:Int) 0 (λ_=>b 0 false) (λa=>b a (ltI a 65536))
theorem C27(d:Nat)(s0):evC (Te L) (d+1) Z Y 82 [pS s0] [] s=C26 L s0 (λa b=>some (.tup [pI a,pB b],[],s)):=by refine(evE (fn:=ai9) (by kernel_rfl)).trans ?_;generalize evC (Te L) d=Q;unfold C26;exact(c9 (by kernel_rfl) ((Ba9 L Q Y s (E1 0 (E0 (Te L) Q Y (cd [1,1,1] B66) (F1 (Te L) ai9))) L s0 (-1) (s0.length:Int) 0).trans (by kernel_rfl)))
noncomputable abbrev Bk:Code:=C4 ag8
noncomputable def W9(L:Nat):Cfg:=B4 L [60] (A2 []) [(80,DU),(59,EW),(73,Ut),(81,XW),(83,B51),(82,B53),(44,DW)] (A2 [(24,[4,0]),(23,[2,1]),(22,[2,1,8,71]),(21,[2,1,8]),(20,[4,0]),(19,[2,1,6,1,63]),(18,[2,1,6,1,0]),(17,[4,0]),(16,[2,1,3,2,0,54]),(15,[2,1,3,2,0]),(14,[4,0]),(13,[2,1,2,0,50]),(9,[2,1,2,0]),(8,[4,0]),(7,[1,0,1,4,23]),(6,[1,0,1,4]),(12,[2,1,2,0]),(11,[1,0,1,2,0,1,35]),(10,[1,0,1,2,0,1]),(5,[1,0,1,2,0,20]),(4,[1,0,1,2,0]),(3,[1,0,1]),(2,[1,0,1,1,11]),(1,[1,0,1,1]),(0,[1,0,1])]) [80,59,73,83,82,44] (A2 []) (some [4,0]) [] [] []
noncomputable def U9{R:Type}(d e g h:By)(q:Int)(u:By)(r n8 t i j l m n o f:Int)(c:By)(p:Int->Blk->By->By->Int->By->Int->Int->Int->Int->Int->Int->Int->Int->Int->Int->By->(List Blk)->Option R):Option R:=cond (A3 d.length) (vl (C7 d) λa=>cond ((↑(a).2:Int)!=0) (p (↑(a).2:Int) (bU g h q u r n8 t i j l m n o f c) ([]:List UInt8) ([]:List UInt8) 0 ([]:List UInt8) 0 0 0 0 0 0 0 0 0 0 ([]:List UInt8) [(bH (↑(B2.kind (a).1):Int) (B2.name (a).1) (↑(B2.v4 (a).1):Int) (↑(b9 (B2.v6 (a).1) 0 0):Int) (↑(b9 (B2.v6 (a).1) 1 0):Int) (↑(b9 (B2.v6 (a).1) 2 0):Int) (↑(b9 (B2.v6 (a).1) 3 0):Int) (↑(b9 (B2.v6 (a).1) 4 0):Int) (↑(b9 (B2.v6 (a).1) 5 0):Int) (↑(b9 (B2.v6 (a).1) 6 0):Int) (↑(b9 (B2.v6 (a).1) 7 0):Int))]) (cond (A3 e.length) (vl (Gi e ([58]:List UInt8)) λb=>cond (A3 b.length) (cond (not (ah5 (Jd ((-1):Int) b))) (p 16 (bU g h q u r n8 t i j l m n o f c) ([]:List UInt8) ([]:List UInt8) 0 ([]:List UInt8) 0 0 0 0 0 0 0 0 0 0 ([]:List UInt8) [(bH (↑(B2.kind (a).1):Int) (B2.name (a).1) (↑(B2.v4 (a).1):Int) (↑(b9 (B2.v6 (a).1) 0 0):Int) (↑(b9 (B2.v6 (a).1) 1 0):Int) (↑(b9 (B2.v6 (a).1) 2 0):Int) (↑(b9 (B2.v6 (a).1) 3 0):Int) (↑(b9 (B2.v6 (a).1) 4 0):Int) (↑(b9 (B2.v6 (a).1) 5 0):Int) (↑(b9 (B2.v6 (a).1) 6 0):Int) (↑(b9 (B2.v6 (a).1) 7 0):Int))]) (cond ((DP b)!=(M0 g)) (p 0 (bU g h (↑(B2.kind (a).1):Int) (B2.name (a).1) (↑(B2.v4 (a).1):Int) (↑(b9 (B2.v6 (a).1) 0 0):Int) (↑(b9 (B2.v6 (a).1) 1 0):Int) (↑(b9 (B2.v6 (a).1) 2 0):Int) (↑(b9 (B2.v6 (a).1) 3 0):Int) (↑(b9 (B2.v6 (a).1) 4 0):Int) (↑(b9 (B2.v6 (a).1) 5 0):Int) (↑(b9 (B2.v6 (a).1) 6 0):Int) (↑(b9 (B2.v6 (a).1) 7 0):Int) (DP b) c) g h (↑(B2.kind (a).1):Int) (B2.name (a).1) (↑(B2.v4 (a).1):Int) (↑(b9 (B2.v6 (a).1) 0 0):Int) (↑(b9 (B2.v6 (a).1) 1 0):Int) (↑(b9 (B2.v6 (a).1) 2 0):Int) (↑(b9 (B2.v6 (a).1) 3 0):Int) (↑(b9 (B2.v6 (a).1) 4 0):Int) (↑(b9 (B2.v6 (a).1) 5 0):Int) (↑(b9 (B2.v6 (a).1) 6 0):Int) (↑(b9 (B2.v6 (a).1) 7 0):Int) (DP b) c [(bH (↑(B2.kind (a).1):Int) (B2.name (a).1) (↑(B2.v4 (a).1):Int) (↑(b9 (B2.v6 (a).1) 0 0):Int) (↑(b9 (B2.v6 (a).1) 1 0):Int) (↑(b9 (B2.v6 (a).1) 2 0):Int) (↑(b9 (B2.v6 (a).1) 3 0):Int) (↑(b9 (B2.v6 (a).1) 4 0):Int) (↑(b9 (B2.v6 (a).1) 5 0):Int) (↑(b9 (B2.v6 (a).1) 6 0):Int) (↑(b9 (B2.v6 (a).1) 7 0):Int))]) (p 0 (bU g h (↑(B2.kind (a).1):Int) (B2.name (a).1) (↑(B2.v4 (a).1):Int) (↑(b9 (B2.v6 (a).1) 0 0):Int) (↑(b9 (B2.v6 (a).1) 1 0):Int) (↑(b9 (B2.v6 (a).1) 2 0):Int) (↑(b9 (B2.v6 (a).1) 3 0):Int) (↑(b9 (B2.v6 (a).1) 4 0):Int) (↑(b9 (B2.v6 (a).1) 5 0):Int) (↑(b9 (B2.v6 (a).1) 6 0):Int) (↑(b9 (B2.v6 (a).1) 7 0):Int) f c) g h (↑(B2.kind (a).1):Int) (B2.name (a).1) (↑(B2.v4 (a).1):Int) (↑(b9 (B2.v6 (a).1) 0 0):Int) (↑(b9 (B2.v6 (a).1) 1 0):Int) (↑(b9 (B2.v6 (a).1) 2 0):Int) (↑(b9 (B2.v6 (a).1) 3 0):Int) (↑(b9 (B2.v6 (a).1) 4 0):Int) (↑(b9 (B2.v6 (a).1) 5 0):Int) (↑(b9 (B2.v6 (a).1) 6 0):Int) (↑(b9 (B2.v6 (a).1) 7 0):Int) f c [(bH (↑(B2.kind (a).1):Int) (B2.name (a).1) (↑(B2.v4 (a).1):Int) (↑(b9 (B2.v6 (a).1) 0 0):Int) (↑(b9 (B2.v6 (a).1) 1 0):Int) (↑(b9 (B2.v6 (a).1) 2 0):Int) (↑(b9 (B2.v6 (a).1) 3 0):Int) (↑(b9 (B2.v6 (a).1) 4 0):Int) (↑(b9 (B2.v6 (a).1) 5 0):Int) (↑(b9 (B2.v6 (a).1) 6 0):Int) (↑(b9 (B2.v6 (a).1) 7 0):Int))]))) none) none)) none
abbrev Pl(b:Code):Prop:=∀(k:Out->St Z->Option R) name0 tail1 b2 j s4 n5 s6 h n8 i a c d e f g n16 s17,A9 (W9 L) Q Y b ⟨gp [(2,.ptr 0 0 0),(1,.ptr 1 0 0),(2,pS name0),(0,pS tail1),(50,pB b2)] 29,[(bU j s4 n5 s6 h n8 i a c d e f g n16 s17),bU0],s⟩ k=U9 name0 tail1 j s4 n5 s6 h n8 i a c d e f g n16 s17 (λn0 n q j o r p h n8 i a c d e f g m l=>k .ret ⟨gp [(4,.ptr 1 0 0),(0,pI n0)] 83,(n::(bU q j o r p h n8 i a c d e f g m)::l),s⟩)
theorem Xv:Pl (R:=R) L Q Y s (cd [1,1,1,1,1] Bk):=by intro k a b l p q m r n n8 o c d e f g h i j;unfold U9;kernel_rfl
noncomputable def P5{R:Type}(b a s2 s3:By)(n4:Int)(s5:By)(n6 n7 n8 n9 c d e f g h:Int)(i:By)(k0:Int->Blk->By->By->Int->By->Int->Int->Int->Int->Int->Int->Int->Int->Int->Int->By->(List Blk)->Option R):Option R:=cond (not (a==[])) (cond (inR 0 a.length) (cond ((bAt a (0:Int))!=58) (k0 4 (bU s2 s3 n4 s5 n6 n7 n8 n9 c d e f g h i) ([]:List UInt8) ([]:List UInt8) 0 ([]:List UInt8) 0 0 0 0 0 0 0 0 0 0 ([]:List UInt8) []) (U9 b a s2 s3 n4 s5 n6 n7 n8 n9 c d e f g h i (λo j P S p T q r t u v w x y z A U m=>k0 o j P S p T q r t u v w x y z A U m))) none) (U9 b a s2 s3 n4 s5 n6 n7 n8 n9 c d e f g h i (λB l V W C X D F G H I J K M N O a0 n=>k0 B l V W C X D F G H I J K M N O a0 n))
abbrev Pm(b:Code):Prop:=∀(k:Out->St Z->Option R) name0 tail1 n o i p j l n8 m a c d e f g h,A9 (W9 L) Q Y b ⟨gp [(2,.ptr 0 0 0),(1,.ptr 1 0 0),(2,pS name0),(0,pS tail1)] 80,[(bU n o i p j l n8 m a c d e f g h),bU0],s⟩ k=P5 name0 tail1 n o i p j l n8 m a c d e f g h (λn0 r n o i p j l n8 m a c d e f g h q=>k .ret ⟨gp [(4,.ptr 1 0 0),(0,pI n0)] 83,(r::(bU n o i p j l n8 m a c d e f g h)::q),s⟩)
theorem XB(b:Code)(a:Pl (R:=R) L Q Y s b):Pm (R:=R) L Q Y s (cd [1,1,1,1] (G4 [1,1,1,1,1] b Bk)):=by intro k d c q r m t n o n8 p e f g h i j l;unfold P5;exact(c9 (by kernel_rfl) (A0 (A0 (A0 rfl ((a k d c ((bAt c (0:Int))!=58) q r m t n o n8 p e f g h i j l).trans (by kernel_rfl))) rfl) ((a k d c false q r m t n o n8 p e f g h i j l).trans (by kernel_rfl))))
theorem XC:Pm (R:=R) L Q Y s (cd [1,1,1,1] Bk):=by intro k a b o p j q l m n8 n c d e f g h i;exact c9 (by kernel_rfl) (XB L Q Y s (cd [1,1,1,1,1] Bk) (Xv L Q Y s) k a b o p j q l m n8 n c d e f g h i)
noncomputable def Ra{R:Type}(a I J:By)(F:Int)(K:By)(G n8 H v w x y z A B:Int)(C:By)(D:Int->Blk->By->By->Int->By->Int->Int->Int->Int->Int->Int->Int->Int->Int->Int->By->(List Blk)->Option R):Option R:=U9 a ([]:List UInt8) I J F K G n8 H v w x y z A B C (λd b q r e t f g h i j l m n o p u c=>D d b q r e t f g h i j l m n o p u c)
abbrev Pn(b:Code):Prop:=∀(k:Out->St Z->Option R) authority0 kk1 b2 j s4 n5 s6 h n8 i a c d e f g n16 s17,A9 (W9 L) Q Y b ⟨gp [(1,pS authority0),(0,.ptr 0 0 0),(1,.ptr 1 0 0),(2,pS authority0),(0,pS ([]:List UInt8)),(1,pI kk1),(35,pB b2)] 42,[(bU j s4 n5 s6 h n8 i a c d e f g n16 s17),bU0],s⟩ k=Ra authority0 j s4 n5 s6 h n8 i a c d e f g n16 s17 (λn0 n q j o r p h n8 i a c d e f g m l=>k .ret ⟨gp [(4,.ptr 1 0 0),(0,pI n0)] 83,(n::(bU q j o r p h n8 i a c d e f g m)::l),s⟩)
theorem XD(c:Code)(a:Pl (R:=R) L Q Y s c):Pn (R:=R) L Q Y s (cd [1,1,1,1] (G4 [1,1,1,1,1] c Bk)):=by intro k b m u q r n t o n8 p d e f g h i j l;unfold Ra;exact(c9 (by kernel_rfl) ((a k b ([]:List UInt8) false q r n t o n8 p d e f g h i j l).trans (by kernel_rfl)))
theorem XE:Pn (R:=R) L Q Y s (cd [1,1,1,1] Bk):=by intro k a b l p q m r n n8 o c d e f g h i j;exact c9 (by kernel_rfl) (XD L Q Y s (cd [1,1,1,1,1] Bk) (Xv L Q Y s) k a b l p q m r n n8 o c d e f g h i j)
noncomputable def Uj{R:Type}(L:Nat)(u0 u1:By)(u2:Int)(u3:By)(u4 u5 u6 u7 u8 u9 e f g h:Int)(i a:By)(k0:By->By->Int->By->Int->Int->Int->Int->Int->Int->Int->Int->Int->Int->By->Int->(List Blk)->Option R):Option R:=cond (A3 a.length) (vl (L1 (u8n (64:Int)) a) λc5=>cond (not (ltI c5 0)) (cond (I1 0 c5 a.length) (vl (cut a 0 c5) λe8=>cond (I1 (A1 (c5+1)) (a.length:Int) a.length) (vl (cut a (A1 (c5+1)) (a.length:Int)) λb=>cond (A3 b.length) (cond (x5 ([91]:List UInt8) b) (cond (A3 b.length) (vl (k9 b (u8n (93:Int))) λJ=>cond (ltI J 0) (k0 ([]:List UInt8) ([]:List UInt8) 0 ([]:List UInt8) 0 0 0 0 0 0 0 0 0 0 ([]:List UInt8) 4 [(bU u0 e8 u2 u3 u4 u5 u6 u7 u8 u9 e f g h i),bU0]) (vl (A1 (J+1)) λe9=>cond (I1 0 e9 b.length) (vl (A1 (J+1)) λf0=>cond (I1 f0 (b.length:Int) b.length) (vl (cut b f0 (b.length:Int)) λi6=>P5 (cut b 0 e9) i6 u0 e8 u2 u3 u4 u5 u6 u7 u8 u9 e f g h i (λi5 i4 g4 g5 f3 g6 f4 f5 f6 f7 f8 f9 g0 g1 g2 g3 g7 h3=>k0 g4 g5 f3 g6 f4 f5 f6 f7 f8 f9 g0 g1 g2 g3 g7 i5 (i4::((bU g4 g5 f3 g6 f4 f5 f6 f7 f8 f9 g0 g1 g2 g3 g7)::h3)))) none) none)) none) (cond (A3 b.length) (vl (k9 b (u8n (58:Int))) λc=>cond (not (ltI c 0)) (cond (I1 0 c b.length) (cond (I1 c (b.length:Int) b.length) (vl (cut b c (b.length:Int)) λi7=>P5 (cut b 0 c) i7 u0 e8 u2 u3 u4 u5 u6 u7 u8 u9 e f g h i (λh9 g8 c6 c7 j c8 l m n o p q r t u v d0 h4=>k0 c6 c7 j c8 l m n o p q r t u v d0 h9 (g8::((bU c6 c7 j c8 l m n o p q r t u v d0)::h4)))) none) none) (Ra b u0 e8 u2 u3 u4 u5 u6 u7 u8 u9 e f g h i (λi0 g9 d1 d2 w d3 x y z A B C D F G H d4 h5=>k0 d1 d2 w d3 x y z A B C D F G H d4 i0 (g9::((bU d1 d2 w d3 x y z A B C D F G H d4)::h5))))) none)) none) none) none) (cond (A3 a.length) (cond (x5 ([91]:List UInt8) a) (cond (A3 a.length) (vl (k9 a (u8n (93:Int))) λc4=>cond (ltI c4 0) (k0 ([]:List UInt8) ([]:List UInt8) 0 ([]:List UInt8) 0 0 0 0 0 0 0 0 0 0 ([]:List UInt8) 4 [(bU u0 u1 u2 u3 u4 u5 u6 u7 u8 u9 e f g h i),bU0]) (vl (A1 (c4+1)) λf1=>cond (I1 0 f1 a.length) (vl (cut a 0 f1) λi9=>vl (A1 (c4+1)) λf2=>cond (I1 f2 (a.length:Int) a.length) (vl (cut a f2 (a.length:Int)) λj3=>P5 i9 j3 u0 u1 u2 u3 u4 u5 u6 u7 u8 u9 e f g h i (λi1 h0 d5 d6 I d7 K M N O P S T U V W d8 h6=>k0 d5 d6 I d7 K M N O P S T U V W d8 i1 (h0::((bU d5 d6 I d7 K M N O P S T U V W d8)::h6)))) none) none)) none) (cond (A3 a.length) (vl (k9 a (u8n (58:Int))) λd=>cond (not (ltI d 0)) (cond (I1 0 d a.length) (vl (cut a 0 d) λk1=>cond (I1 d (a.length:Int) a.length) (vl (cut a d (a.length:Int)) λk2=>P5 k1 k2 u0 u1 u2 u3 u4 u5 u6 u7 u8 u9 e f g h i (λi2 h1 d9 e1 X e2 a0 a1 a2 a3 a4 a5 a6 a7 a9 b0 e3 h7=>k0 d9 e1 X e2 a0 a1 a2 a3 a4 a5 a6 a7 a9 b0 e3 i2 (h1::((bU d9 e1 X e2 a0 a1 a2 a3 a4 a5 a6 a7 a9 b0 e3)::h7)))) none) none) (Ra a u0 u1 u2 u3 u4 u5 u6 u7 u8 u9 e f g h i (λi3 h2 e4 e5 b1 e6 b2 b3 b4 b5 b6 b7 c0 c1 c2 c3 e7 h8=>k0 e4 e5 b1 e6 b2 b3 b4 b5 b6 b7 c0 c1 c2 c3 e7 i3 (h2::((bU e4 e5 b1 e6 b2 b3 b4 b5 b6 b7 c0 c1 c2 c3 e7)::h8))))) none)) none)) none
theorem B03(d:Code)(a:Pm (R:=PV × List Blk × Z) L Q Y s d)(c:Pn (R:=PV × List Blk × Z) L Q Y s d)(m G:By)(n:Int)(o:By)(p q r t u8 u e f g h:Int)(i b:By):A9 (W9 L) Q Y (cd [] (G4 [1,1,1,1] d Bk)) ⟨[(gU m G n o p q r t u8 u e f g h i),pS b]++tps 87,[],s⟩ (F1 (W9 L) ag8)=Uj L m G n o p q r t u8 u e f g h i b (λX r1 r2 r3 r4 r5 r6 r7 r8 r9 I J K M N O H=>some (.tup [(gU X r1 r2 r3 r4 r5 r6 r7 r8 r9 I J K M N),pI O],H,s)):=by unfold Uj;exact let x:=(F1 (W9 L) ag8);(c9 (by kernel_rfl) (A0 (A4 λW=>(A0 (A0 (A4 λv=>(A0 (A4 λw=>(A0 (A0 (A0 (A4 λP=>(A0 rfl (A4 λy=>(A0 (A4 λS=>(A0 (A4 λz=>((a x (cut w 0 y) z m v n o p q r t u8 u e f g h i).trans (by kernel_rfl))) rfl)) rfl)))) rfl) (A0 (A4 λj=>(A0 (A0 (A0 (A4 λA=>((a x (cut w 0 j) A m v n o p q r t u8 u e f g h i).trans (by kernel_rfl))) rfl) rfl) ((c x w j (not (ltI j 0)) m v n o p q r t u8 u e f g h i).trans (by kernel_rfl)))) rfl)) rfl)) rfl)) rfl) (A0 (A0 (A0 (A4 λT=>(A0 rfl (A4 λU=>(A0 (A4 λB=>(A4 λV=>(A0 (A4 λC=>((a x B C m G n o p q r t u8 u e f g h i).trans (by kernel_rfl))) rfl))) rfl)))) rfl) (A0 (A4 λl=>(A0 (A0 (A4 λD=>(A0 (A4 λF=>((a x D F m G n o p q r t u8 u e f g h i).trans (by kernel_rfl))) rfl)) rfl) ((c x b l (not (ltI l 0)) m G n o p q r t u8 u e f g h i).trans (by kernel_rfl)))) rfl)) rfl))) rfl))
theorem B04(d:Nat)(u0 u1 u2 u3 u4 u5 u6 u7 u8 u9 u10 u11 u12 u13 u14 authority15):evC (W9 L) (d+1) Z Y 60 [(gU u0 u1 u2 u3 u4 u5 u6 u7 u8 u9 u10 u11 u12 u13 u14),pS authority15] [] s=Uj L u0 u1 u2 u3 u4 u5 u6 u7 u8 u9 u10 u11 u12 u13 u14 authority15 (λi j l m n o p q r8 r b c e f g h a=>some (.tup [(gU i j l m n o p q r8 r b c e f g),pI h],a,s)):=
 (evE (fn:=ag8) (by kernel_rfl)).trans (c9 (by kernel_rfl) (B03 L (evC (W9 L) d) Y s (cd [1,1,1,1] Bk) (XC L (evC (W9 L) d) Y s) (XE L (evC (W9 L) d) Y s) u0 u1 u2 u3 u4 u5 u6 u7 u8 u9 u10 u11 u12 u13 u14 authority15))
noncomputable abbrev B67:Code:=C4 ai7
noncomputable def Tf(L:Nat):Cfg:=B4 L [40] (A2 [(2,[0,1,0,8,0])]) [(54,Ao1),(55,B55),(56,Am5),(22,Py),(57,Al9),(58,RX),(59,EW),(60,YF)] (A2 [(23,[2,0]),(22,[2,5,0]),(21,[2,5,0,65]),(20,[2,5,0]),(19,[2,3,1,0]),(18,[2,3,1,0,0,52]),(17,[2,3,1,0,0]),(16,[2,3,1,0]),(15,[2,0]),(14,[2,3,1,48]),(13,[2,3,0,0]),(12,[2,0]),(11,[2,3,1,40]),(10,[2,3,1]),(9,[2,0]),(8,[2,2,0,33]),(7,[2,2,0,0]),(6,[0,1,9,0]),(5,[2,0]),(4,[0,1,9,0,11]),(3,[0,1,1,7,0]),(2,[0,1,9,0,0]),(1,[0,1,9,0]),(0,[0,1])]) [54,55,56,22,57,58,59] (A2 [(0,[0,1]),(1,[0,1,9,0])]) (some [2,0]) [] [] []
noncomputable def Ir{R:Type}(L n:Nat)(b:By)(e a:Int)(c:(List Blk)->Option R)(d:By->Option R):Option R:=match n with|0=>none|n+1=>cond (ltI a e) (cond (inR a b.length) (cond (not (ltI 32 (bAt b a))) (c []) (cond (inR a b.length) (cond ((bAt b a)==127) (c []) (Ir L n b e (A1 (a+1)) c d)) none)) none) (d b)
theorem Bb3(n a n1 n2):C5 1 ((Tf L).keep 2) (bd (Tf L) Q Y (cd [1,0,1,0,0] B67)) n ⟨gp [(0,pS a),(1,.ptr 0 0 0),(9,pI n1),(0,pI n2)] 71,[bU0],s⟩ k =
 Ir L n a n1 n2 (λb=>k .ret ⟨gp [(2,.ptr 0 0 0),(0,pI (4:Int))] 81,(bU0::b),s⟩) (λa=>k (.exit 0) ⟨gp [(0,pS a),(1,.ptr 0 0 0)] 82,[bU0],s⟩):=by
 induction n generalizing a n1 n2 with
 | zero=>rfl
 | succ n c=>rw[Ir];simp only[<-c];kernel_rfl
noncomputable def MG{R:Type}(L:Nat)(q:By)(n:By->By->Int->By->Int->Int->Int->Int->Int->Int->Int->Int->Int->Int->By->Int->(List Blk)->Option R):Option R:=Ir L L q (q.length:Int) 0 (λp=>n ([]:List UInt8) ([]:List UInt8) 0 ([]:List UInt8) 0 0 0 0 0 0 0 0 0 0 ([]:List UInt8) 4 (bU0::p)) (λo=>cond (A3 o.length) (vl ((v8 o ([58]:List UInt8))).1 λf=>vl (((v8 o ([58]:List UInt8))).2).1 λj=>cond (not (((v8 o ([58]:List UInt8))).2).2) (n ([]:List UInt8) ([]:List UInt8) 0 ([]:List UInt8) 0 0 0 0 0 0 0 0 0 0 ([]:List UInt8) 15 [bU0]) (cond (A3 f.length) (cond (not (W0 f)) (n ([]:List UInt8) ([]:List UInt8) 0 ([]:List UInt8) 0 0 0 0 0 0 0 0 0 0 ([]:List UInt8) 15 [bU0]) (cond (A3 f.length) (cond (not (F4 (B6 f))) (n (B6 f) ([]:List UInt8) 0 ([]:List UInt8) 0 0 0 0 0 0 0 0 0 (-1) j 0 [(bU (B6 f) ([]:List UInt8) (0:Int) ([]:List UInt8) (0:Int) (0:Int) (0:Int) (0:Int) (0:Int) (0:Int) (0:Int) (0:Int) (0:Int) ((-1):Int) j),(bU (B6 f) ([]:List UInt8) (0:Int) ([]:List UInt8) (0:Int) (0:Int) (0:Int) (0:Int) (0:Int) (0:Int) (0:Int) (0:Int) (0:Int) ((-1):Int) j)]) (cond (A3 j.length) (vl (Gi j ([47,47]:List UInt8)) λe=>cond (not (x5 ([47,47]:List UInt8) j)) (n ([]:List UInt8) ([]:List UInt8) 0 ([]:List UInt8) 0 0 0 0 0 0 0 0 0 0 ([]:List UInt8) 4 [bU0,(bU (B6 f) ([]:List UInt8) (0:Int) ([]:List UInt8) (0:Int) (0:Int) (0:Int) (0:Int) (0:Int) (0:Int) (0:Int) (0:Int) (0:Int) ((-1):Int) j)]) (cond (A3 e.length) (cond (AL ([47,63,35]:List UInt8)) (vl (aa5 e ([47,63,35]:List UInt8)) λi=>cond (not (ltI i 0)) (cond (I1 0 i e.length) (cond (I1 (↑(b8 (cut e 0 i)):Int) (e.length:Int) e.length) (vl (cut e (↑(b8 (cut e 0 i)):Int) (e.length:Int)) λg=>cond (A3 g.length) (cond (not (x5 ([47]:List UInt8) g)) (cond (D6 1 g.length) (vl (([47]:List UInt8)++g) λl=>cond (A3 (b8 (B6 f))) (cond (A3 l.length) (cond (A3 (b8 (cut e 0 i))) (cond (((-1):Int)==((-1):Int)) (vl (H4 (B6 f) l (cut e 0 i)) λa=>n (uS a) (uU a) (uK a) (uN a) (uV a) (uA a 0) (uA a 1) (uA a 2) (uA a 3) (uA a 4) (uA a 5) (uA a 6) (uA a 7) (uP a) (uR a) (uE a) [(bQ a),(bU (B6 f) ([]:List UInt8) (0:Int) ([]:List UInt8) (0:Int) (0:Int) (0:Int) (0:Int) (0:Int) (0:Int) (0:Int) (0:Int) (0:Int) ((-1):Int) l)]) none) none) none) none) none) (cond (A3 (b8 (B6 f))) (cond (A3 g.length) (cond (A3 (b8 (cut e 0 i))) (cond (((-1):Int)==((-1):Int)) (vl (H4 (B6 f) g (cut e 0 i)) λb=>n (uS b) (uU b) (uK b) (uN b) (uV b) (uA b 0) (uA b 1) (uA b 2) (uA b 3) (uA b 4) (uA b 5) (uA b 6) (uA b 7) (uP b) (uR b) (uE b) [(bQ b),(bU (B6 f) ([]:List UInt8) (0:Int) ([]:List UInt8) (0:Int) (0:Int) (0:Int) (0:Int) (0:Int) (0:Int) (0:Int) (0:Int) (0:Int) ((-1):Int) g)]) none) none) none) none)) none) none) none) (cond (I1 (e.length:Int) (e.length:Int) e.length) (vl (cut e (e.length:Int) (e.length:Int)) λh=>cond (A3 h.length) (cond (not (x5 ([47]:List UInt8) h)) (cond (D6 1 h.length) (vl (([47]:List UInt8)++h) λm=>cond (A3 (b8 (B6 f))) (cond (A3 m.length) (cond (A3 e.length) (cond (((-1):Int)==((-1):Int)) (vl (H4 (B6 f) m e) λc=>n (uS c) (uU c) (uK c) (uN c) (uV c) (uA c 0) (uA c 1) (uA c 2) (uA c 3) (uA c 4) (uA c 5) (uA c 6) (uA c 7) (uP c) (uR c) (uE c) [(bQ c),(bU (B6 f) ([]:List UInt8) (0:Int) ([]:List UInt8) (0:Int) (0:Int) (0:Int) (0:Int) (0:Int) (0:Int) (0:Int) (0:Int) (0:Int) ((-1):Int) m)]) none) none) none) none) none) (cond (A3 (b8 (B6 f))) (cond (A3 h.length) (cond (A3 e.length) (cond (((-1):Int)==((-1):Int)) (vl (H4 (B6 f) h e) λd=>n (uS d) (uU d) (uK d) (uN d) (uV d) (uA d 0) (uA d 1) (uA d 2) (uA d 3) (uA d 4) (uA d 5) (uA d 6) (uA d 7) (uP d) (uR d) (uE d) [(bQ d),(bU (B6 f) ([]:List UInt8) (0:Int) ([]:List UInt8) (0:Int) (0:Int) (0:Int) (0:Int) (0:Int) (0:Int) (0:Int) (0:Int) (0:Int) ((-1):Int) h)]) none) none) none) none)) none) none)) none) none)) none)) none)) none)) none)
theorem C28(d:Nat)(s0):evC (Tf L) (d+1) Z Y 40 [pS s0] [] s=MG L s0 (λi j l m n o p q r8 r b c e f g h a=>some (.tup [(gU i j l m n o p q r8 r b c e f g),pI h],a,s)):=by refine(evE (fn:=ai7) (by kernel_rfl)).trans ?_;generalize evC (Tf L) d=Q;unfold MG;exact(c9 (by kernel_rfl) ((Bb3 L Q Y s (E1 0 (E0 (Tf L) Q Y (cd [1,1] B67) (F1 (Tf L) ai7))) L s0 (s0.length:Int) 0).trans (by kernel_rfl)))
noncomputable def TU(L:Nat):Cfg:=B4 L [42] (A2 []) [(22,Py),(50,Am2),(51,QE)] (A2 [(9,[2]),(8,[1,1]),(7,[1,1,28]),(6,[1,1]),(5,[1,1]),(4,[1,1,15]),(3,[1,1]),(2,[2]),(1,[1,5]),(0,[1])]) [22,50,51] (A2 []) (some [2]) [] [] []
noncomputable def Rt{R:Type}(L:Nat)(l t:By)(u:Int)(m:By)(n o p q u8 r e f g b:Int)(a:By)(v:By->(List Blk)->Option R):Option R:=cond (not (F4 l)) (cond (D6 l.length 1) (vl (l++[58]) λw=>cond (D6 w.length a.length) (v (w++a) [(bU l t u m n o p q u8 r e f g b a)]) none) none) (cond (D6 l.length 3) (vl (l++[58,47,47]) λc=>cond (not (t==[])) (cond (D6 t.length 1) (vl (t++[64]) λh=>cond (D6 c.length h.length) (cond (A3 m.length) (cond (ltN n 4294967296) (cond (ok8 o p q u8 r e f g) (vl (Gn (mkH u m n (n8 o p q u8 r e f g))) λj=>cond (D6 (b8 (c++h)) j.length) (cond (b !=((-1):Int)) (cond (V4 b) (cond (D6 1 (b8 (Cc b))) (vl (([58]:List UInt8)++(Cc b)) λz=>cond (D6 (b8 ((c++h)++j)) z.length) (vl (((c++h)++j)++z) λA=>cond (D6 A.length a.length) (v (A++a) [(bU l t u m n o p q u8 r e f g b a)]) none) none) none) none) (cond (D6 (b8 ((c++h)++j)) a.length) (vl (((c++h)++j)++a) λx=>v x [(bU l t u m n o p q u8 r e f g b a)]) none)) none) none) none) none) none) none) (cond (A3 m.length) (cond (ltN n 4294967296) (cond (ok8 o p q u8 r e f g) (vl (Gn (mkH u m n (n8 o p q u8 r e f g))) λd=>cond (D6 c.length d.length) (cond (b !=((-1):Int)) (cond (V4 b) (cond (D6 1 (b8 (Cc b))) (vl (([58]:List UInt8)++(Cc b)) λi=>cond (D6 (b8 (c++d)) i.length) (cond (D6 (b8 ((c++d)++i)) a.length) (vl (((c++d)++i)++a) λy=>v y [(bU l t u m n o p q u8 r e f g b a)]) none) none) none) none) (cond (D6 (b8 (c++d)) a.length) (v ((c++d)++a) [(bU l t u m n o p q u8 r e f g b a)]) none)) none) none) none) none)) none)
theorem Ck7(d:Nat)(u0 u1 u2 u3 u4 u5 u6 u7 u8 u9 u10 u11 u12 u13 u14):evC (TU L) (d+1) Z Y 42 [(gU u0 u1 u2 u3 u4 u5 u6 u7 u8 u9 u10 u11 u12 u13 u14)] [] s=Rt L u0 u1 u2 u3 u4 u5 u6 u7 u8 u9 u10 u11 u12 u13 u14 (λb a=>some (pS b,a,s)):=by refine(evE (fn:=Tryz.f42) (by kernel_rfl)).trans ?_;generalize evC (TU L) d=Q;unfold Rt;kernel_rfl
noncomputable def Zu(L:Nat):Cfg:=B4 L [16] (A2 []) [(42,Bf4),(40,B54)] (A2 [(2,[2]),(1,[1,1,0]),(0,[1])]) [42] (A2 []) (some [2]) [] [] []
noncomputable def EQ{R:Type}(L:Nat)(h i:By)(q:Int)(j:By)(l m n o u8 p b c d e:Int)(f:By)(r:Bool->(List Blk)->Option R):Option R:=cond (smU h i j f) (cond (ltN l 4294967296) (cond (ok8 m n o u8 p b c d) (cond (V4 e) (vl (Bg (mkU h i q j l (n8 m n o u8 p b c d) e f)) λg=>cond (A3 g.length) (vl (B9 g) λa=>cond ((uE a)==0) (r ((h==(uS a))&&((i==(uU a))&&((q==(uK a))&&((j==(uN a))&&((l==(uV a))&&((m==(uA a 0))&&((n==(uA a 1))&&((o==(uA a 2))&&((u8==(uA a 3))&&((p==(uA a 4))&&((b==(uA a 5))&&((c==(uA a 6))&&((d==(uA a 7))&&((e==(uP a))&&((f==(uR a))&&true))))))))))))))) [(bU h i q j l m n o u8 p b c d e f),(bQ a)]) (r false [(bU h i q j l m n o u8 p b c d e f),(bQ a)])) none) none) none) none) none
theorem Bb8(d:Nat)(u0 u1 u2 u3 u4 u5 u6 u7 u8 u9 u10 u11 u12 u13 u14):evC (Zu L) (d+1) Z Y 16 [(gU u0 u1 u2 u3 u4 u5 u6 u7 u8 u9 u10 u11 u12 u13 u14)] [] s=EQ L u0 u1 u2 u3 u4 u5 u6 u7 u8 u9 u10 u11 u12 u13 u14 (λb a=>some (pB b,a,s)):=by refine(evE (fn:=Tryz.f16) (by kernel_rfl)).trans ?_;generalize evC (Zu L) d=Q;unfold EQ;kernel_rfl
end
section
variable {Z R : Type} (L : Nat) (Q : G0) (Y : Yh Z) (s : Z) (k : Out -> St Z -> Option R)
noncomputable def Zs(L:Nat):Cfg:=B4 L [76] (A2 []) [] (A2 [(1,[2]),(0,[0])]) [] (A2 []) (some [2]) [] [] []
noncomputable def WO{R:Type}(L:Nat)(a:Int)(b:Bool->Option R):Option R:=b (ltI (8:Int) a)
theorem Ba1(d:Nat)(a:Int):evC (Zs L) (d+1) Z Y 76 [.s (.int .i64 a)] [] s=WO L a (λb=>some (.s (.bool b),[],s)):=by refine(evE (fn:=Tryz.f76) (by kernel_rfl)).trans ?_;generalize evC (Zs L) d=Q;unfold WO;kernel_rfl
noncomputable abbrev Ux:Code:=C4 ag0
noncomputable def Bl(L:Nat):Cfg:=B4 L [101] (A2 []) [] (A2 [(5,[2]),(2,[2]),(4,[2]),(3,[10]),(1,[0,2]),(0,[0])]) [] (A2 [(0,[])]) (some [2]) [] [] []
noncomputable def Kq{R:Type}(a:Int)(d:Bool)(b:Unit->Option R)(c:Bool->Option R):Option R:=cond d (b ()) (cond (ltI (57343:Int) a) (cond (not (ltI (1114111:Int) a)) (b ()) (c (not (ltI (1114111:Int) a)))) (c false))
abbrev DL(b:Code):Prop:=∀(k:Out->St Z->Option R) (c:Int) (a:Bool),A9 (Bl L) Q Y b ⟨gp [(0,.s (.int .i32 c)),(2,.s (.bool a))] 13,[],s⟩ k=Kq c a (λ_=>k .ret ⟨gp [(2,.s (.bool true))] 14,[],s⟩) (λd=>k .normal ⟨gp [(10,.s (.bool d))] 6,[],s⟩)
theorem XF:DL (R:=R) L Q Y s (cd [1,0,0,1] Ux):=by intro k b a;unfold Kq;kernel_rfl
noncomputable def KR{R:Type}(L:Nat)(b:Int)(a:Bool->Option R):Option R:=cond (not (ltI b (0:Int))) (Kq b (ltI b (55296:Int)) (λ_=>a true) (λc=>a false)) (Kq b false (λ_=>a true) (λd=>a false))
theorem B09(b:Code)(a:DL (R:=PV × List Blk × Z) L Q Y s b)(c:Int):A9 (Bl L) Q Y (cd [] (G4 [1,0,0,1] b Ux)) ⟨[.s (.int .i32 c)]++tps 16,[],s⟩ (F1 (Bl L) ag0)=KR L c (λc=>some (.s (.bool c),[],s)):=by unfold KR;exact let d:=(E1 0 (E0 (Bl L) Q Y (cd [1,1] Ux) (F1 (Bl L) ag0)));(c9 (by kernel_rfl) (A0 ((a d c (ltI c (55296:Int))).trans (by kernel_rfl)) ((a d c false).trans (by kernel_rfl))))
theorem B10(d:Nat)(a:Int):evC (Bl L) (d+1) Z Y 101 [.s (.int .i32 a)] [] s=KR L a (λa=>some (.s (.bool a),[],s)):=
 (evE (fn:=ag0) (by kernel_rfl)).trans (c9 (by kernel_rfl) (B09 L (evC (Bl L) d) Y s (cd [1,0,0,1] Ux) (XF L (evC (Bl L) d) Y s) a))
noncomputable abbrev Aa:Code:=C4 ah0
noncomputable def L0(L:Nat):Cfg:=B4 L [75] (A2 [(38,[4,170]),(29,[0,3,2,0,0,4,0,0]),(25,[0,3,2,0,0,4,0]),(12,[0,3,2,0,0,2]),(5,[0,3,2,0,0])]) [(73,Ut),(101,GO)] (A2 [(35,[4]),(42,[4]),(41,[4]),(40,[5,169,5]),(39,[5,0,168]),(38,[175,0,0]),(37,[175]),(44,[4]),(33,[4]),(22,[4]),(21,[8,0,3,94]),(20,[8,0,3]),(26,[0,6,0,0,4,0]),(32,[4]),(30,[0,6,0,0,4,0,0]),(31,[0,6,0,0,4,0,0,139]),(29,[0,6,0,0,4,0,0,126]),(28,[0,6,0,0,4,0,0]),(27,[0,6,0,0,4,0,123]),(25,[0,6,0,0,4,0,108]),(24,[0,6,0,0,4,0]),(23,[0,6,0,0,4]),(19,[4]),(18,[0,6,0,0,88]),(17,[0,6,0,0,0]),(16,[0,6,0,0,0]),(15,[4]),(13,[0,6,0,0,2]),(14,[0,6,0,0,2,51]),(12,[0,6,0,0,2,38]),(11,[0,6,0,0,2]),(10,[0,6,0,0]),(9,[4]),(8,[0,6,0,0,1,31]),(7,[0,6,0,0,1]),(6,[0,6,0,0,23]),(5,[0,6,0,0,16]),(4,[0,6,0,0]),(3,[0,6,0,0]),(2,[0,6,0]),(1,[0,6]),(43,[0,0,181]),(36,[0,0,169]),(34,[0,0,158]),(0,[0,0])]) [73,101] (A2 [(0,[4]),(9,[]),(10,[175]),(5,[]),(6,[0,6,0,0,4,0]),(7,[8,0]),(8,[0,6,0,0,4,0,0]),(1,[]),(2,[0,6,0,0]),(3,[8,0]),(4,[0,6,0,0,2])]) (some [4]) [] [] []
noncomputable def De{R:Type}(L n:Nat)(self:Nat->Option R)(a:Nat)(c:Int->Nat->Option R)(d:Nat->Option R):Option R:=cond (decide (a<3)) (vl ((x4 ⟨w8 (([47,63,35]:List UInt8))⟩ a)).1 λb=>cond (b==(65533:Int)) (c (↑a:Int) (a+((x4 ⟨w8 (([47,63,35]:List UInt8))⟩ a)).2)) (self (a+((x4 ⟨w8 (([47,63,35]:List UInt8))⟩ a)).2))) (d a)
noncomputable def Y7{R:Type}(L n:Nat)(a:Nat)(b:Int->Nat->Option R)(c:Nat->Option R):Option R:=Cd9 (α:=Nat->Option R) (λ_=>none) (λn self a=>De L n self a b c) n a
theorem Eb{R:Type}(L n:Nat)(a:Nat)(b:Int->Nat->Option R)(c:Nat->Option R):Y7 L (n+1) a b c=De L n (λa=>Y7 L n a b c) a b c:=rfl
theorem WL(n:Nat)(a:Nat):C5 1 ((L0 L).keep 38) (bd (L0 L) Q Y (cd [1,0,1,1,1,0,0,1,0,0] Aa)) n ⟨gp [(175,.it 0)] 11,[.iter (([47,63,35]:List UInt8)) a],s⟩ k =
 Y7 L n a (λn0 c=>k .ret ⟨gp [(4,.s (.int .i64 n0))] 182,[.iter (([47,63,35]:List UInt8)) c],s⟩) (λa=>k (.exit 9) ⟨gp [] 187,[.iter (([47,63,35]:List UInt8)) a],s⟩):=by
 induction n generalizing a with
 | zero=>rfl
 | succ n b=>rw[Eb];unfold De;exact(c9 (by kernel_rfl) (A0 (A4 λd=>(A0 rfl (b (a+((x4 ⟨w8 (([47,63,35]:List UInt8))⟩ a)).2)))) rfl))
noncomputable def Ui{R:Type}(L n:Nat)(self:By->Int->Int->Int->Option R)(b:By)(a f c:Int)(g:Int->Int->Option R):Option R:=cond (ltI c (↑(b8 b):Int)) (cond (inR (A1 (f-c)) 3) (vl (bAt (([47,63,35]:List UInt8)) (A1 (f-c))) λd=>cond (inR (A1 (a-c)) (b8 b)) (vl (bAt b (A1 (a-c))) λe=>cond (d !=e) (none) (self b a f (A1 (c+(1:Int))))) (none)) (none)) (g a f)
noncomputable def Km{R:Type}(L n:Nat)(b:By)(a c d:Int)(e:Int->Int->Option R):Option R:=Cd9 (α:=By->Int->Int->Int->Option R) (λ_ _ _ _=>none) (λn self b a c d=>Ui L n self b a c d e) n b a c d
theorem Ai3{R:Type}(L n:Nat)(b:By)(a c d:Int)(e:Int->Int->Option R):Km L (n+1) b a c d e=Ui L n (λb a c d=>Km L n b a c d e) b a c d e:=rfl
theorem Xk(n:Nat)(b:By)(a d e:Int):C5 0 ((L0 L).keep 12) (bd (L0 L) Q Y (cd [1,0,1,1,1,1,1,1,0,1,1,1,1,0,0,0,1,0,0,1,0,1,0,0] Aa)) n ⟨gp [(0,.s (.str (([47,63,35]:List UInt8)))),(6,.s (.str b)),(0,.s (.int .i64 a)),(0,.s (.int .i64 d)),(2,.s (.int .i64 e))] 174,[],s⟩ k =
 Km L n b a d e (λc h=>k (.exit 3) ⟨gp [(8,.s (.int .i64 c)),(0,.s (.int .i64 h))] 177,[],s⟩):=by
 induction n generalizing b a d e with
 | zero=>rfl
 | succ n i=>rw[Ai3];unfold Ui;exact(c9 (by kernel_rfl) (A0 (A0 (A4 λf=>(A0 (A4 λg=>(A0 rfl (i b a d (A1 (e+(1:Int)))))) rfl)) rfl) rfl))
noncomputable def Mn{R:Type}(L n:Nat)(self:By->Int->Option R)(b:By)(a:Int)(m:Int->Option R)(o:Unit->Option R):Option R:=cond (ltI a (3:Int)) (cond (inR a 3) (vl (bAt (([47,63,35]:List UInt8)) a) λj=>cond (inR a (b8 b)) (cond (j !=(bAt b a)) (vl (A1 (a+(1:Int))) λe=>cond (I1 e (3:Int) 3) (vl (cut (([47,63,35]:List UInt8)) e (3:Int)) λg=>cond (inR a (b8 b)) (cond (A3 (b8 g)) (cond (inR (bAt b a) 256) (vl (k9 g (u8n (bAt b a))) λf=>cond (ltI f (0:Int)) (m (-1)) (vl (A1 (f+(1:Int))) λl=>Km L L b a (A1 (a+l)) 1 (λc h=>m (A1 (h-c))))) (none)) (none)) (none)) (none)) (Km L L b a a 1 (λd i=>m (A1 (i-d))))) (none)) (none)) (o ())
noncomputable def Fw{R:Type}(L n:Nat)(b:By)(a:Int)(c:Int->Option R)(d:Unit->Option R):Option R:=Cd9 (α:=By->Int->Option R) (λ_ _=>none) (λn self b a=>Mn L n self b a c d) n b a
theorem DH{R:Type}(L n:Nat)(b:By)(a:Int)(c:Int->Option R)(d:Unit->Option R):Fw L (n+1) b a c d=Mn L n (λb a=>Fw L n b a c d) b a c d:=rfl
theorem WM(n:Nat)(b:By)(a:Int):C5 0 ((L0 L).keep 5) (bd (L0 L) Q Y (cd [1,0,1,1,1,1,1,1,0,1,1,1,1,0,0,0] Aa)) n ⟨gp [(0,.s (.str (([47,63,35]:List UInt8)))),(6,.s (.str b)),(0,.s (.int .i64 a)),(0,.s (.int .i64 a))] 177,[],s⟩ k =
 Fw L n b a (λn0=>k .ret ⟨gp [(4,.s (.int .i64 n0))] 182,[],s⟩) (λ_=>k (.exit 1) ⟨gp [] 187,[],s⟩):=by
 induction n generalizing b a with
 | zero=>rfl
 | succ n i=>rw[DH];unfold Mn;exact let d:=(E1 3 (E0 (L0 L) Q Y (cd [1,0,1,1,1,1,1,1,0,1,1,1,1,0,0,0,1,0,0,1,1] Aa) (E1 2 (lpK 0 ((L0 L).keep 5) (bd (L0 L) Q Y (cd [1,0,1,1,1,1,1,1,0,1,1,1,1,0,0,0] Aa)) n k))));(c9 (by kernel_rfl) (A0 (A0 (A4 λe=>(A0 (A0 (A4 λf=>(A0 (A4 λh=>(A0 (A0 (A0 (A4 λg=>(A0 rfl (A4 λc=>((Xk L Q Y s d L b a (A1 (a+c)) 1).trans (by kernel_rfl))))) rfl) rfl) rfl)) rfl)) ((Xk L Q Y s d L b a a 1).trans (by kernel_rfl))) rfl)) rfl) rfl))
noncomputable def Kl{R:Type}(L:Nat)(b:Int)(l:Bool)(d:Int->Option R)(j:Int->Nat->Option R):Option R:=cond l (cond (inR (wu8 b) 256) (vl (k9 (([47,63,35]:List UInt8)) (u8n (wu8 b))) λg=>d g) (none)) (cond (b==(65533:Int)) (Y7 L L 0 (λi e=>j i e) (λf=>j (-1) f)) (cond (not (KV b)) (d (-1)) (vl (ab3 b).data.toList λc=>vl (A1 ((↑(b8 c):Int)-(1:Int))) λh=>Fw L L c h (λa=>d a) (λ_=>d (-1)))))
abbrev DG(b:Code):Prop:=∀(k:Out->St Z->Option R) (c:Int) (a:Bool),A9 (L0 L) Q Y b ⟨gp [(0,.s (.str (([47,63,35]:List UInt8)))),(0,.s (.int .i32 c)),(158,.s (.bool a))] 26,[],s⟩ k=Kl L c a (λn0=>k .ret ⟨gp [(4,.s (.int .i64 n0))] 182,[],s⟩) (λn0 d=>k .ret ⟨gp [(4,.s (.int .i64 n0))] 182,[.iter (([47,63,35]:List UInt8)) d],s⟩)
theorem WK:DG (R:=R) L Q Y s (cd [1,0,1] Aa):=by intro k e d;unfold Kl;exact(c9 (by kernel_rfl) (A0 (A0 (A4 λc=>rfl) rfl) (A0 ((WL L Q Y s (E1 9 (E0 (L0 L) Q Y (cd [1,0,1,1,1,0,1] Aa) k)) L 0).trans (by kernel_rfl)) (A0 rfl (A4 λb=>(A4 λa=>((WM L Q Y s (E1 1 (E0 (L0 L) Q Y (cd [1,0,1,1,1,1,1,1,0,1,1,1,1,1] Aa) k)) L b a).trans (by kernel_rfl))))))))
noncomputable def KK{R:Type}(L:Nat)(r:Int)(g:Int->Option R)(h:Int->Nat->Option R):Option R:=cond (not (ltI r (0:Int))) (Kl L r (ltI r (128:Int)) (λc=>g c) (λd a=>h d a)) (Kl L r false (λe=>g e) (λf b=>h f b))
theorem By6(b:Code)(a:DG (R:=PV × List Blk × Z) L Q Y s b)(r:Int):A9 (L0 L) Q Y (cd [] (G4 [1,0,1] b Aa)) ⟨[.s (.str (([47,63,35]:List UInt8))),.s (.int .i32 r)]++tps 185,[],s⟩ (F1 (L0 L) ah0)=KK L r (λc=>some (.s (.int .i64 c),[],s)) (λc e=>some (.s (.int .i64 c),[.iter (([47,63,35]:List UInt8)) e],s)):=by unfold KK;exact let d:=(E1 0 (F1 (L0 L) ah0));(c9 (by kernel_rfl) (A0 ((a d r (ltI r (128:Int))).trans (by kernel_rfl)) ((a d r false).trans (by kernel_rfl))))
theorem By7(d:Nat)(r:Int):evC (L0 L) (d+1) Z Y 75 [.s (.str (([47,63,35]:List UInt8))),.s (.int .i32 r)] [] s=KK L r (λa=>some (.s (.int .i64 a),[],s)) (λa b=>some (.s (.int .i64 a),[.iter (([47,63,35]:List UInt8)) b],s)):=
 (evE (fn:=ah0) (by kernel_rfl)).trans (c9 (by kernel_rfl) (By6 L (evC (L0 L) d) Y s (cd [1,0,1] Aa) (WK L (evC (L0 L) d) Y s) r))
noncomputable abbrev YR:Code:=C4 ag7
noncomputable def Gd(L:Nat):Cfg:=B4 L [58] (A2 [(18,[1,2,40]),(12,[0,3,1,1])]) [(75,GI),(76,Yy),(77,Nx)] (A2 [(22,[4]),(21,[4]),(20,[1,7,35,7]),(19,[1,7,0,34]),(18,[1,43,0,0]),(17,[1,43]),(16,[4]),(13,[0,5,1]),(15,[4]),(14,[0,5,1,33]),(12,[0,5,1,27]),(11,[0,5,1]),(10,[0,0,4,25]),(9,[0,0,4,0]),(8,[0,0,24]),(7,[4]),(6,[0,4]),(5,[0,4,14]),(4,[0,4]),(3,[0,0,13]),(2,[4]),(1,[0,0,10]),(0,[0,0])]) [75,76] (A2 [(2,[]),(3,[1,43]),(0,[]),(1,[0,5,1])]) (some [4]) [] [] []
noncomputable def X6{R:Type}(L n:Nat)(self:By->Nat->Option R)(b:By)(a:Nat)(d:Int->(List Blk)->Option R)(e:By->Nat->Option R):Option R:=cond (decide (a<(b8 b))) (vl ((x4 ⟨w8 b⟩ a)).1 λc=>cond (AL (([47,63,35]:List UInt8))) (cond (ltN c 1114112) (cond (not (ltI (irn c) (0:Int))) (d (↑a:Int) [(Blk.iter b (a+((x4 ⟨w8 b⟩ a)).2))]) (self b (a+((x4 ⟨w8 b⟩ a)).2))) (none)) (none)) (e b a)
noncomputable def Kk{R:Type}(L n:Nat)(b:By)(a:Nat)(c:Int->(List Blk)->Option R)(d:By->Nat->Option R):Option R:=Cd9 (α:=By->Nat->Option R) (λ_ _=>none) (λn self b a=>X6 L n self b a c d) n b a
theorem Bd{R:Type}(L n:Nat)(b:By)(a:Nat)(c:Int->(List Blk)->Option R)(d:By->Nat->Option R):Kk L (n+1) b a c d=X6 L n (λb a=>Kk L n b a c d) b a c d:=rfl
theorem WJ(n:Nat)(b:By)(a:Nat):C5 1 ((Gd L).keep 18) (bd (Gd L) Q Y (cd [1,1,1,1,0,1,0,0] YR)) n ⟨gp [(1,.s (.str (([47,63,35]:List UInt8)))),(43,.it 0)] 9,[.iter b a],s⟩ k =
 Kk L n b a (λn0 c=>k .ret ⟨gp [(4,.s (.int .i64 n0))] 50,c,s⟩) (λb a=>k (.exit 2) ⟨gp [] 55,[.iter b a],s⟩):=by
 induction n generalizing b a with
 | zero=>rfl
 | succ n d=>rw[Bd];unfold X6;exact(c9 (by kernel_rfl) (A0 (A4 λe=>(A0 (A0 (A0 rfl (d b (a+((x4 ⟨w8 b⟩ a)).2))) rfl) rfl)) rfl))
noncomputable def WI{R:Type}(L:Nat)(t:By)(e:Int->(List Blk)->Option R):Option R:=cond (ltI (8:Int) (↑(b8 t):Int)) (none) (Kk L L t 0 (λc a=>e c a) (λd b=>e (-1) [(Blk.iter d b)]))
theorem By4(d:Nat)(t:By):evC (Gd L) (d+1) Z Y 58 [.s (.str t),.s (.str (([47,63,35]:List UInt8)))] [] s=WI L t (λb a=>some (.s (.int .i64 b),a,s)):=by refine(evE (fn:=ag7) (by kernel_rfl)).trans ?_;generalize evC (Gd L) d=Q;unfold WI;exact(c9 (by kernel_rfl) (A0 rfl ((WJ L Q Y s (E1 2 (E0 (Gd L) Q Y (cd [1,1,1,1,1] YR) (F1 (Gd L) ag7))) L t 0).trans (by kernel_rfl))))
end
end
section
open Go
theorem Qd{c:UInt8}{s:By}(h:c∉s):v8 s [c]=(s,[],false):=by unfold v8;rw[Tk h,if_neg (by decide)]
theorem Ab{c:UInt8}{p r:By}(h:c∉p):v8 (p++c::r) [c]=(p,r,true):=by unfold v8;rw[AJ h,S6,j7,ae3,j5];rw[show p++c::r=(p++[c])++r by simp,ad9 (by simp)]
def Wh:Int->By->Option Int
 | n,[]=>some n
 | n,b::r=>if 48<=b.toNat/\b.toNat<=57 then Wh (min (10*max n 0+((b.toNat-48:Nat):Int)) 65536) r else none
theorem UV:∀(s:By) (n:Int),Jd n s=(Wh n s).bind λm=>if m<65536 then some m else none
 | [],n=>rfl
 | b::r,n=>by
  rw[Jd,Wh];split
  ·exact UV r _
  ·rfl
theorem JD:∀(s:By) (n p:Int),-1<=n->Jd n s=some p->-1<=p/\p<65536
 | [],n,p,a,h=>by
  rw[Jd] at h;split at h
  ·rename_i c;obtain rfl:=j9 h;exact⟨a,c⟩
  ·cases h
 | b::r,n,p,a,h=>by
  rw[Jd] at h;split at h
  ·exact JD r _ p (by omega) h
  ·cases h
def Ox(s:By):Prop:=∀b∈s,ctl b=false
def Dj8(s:By):Prop:=∀b∈s,V6 b=false
structure CU (u:Y9):Prop where
 ns:F4 u.sch=false->W0 u.sch=true/\B6 u.sch=u.sch/\u.user=[]/\u.host=K4/\u.port=-1/\Ox u.rest
 sp:F4 u.sch=true->Ox u.user/\Dj8 u.user/\No u.host/\M7 u.host=true/\(u.port=-1\/(0<=u.port/\u.port<=65535/\u.port≠M0 u.sch))/\(∃r,u.rest=47::r)/\Ox u.rest
theorem Cq0{s:By}:s.any ctl=false↔Ox s:=by unfold Ox;rw[List.any_eq_false];exact⟨λh b a=>by simpa using h b a,λh b a=>by simp[h b a]⟩
theorem CF{e user c a:By}(h:(U0 e user c a).2=0):∃f b,(U0 e user c a).1=⟨e,user,f,b,c⟩/\No f/\M7 f=true/\(b=-1\/(0<=b/\b<=65535/\b≠M0 e)):=by
 unfold U0 at h ⊢;cases i:Jz a with
 | none=>rw[i] at h;simp at h
 | some q=>
  obtain⟨name,tail⟩:=q;rw[i] at h;simp only at h ⊢;by_cases g:tail≠[]/\tail.head?≠some 58
  ·rw[if_pos g] at h;simp at h
  ·rw[if_neg g] at h ⊢;by_cases d:(C7 name).2≠0
   ·rw[if_pos d] at h;exact absurd h d
   ·rw[if_neg d] at h ⊢;cases j:Jd (-1) (tail.drop 1) with
    | none=>rw[j] at h;simp at h
    | some p=>
     have o:=JD _ _ _ (by omega) j;obtain⟨m,n⟩:=Bs9 name;refine⟨_,_,rfl,m,n (by simpa using d),?_⟩;split
     ·exact .inl rfl
     ·rename_i l;by_cases k:p=-1
      ·exact .inl k
      ·exact .inr ⟨by omega,by omega,l⟩
theorem Vv{c user b a:By}(h:(U0 c user b a).2≠0):(U0 c user b a).1=Cd:=by
 unfold U0 at h ⊢;split
 ·rfl
 ·rename_i name tail f;rw[f] at h;simp only at h ⊢;split
  ·rfl
  ·rename_i d;rw[if_neg d] at h;split
   ·rfl
   ·rename_i e;rw[if_neg e] at h;split
    ·rfl
    ·rename_i p g;rw[g] at h;exact absurd rfl h
theorem Aw8(s:By):B6 (B6 s)=B6 s:=by
 unfold B6;rw[ai1];apply List.map_congr_left;intro b _;show Bp (Bp b)=Bp b;rcases T5 b with⟨_,e⟩|⟨_,e⟩|⟨c,d,e⟩
 ·rw[e,e]
 ·rw[e,e]
 ·rcases T5 (Bp b) with⟨_,a⟩|⟨_,a⟩|⟨f,g,_⟩
  ·exact a
  ·exact a
  ·omega
theorem Aw4(b:UInt8):O8 (Bp b)=O8 b:=by
 rw[p7,T4,T4];rcases T5 b with⟨_,e⟩|⟨_,e⟩|⟨a,c,e⟩
 ·rw[e]
 ·rw[e]
 ·omega
theorem UP{b c:UInt8}(f:c.toNat<65):Bp b=c↔b=c:=by
 rcases T5 b with⟨_,e⟩|⟨_,e⟩|⟨a,d,e⟩
 ·rw[e]
 ·rw[e]
 ·constructor
  ·intro h;rw[h] at e;omega
  ·intro h;subst h;omega
theorem Ah5(b:UInt8):N7 (Bp b)=N7 b:=by
 rw[p7,Il,Il,UP (by decide),UP (by decide),UP (by decide)];rcases T5 b with⟨_,e⟩|⟨_,e⟩|⟨a,c,e⟩
 ·rw[e]
 ·rw[e]
 ·constructor
  ·rintro(h|h|h|h)<;>first|omega|exact .inr (.inr (.inr h))
  ·rintro(h|h|h|h)<;>first|omega|exact .inr (.inr (.inr h))
theorem Ah7(s:By):W0 (B6 s)=W0 s:=by
 cases s with
 | nil=>rfl
 | cons b r=>
  show(O8 (Bp b)&&(r.map Bp).all N7)=(O8 b&&r.all N7)
  rw[Aw4,List.all_map]
  congr 1
  apply List.all_congr rfl;intro b;exact Ah5 b
theorem WN(r:By):∃t,W3 r=47::t:=by
 unfold W3;split
 ·rename_i h;cases r with
  | nil=>cases h
  | cons b t=>
   obtain rfl:=j9 h;exact⟨t,rfl⟩
 ·exact⟨r,rfl⟩
theorem Ai4{r:By}(h:Ox r):Ox (W3 r):=by
 unfold W3;split
 ·exact h
 ·intro b a;rcases v7.1 a with rfl|a
  ·decide
  ·exact h b a
theorem Bt5{j c a:By}(p:F4 j=true)(q:Ox a)(i:Dj8 a)(o:Ox c)(f:∃r,c=47::r)(h:(H4 j c a).2=0):CU (H4 j c a).1:=by
 unfold H4 at h ⊢;by_cases n:0<=L1 64 a
 ·rw[if_pos n] at h ⊢;obtain⟨t,g,e,k,l,m⟩:=CF h;rw[e];exact⟨λh=>(by rw[p] at h;cases h),λ_=>⟨λb d=>q b (ab8 d),λb d=>i b (ab8 d),k,l,m,f,o⟩⟩
 ·rw[if_neg n] at h ⊢;obtain⟨t,g,e,k,l,m⟩:=CF h;rw[e];exact⟨λh=>(by rw[p] at h;cases h),λ_=>⟨λb d=>(by cases d),λb d=>(by cases d),k,l,m,f,o⟩⟩
theorem Cc8{s:By}(h:(B9 s).2=0):CU (B9 s).1:=by
 unfold B9 at h ⊢;cases f:s.any ctl with
 | true=>rw[f] at h;simp at h
 | false=>
  rw[f] at h;have j:=Cq0.1 f;simp only[p9,if_false] at h ⊢;rcases T1 58 s with c|⟨p,r,rfl,c⟩
  ·rw[Qd c] at h;simp at h
  ·rw[Ab c] at h ⊢;have k:Ox p:=λb d=>j b (by simp[d])
   have g:Ox r:=λb d=>j b (by simp[d])
   cases a:W0 p with
   | false=>rw[a] at h;simp at h
   | true=>
    rw[a] at h;simp only[j4,Bool.or_self,p9,if_false] at h ⊢;cases e:F4 (B6 p) with
    | false=>
     simp only[p4,if_true];exact⟨λ_=>⟨by rw[Ah7];exact a,Aw8 p,rfl,rfl,rfl,g⟩,λh=>(by simp only at h;rw[e] at h;cases h)⟩
    | true=>
     rw[e] at h;simp only[j4,p9,if_false] at h ⊢;cases i:([47,47]:By).isPrefixOf r with
     | false=>rw[i] at h;simp at h
     | true=>
      rw[i] at h;simp only[j4,p9,if_false] at h ⊢;exact Bt5 e (λb d=>g b (x3 (ab8 d))) (A96 _) (Ai4 λb d=>g b (x3 (x3 d))) (WN _) h
theorem Az7{d b a:By}(h:(H4 d b a).2≠0):(H4 d b a).1=Cd:=by
 unfold H4 at h ⊢;split
 ·rename_i c;rw[if_pos c] at h;exact Vv h
 ·rename_i c;rw[if_neg c] at h;exact Vv h
theorem Bt0{s:By}(h:(B9 s).2≠0):(B9 s).1=Cd:=by
 unfold B9 at h ⊢;split
 ·rfl
 ·rename_i b;rw[if_neg b] at h;split
  ·rfl
  ·rename_i c;rw[if_neg c] at h;split
   ·rename_i a;rw[if_pos a] at h;exact absurd rfl h
   ·rename_i a;rw[if_neg a] at h;split
    ·rfl
    ·rename_i d;rw[if_neg d] at h;exact Az7 h
structure B30 (u:Y9):Prop where
 host:No u.host
 port:-1<=u.port/\u.port<65536
theorem OA:No K4:=⟨by decide,Bn1,by decide⟩
theorem CU.ok{u:Y9}(h:CU u):B30 u:=by
 cases hs:F4 u.sch with
 | false=>
  obtain⟨_,_,_,a4,a5,_⟩:=h.ns hs;exact⟨by rw[a4];exact OA,by omega⟩
 | true=>
  obtain⟨_,_,a3,_,a5,_⟩:=h.sp hs;exact⟨a3,by omega⟩
theorem JK(s:By):B30 (B9 s).1:=by
 by_cases h:(B9 s).2=0
 ·exact(Cc8 h).ok
 ·rw[Bt0 h];exact⟨OA,by decide,by decide⟩
theorem Jv{n:Int}:V4 n=true↔-9223372036854775808<=n/\n<9223372036854775808:=by unfold V4;rw[E2];constructor<;>rintro⟨a,b⟩<;>constructor<;>omega
theorem Jb(c:UInt8):∀s:By,k9 s c=match Gr c s with|some k=>(k:Int)|none=>-1
 | []=>rfl
 | b::r=>by
  have a:=Jb c r;unfold k9 Gr;by_cases h:b=c
  ·rw[if_pos h,if_pos (by simpa using h)];rfl
  ·rw[if_neg h,if_neg (by simpa using h),a];cases Gr c r with
   | none=>rfl
   | some k=>
    have e:((k:Int)==-1)=false:=by rw[beq_eq_false_iff_ne];omega
    simp only[aa9,e,p9,if_false];rfl
theorem By9(b:UInt8):isl.contains b=V6 b:=by rw[p7];simp[isl,V6,or_assoc]
theorem Hl(b:UInt8)(r:By):J5 (b::r)=if V6 b then 0 else J5 r+1:=by unfold J5;rw[w9];cases h:V6 b<;>simp
theorem Xn:∀s:By,J5 s<=s.length
 | []=>ab9 _
 | b::r=>by
  have:=Xn r;rw[Hl,j0];split<;>omega
theorem Ja:∀s:By,aa5 s isl=if J5 s<s.length then (J5 s:Int) else -1
 | []=>rfl
 | b::r=>by
  have c:=Ja r;have d:=Xn r;rw[aa5,By9,Hl,j0,c];cases V6 b with
  | true=>simp
  | false=>
   simp only[p9,if_false];by_cases h:J5 r<r.length
   ·have e:((J5 r:Int)==-1)=false:=by rw[beq_eq_false_iff_ne];omega
    have a:J5 r+1<r.length+1:=by omega
    simp only[if_pos h,if_pos a,e,p9,if_false];rfl
   ·have a:¬J5 r+1<r.length+1:=by omega
    simp only[if_neg h,if_neg a];rfl
theorem Da2(b:UInt8)(t:By)(g:128<=b.toNat):128<=(aa4 (b::t)).1/\(aa4 (b::t)).1<1114112/\1<=(aa4 (b::t)).2/\(aa4 (b::t)).2<=t.length+1/\∀i,i<(aa4 (b::t)).2->128<=((b::t).getD i 0).toNat:=by
 have d:=Lib.decodeL_le (b::t) (by simp);have l:=Lib.decodeL_width (b::t);have n:=Lib.decodeL_rune (b::t);rw[j0] at d;refine⟨?_,by omega,l,d,?_⟩;all_goals
  clear d l n;rw[Lib.decodeL_N];rcases Lib.decodeN_shape (b::t).length ((b::t).getD 0 0).toNat ((b::t).getD 1 0).toNat ((b::t).getD 2 0).toNat ((b::t).getD 3 0).toNat with⟨c,e⟩|⟨h,j,k,f,e⟩|⟨h,j,k,m,f,p,e⟩|⟨h,j,k,m,o,f,q,e⟩|e
  all_goals rw[e]
 ·exact absurd g (by simp at c;omega)
 ·exact f
 ·simp only;omega
 ·simp only;omega
 ·simp only;omega
 ·exact absurd g (by simp at c;omega)
 ·intro i a;have:i=0\/i=1:=by simp only at a;omega
  rcases this with rfl|rfl<;>omega
 ·intro i a;have:i=0\/i=1\/i=2:=by simp only at a;omega
  rcases this with rfl|rfl|rfl<;>omega
 ·intro i a;have:i=0\/i=1\/i=2\/i=3:=by simp only at a;omega
  rcases this with rfl|rfl|rfl|rfl<;>omega
 ·intro i a;have:i=0:=by simp only at a;omega
  subst this;exact g
theorem Ci2{b:UInt8}(h:128<=b.toNat):V6 b=false:=by
 unfold V6;have n:∀c:UInt8,c.toNat<128->(b==c)=false:=λc a=>by
  rw[beq_eq_false_iff_ne];rintro rfl;omega
 rw[n 47 (by decide),n 63 (by decide),n 35 (by decide)];rfl
theorem Ca2{r:Int}(h:128<=r):irn r=-1:=by unfold irn;rw[G1,G1,G1]
theorem Db3(b:UInt8):ltI (irn (b.toNat:Int)) 0 = !V6 b:=by
 have e:∀c:UInt8,((b.toNat:Int)=(c.toNat:Int))=(b=c):=λc=>propext ⟨λh=>x6.1 (by omega),λh=>by rw[h]⟩
 have g:((b.toNat:Int)=47)=(b=47):=e 47;have i:((b.toNat:Int)=63)=(b=63):=e 63;have j:((b.toNat:Int)=35)=(b=35):=e 35;unfold irn V6;simp only[g,i,j];by_cases a:b=47
 ·subst a;rfl
 ·by_cases d:b=63
  ·subst d;rfl
  ·by_cases f:b=35
   ·subst f;rfl
   ·have n:∀c,b≠c->(b==c)=false:=λc h=>by rwa [beq_eq_false_iff_ne]
    rw[if_neg a,if_neg d,if_neg f,n _ a,n _ d,n _ f];rfl
end
section
open Go Go.Proofs
set_option maxRecDepth 100000
theorem Ax2{R:Type}{b:By->Option R}(s p:By)(a:A3 s.length=true):Bi6 LF s p b=b (Gi s p):=by
 have:=K7 a;unfold Bi6 Gi;rw[a];cases h:p.isPrefixOf s with
 | false=>simp
 | true=>
  have:p.length<=s.length:=by rw[Eh] at h;simp at h;exact h.1
  simp (disch:=omega)
theorem Bz9{R:Type}{a:By->Option R}(s p:By)(b:A3 s.length=true):C23 LF s p a=a (Gi s p):=by unfold C23;rw[b];rfl
theorem Bb2{R:Type}{e:Int->Option R}(s:By):Bl6 LF s e=e (M0 s):=by unfold Bl6 M0 My bWs Cf Zi;generalize (s==([104,116,116,112]:List UInt8))=a;generalize (s==([119,115]:List UInt8))=b;generalize (s==([104,116,116,112,115]:List UInt8))=c;generalize (s==([119,115,115]:List UInt8))=d;cases a<;>cases b<;>cases c<;>cases d<;>rfl
theorem Bb7{R:Type}{a:Bool->Option R}(s:By):Bl7 LF s a=a (F4 s):=by unfold Bl7;rw[Ln,LH]
theorem C32(b q:By)(m:Int)(n:By)(v4 d e f g i j k l a:Int)(p:By) :
  ∃r H,C30 LF b q m n v4 d e f g i j k l a p (λo c=>rv (.s (.int .i64 o)) c)=rv r H/\r.stab [] H = .s (.int .i64 (prt b a)):=by
 unfold C30 prt;cases h:a==-1 with
 | true=>rw[show(a !=(-1:Int))=false by simp[bne,h]];exact⟨_,_,rfl,rfl⟩
 | false=>rw[show(a !=(-1:Int))=true by simp[bne,h]];exact⟨_,_,rfl,rfl⟩
def UU:By:=[48,49,50,51,52,53,54,55,56,57,43,45,46]
theorem Li(c:UInt8):∀l:By,ltI (k9 l c) 0 = !l.contains c
 | []=>rfl
 | b::r=>by
  have f:=Li c r;have g:=af7 r c;unfold k9;by_cases h:b=c
  ·subst h;simp[E4]
  ·have e:(b==c)=false:=by simpa using h
   have d:(c==b)=false:=by simpa using ac9 h
   rw[ae8,d,ah3,<-f,e];simp only[p9,if_false];by_cases a:k9 r c=-1
   ·rw[a];rfl
   ·have:(k9 r c==-1)=false:=by simpa using a
    rw[this,if_neg (by simp),A6,A6]
theorem Ah6:∀b:UInt8,N7 b=(O8 b||UU.contains b):=by
 have:∀n:Fin 256,N7 (ac0 n.val)=(O8 (ac0 n.val)||UU.contains (ac0 n.val)):=by decide +kernel
 intro b;have h:=this ⟨b.toNat,b.toNat_lt⟩;simpa using h
theorem Ak1{R:Type}{c:Unit->Option R}{d:By->Int->Int->Bool->Option R}(s:By)(i:Nat)(b:UInt8)(l:Bool)(n:Int):Ff s (i:Int) (b.toNat:Int) l n c d=if l then d s n i false else if i=0 then c () else if UU.contains b then d s n i false else c ():=by
 unfold Ff;cases l with
 | true=>rfl
 | false=>
  rw[p4,cond_true,if_neg (by simp)];by_cases a:i=0
  ·subst a;rfl
  ·have f:=b.toNat_lt;rw[show((i:Int)==0)=false by simpa using a,cond_false,E6,cond_true,if_neg a];simp only[vl];rw[Iq];have e:=Li b UU;rw[show([48,49,50,51,52,53,54,55,56,57,43,45,46]:List UInt8)=UU from rfl,e];cases UU.contains b<;>rfl
theorem KQ{R:Type}{a:Unit->Option R}{c:By->Option R}(s:By)(r:s.length<=1000000000)(n i:Nat)(p:i<s.length) :
  N1 LF (n+1) s (s.length:Int) (i:Int) a c=if O8 (s.getD i 0) then N1 LF n s s.length ((i+1:Nat):Int) a c else if i=0 then a () else if UU.contains (s.getD i 0) then N1 LF n s s.length ((i+1:Nat):Int) a c else a ():=by
 have k:A1 ((i:Int)+1)=((i+1:Nat):Int):=by rw[A7];rfl
 rw[N1,A8,E6,D0];simp only[cond_true];generalize s.getD i 0=b;have go:∀l,Ff s (i:Int) (b.toNat:Int) l (s.length:Int) (λ_=>a ()) (λj g h m=>N1 LF n j g (A1 (h+(1:Int))) a c)=if l then N1 LF n s s.length ((i+1:Nat):Int) a c else if i=0 then a () else if UU.contains b then N1 LF n s s.length ((i+1:Nat):Int) a c else a ():=λl=>by
  rw[Ak1,k]
 have q:O8 b=((x7 97 b.toNat&&x7 b.toNat 122)||(x7 65 b.toNat&&x7 b.toNat 90)):=rfl;by_cases f:97<=b.toNat
 ·rw[A6,p4,cond_true];by_cases d:b.toNat<=122
  ·rw[A6,p4,cond_true,if_pos (T4.2 (.inl ⟨f,d⟩))];unfold EP;simp only[k]
  ·rw[A8,j4,cond_false,A6,p4,cond_true,A8,j4];have e:O8 b=false:=by
    rw[<-af6,T4];omega
   rw[e];exact go false
 ·rw[A8,j4,cond_false];by_cases o:65<=b.toNat
  ·rw[A6,p4,cond_true];have e:O8 b = !ltI 90 (b.toNat:Int):=by
    rw[p7,T4,aa3,Jy];omega
   rw[e];exact go _
  ·rw[A8,j4,cond_false];have e:O8 b=false:=by
    rw[<-af6,T4];omega
   rw[e];exact go false
theorem B07{R:Type}{k0:Unit->Option R}{k1:By->Option R}(s:By)(d:s.length<=1000000000):∀(r i n:Nat),i+r=s.length->r<n->0<i->
  N1 LF n s (s.length:Int) (i:Int) k0 k1=if (s.drop i).all N7 then k1 s else k0 ():=by
 intro r
 induction r with
 | zero=>
  intro i n b c a;obtain⟨n,rfl⟩:∃m,n=m+1:=⟨n-1,by omega⟩
  rw[N1];rw[A6,s7 (by omega)];rfl
 | succ r e=>
  intro i n b c a;obtain⟨n,rfl⟩:∃m,n=m+1:=⟨n-1,by omega⟩
  rw[KQ s d n i (by omega),e (i+1) n (by omega) (by omega) (by omega),D2 s i (by omega),ae6,Ah6,if_neg (by omega:¬i=0)];cases O8 (s.getD i 0) with
  | true=>simp
  | false=>
   cases UU.contains (s.getD i 0)<;>simp
theorem B08{R:Type}{k0:Bool->Option R}(s:By)(f:A3 s.length=true):Ck5 LF s k0=k0 (W0 s):=by
 have c:=K7 f;have g:=C2;unfold Ck5;obtain⟨n,d⟩:∃m,LF=m+1:=⟨LF-1,by omega⟩
 cases s with
 | nil=>
  rw[show @N1 R LF LF = @N1 R LF (n+1) by rw[<-d]];rfl
 | cons b t=>
  rw[show @N1 R LF LF = @N1 R LF (n+1) by rw[<-d]];refine c9 (KQ (b::t) c n 0 (by simp)) ?_;have e:=B07 (k0:=λ_=>k0 false) (k1:=λa=>k0 (not (a==([]:List UInt8)))) (b::t) c t.length 1 n (by simp;omega) (by simp at c;omega) (by omega);rw[y7];simp only[ac1,if_true];rw[show(((0+1:Nat):Int))=((1:Nat):Int) from rfl,e];rw[show(b::t).drop 1=t from rfl,show W0 (b::t)=(O8 b&&t.all N7) from rfl];cases O8 b with
  | false=>rfl
  | true=>cases t.all N7<;>rfl
theorem UW:∀(s:By) (n:Int),DP.go n s=(Wh n s).getD 0
 | [],n=>rfl
 | b::r,n=>by
  unfold DP.go Wh;split
  ·exact UW r _
  ·rfl
theorem B01{R:Type}{a:Unit->Option R}{c:Int->Option R}(s:By)(y:s.length<=1000000000):∀(r i n:Nat) (v:Int),i+r=s.length->r<n->-1<=v->v<=65536->
  Mr LF n s v (s.length:Int) (i:Int) a c=match Wh v (s.drop i) with|some m=>c m|none=>a ():=by
 intro r
 induction r with
 | zero=>
  intro i n v p q j k;obtain⟨n,rfl⟩:∃m,n=m+1:=⟨n-1,by omega⟩
  rw[Mr];rw[A6,s7 (by omega)];rfl
 | succ r t=>
  intro i n v p q j k;obtain⟨n,rfl⟩:∃m,n=m+1:=⟨n-1,by omega⟩
  have d:A1 ((i:Int)+1)=((i+1:Nat):Int):=by rw[A7];rfl
  rw[Mr];rw[A8,E6,D0,D2 s i (by omega),d];have x:=(s.getD i 0).toNat_lt;generalize s.getD i 0=b at *;unfold Wh;simp only[cond_true,vl];by_cases l:b.toNat<48
  ·rw[A8,cond_true,G1]
  ·rw[A6,cond_false];by_cases o:57<b.toNat
   ·rw[A8,cond_true,G1]
   ·rw[A6,cond_false,if_pos (show 48<=b.toNat/\b.toNat<=57 by omega)];have u:(if (0:Int) > v then (0:Int) else v)=max v 0:=by omega
    have e:A1 (10*max v 0)=10*max v 0:=A7;have f:wu8 ((b.toNat:Int)-48)=((b.toNat-48:Nat):Int):=by rw[L6];omega
    have g:A1 ((b.toNat-48:Nat):Int)=((b.toNat-48:Nat):Int):=A7;have h:A1 (10*max v 0+((b.toNat-48:Nat):Int))=10*max v 0+((b.toNat-48:Nat):Int):=A7;rw[u,e,f,g,h];have w:(if (65536:Int)<10*max v 0+((b.toNat-48:Nat):Int) then (65536:Int) else 10*max v 0+((b.toNat-48:Nat):Int))=min (10*max v 0+((b.toNat-48:Nat):Int)) 65536:=by omega
    rw[w];exact t (i+1) n _ (by omega) (by omega) (by omega) (by omega)
theorem B02{R:Type}{a:Int->Bool->Option R}(s:By)(b:A3 s.length=true):C26 LF s a=a (DP s) (Jd (-1) s).isSome:=by
 have d:=K7 b;have c:=C2;unfold C26;refine c9 (B01 s d s.length 0 LF (-1) (by omega) (by omega) (by omega) (by omega)) ?_;rw[ac4,UV,show DP s=DP.go (-1) s from rfl,UW];cases Wh (-1) s with
 | none=>rfl
 | some m=>
  simp only[af9,ad6];rw[Ln];by_cases h:m<65536
  ·rw[decide_eq_true h,if_pos h];rfl
  ·rw[decide_eq_false h,if_neg h];rfl
theorem Cb9{s:By}{p:Int}(h:Jd (-1) s=some p):DP s=p:=by
 rw[UV] at h;rw[show DP s=DP.go (-1) s from rfl,UW];cases a:Wh (-1) s with
 | none=>rw[a] at h;cases h
 | some m=>
  rw[a] at h;simp only[ad6] at h;split at h
  ·exact j9 h
  ·cases h
def hpT(name tail b user a:By):Y9 × Nat:=
 if (C7 name).2≠0 then (Cd,(C7 name).2)
 else match Jd (-1) (tail.drop 1) with
  | none=>(Cd,16)
  | some p=>(⟨b,user,(C7 name).1,if p=M0 b then -1 else p,a⟩,0)
def hpC(name tail b user a:By):Y9 × Nat:=if tail≠[]/\tail.head?≠some 58 then (Cd,4) else hpT name tail b user a
theorem Vw(c user b a:By):U0 c user b a=match Jz a with|none=>(Cd,4)|some (name,tail)=>hpC name tail c user b:=by
 unfold U0;cases Jz a with
 | none=>rfl
 | some q=>
  obtain⟨name,tail⟩:=q;rfl
theorem Tg{t:By}(h:t=[]\/t.head? = some 58):Gi t [58]=t.drop 1:=by
 rcases h with rfl|h
 ·rfl
 ·cases t with
  | nil=>cases h
  | cons b r=>
   simp only[List.head?_cons,p5] at h;subst h;simp[Gi]
theorem Xw(name tail:By)(f:name.length<=1000000000)(j:tail.length<=1000000000)(h:tail=[]\/tail.head? = some 58)(d u:By)(v:Int)(y:By)(w n8 x k l m n o r:Int)(c:By) :
  ∃B H,∀(R:Type) (a:Int->Blk->By->By->Int->By->Int->Int->Int->Int->Int->Int->Int->Int->Int->Int->By->List Blk->Option R),U9 name tail d u v y w n8 x k l m n o r (-1) c a=(λq=>a (uE q) B (uS q) (uU q) (uK q) (uN q) (uV q) (uA q 0) (uA q 1) (uA q 2) (uA q 3) (uA q 4) (uA q 5) (uA q 6) (uA q 7) (uP q) (uR q) H) (hpT name tail d u c):=by
 have i:(tail.drop 1).length<=1000000000:=by rw[j1];omega
 by_cases b:(C7 name).2=0
 ·cases g:Jd (-1) (tail.drop 1) with
  | none=>
   apply p6;apply p6;intro R a;unfold U9 hpT;rw[E3 f,cond_true,Tg h,E3 j];simp only[vl,cond_true];rw[b,E3 i,g];rfl
  | some p=>
   have t:=Cb9 g;by_cases e:p=M0 d
   ·apply p6;apply p6;intro R a;unfold U9 hpT;rw[E3 f,cond_true,Tg h,E3 j];simp only[vl,cond_true];rw[b,E3 i,g,t,show(p !=M0 d)=false by simpa using e];simp only[e,if_true];rfl
   ·apply p6;apply p6;intro R a;unfold U9 hpT;rw[E3 f,cond_true,Tg h,E3 j];simp only[vl,cond_true];rw[b,E3 i,g,t,show(p !=M0 d)=true by simpa using e];simp only[e,if_false];rfl
 ·apply p6;apply p6;intro R a;unfold U9 hpT;rw[E3 f,cond_true];simp only[vl];rw[show(((C7 name).2:Int)!=0)=true by simpa using b,cond_true,if_pos b];rfl
theorem Ms(name tail:By)(w:name.length<=1000000000)(x:tail.length<=1000000000)(l m:By)(p:Int)(v:By)(t n8 u d f g i j k:Int)(a:By) :
  ∃B H,∀(R:Type) (c:Int->Blk->By->By->Int->By->Int->Int->Int->Int->Int->Int->Int->Int->Int->Int->By->List Blk->Option R),P5 name tail l m p v t n8 u d f g i j k (-1) a c=(λq=>c (uE q) B (uS q) (uU q) (uK q) (uN q) (uV q) (uA q 0) (uA q 1) (uA q 2) (uA q 3) (uA q 4) (uA q 5) (uA q 6) (uA q 7) (uP q) (uR q) H) (hpC name tail l m a):=by
 cases tail with
 | nil=>
  obtain⟨B,H,e⟩:=Xw name [] w x (.inl rfl) l m p v t n8 u d f g i j k a;refine⟨B,H,λR c=>?_⟩;unfold P5 hpC;exact e R c
 | cons b r=>
  by_cases n:b=58
  ·subst n;obtain⟨B,H,e⟩:=Xw name (58::r) w x (.inr rfl) l m p v t n8 u d f g i j k a;refine⟨B,H,λR c=>?_⟩;unfold P5 hpC;rw[J6 (by omega) (by simp),if_neg (by simp)];exact e R c
  ·apply p6;apply p6;intro R c;unfold P5 hpC;have o:(((b.toNat:Int))!=(58:Int))=true:=by
    rw[bne_iff_ne];intro h;have y:b.toNat=58:=by omega
    exact n (x6.1 y)
   rw[J6 (by omega) (by simp),if_pos (by simpa using n),Z9,y7,o];rfl
theorem Bh8{c:UInt8}{s:By}(h:Gr c s=none):k9 s c=-1:=by rw[Jb,h]
theorem UG{c:UInt8}{s:By}{k:Nat}(h:Gr c s=some k):k9 s c=(k:Int)/\k<s.length:=by obtain⟨p,r,rfl,_,rfl⟩:=Qi h;exact⟨by rw[Jb,h],by simp⟩
theorem Dc3(c:UInt8)(s:By):([c]:By).isPrefixOf s=(s.head? == some c):=by
 cases s with
 | nil=>rfl
 | cons b r=>
  grind
abbrev KU(R:Type):=By->By->Int->By->Int->Int->Int->Int->Int->Int->Int->Int->Int->Int->By->Int->List Blk->Option R
abbrev HQ{R:Type}(a:KU R)(q:Y9 × Nat)(H:List Blk):Option R:=a (uS q) (uU q) (uK q) (uN q) (uV q) (uA q 0) (uA q 1) (uA q 2) (uA q 3) (uA q 4) (uA q 5) (uA q 6) (uA q 7) (uP q) (uR q) (uE q) H
theorem Bb0(u:By)(J:Int)(O:By)(v4 y z A C D F G I:Int)(t a:By)(h2:A3 a.length=true) :
  ∃H,∀(R:Type) (o:KU R),Uj LF u [] J O v4 y z A C D F G I (-1) t a o=HQ o (H4 u t a) H:=by
 have ha:=K7 h2;have ge:=IR 64 a;have key:∀(x b:By),b.length<=1000000000->∃H,∀(R:Type) (o:KU R),(cond (A3 (b8 b)) (cond (x5 (([91]:List UInt8)) b)
   (cond (A3 (b8 b))
    (vl (k9 b (u8n (93:Int))) λc=>
    cond (ltI c (0:Int))
     (o ([]:List UInt8) ([]:List UInt8) 0 ([]:List UInt8) 0 0 0 0 0 0 0 0 0 0 ([]:List UInt8) 4 [(bU u x J O v4 y z A C D F G I (-1) t),bU0])
     (cond (I1 (0:Int) (A1 (c+(1:Int))) (b8 b))
      (cond (I1 (A1 (c+(1:Int))) (↑(b8 b):Int) (b8 b))
       (P5 (cut b (0:Int) (A1 (c+(1:Int)))) (cut b (A1 (c+(1:Int))) (↑(b8 b):Int)) u x J O v4 y z A C D F G I (-1) t (λn0 T P Q K S L M n8 N f g i j l m n q=>o P Q K S L M n8 N f g i j l m n n0 (T::((bU P Q K S L M n8 N f g i j l m n)::q))))
       (none))
      (none)))
    (none))
   (cond (A3 (b8 b))
    (vl (k9 b (u8n (58:Int))) λd=>
    cond (not (ltI d (0:Int)))
     (cond (I1 (0:Int) d (b8 b))
      (cond (I1 d (↑(b8 b):Int) (b8 b))
       (P5 (cut b (0:Int) d) (cut b d (↑(b8 b):Int)) u x J O v4 y z A C D F G I (-1) t (λn0 T P Q K S L M n8 N f g i j l m n q=>o P Q K S L M n8 N f g i j l m n n0 (T::((bU P Q K S L M n8 N f g i j l m n)::q))))
      (none))
     (none))
     (P5 b ([]:List UInt8) u x J O v4 y z A C D F G I (-1) t (λn0 T P Q K S L M n8 N f g i j l m n q=>o P Q K S L M n8 N f g i j l m n n0 (T::((bU P Q K S L M n8 N f g i j l m n)::q)))))
    (none))) none)=HQ o (U0 u x t b) H:=by
  intro x b hb;rw[Vw];unfold Jz;have w:A3 b.length=true:=E3 hb;have W:u8n (93:Int)=93:=rfl;have U:u8n (58:Int)=58:=rfl;by_cases v:b.head? = some 91
  ·rw[if_pos v];have Z:([91]:By).isPrefixOf b=true:=by rw[Dc3,v];rfl
   cases Y:Gr 93 b with
   | none=>
    apply p6;intro R o;rw[w,Z,W,Bh8 Y];rfl
   | some k=>
    obtain⟨e,hk⟩:=UG Y;have e1:A1 ((k:Int)+1)=((k+1:Nat):Int):=by rw[A7];rfl
    obtain⟨B,H,X⟩:=Ms (b.take (k+1)) (b.drop (k+1)) (by rw[j8];omega) (by rw[j1];omega) u x J O v4 y z A C D F G I t;apply p6;intro R o;rw[w,Z,W,e];simp only[vl,cond_true];rw[A6,cond_false,e1,H5,H5,cond_true,cond_true,J8,O5,j7,X]
  ·rw[if_neg v];have Z:([91]:By).isPrefixOf b=false:=by rw[Dc3];simpa using v
   cases Y:Gr 58 b with
   | none=>
    obtain⟨B,H,X⟩:=Ms b [] hb (by simp) u x J O v4 y z A C D F G I t;apply p6;intro R o;rw[w,Z,U,Bh8 Y];simp only[vl,cond_true,cond_false];rw[A8,j4,cond_false,X]
   | some k=>
    obtain⟨e,hk⟩:=UG Y;obtain⟨B,H,X⟩:=Ms (b.take k) (b.drop k) (by rw[j8];omega) (by rw[j1];omega) u x J O v4 y z A C D F G I t;apply p6;intro R o;rw[w,Z,U,e];simp only[vl,cond_true,cond_false];rw[A6,p4,cond_true,H5,H5,cond_true,cond_true,J8,O5,j7,X]
 have V:u8n (64:Int)=64:=rfl;unfold H4;by_cases h:0<=L1 64 a
 ·obtain⟨p,r,rfl,_,hl⟩:=IT h;rw[if_pos h,hl,j7];rw[j2,j0] at ha;obtain⟨H,e⟩:=key ((p++64::r).take p.length) ((p++64::r).drop (p.length+1)) (by rw[j1,j2,j0];omega);refine⟨H,λR o=>?_⟩;refine c9 ?_ (e R o);have e1:A1 ((p.length:Int)+1)=((p.length+1:Nat):Int):=by rw[A7];rfl
  have ln:(p++64::r).length=p.length+r.length+1:=by rw[j2,j0];omega
  unfold Uj;rw[h2,V,hl];simp only[vl,cond_true];rw[A6,p4,cond_true,e1,H5,H5,cond_true,cond_true,J8,O5,j7,j7];rfl
 ·rw[if_neg h];obtain⟨H,e⟩:=key [] a ha;refine⟨H,λR o=>?_⟩;refine c9 ?_ (e R o);unfold Uj;rw[h2,V];simp only[vl,cond_true];rw[A8,j4,cond_false];rfl
theorem Pk{x:SV}(h:(Ty.int .u16).of x):∃n,x = .int .u16 n/\ltN n 65536=true:=by obtain⟨n,rfl,a,b⟩:=h;simp[IntKind.min,IntKind.max,IntKind.signed,IntKind.bits] at a b;exact⟨n,rfl,E2.2 ⟨a,by omega⟩⟩
def Tru(x:Option (PV × List Blk × Unit)):Prop:=∃H,x=some (.s (.bool true),H,())
theorem eq8{v6:List Nat}(h:v6.length=8):∃a b c d e f g i,v6=[a,b,c,d,e,f,g,i]:=by
 match v6,h with
 | [a,b,c,d,e,f,g,i],_=>exact⟨a,b,c,d,e,f,g,i,rfl⟩
theorem Ak6{h:B2}(a:M7 h=true):h.name.length<=253:=by
 unfold M7 at a;split at a
 ·simp only[s8] at a;exact(KT.1 a.1.1).le
 ·split at a
  ·simp only[s8,ad4] at a;rw[a.1];simp
  ·split at a
   ·simp only[s8,ad4] at a;rw[a.1];simp
   ·cases a
theorem Oo{h:B2}(ok:No h):(Gn h).length<=300:=by
 cases a:M7 h with
 | false=>rw[IG a];simp
 | true=>
  have d:=Ak6 a;have c:=Cl2 _ ok.v6.1 ok.v6.2;have b:=Dd5 _ ok.v4;unfold Gn;rw[if_pos a];split
  ·omega
  ·split
   ·omega
   ·simp only[j0,j2,aa1];omega
theorem Vx{h0 b c d e f g i j a:Int}{h1:By}(k:ltN b 4294967296=true)(l:ok8 c d e f g i j a=true):No (mkH h0 h1 b (n8 c d e f g i j a)):=by
 have⟨m,n⟩:=E2.1 k;refine⟨by show b.toNat<_;omega,C86 l,?_⟩;show(if ltN h0 4 then h0.toNat else 0)<4;split
 ·rename_i h;have:=E2.1 h;omega
 ·omega
theorem B05(c z:By)(x:Int)(y:By)(v4 m n o p t u v w k:Int)(b a:By)(O:A3 c.length=true)(P:A3 b.length=true)(A:A3 a.length=true)(B:z.isEmpty=true)(C:(k==-1)=true) :
  ∃r H,Uj LF c z x y v4 m n o p t u v w k b a (λL M D N F G I J n8 K f g h i l j d=>rv (.tup [gU L M D N F G I J n8 K f g h i l,.s (.int .i64 j)]) d)=rv r H/\
   r.stab [0,0] H=(λq=>.tup [gU (uS q) (uU q) (uK q) (uN q) (uV q) (uA q 0) (uA q 1) (uA q 2) (uA q 3) (uA q 4) (uA q 5) (uA q 6) (uA q 7) (uP q) (uR q),.s (.int .i64 (uE q))]) (H4 c b a):=by
 obtain rfl:=ad4.1 B;obtain rfl:k=-1:=by simpa using C
 obtain⟨H,e⟩:=Bb0 c x y v4 m n o p t u v w b a A;exact⟨_,_,e _ _,rfl⟩
theorem Bg6(b:UInt8):ctl b=(!ltI 32 (b.toNat:Int)||((b.toNat:Int)==127)):=by rw[p7,Cq7,aa8,aa3,Jy,beq_iff_eq];omega
theorem B06{R:Type}{a:List Blk->Option R}{b:By->Option R}(s:By)(g:s.length<=1000000000):∀(r i n:Nat),i+r=s.length->r<n->
  Ir LF n s (s.length:Int) (i:Int) a b=if (s.drop i).any ctl then a [] else b s:=by
 intro r
 induction r with
 | zero=>
  intro i n d e;obtain⟨n,rfl⟩:∃m,n=m+1:=⟨n-1,by omega⟩
  rw[Ir];rw[A6,s7 (by omega)];rfl
 | succ r f=>
  intro i n d e;obtain⟨n,rfl⟩:∃m,n=m+1:=⟨n-1,by omega⟩
  have c:A1 ((i:Int)+1)=((i+1:Nat):Int):=by rw[A7];rfl
  rw[Ir];rw[A8,E6,D0,D2 s i (by omega),c,List.any_cons,Bg6];simp only[cond_true];rw[f (i+1) n (by omega) (by omega)];cases ltI 32 ((s.getD i 0).toNat:Int) with
  | false=>rfl
  | true=>cases (((s.getD i 0).toNat:Int)==127)<;>rfl
theorem Ck3(s:By)(i:A3 s.length=true):∃H,∀(R:Type) (a:KU R),MG LF s a=HQ a (B9 s) H:=by
 have y:=K7 i;have v:=C2;have L:∀{R:Type} (a:List Blk->Option R) (l:By->Option R),Ir LF LF s (s.length:Int) 0 a l=if s.any ctl then a [] else l s:=λa l=>B06 s y s.length 0 LF (by omega) (by omega)
 unfold B9;by_cases h:s.any ctl=true
 ·rw[if_pos h];apply p6;intro R a;unfold MG;rw[L,if_pos h];rfl
 rw[if_neg h];rcases T1 58 s with b|⟨p,r,rfl,b⟩
 ·apply p6;intro R a;unfold MG;rw[L,if_neg h,i,Qd b];rfl
 have B:(p++58::r).length=p.length+r.length+1:=by rw[j2,j0];omega
 have sp:A3 p.length=true:=K3;have o:A3 r.length=true:=K3;rw[Ab b];simp only[j4,ah3];cases c:W0 p with
 | false=>
  apply p6;intro R a;unfold MG;rw[L,if_neg h,i,Ab b];simp only[vl,cond_true,j4,cond_false];rw[sp,c];rfl
 | true=>
 rw[if_neg (by simp)];cases f:F4 (B6 p) with
 | false=>
  apply p6;intro R a;unfold MG;rw[L,if_neg h,i,Ab b];simp only[vl,cond_true,j4,cond_false];rw[sp,c,f];rfl
 | true=>
 rw[if_neg (by simp)];cases Tj:([47,47]:By).isPrefixOf r with
 | false=>
  apply p6;intro R a;unfold MG;rw[L,if_neg h,i,Ab b];simp only[vl,cond_true,j4,cond_false];rw[sp,c,f,o,Tj];rfl
 | true=>
 rw[if_neg (by simp)];have j:Gi r [47,47]=r.drop 2:=by unfold Gi;rw[Tj,if_pos rfl];rfl
 generalize m:r.drop 2=t;rw[m] at j;have lt:t.length<=r.length:=by rw[<-m,j1];omega
 have u:A3 t.length=true:=K3;have z:=Xn t;have sl:A3 (B6 p).length=true:=by rw[Fp];exact sp
 have tail:∀(R:Type) (a:KU R) (X d:By),X.length<=t.length->d.length<=t.length->
   (cond (A3 (b8 X))
    (cond (not (x5 (([47]:List UInt8)) X))
     (cond (D6 1 (b8 X))
     (cond (A3 (b8 (B6 p)))
      (cond (A3 (b8 (([47]:List UInt8)++X)))
       (cond (A3 (b8 d))
       (cond (((-1):Int)==((-1):Int))
        (HQ a (H4 (B6 p) (([47]:List UInt8)++X) d) ((λq=>[bU (uS q) (uU q) (uK q) (uN q) (uV q) (uA q 0) (uA q 1) (uA q 2) (uA q 3) (uA q 4) (uA q 5) (uA q 6) (uA q 7) (uP q) (uR q),bU (B6 p) [] 0 [] 0 0 0 0 0 0 0 0 0 (-1) (([47]:List UInt8)++X)]) (H4 (B6 p) (([47]:List UInt8)++X) d)))
        (none))
       (none))
       (none))
      (none))
     (none))
     (cond (A3 (b8 (B6 p)))
     (cond (A3 (b8 X))
      (cond (A3 (b8 d))
      (cond (((-1):Int)==((-1):Int))
       (HQ a (H4 (B6 p) X d) ((λq=>[bU (uS q) (uU q) (uK q) (uN q) (uV q) (uA q 0) (uA q 1) (uA q 2) (uA q 3) (uA q 4) (uA q 5) (uA q 6) (uA q 7) (uP q) (uR q),bU (B6 p) [] 0 [] 0 0 0 0 0 0 0 0 0 (-1) X]) (H4 (B6 p) X d)))
       (none))
      (none))
      (none))
     (none)))
    none)=HQ a (H4 (B6 p) (W3 X) d) ((λq=>[bU (uS q) (uU q) (uK q) (uN q) (uV q) (uA q 0) (uA q 1) (uA q 2) (uA q 3) (uA q 4) (uA q 5) (uA q 6) (uA q 7) (uP q) (uR q),bU (B6 p) [] 0 [] 0 0 0 0 0 0 0 0 0 (-1) (W3 X)]) (H4 (B6 p) (W3 X) d)):=by
  intro R a X d A w;rw[K3,sl,Dc3,E3 (n:=d.length) (by omega)];unfold W3;by_cases g:X.head? = some 47
  ·rw[if_pos g,g];rfl
  ·have e:(X.head? == some 47)=false:=by simpa using g
   rw[if_neg g,e,E7 (by omega),E3 (by simp;omega)];rfl
 refine⟨(λX=>(λq=>[bU (uS q) (uU q) (uK q) (uN q) (uV q) (uA q 0) (uA q 1) (uA q 2) (uA q 3) (uA q 4) (uA q 5) (uA q 6) (uA q 7) (uP q) (uR q),bU (B6 p) [] 0 [] 0 0 0 0 0 0 0 0 0 (-1) (W3 X)]) (H4 (B6 p) (W3 X) (t.take (J5 t)))) (t.drop (J5 t)),λR a=>?_⟩;refine c9 ?_ (tail R a (t.drop (J5 t)) (t.take (J5 t)) (by rw[j1];omega) (by rw[j8];omega));unfold MG;rw[L,if_neg h,i,Ab b];simp only[vl,cond_true,j4,cond_false];rw[sp,c,f,o,Tj,j,u];rw[show AL ([47,63,35]:List UInt8)=true from rfl,show([47,63,35]:List UInt8)=isl from rfl,Ja];simp only[cond_true,j4,cond_false];by_cases k:J5 t<t.length
 ·rw[if_pos k,A6,p4,cond_true,J8,j7,j8,Nat.min_eq_left (by omega),H5,H5,O5,j7];rfl
 ·have x:J5 t=t.length:=by omega
  rw[if_neg k,A8,j4,cond_false,H5,O5,j7,x,List.take_length,u];rfl
abbrev rvU(n o:By)(h:Int)(p:By)(i j k l n8 m b c d e:Int)(g:By)(f:Int)(a:List Blk):=rv (.tup [gU n o h p i j k l n8 m b c d e g,.s (.int .i64 f)]) a
abbrev pvU(q:Y9 × Nat):PV:=.tup [gU (uS q) (uU q) (uK q) (uN q) (uV q) (uA q 0) (uA q 1) (uA q 2) (uA q 3) (uA q 4) (uA q 5) (uA q 6) (uA q 7) (uP q) (uR q),.s (.int .i64 (uE q))]
theorem C29(s:By)(a:A3 s.length=true):∃r H,MG LF s rvU=rv r H/\r.stab [0,0] H=pvU (B9 s):=by obtain⟨H,e⟩:=Ck3 s a;exact⟨_,_,e _ _,rfl⟩
theorem AM{p:Int}(h:V4 p=true):(Cc p).length<=20:=by
 obtain⟨a,b⟩:=Jv.1 h;unfold Cc;split
 ·have:=Fk 19 (-p).toNat (by omega) (by omega);rw[j0];omega
 ·have:=Fk 19 p.toNat (by omega) (by omega);omega
theorem CD(b:Int)(c:By)(v4:Int)(a:List Nat):Gn (mkH b c v4 a)=Gn (Cv8 b c v4 a):=by
 unfold mkH Cv8;cases h:ltN b 4 with
 | true=>rfl
 | false=>
  rw[if_neg (by simp),if_neg (by simp),IG (by rfl),IG (by rfl)]
theorem Mo{c d a b:By}(h:smU c d a b=true):c.length<=100000000/\d.length<=100000000/\a.length<=100000000/\b.length<=100000000:=by simp only[smU,s8,ac5,and_assoc] at h;exact h
theorem PA{l m:By}{kd:Int}{a:By}{v4 b c d e f g h i j:Int}{k:By}(h0:smU l m a k=true)(h1:ltN v4 4294967296=true)(n:ok8 b c d e f g h i=true)(o:V4 j=true) :
  (Bg (mkU l m kd a v4 (n8 b c d e f g h i) j k)).length<=400000000:=by
 obtain⟨r,t,u,v⟩:=Mo h0;have p:=Oo (Vx (h0:=kd) (h1:=a) h1 n);rw[CD] at p;have q:=AM o;unfold Bg mkU GW;simp only;split
 ·split<;>split<;>simp only[j2,j0,aa1]<;>omega
 ·simp only[j2,j0];omega
theorem Ck8(c n:By)(m:Int)(a:By)(v4 e f g h i j k l b:Int)(d:By)(h0:smU c n a d=true)(h1:ltN v4 4294967296=true)(t:ok8 e f g h i j k l=true)(x:V4 b=true) :
  ∃r H,Rt LF c n m a v4 e f g h i j k l b d (λu q=>rv (.s (.str u)) q)=rv r H/\r.stab [] H = .s (.str (Bg (mkU c n m a v4 (n8 e f g h i j k l) b d))):=by
 obtain⟨D,F,G,I⟩:=Mo h0;have A:=Oo (Vx (h0:=m) (h1:=a) h1 t);have C:=AM x;have key:∀T:By,Rt LF c n m a v4 e f g h i j k l b d (λu q=>rv (.s (.str u)) q)=rv (.s (.str T)) [bU c n m a v4 e f g h i j k l b d]->T=Bg (mkU c n m a v4 (n8 e f g h i j k l) b d)->∃r H,Rt LF c n m a v4 e f g h i j k l b d (λu q=>rv (.s (.str u)) q)=rv r H/\r.stab [] H = .s (.str (Bg (mkU c n m a v4 (n8 e f g h i j k l) b d))):=λT y z=>⟨_,_,y,by rw[<-z];rfl⟩
 have w:A3 a.length=true:=K3;cases o:F4 c with
 | false=>
  refine key (c++[58]++d) ?_ ?_
  ·unfold Rt;rw[o,E7 (by omega)];simp only[vl,cond_true,p4];rw[E7 (by simp;omega)];rfl
  ·unfold Bg mkU;simp only[o];simp
 | true=>
  have B:=A;by_cases v:n=[]
  ·subst v;have e0:(([]:By)==([]:List UInt8))=true:=rfl;by_cases p:b=-1
   ·subst p;refine key (((c++[58,47,47])++Gn (mkH m a v4 (n8 e f g h i j k l)))++d) ?_ ?_
    ·unfold Rt;rw[o,w,h1,t,e0];simp only[vl,cond_true,cond_false,j4,show((-1:Int)!=-1)=false from rfl]
     repeat rw[E7 (by first|omega|(simp only[j2,j0,aa1];omega))]
     rfl
    ·unfold Bg mkU GW;simp[o,CD]
   ·refine key (((c++[58,47,47])++Gn (mkH m a v4 (n8 e f g h i j k l)))++([58]++Cc b)++d) ?_ ?_
    ·unfold Rt;rw[o,w,h1,t,x,e0];simp only[vl,cond_true,cond_false,j4,show(b !=-1)=true by simpa using p]
     repeat rw[E7 (by first|omega|(simp only[j2,j0,aa1];omega))]
     rfl
    ·unfold Bg mkU GW;simp[o,CD,p]
  ·have e0:(n==([]:List UInt8))=false:=by simpa using v
   by_cases p:b=-1
   ·subst p;refine key (((c++[58,47,47])++(n++[64])++Gn (mkH m a v4 (n8 e f g h i j k l)))++d) ?_ ?_
    ·unfold Rt;rw[o,w,h1,t,e0];simp only[vl,cond_true,cond_false,j4,p4,show((-1:Int)!=-1)=false from rfl]
     repeat rw[E7 (by first|omega|(simp only[j2,j0,aa1];omega))]
     rfl
    ·unfold Bg mkU GW;simp[o,CD,v]
   ·refine key (((c++[58,47,47])++(n++[64])++Gn (mkH m a v4 (n8 e f g h i j k l)))++([58]++Cc b)++d) ?_ ?_
    ·unfold Rt;rw[o,w,h1,t,x,e0];simp only[vl,cond_true,cond_false,j4,p4,show(b !=-1)=true by simpa using p]
     repeat rw[E7 (by first|omega|(simp only[j2,j0,aa1];omega))]
     rfl
    ·unfold Bg mkU GW;simp[o,CD,p,v]
theorem Cu3{a:Int}{k:Nat}(d:k<4):(a==(k:Int))=(k==(if ltN a 4 then a.toNat else 4)):=by
 rw[p7,beq_iff_eq,beq_iff_eq];cases h:ltN a 4 with
 | true=>
  obtain⟨b,c⟩:=E2.1 h;rw[if_pos rfl];omega
 | false=>
  rw[if_neg (by simp)];have:¬(0<=a/\a<4):=λq=>by
   have:=E2.2 q;rw[h] at this;cases this
  omega
theorem Og(a b:By):(a==b)=(b==a):=by rw[p7,beq_iff_eq,beq_iff_eq];exact eq_comm
theorem Aj(a b:Int):(a==b)=(b==a):=by rw[p7,beq_iff_eq,beq_iff_eq];exact eq_comm
theorem Ev(a b:Nat):((a:Int)==(b:Int))=(b==a):=by rw[p7,beq_iff_eq,beq_iff_eq];omega
theorem NA{sc us:By}{kd:Int}{nm:By}{v4 a b c d f g h i po:Int}{re:By}{p:Y9 × Nat}(L:ltN v4 4294967296=true)(M:ok8 a b c d f g h i=true)(P:B30 p.1) :
  ((sc==(uS p))&&((us==(uU p))&&((kd==(uK p))&&((nm==(uN p))&&((v4==(uV p))&&((a==(uA p 0))&&((b==(uA p 1))&&((c==(uA p 2))&&((d==(uA p 3))&&((f==(uA p 4))&&((g==(uA p 5))&&((h==(uA p 6))&&((i==(uA p 7))&&((po==(uP p))&&((re==(uR p))&&true)))))))))))))))=eqU p.1 (mkU sc us kd nm v4 (n8 a b c d f g h i) po re):=by
 obtain⟨⟨s,u,⟨k,n,v,l⟩,q,t⟩,e⟩:=p;obtain⟨K,_⟩:=P;obtain⟨B,C,D,F,G,H,I,J,rfl⟩:=eq8 K.v6.1;obtain⟨j,m,o,r,x,y,z,A,rfl,rfl,rfl,rfl,rfl,rfl,rfl,rfl,_⟩:=Ql M;obtain⟨w,rfl⟩:=y8 (E2.1 L).1;have N:k<4:=K.kd;have O:(([B,C,D,F,G,H,I,J]:List Nat)==[j,m,o,r,x,y,z,A])=((B==j)&&((C==m)&&((D==o)&&((F==r)&&((G==x)&&((H==y)&&((I==z)&&((J==A)&&true)))))))):=rfl;simp only[eqU,eqH,mkU,Cv8,n8,j7,O,y7,ae4];rw[Cu3 N,Og sc,Og us,Og nm,Og re,Aj po,Ev w,Ev j,Ev m,Ev o,Ev r,Ev x,Ev y,Ev z,Ev A];simp only[Bool.and_assoc,ah2];rfl
theorem Bb9(m n:By)(kd:Int)(j:By)(v4 a b c d f g h i k:Int)(l:By)(u:smU m n j l=true)(o:ltN v4 4294967296=true)(q:ok8 a b c d f g h i=true)(v:V4 k=true) :
  ∃r H,EQ LF m n kd j v4 a b c d f g h i k l (λz w=>rv (.s (.bool z)) w)=rv r H/\r.stab [] H = .s (.bool (X8 (mkU m n kd j v4 (n8 a b c d f g h i) k l))):=by
 have A:=PA (kd:=kd) u o q v;unfold EQ X8;rw[u,o,q,v];simp only[vl,cond_true];rw[K3,cond_true];have x:=JK (Bg (mkU m n kd j v4 (n8 a b c d f g h i) k l));rw[NA o q x];generalize B9 (Bg (mkU m n kd j v4 (n8 a b c d f g h i) k l))=p;obtain⟨y,e⟩:=p;by_cases t:e=0
 ·subst t;exact⟨_,_,rfl,rfl⟩
 ·rw[show(uE (y,e)==(0:Int))=false by simpa using t,show(e==0)=false by simpa using t];exact⟨_,_,rfl,rfl⟩
end
section
open Go Go.Proofs Go.Sort
set_option maxRecDepth 100000
theorem XL:B0 a8 GX 73 Ut:=by
 refine B0.fix (pf:=GH) _ (J1 (fn:=Tryz.f73) (by kernel_rfl) (by kernel_rfl) (by kernel_rfl) ?_);intro args ret j h;unfold GH at h;split at h
 ·rename_i s c;obtain⟨l,h⟩:=C0 h;obtain⟨m,h⟩:=C0 h;obtain⟨rfl,rfl⟩:=J0 h;refine⟨rfl,rfl,λC o a p w k n d b=>?_⟩;obtain⟨U,V,rfl,f,g⟩:=b.arr2;obtain⟨i,rfl,rfl⟩:=f.inv_str;obtain rfl:=g.inv_int;refine(Any.strings_IndexByte Tryz.lays137 i c w).mono ?_;rintro e w' ⟨rfl,rfl⟩;exact⟨_,rfl,af4 _ _,VP.mk_int _ _⟩
 ·cases h
theorem Bc6:B0 a8 GX 53 ET:=KX 9223372036854775808 (ab9 _)
theorem Bm2:B0 a8 GX 51 QE:=by
 refine B0.fix (pf:=EZ) _ (J1 (fn:=Tryz.f51) (by kernel_rfl) (by kernel_rfl) (by kernel_rfl) ?_);intro args ret l h;unfold EZ at h;split at h
 ·rename_i n;obtain⟨b,h⟩:=C0 h;obtain⟨rfl,rfl⟩:=J0 h;refine⟨rfl,rfl,λC o a p w m c i g=>?_⟩;obtain⟨U,rfl,j⟩:=g.arr1;obtain rfl:=j.inv_int;obtain⟨d,f⟩:=Jv.1 b;refine(Any.strconv_Itoa Tryz.laysM171 n (by omega) (by omega) w (B90 c a)).mono ?_;rintro e w' ⟨rfl,k,os,rfl⟩;refine⟨_,rfl,(Of w k).trans (show RowKit.Below w.heap.size _ _ from HA (w.drewN k) os),?_⟩;have:Lib.itoa n=Cc n:=by
   unfold Lib.itoa Cc;split
   ·rw[show n.natAbs=(-n).toNat by omega]
   ·rfl
  rw[this];exact VP.mk_str _
 ·cases h
theorem Co1:B0 a8 GX 58 YC:=by
 refine B0.fix (pf:=Pw) _ (J1 (fn:=ag7) (by kernel_rfl) (by kernel_rfl) (by kernel_rfl) ?_);intro args ret A h;unfold Pw at h;split at h
 ·rename_i s p;obtain⟨i,h⟩:=C0 h;obtain⟨k,h⟩:=C0 h;obtain⟨l,h⟩:=C0 h;obtain⟨rfl,rfl⟩:=J0 h;refine⟨rfl,rfl,λC G m I w B F r q=>?_⟩;obtain⟨U,V,rfl,y,z⟩:=q.arr2;obtain⟨g,rfl,rfl⟩:=y.inv_str;obtain⟨d,rfl,a⟩:=z.inv_str;have H:=K7 i;have c:p=isl:=by simpa[AL] using k
  have D:=ab6 l;have f:=zero_of_info (P:=a8) (t:=Tryz.lays153_ren.t 116) (v:=.agg (Array.replicate 256 (.bool false))) (n:=256) (by kernel_rfl);subst c;have u:d.size=3:=by have:=ag1 d;rw[a] at this;exact this
  have x:=ag1 g;refine(Any.strings_IndexAny_long Tryz.lays153 f.1 f.2 g d w (by omega) (by omega) (by omega) (by omega) ?_).mono ?_
  ·rw[a];intro j b o;have:b∈isl:=List.mem_of_getElem? o
   revert b
   simp only[isl,v7,ad5,or_false];rintro b _ (rfl|rfl|rfl)<;>decide
  ·rintro e w' ⟨rfl,rfl⟩;rw[a];exact⟨_,rfl,((af4 _ _).alloc (ab9 _) _).alloc (by simp) _,VP.mk_int _ _⟩
 ·cases h
end
section
open Go Go.Proofs
set_option maxRecDepth 100000
theorem WQ{R:Type}{a:Bool->Option R}(n:Int):WO LF n a=a (ltI 8 n):=rfl
theorem Ak2{R:Type}{a:Bool->Option R}(r:Int):KR LF r a=a (KV r):=by
 have b:ltN r 55296=(!ltI r 0&&ltI r 55296):=by
  rw[p7,E2,s8,aa3,Jy,Lo];omega
 have c:(ltI 57343 r&&ltN r 1114112)=(ltI 57343 r&&!ltI 1114111 r):=by
  rw[p7,s8,s8,E2,aa3,Jy,Lo];omega
 unfold KR Kq KV;rw[b,c];cases ltI r 0<;>cases ltI r 55296<;>cases ltI 57343 r<;>cases ltI 1114111 r<;>rfl
theorem Db2(b:UInt8):k9 isl b=irn (b.toNat:Int):=by
 by_cases a:b=47
 ·subst a;rfl
 ·by_cases d:b=63
  ·subst d;rfl
  ·by_cases f:b=35
   ·subst f;rfl
   ·have n:∀c:UInt8,b≠c->(c==b)=false:=λc h=>by rw[beq_eq_false_iff_ne];exact ac9 h
    have e:∀c:UInt8,b≠c->¬(b.toNat:Int)=(c.toNat:Int):=λc h q=>h (x6.1 (by omega))
    have g:¬(b.toNat:Int)=47:=e 47 a;have i:¬(b.toNat:Int)=63:=e 63 d;have j:¬(b.toNat:Int)=35:=e 35 f;unfold irn;rw[if_neg g,if_neg i,if_neg j];simp[isl,k9,n _ a,n _ d,n _ f]
theorem Dj4{l:By}{x:UInt8}(h:∀b∈l,b.toNat<128)(d:128<=x.toNat):k9 l x=-1:=by
 have e:=Li x l;have c:l.contains x=false:=by
  rw[af1];intro a;have:=h x (by simpa using a);omega
 rw[c,p4,Lo] at e;have:=af7 l x;omega
theorem B84{r:Int}(g:KV r=true)(h:128<=r):2<=(ab3 r).data.toList.length/\(ab3 r).data.toList.length<=4/\128<=((ab3 r).data.toList.getD ((ab3 r).data.toList.length-1) 0).toNat:=by
 have a:Utf8.valid r=true:=by
  rw[validRune_eq];unfold validRune;simp only[KV,aa8,s8,E2,Lo] at g;exact decide_eq_true (by omega)
 obtain⟨b,c,d⟩:=encode_facts r a h;have f:=ag1 (ab3 r);rw[<-f];refine⟨b,c,?_⟩;have e:=d (by omega);rw[List.getD_eq_getElem?_getD,ad1 (by omega),af9];exact e
theorem By8(r:Int)(h:ltN r 1114112=true):∃v H,KK LF r (λk=>rv (.s (.int .i64 k)) []) (λk I=>rv (.s (.int .i64 k)) [.iter [47,63,35] I])=rv v H/\v.stab [] H = .s (.int .i64 (irn r)):=by
 obtain⟨A,M⟩:=E2.1 h;have B:=C2;unfold KK;rw[A6,p4,cond_true];unfold Kl;by_cases p:r<128
 ·obtain⟨n,rfl⟩:=y8 A;have e:wu8 (n:Int)=(n:Int):=L6;have f:u8n (n:Int)=ac0 n:=by unfold u8n;simp
  have g:(((ac0 n).toNat:Nat):Int)=(n:Int):=by simp;omega
  rw[A8,cond_true,e,E6,f];have o:=Db2 (ac0 n);rw[g] at o;rw[<-o];exact⟨_,_,rfl,rfl⟩
 ·rw[A6,cond_false,Ca2 (by omega)];by_cases t:r=65533
  ·subst t;obtain⟨m,i⟩:∃m,LF=m+1+1+1+1:=⟨LF-4,by omega⟩
   have w:x4 ⟨w8 ([47,63,35]:List UInt8)⟩ 0=(47,1):=rfl;have x:x4 ⟨w8 ([47,63,35]:List UInt8)⟩ 1=(63,1):=rfl;have y:x4 ⟨w8 ([47,63,35]:List UInt8)⟩ 2=(35,1):=rfl;have go:∀(R:Type) (c:Int->Nat->Option R) (a:Nat->Option R),Y7 LF LF 0 c a=a 3:=λR c a=>by
    have L:Y7 LF (m+1) 3 c a=a 3:=by rw[Eb];rfl
    have K:Y7 LF (m+1+1) 2 c a=a 3:=by rw[Eb];unfold De;rw[y];exact L
    have J:Y7 LF (m+1+1+1) 1 c a=a 3:=by rw[Eb];unfold De;rw[x];exact K
    have d:Y7 LF (m+1+1+1+1) 0 c a=a 3:=by rw[Eb];unfold De;rw[w];exact J
    rw[<-i] at d;exact d
   rw[go];exact⟨_,_,rfl,rfl⟩
  ·rw[show(r==(65533:Int))=false by simpa using t,cond_false];cases F:KV r with
   | false=>exact⟨_,_,rfl,rfl⟩
   | true=>
    obtain⟨O,P,G⟩:=B84 F (by omega);simp only[vl,j4,cond_false];generalize (ab3 r).data.toList=l at *;obtain⟨m,i⟩:∃m,LF=m+1:=⟨LF-1,by omega⟩
    have z:A1 ((l.length:Int)-1)=((l.length-1:Nat):Int):=by rw[A7];omega
    have go:∀(R:Type) (c:Int->Option R) (a:Unit->Option R),a ()=c (-1)->Fw LF LF l ((l.length-1:Nat):Int) c a=c (-1):=λR c a C=>by
     have d:Fw LF (m+1) l ((l.length-1:Nat):Int) c a=c (-1):=by
      rw[DH];unfold Mn;by_cases N:l.length=4
      ·rw[A6];exact C
      ·rw[A8,E6,E6,D0,D0];simp only[vl,cond_true];have D:(([47,63,35]:List UInt8).getD (l.length-1) 0).toNat<128:=by
        have:l.length=2\/l.length=3:=by omega
        rcases this with q|q<;>rw[q]<;>decide
       have j:((((([47,63,35]:List UInt8).getD (l.length-1) 0).toNat:Nat):Int)!=(((l.getD (l.length-1) 0).toNat:Nat):Int))=true:=by
        rw[bne_iff_ne];omega
       have f:A1 (((l.length-1:Nat):Int)+1)=((l.length:Nat):Int):=by rw[A7];omega
       have g:cut ([47,63,35]:List UInt8) ((l.length:Nat):Int) 3=([47,63,35]:List UInt8).drop l.length:=by
        rw[show(3:Int)=((3:Nat):Int) from rfl,En];rfl
       have u:=(l.getD (l.length-1) 0).toNat_lt;rw[j,cond_true,f,H5,cond_true,g,E3 (by simp;omega),cond_true,E6,cond_true,Iq,Dj4 (λb u=>?_) G]
       ·rfl
       ·have:=x3 u;simp only[v7,ad5,or_false] at this;rcases this with rfl|rfl|rfl<;>decide
     rw[<-i] at d;exact d
    rw[z,go _ _ _ rfl];exact⟨_,_,rfl,rfl⟩
theorem B25:B0 a8 GX 76 Yy:=by
 refine B0.fix (pf:=Sf) _ (I6 [] (C₀:=Zs LF) (L7.ok (l:=[]) rfl trivial) (I4 rfl (by kernel_rfl)) follows ?_);intro args ret a h;unfold Sf at h;split at h
 ·rename_i n;obtain⟨rfl,rfl⟩:=J0 h;have e:=(Ba1 LF noY () 0 n).trans (WQ n);exact⟨rfl,rfl,rfl,1,_,_,e,rfl⟩
 ·cases h
theorem Co9:B0 a8 GX 101 GO:=by
 refine B0.fix (pf:=Ze) _ (I6 [] (C₀:=Bl LF) (L7.ok (l:=[]) rfl trivial) (I4 rfl (by kernel_rfl)) follows ?_);intro args ret a h;unfold Ze at h;split at h
 ·rename_i n;obtain⟨rfl,rfl⟩:=J0 h;have e:=(B10 LF noY () 0 n).trans (Ak2 n);exact⟨rfl,rfl,rfl,1,_,_,e,rfl⟩
 ·cases h
theorem Co4:B0 a8 GX 77 Nx:=λargs ret a h=>by
 have:L4 (Nx args)=none:=by unfold Nx ML;split<;>rfl
 rw[this] at h;cases h
theorem Co3:B0 a8 GX 75 GI:=by
 refine B0.fix (pf:=Yx) _ (I6 [] (C₀:=L0 LF) (L7.ok (l:=[(73,Ut),(101,GO)]) rfl ⟨XL,Co9,trivial⟩) (I4 rfl (by kernel_rfl)) follows ?_);intro args ret f h;unfold Yx at h;split at h
 ·rename_i p r;obtain⟨a,h⟩:=C0 h;obtain⟨b,h⟩:=C0 h;obtain⟨rfl,rfl⟩:=J0 h;obtain rfl:p=isl:=by simpa[AL] using a
  obtain⟨d,H,e,c⟩:=By8 r b;exact⟨rfl,rfl,rfl,1,d,H,(By7 LF noY () 0 r).trans e,c⟩
 ·cases h
theorem KM:∀(w:Nat) (l:By),w<=l.length->(∀i,i<w->V6 (l.getD i 0)=false)->J5 l=w+J5 (l.drop w)
 | 0,l,_,_=>by simp
 | w+1,[],h,_=>by simp at h
 | w+1,b::l,h,hb=>by
  have a:=hb 0 (by omega);rw[y7] at a;have d:=KM w l (by simpa using h) (λi c=>by have:=hb (i+1) (by omega);rwa [ae4] at this);rw[Hl,a,List.drop_succ_cons];simp only[p9,if_false];omega
theorem Ai2(s:By)(O:s.length<=8):∀(f m n:Nat),s.length-m<=f->m<=s.length->f<n->∃H t,∀(R:Type) (j:Int->List Blk->Option R) (k:By->Nat->Option R),
  Kk LF n s m j k=if J5 (s.drop m)<(s.drop m).length then j ((m+J5 (s.drop m):Nat):Int) H else k s t:=by
 intro f
 induction f with
 | zero=>
  intro m n G K L;obtain⟨n,rfl⟩:∃q,n=q+1:=⟨n-1,by omega⟩
  refine⟨[],m,λR j k=>?_⟩;rw[Bd];unfold X6;rw[decide_eq_false (by omega),cond_false,s7 (by omega),if_neg (by simp)]
 | succ f z=>
  intro m n G K L;obtain⟨n,rfl⟩:∃q,n=q+1:=⟨n-1,by omega⟩
  by_cases a:m<s.length
  ·have F:=Lib.decodeL_drop ⟨s.toArray⟩ m;have h:x4 ⟨w8 s⟩ m=aa4 (s.drop m):=by rw[<-F]
   have p:=D2 s m a;have N:(s.drop m).length=s.length-m:=j1;generalize M:s.getD m 0=b at p;by_cases o:b.toNat<128
   ·have y:aa4 (s.drop m)=(b.toNat,1):=by rw[p];exact Lib.decodeL_ascii b _ o
    have l:=Db3 b;cases g:V6 b with
    | true=>
     rw[g,j4] at l;have u:J5 (s.drop m)=0:=by rw[p,Hl,g];rfl
     refine⟨[Blk.iter s (m+1)],m,λR j k=>?_⟩;rw[Bd];unfold X6;rw[decide_eq_true a,h,y,u,S6];simp only[vl,cond_true];rw[show AL ([47,63,35]:List UInt8)=true from rfl,cond_true,E2.2 ⟨by omega,by omega⟩,cond_true,l];rfl
    | false=>
     rw[g,p4] at l;have u:J5 (s.drop m)=J5 (s.drop (m+1))+1:=by rw[p,Hl,g];rfl
     have v:(s.drop (m+1)).length=s.length-(m+1):=j1;obtain⟨H,t,e⟩:=z (m+1) n (by omega) (by omega) (by omega);refine⟨H,t,λR j k=>?_⟩;rw[Bd];unfold X6;rw[decide_eq_true a,h,y];simp only[vl,cond_true];rw[show AL ([47,63,35]:List UInt8)=true from rfl,cond_true,E2.2 ⟨by omega,by omega⟩,cond_true,l,j4,cond_false,e,u];by_cases q:J5 (s.drop (m+1))<(s.drop (m+1)).length
     ·rw[if_pos q,S6,show m+1+J5 (s.drop (m+1))=m+(J5 (s.drop (m+1))+1) by omega]
     ·rw[if_neg q,G1]
   ·obtain⟨A,B,C,D,x⟩:=Da2 b (s.drop (m+1)) (by omega);rw[<-p] at A B C D x;have v:(s.drop (m+1)).length=s.length-(m+1):=j1;generalize aa4 (s.drop m)=d at *;obtain⟨c,w⟩:=d;simp only at A B C D x;have r:=KM w (s.drop m) (by omega) (λi I=>Ci2 (x i I));rw[List.drop_drop] at r;have J:(s.drop (m+w)).length=s.length-(m+w):=j1;have l:ltI (irn (c:Int)) 0=true:=by rw[Ca2 (by omega)];rfl
    obtain⟨H,t,e⟩:=z (m+w) n (by omega) (by omega) (by omega);refine⟨H,t,λR j k=>?_⟩;rw[Bd];unfold X6;rw[decide_eq_true a,h];simp only[vl,cond_true];rw[show AL ([47,63,35]:List UInt8)=true from rfl,cond_true,E2.2 ⟨by omega,by omega⟩,cond_true,l,j4,cond_false,e,r];by_cases q:J5 (s.drop (m+w))<(s.drop (m+w)).length
    ·rw[if_pos q,S6,show m+w+J5 (s.drop (m+w))=m+(w+J5 (s.drop (m+w))) by omega]
    ·rw[if_neg q,G1]
  ·refine⟨[],m,λR j k=>?_⟩;rw[Bd];unfold X6;rw[decide_eq_false a,cond_false,s7 (by omega),if_neg (by simp)]
theorem By5(s:By)(h:s.length<=8):∃r H,WI LF s (λc a=>rv (.s (.int .i64 c)) a)=rv r H/\r.stab [] H = .s (.int .i64 (aa5 s isl)):=by
 have b:=C2;obtain⟨H,d,e⟩:=Ai2 s h s.length 0 LF (by omega) (by omega) (by omega);unfold WI;rw[A6,cond_false,e,Ja,ac4,ac1];by_cases q:J5 s<s.length
 ·rw[if_pos q,if_pos q];exact⟨_,_,rfl,rfl⟩
 ·rw[if_neg q,if_neg q];exact⟨_,_,rfl,rfl⟩
theorem Co2:B0 a8 GX 58 YD:=by
 refine B0.fix (pf:=Px) _ (I6 [] (C₀:=Gd LF) (L7.ok (l:=[(75,GI),(76,Yy),(77,Nx)]) rfl ⟨Co3,B25,Co4,trivial⟩) (I4 rfl (by kernel_rfl)) follows ?_);intro args ret f h;unfold Px at h;split at h
 ·rename_i s p;obtain⟨a,h⟩:=C0 h;obtain⟨b,h⟩:=C0 h;obtain⟨rfl,rfl⟩:=J0 h;obtain rfl:p=isl:=by simpa[AL] using a
  obtain⟨d,H,e,c⟩:=By5 s (ab6 b);exact⟨rfl,rfl,rfl,1,d,H,(By4 LF noY () 0 s).trans e,c⟩
 ·cases h
theorem Ko{c:Bool}{t:Tr}(h:c=true):L4 (.need c t)=L4 t:=by subst h;rfl
theorem C64:B0 a8 GX 58 RX:=λargs ret c h=>by
 have a:=Co1 args ret c;have b:=Co2 args ret c;unfold RX at h;unfold YC at a;unfold YD at b;generalize B8 [[0],[0]] args=l at h a b;unfold YB at h;split at h
 ·rename_i s p;obtain⟨e,h⟩:=C0 h;obtain⟨d,h⟩:=C0 h;by_cases f:s.length<=8
  ·refine b ?_;unfold Px;rw[Ko d,Ko (ae1 f)];exact h
  ·refine a ?_;unfold Pw;rw[Ko e,Ko d,Ko (ae1 (by omega))];exact h
 ·cases h
section
theorem C49:B0 a8 GX 112 Bd8:=xf [] (TE LF) FH rfl ⟨Bc8,trivial⟩ rfl (by kernel_rfl) follows λargs=>by
 unfold FH;split
 ·rename_i s p;exact λa=>⟨rfl,rfl,rfl,_,_,(Cb2 LF noY () 0 s p).trans (Ax2 s p a),rfl⟩
 ·trivial
theorem Dh2:B0 a8 GX 83 B51:=xf [] (Ar7 LF) SD rfl ⟨C49,trivial⟩ rfl (by kernel_rfl) follows λargs=>by
 unfold SD;split
 ·rename_i s p;exact λa=>⟨rfl,rfl,rfl,_,_,(C24 LF noY () 0 s p).trans (Bz9 s p a),rfl⟩
 ·trivial
theorem XM:B0 a8 GX 44 DW:=xf [] (TS LF) GL rfl trivial rfl (by kernel_rfl) follows λargs=>by
 unfold GL;split
 ·rename_i s;exact⟨rfl,rfl,rfl,_,_,(Ck2 LF noY () 0 s).trans (Bb2 s ),rfl⟩
 ·trivial
theorem Xz:B0 a8 GX 22 Py:=xf [] (TT LF) GM rfl ⟨XM,trivial⟩ rfl (by kernel_rfl) follows λargs=>by
 unfold GM;split
 ·rename_i s;exact⟨rfl,rfl,rfl,_,_,(Ck6 LF noY () 0 s).trans (Bb7 s ),rfl⟩
 ·trivial
theorem Co7:B0 a8 GX 26 Ao3:=xf [] (Ar8 LF) SH rfl ⟨XM,trivial⟩ rfl (by kernel_rfl) follows λargs=>by
 unfold SH;split
 ·rename_i n o j k v4 a b c d f g h i l m;exact(let⟨r,H,e,q⟩:=C32 n o j k v4 a b c d f g h i l m ; ⟨rfl,rfl,rfl,r,H,(C31 LF noY () 0 n o j k v4 a b c d f g h i l m).trans e,q⟩)
 ·trivial
theorem Dh5:B0 a8 GX 55 B55:=xf [] (Z5 LF) SJ rfl ⟨XL,trivial⟩ rfl (by kernel_rfl) follows λargs=>by
 unfold SJ;split
 ·rename_i s;exact λa=>⟨rfl,rfl,rfl,_,_,(C34 LF noY () 0 s).trans (B08 s a),rfl⟩
 ·trivial
theorem Dh3:B0 a8 GX 82 B53:=xf [0,0] (Te LF) SE rfl trivial rfl (by kernel_rfl) follows λargs=>by
 unfold SE;split
 ·rename_i s;exact λa=>⟨rfl,rfl,rfl,_,_,(C27 LF noY () 0 s).trans (B02 s a),rfl⟩
 ·trivial
theorem Co6:B0 a8 GX 60 YF:=xf [0,0] (W9 LF) Zb rfl ⟨Bm3,XJ,XL,Cm3,Dh2,Dh3,XM,trivial⟩ rfl (by kernel_rfl) follows λargs=>by
 unfold Zb;split
 ·rename_i o p k l v4 b c d f g h i j m n a;exact λt=>λu=>λv=>λw=>λx=>(let⟨r,H,e,q⟩:=B05 o p k l v4 b c d f g h i j m n a t u v w x;⟨rfl,rfl,rfl,r,H,(B04 LF noY () 0 o p k l v4 b c d f g h i j m n a).trans e,q⟩)
 ·trivial
theorem Dh4:B0 a8 GX 40 B54:=xf [0,0] (Tf LF) SG rfl ⟨Co0,Dh5,Cm8,Xz,Cl9,C64,XJ,Co6,trivial⟩ rfl (by kernel_rfl) follows λargs=>by
 unfold SG;split
 ·rename_i s;exact λa=>(let⟨r,H,e,q⟩:=C29 s a;⟨rfl,rfl,rfl,r,H,(C28 LF noY () 0 s).trans e,q⟩)
 ·trivial
theorem C66:B0 a8 GX 42 Bf4:=xf [] (TU LF) GN rfl ⟨Xz,Cm2,Bm2,trivial⟩ rfl (by kernel_rfl) follows λargs=>by
 unfold GN;split
 ·rename_i n o j k v4 a b c d f g h i l m;exact λp=>λt=>λu=>λv=>(let⟨r,H,e,q⟩:=Ck8 n o j k v4 a b c d f g h i l m p t u v;⟨rfl,rfl,rfl,r,H,(Ck7 LF noY () 0 n o j k v4 a b c d f g h i l m).trans e,q⟩)
 ·trivial
theorem PH:B0 a8 GX 16 Zd:=xf [] (Zu LF) Si rfl ⟨C66,Dh4,trivial⟩ rfl (by kernel_rfl) follows λargs=>by
 unfold Si;split
 ·rename_i n o j k v4 a b c d f g h i l m;exact λp=>λt=>λu=>λv=>(let⟨r,H,e,q⟩:=Bb9 n o j k v4 a b c d f g h i l m p t u v;⟨rfl,rfl,rfl,r,H,(Bb8 LF noY () 0 n o j k v4 a b c d f g h i l m).trans e,q⟩)
 ·trivial
end
end
section
open Go
abbrev hK(p:B2 × Nat):Int:=(p.1.kind:Int)
abbrev hN(p:B2 × Nat):By:=p.1.name
abbrev hV(p:B2 × Nat):Int:=(p.1.v4:Int)
abbrev hA(p:B2 × Nat)(i:Nat):Int:=(p.1.v6.getD i 0:Int)
abbrev e0:By:=[]
end
section
open Go Go.Proofs
set_option maxRecDepth 100000
section
variable {Z R : Type} (L : Nat) (Q : G0) (Y : Yh Z) (s : Z) (k : Out -> St Z -> Option R)
noncomputable def HJ(L:Nat):Cfg:=B4 L [23] (A2 []) [] (A2 [(1,[2]),(0,[0])]) [] (A2 []) (some [2]) [] [] []
noncomputable def WF{R:Type}(L:Nat)(b:By)(a:Bool->Option R):Option R:=cond (b==[104,116,116,112]) (a true) (cond (b==[104,116,116,112,115]) (a true) (cond (b==[119,115]) (a true) (a (b==[119,115,115]))))
theorem Bx4(d:Nat)(s0):evC (HJ L) (d+1) Z Y 23 [pS s0] [] s=WF L s0 (λa=>some (pB a,[],s)):=by refine(evE (fn:=Tryz.f23) (by kernel_rfl)).trans ?_;generalize evC (HJ L) d=Q;unfold WF;kernel_rfl
noncomputable def TQ(L:Nat):Cfg:=B4 L [45] (A2 []) [] (A2 [(8,[2]),(4,[2]),(7,[2]),(6,[7]),(5,[3,3]),(3,[3,0]),(2,[3,0]),(1,[3]),(0,[0])]) [] (A2 [(0,[])]) (some [2]) [] [] []
noncomputable def Bl1{R:Type}(L:Nat)(b:By)(a:Int->Option R):Option R:=cond (b==[104,116,116,112]) (cond (b==[104,116,116,112]) (a 80) (cond (b==[104,116,116,112,115]) (cond (b==[104,116,116,112,115]) (a 443) (a (-1))) (cond (b==[119,115,115]) (a 443) (a (-1))))) (cond (b==[119,115]) (a 80) (cond (b==[104,116,116,112,115]) (cond (b==[104,116,116,112,115]) (a 443) (a (-1))) (cond (b==[119,115,115]) (a 443) (a (-1)))))
theorem Ch5(d:Nat)(s0):evC (TQ L) (d+1) Z Y 45 [pS s0] [] s=Bl1 L s0 (λa=>some (pI a,[],s)):=by refine(evE (fn:=Tryz.f45) (by kernel_rfl)).trans ?_;generalize evC (TQ L) d=Q;unfold Bl1;kernel_rfl
noncomputable abbrev Uv:Code:=C4 ai8
noncomputable def Ag(L:Nat):Cfg:=B4 L [62] (A2 [(5,[0,0,2,0,0]),(2,[0,0,2,0])]) [] (A2 [(9,[4]),(3,[0,0,3]),(6,[0,0,3,0]),(8,[4]),(7,[0,0,3,0,18]),(5,[0,0,3,0,9]),(4,[0,0,3,0]),(2,[0,0,3,4]),(1,[0,0,3]),(0,[0,0])]) [] (A2 [(0,[0]),(1,[0,0,3]),(2,[0,0,3]),(3,[0,0,3,0])]) (some [4]) [] [] []
noncomputable def Ha{R:Type}(L n:Nat)(d a:By)(c b:Int)(e:Int->Option R)(f:By->By->Int->Option R):Option R:=match n with|0=>none|n+1=>cond (ltI b (a.length:Int)) (cond (inR c d.length) (cond (inR b a.length) (cond ((bAt d c)==(bAt a b)) (e c) (Ha L n d a c (A1 (b+1)) e f)) none) none) (f d a c)
theorem Ae9(n c a b kk3):C5 0 ((Ag L).keep 5) (bd (Ag L) Q Y (cd [1,0,1,0,0,1,0,0,1,0,0] Uv)) n ⟨gp [(0,pS c),(0,pS a),(3,pI b),(0,pI kk3)] 22,[],s⟩ k =
 Ha L n c a b kk3 (λn0=>k .ret ⟨gp [(4,pI n0)] 24,[],s⟩) (λc a b=>k (.exit 2) ⟨gp [(0,pS c),(0,pS a),(3,pI b)] 23,[],s⟩):=by
 induction n generalizing c a b kk3 with
 | zero=>rfl
 | succ n d=>rw[Ha];simp only[<-d];kernel_rfl
noncomputable def Hb{R:Type}(L n:Nat)(e b:By)(f:Int)(g:Int->Option R)(h:By->Option R):Option R:=match n with|0=>none|n+1=>cond (ltI f (e.length:Int)) (Ha L L e b f 0 g (λd a c=>Hb L n d a (A1 (c+1)) g h)) (h e)
theorem Af0(n b set1 i2):C5 0 ((Ag L).keep 2) (bd (Ag L) Q Y (cd [1,0,1,0,0] Uv)) n ⟨gp [(0,pS b),(0,pS set1),(3,pI i2)] 23,[],s⟩ k =
 Hb L n b set1 i2 (λn0=>k .ret ⟨gp [(4,pI n0)] 24,[],s⟩) (λb=>k (.exit 0) ⟨gp [(0,pS b)] 28,[],s⟩):=by
 induction n generalizing b set1 i2 with
 | zero=>rfl
 | succ n e=>rw[Hb];exact(c9 (by kernel_rfl) (A0 ((Ae9 L Q Y s (E1 2 (E1 1 (E0 (Ag L) Q Y (cd [1,0,1,0,0,1,1] Uv) (lpK 0 ((Ag L).keep 2) (bd (Ag L) Q Y (cd [1,0,1,0,0] Uv)) n k)))) L b set1 i2 0).trans (congr (congr rfl (by kernel_rfl)) (fx3 λd a c=>(c9 (by kernel_rfl) (e d a (A1 (c+1))))))) rfl))
noncomputable def Cg5{R:Type}(L:Nat)(e a:By)(d:Int->Option R):Option R:=Hb L L e a 0 d (λc=>vl (c.length:Int) λb=>d b)
theorem Cg6(d:Nat)(s0 set1):evC (Ag L) (d+1) Z Y 62 [pS s0,pS set1] [] s=Cg5 L s0 set1 (λa=>some (pI a,[],s)):=by refine(evE (fn:=ai8) (by kernel_rfl)).trans ?_;generalize evC (Ag L) d=Q;unfold Cg5;exact(c9 (by kernel_rfl) ((Af0 L Q Y s (E1 0 (E0 (Ag L) Q Y (cd [1,1] Uv) (F1 (Ag L) ai8))) L s0 set1 0).trans (by kernel_rfl)))
noncomputable abbrev M8:Code:=C4 ag9
noncomputable def K9(L:Nat):Cfg:=B4 L [61] (A2 [(2,[0,1,0,0,0])]) [(17,An6)] (A2 [(11,[2,0,0]),(3,[0,4]),(10,[2,0,0]),(9,[0,4,67]),(8,[0,4,1,0]),(7,[0,4,0,0]),(6,[2,0,0]),(5,[0,4,0,16]),(4,[0,4,0]),(2,[0,4,6]),(1,[0,4]),(0,[0])]) [17] (A2 [(0,[]),(1,[0,4])]) (some [2,0,0]) [] [] []
noncomputable def Kg{R:Type}(a:By)(b f:Int)(e:Bool)(g:By->By->Option R)(h:By->Int->Int->Bool->Option R):Option R:=cond e (cond (I1 0 b a.length) (cond (A3 (b8 (cut a 0 b))) (vl (B6 (cut a 0 b)) λc=>cond (I1 (A1 (b+1)) (a.length:Int) a.length) (vl (cut a (A1 (b+1)) (a.length:Int)) λd=>g c d) none) none) none) (h a b f e)
abbrev Uc(b:Code):Prop:=∀(k:Out->St Z->Option R) a e c d,A9 (K9 L) Q Y b ⟨gp [(0,pS a),(4,pI e),(0,p8 c),(16,pB d)] 50,[],s⟩ k=Kg a e c d (λa f=>k .ret ⟨gp [(2,pS a),(0,pS f),(0,pB true)] 69,[],s⟩) (λa e c d=>k .normal ⟨gp [(0,pS a),(4,pI e),(0,p8 c),(16,pB d)] 50,[],s⟩)
theorem Ag2:Uc (R:=R) L Q Y s (cd [1,0,1,0,0,1,0,0,1,0,1] M8):=by intro k d c a b;unfold Kg;kernel_rfl
noncomputable def Kh{R:Type}(c:By)(a:Int)(b:By->Int->Option R):Option R:=b c a
abbrev Ud(b:Code):Prop:=∀(k:Out->St Z->Option R) c a,A9 (K9 L) Q Y b ⟨gp [(0,pS c),(4,pI a),(1,pB true),(0,pB true)] 65,[],s⟩ k=Kh c a (λc a=>k .normal ⟨gp [(0,pS c),(4,pI a),(67,pB false)] 0,[],s⟩)
theorem DD:Ud (R:=R) L Q Y s (cd [1,0,1,0,0,1,0,0,1,1,1,1] M8):=by intro k b a;unfold Kh;kernel_rfl
noncomputable def Hg{R:Type}(c:By)(a:Int)(b:By->Int->Option R):Option R:=b c a
abbrev Ue(b:Code):Prop:=∀(k:Out->St Z->Option R) c a other2,A9 (K9 L) Q Y b ⟨gp [(0,pS c),(4,pI a),(1,pB true),(0,pB other2)] 65,[],s⟩ k=Hg c a (λc a=>k .normal ⟨gp [(0,pS c),(4,pI a),(67,pB false)] 0,[],s⟩)
theorem DE:Ue (R:=R) L Q Y s (cd [1,0,1,0,0,1,0,0,1,1,1,1] M8):=by intro k c b a;unfold Hg;kernel_rfl
noncomputable def Xe{R:Type}(c:By)(a d:Int)(b:By->Int->Option R):Option R:=cond (not (ltI d 48)) (cond (not (ltI 57 d)) (Kh c a b) (cond (d==43) (Kh c a b) (cond (d==45) (Kh c a b) (Hg c a b)))) (cond (d==43) (Hg c a b) (cond (d==45) (Hg c a b) (Hg c a b)))
abbrev Uf(b:Code):Prop:=∀(k:Out->St Z->Option R) c a b2,A9 (K9 L) Q Y b ⟨gp [(0,pS c),(4,pI a),(0,p8 b2),(0,pB true)] 66,[],s⟩ k=Xe c a b2 (λc a=>k .normal ⟨gp [(0,pS c),(4,pI a),(67,pB false)] 0,[],s⟩)
theorem Ag3(a:Code)(c:Ud (R:=R) L Q Y s a)(b:Ue (R:=R) L Q Y s a):Uf (R:=R) L Q Y s (cd [1,0,1,0,0,1,0,0,1,1,1] (G4 [1,0,1,0,0,1,0,0,1,1,1,1] a M8)):=by intro k e d f;unfold Xe;exact(c9 (by kernel_rfl) (A0 (A0 ((c k e d).trans (by kernel_rfl)) (A0 ((c k e d).trans (by kernel_rfl)) (A0 ((c k e d).trans (by kernel_rfl)) ((b k e d (f==46)).trans (by kernel_rfl))))) (A0 ((b k e d true).trans (by kernel_rfl)) (A0 ((b k e d true).trans (by kernel_rfl)) ((b k e d (f==46)).trans (by kernel_rfl))))))
theorem Ag4:Uf (R:=R) L Q Y s (cd [1,0,1,0,0,1,0,0,1,1,1] M8):=by intro k c b a;exact c9 (by kernel_rfl) (Ag3 L Q Y s (cd [1,0,1,0,0,1,0,0,1,1,1,1] M8) (DD L Q Y s) (DE L Q Y s) k c b a)
noncomputable def Ki{R:Type}(d:By)(b:Int)(a:Bool)(e:Unit->Option R)(c:By->Int->Bool->Option R):Option R:=cond (not a) (cond (b==0) (e ()) (c d b (b==0))) (c d b false)
abbrev KC(b:Code):Prop:=∀(k:Out->St Z->Option R) c a letter2,A9 (K9 L) Q Y b ⟨gp [(0,pS c),(4,pI a),(1,pB letter2),(0,pB true)] 65,[],s⟩ k=Ki c a letter2 (λ_=>k .ret ⟨gp [(2,pS e0),(0,pS e0),(0,pB false)] 69,[],s⟩) (λc a d=>k .normal ⟨gp [(0,pS c),(4,pI a),(67,pB d)] 0,[],s⟩)
theorem Ag5:KC (R:=R) L Q Y s (cd [1,0,1,0,0,1,0,0,1,1,1,1] M8):=by intro k c b a;unfold Ki;kernel_rfl
noncomputable def Hh{R:Type}(f:By)(c:Int)(a b:Bool)(d:Unit->Option R)(e:By->Int->Bool->Option R):Option R:=cond (not a) (cond (not b) (d ()) (cond (c==0) (d ()) (e f c (c==0)))) (e f c false)
abbrev KD(b:Code):Prop:=∀(k:Out->St Z->Option R) c a letter2 other3,A9 (K9 L) Q Y b ⟨gp [(0,pS c),(4,pI a),(1,pB letter2),(0,pB other3)] 65,[],s⟩ k=Hh c a letter2 other3 (λ_=>k .ret ⟨gp [(2,pS e0),(0,pS e0),(0,pB false)] 69,[],s⟩) (λc a d=>k .normal ⟨gp [(0,pS c),(4,pI a),(67,pB d)] 0,[],s⟩)
theorem Ag6:KD (R:=R) L Q Y s (cd [1,0,1,0,0,1,0,0,1,1,1,1] M8):=by intro k d c a b;unfold Hh;kernel_rfl
noncomputable def Hi{R:Type}(f:By)(c b:Int)(a:Bool)(d:Unit->Option R)(e:By->Int->Bool->Option R):Option R:=cond (not (ltI b 48)) (cond (not (ltI 57 b)) (Ki f c a (λ_=>d ()) e) (cond (b==43) (Ki f c a (λ_=>d ()) e) (cond (b==45) (Ki f c a (λ_=>d ()) e) (Hh f c a (b==46) (λ_=>d ()) e)))) (cond (b==43) (Hh f c a true (λ_=>d ()) e) (cond (b==45) (Hh f c a true (λ_=>d ()) e) (Hh f c a (b==46) (λ_=>d ()) e)))
abbrev Ug(b:Code):Prop:=∀(k:Out->St Z->Option R) d c a letter3,A9 (K9 L) Q Y b ⟨gp [(0,pS d),(4,pI c),(0,p8 a),(0,pB letter3)] 66,[],s⟩ k=Hi d c a letter3 (λ_=>k .ret ⟨gp [(2,pS e0),(0,pS e0),(0,pB false)] 69,[],s⟩) (λd c a=>k .normal ⟨gp [(0,pS d),(4,pI c),(67,pB a)] 0,[],s⟩)
theorem Ag7(a:Code)(d:Ud (R:=R) L Q Y s a)(e:Ue (R:=R) L Q Y s a)(b:KC (R:=R) L Q Y s a)(c:KD (R:=R) L Q Y s a):Ug (R:=R) L Q Y s (cd [1,0,1,0,0,1,0,0,1,1,1] (G4 [1,0,1,0,0,1,0,0,1,1,1,1] a M8)):=by intro k i h g f;unfold Hi;simp only[<-b k,<-c k];kernel_rfl
theorem Ag8:Ug (R:=R) L Q Y s (cd [1,0,1,0,0,1,0,0,1,1,1] M8):=by intro k d c b a;exact c9 (by kernel_rfl) (Ag7 L Q Y s (cd [1,0,1,0,0,1,0,0,1,1,1,1] M8) (DD L Q Y s) (DE L Q Y s) (Ag5 L Q Y s) (Ag6 L Q Y s) k d c b a)
noncomputable def Af{R:Type}(f:By)(c a:Int)(d:By->Int->Bool->Option R)(g:Unit->Option R):Option R:=cond (not (ltI a 97)) (cond (not (ltI 122 a)) (Xe f c a (λe b=>d e b false)) (cond (not (ltI a 65)) (Hi f c a (not (ltI 90 a)) (λ_=>g ()) d) (Hi f c a false (λ_=>g ()) d))) (cond (not (ltI a 65)) (Hi f c a (not (ltI 90 a)) (λ_=>g ()) d) (Hi f c a false (λ_=>g ()) d))
abbrev Me(b:Code):Prop:=∀(k:Out->St Z->Option R) d c a b3,A9 (K9 L) Q Y b ⟨gp [(0,pS d),(4,pI c),(0,p8 a),(16,pB b3)] 50,[],s⟩ k=Af d c a (λd c a=>k .normal ⟨gp [(0,pS d),(4,pI c),(67,pB a)] 0,[],s⟩) (λ_=>k .ret ⟨gp [(2,pS e0),(0,pS e0),(0,pB false)] 69,[],s⟩)
theorem Ag9(a:Code)(b:Uf (R:=R) L Q Y s a)(c:Ug (R:=R) L Q Y s a):Me (R:=R) L Q Y s (cd [1,0,1,0,0,1,0,0,1,1] (G4 [1,0,1,0,0,1,0,0,1,1,1] a M8)):=by intro k g f d e;unfold Af;simp only[<-b k,<-c k];kernel_rfl
theorem Ah0:Me (R:=R) L Q Y s (cd [1,0,1,0,0,1,0,0,1,1] M8):=by intro k d c a b;exact c9 (by kernel_rfl) (Ag9 L Q Y s (cd [1,0,1,0,0,1,0,0,1,1,1] M8) (Ag4 L Q Y s) (Ag8 L Q Y s) k d c a b)
noncomputable def N4{R:Type}(L n:Nat)(b:By)(a:Int)(c:By->By->Bool->Option R)(t:Unit->Option R):Option R:=match n with|0=>none|n+1=>cond (ltI a (b.length:Int)) (cond (inR a b.length) (cond ((bAt b a)==58) (Kg b a (bAt b a) (ltI 0 a) (λu v=>c u v true) (λw r q A=>Af w r q (λj e x=>vl (A1 (e+1)) λh=>N4 L n j h c t) (λ_=>c e0 e0 false))) (Kg b a (bAt b a) false (λl m=>c l m true) (λo f d y=>Af o f d (λp g z=>vl (A1 (g+1)) λi=>N4 L n p i c t) (λ_=>c e0 e0 false)))) none) (t ())
theorem Ah1(b:Code)(c:Uc (R:=R) L Q Y s b)(a:Code)(d:Me (R:=R) L Q Y s a)(n:Nat)(e:By)(f:Int):C5 0 ((K9 L).keep 2) (bd (K9 L) Q Y (cd [1,0,1,0,0] (G4 [1,0,1,0,0,1,0,0,1,1] a (G4 [1,0,1,0,0,1,0,0,1,0,1] b M8)))) n ⟨gp [(0,pS e),(4,pI f)] 68,[],s⟩ k =
 N4 L n e f (λe D C=>k .ret ⟨gp [(2,pS e),(0,pS D),(0,pB C)] 69,[],s⟩) (λ_=>k (.exit 0) ⟨gp [] 74,[],s⟩):=by
 induction n generalizing e f with
 | zero=>rfl
 | succ n B=>rw[N4];exact let q:=(E1 1 (E0 (K9 L) Q Y (cd [1,0,1,0,0,1,1] M8) (lpK 0 ((K9 L).keep 2) (bd (K9 L) Q Y (cd [1,0,1,0,0] (G4 [1,0,1,0,0,1,0,0,1,1] a (G4 [1,0,1,0,0,1,0,0,1,0,1] b M8)))) n k)));let w:=(E0 (K9 L) Q Y a q);(c9 (by kernel_rfl) (A0 (A0 (A0 ((c w e f (bAt e f) (ltI 0 f)).trans (congr (congr rfl (by kernel_rfl)) (fx4 λv u r t=>(c9 (by kernel_rfl) ((d q v u r t).trans (congr (congr rfl (fx3 λm z x=>(c9 (by kernel_rfl) (A4 λj=>(B m j))))) (by kernel_rfl))))))) ((c w e f (bAt e f) false).trans (congr (congr rfl (by kernel_rfl)) (fx4 λo i g h=>(c9 (by kernel_rfl) ((d q o i g h).trans (congr (congr rfl (fx3 λp A y=>(c9 (by kernel_rfl) (A4 λl=>(B p l))))) (by kernel_rfl)))))))) rfl) rfl))
noncomputable def Ag1{R:Type}(L:Nat)(b:By)(a:By->By->Bool->Option R):Option R:=N4 L L b 0 a (λ_=>a e0 e0 false)
theorem Ch3(a:Code)(c:Uc (R:=PV × List Blk × Z) L Q Y s a)(b:Code)(d:Me (R:=PV × List Blk × Z) L Q Y s b)(e:By):A9 (K9 L) Q Y (cd [] (G4 [1,0,1,0,0,1,0,0,1,1] b (G4 [1,0,1,0,0,1,0,0,1,0,1] a M8))) ⟨[pS e]++tps 73,[],s⟩ (F1 (K9 L) ag9)=Ag1 L e (λf g h=>some (.tup [pS f,pS g,pB h],[],s)):=by unfold Ag1;exact(c9 (by kernel_rfl) ((Ah1 L Q Y s (E1 0 (E0 (K9 L) Q Y (cd [1,1] M8) (F1 (K9 L) ag9))) a c b d L e 0).trans (by kernel_rfl)))
theorem Ch4(d:Nat)(s0):evC (K9 L) (d+1) Z Y 61 [pS s0] [] s=Ag1 L s0 (λa b c=>some (.tup [pS a,pS b,pB c],[],s)):=
 (evE (fn:=ag9) (by kernel_rfl)).trans (c9 (by kernel_rfl) (Ch3 L (evC (K9 L) d) Y s (cd [1,0,1,0,0,1,0,0,1,0,1] M8) (Ag2 L (evC (K9 L) d) Y s) (cd [1,0,1,0,0,1,0,0,1,1] M8) (Ah0 L (evC (K9 L) d) Y s) s0))
noncomputable abbrev K8:Code:=C4 ag5
noncomputable def I8(L:Nat):Cfg:=B4 L [41] (A2 [(36,[2,0,1,3,0,4,0]),(20,[2,0,1,3,0,0]),(2,[0,1,0,0])]) [(61,Bf2),(23,Ur),(62,Bf0),(63,MK),(45,RN)] (A2 [(46,[2,0]),(45,[2,7]),(44,[2,7,173]),(43,[2,2,4]),(42,[2,0]),(41,[2,2,4,4,160]),(37,[2,2,3,0,4,0]),(40,[2,2,3,0,4,0]),(39,[2,0]),(38,[2,2,3,0,4,0,147]),(36,[2,2,3,0,4,0,135]),(35,[2,2,3,0,4,0]),(34,[2,2,3,0,1,2]),(33,[2,2,3,0,1,133]),(32,[2,2,3,0,1]),(31,[2,0]),(30,[2,2,3,0,1,0,0,122]),(29,[2,2,3,0,1,0,0]),(28,[2,0]),(27,[2,2,3,0,1,114]),(26,[2,2,3,0,1]),(25,[2,2,3,0,1,95]),(24,[2,2,3,0,1]),(21,[2,2,3,0,0]),(23,[2,2,3,0]),(22,[2,2,3,0,0,79]),(20,[2,2,3,0,0,73]),(19,[2,2,3,0,0]),(18,[2,2,3,0]),(17,[2,2,0,2,0,66]),(16,[2,2,0,2,0]),(15,[2,2,0,2]),(14,[2,2,0,1]),(13,[2,2,0]),(12,[2,0]),(11,[2,2,0,49]),(10,[2,0]),(9,[2,2,0,38]),(8,[2,0]),(7,[2,2,0,34]),(6,[2,2,0,0]),(3,[0,1,1]),(5,[2,0]),(4,[0,1,1,27]),(2,[0,1,1,15]),(1,[0,1,1]),(0,[0,1])]) [61,23,62,45] (A2 [(4,[2,2,4,4]),(5,[2,2,3,0,4,0]),(2,[2,2,3,0]),(3,[2,2,3,0,0]),(0,[0,1]),(1,[0,1,1])]) (some [2,0]) [] [] []
noncomputable def Dz{R:Type}(L n:Nat)(a:By)(b:Int)(c:(List Blk)->Option R)(d:By->Option R):Option R:=match n with|0=>none|n+1=>cond (ltI b (a.length:Int)) (cond (inR b a.length) (cond (not (ltI 32 (bAt a b))) (c []) (cond (inR b a.length) (cond ((bAt a b)==127) (c []) (Dz L n a (A1 (b+1)) c d)) none)) none) (d a)
theorem Af7(n a i1):C5 1 ((I8 L).keep 2) (bd (I8 L) Q Y (cd [1,0,1,0,0] K8)) n ⟨gp [(0,pS a),(1,.ptr 0 0 0),(1,pI i1)] 182,[bU0],s⟩ k =
 Dz L n a i1 (λb=>k .ret ⟨gp [(2,.ptr 0 0 0),(0,pI (4:Int))] 183,(bU0::b),s⟩) (λa=>k (.exit 0) ⟨gp [(0,pS a),(1,.ptr 0 0 0)] 184,[bU0],s⟩):=by
 induction n generalizing a i1 with
 | zero=>rfl
 | succ n c=>rw[Dz];simp only[<-c];kernel_rfl
noncomputable def X5{R:Type}(L n:Nat)(b a:By)(c:Int)(g:By)(f:By->By->By->By->Option R):Option R:=match n with|0=>none|n+1=>cond (not (ltI c 0)) (cond (inR c a.length) (cond ((bAt a c)==64) (cond (I1 0 c a.length) (vl (cut a 0 c) λd=>cond (I1 (A1 (c+1)) (a.length:Int) a.length) (vl (cut a (A1 (c+1)) (a.length:Int)) λe=>f b e d g) none) none) (X5 L n b a (A1 (c-1)) g f)) none) (f b a e0 g)
theorem DA(n b a i2 c):C5 2 ((I8 L).keep 20) (bd (I8 L) Q Y (cd [1,1,1,1,1,1,1,1,1,1,1,0,1,0,0] K8)) n ⟨gp [(2,.ptr 0 0 0),(2,pS b),(3,pS a),(0,.ptr 1 0 0),(0,pI i2)] 175,[bU0,(bU b [] 0 [] 0 0 0 0 0 0 0 0 0 (-1) c)],s⟩ k =
 X5 L n b a i2 c (λb a e c=>k (.exit 2) ⟨gp [(2,.ptr 0 0 0),(2,pS b),(3,pS a),(0,.ptr 1 0 0)] 176,[bU0,(bU b e 0 [] 0 0 0 0 0 0 0 0 0 (-1) c)],s⟩):=by
 induction n generalizing b a i2 c with
 | zero=>rfl
 | succ n d=>rw[X5];simp only[<-d];kernel_rfl
noncomputable def Bv{R:Type}(c a:By)(d:Int)(h:Bool)(f g:By)(i:(List Blk)->Option R)(j:By->By->Int->Bool->By->By->Option R)(l:By->By->Int->Bool->By->By->Option R):Option R:=cond h (cond (A3 a.length) (vl (↑(Q0 a ([93]:List UInt8)):Int) λe=>vl (A1 (e+1)) λb=>cond (ltI (a.length:Int) b) (i [(bU c f 0 [] 0 0 0 0 0 0 0 0 0 (-1) g)]) (cond (ltI b (a.length:Int)) (cond (inR b a.length) (cond ((bAt a b)!=58) (i [(bU c f 0 [] 0 0 0 0 0 0 0 0 0 (-1) g)]) (j c a b ((bAt a b)!=58) f g)) none) (j c a b false f g))) none) (l c a d h f g)
abbrev Tw(b:Code):Prop:=∀(k:Out->St Z->Option R) c a d e f g,A9 (I8 L) Q Y b ⟨gp [(2,.ptr 0 0 0),(2,pS c),(3,pS a),(0,.ptr 1 0 0),(1,pI d),(95,pB e)] 78,[bU0,(bU c f 0 [] 0 0 0 0 0 0 0 0 0 (-1) g)],s⟩ k=Bv c a d e f g (λh=>k .ret ⟨gp [(2,.ptr 0 0 0),(0,pI (4:Int))] 183,(bU0::h),s⟩) (λc a d e f g=>k .normal ⟨gp [(2,.ptr 0 0 0),(2,pS c),(3,pS a),(0,.ptr 1 0 0),(1,pI d),(114,pB e)] 59,[bU0,(bU c f 0 [] 0 0 0 0 0 0 0 0 0 (-1) g)],s⟩) (λc a d e f g=>k .normal ⟨gp [(2,.ptr 0 0 0),(2,pS c),(3,pS a),(0,.ptr 1 0 0),(1,pI d),(95,pB e)] 78,[bU0,(bU c f 0 [] 0 0 0 0 0 0 0 0 0 (-1) g)],s⟩)
theorem CX:Tw (R:=R) L Q Y s (cd [1,1,1,1,1,1,1,1,1,1,1,1,1,0,1] K8):=by intro k b a c d e f;unfold Bv;kernel_rfl
noncomputable def Ea{R:Type}(L n:Nat)(b a:By)(x j:Int)(u:By)(m:Int)(q:By)(o n8 p c d e f g h:Int)(i:By)(v:(List Blk)->Option R)(w:By->Int->By->Int->By->Int->Int->Int->Int->Int->Int->Int->Int->Int->By->Option R):Option R:=match n with|0=>none|n+1=>cond (ltI j (a.length:Int)) (cond (inR j a.length) (cond (ltI (bAt a j) (48:Int)) (v [(bU b u m q o n8 p c d e f g h (-1) i),(bH m q o n8 p c d e f g h)]) (cond (inR j a.length) (cond (ltI 57 (bAt a j)) (v [(bU b u m q o n8 p c d e f g h (-1) i),(bH m q o n8 p c d e f g h)]) (cond (inR j a.length) (vl (wu8 ((bAt a j)-48)) λr=>vl (A1 ((A1 (x*10))+(A1 r))) λl=>vl (if ((1048576:Int)<l) then (1048576:Int) else l) λt=>Ea L n b a t (A1 (j+1)) u m q o n8 p c d e f g h i v w) none)) none)) none) (w b x u m q o n8 p c d e f g h i)
theorem DB(n a authority1 n2 i3 i f s6 g n8 h b c d e n14 n15 s16):C5 3 ((I8 L).keep 36) (bd (I8 L) Q Y (cd [1,1,1,1,1,1,1,1,1,1,1,1,1,1,1,1,1,0,1,0,1,0,1,0,0] K8)) n ⟨gp [(2,.ptr 0 0 0),(2,pS a),(3,pS authority1),(0,.ptr 1 0 0),(4,pI n2),(0,pI i3)] 170,[bU0,(bU a i f s6 g n8 h b c d e n14 n15 (-1) s16),(bH f s6 g n8 h b c d e n14 n15)],s⟩ k =
 Ea L n a authority1 n2 i3 i f s6 g n8 h b c d e n14 n15 s16 (λo=>k .ret ⟨gp [(2,.ptr 0 0 0),(0,pI (16:Int))] 183,(bU0::o),s⟩) (λa q r l i f m g n8 h b c d e j=>k (.exit 4) ⟨gp [(2,.ptr 0 0 0),(2,pS a),(4,.ptr 1 0 0),(4,pI q)] 171,[bU0,(bU a r l i f m g n8 h b c d e (-1) j),(bH l i f m g n8 h b c d e)],s⟩):=by
 induction n generalizing a authority1 n2 i3 i f s6 g n8 h b c d e n14 n15 s16 with
 | zero=>rfl
 | succ n p=>rw[Ea];simp only[<-p];kernel_rfl
noncomputable def Q9{R:Type}(L:Nat)(d b:By)(t:Int)(x y:By)(w:Int->By->By->Int->By->Int->Int->Int->Int->Int->Int->Int->Int->Int->Int->By->(List Blk)->Option R):Option R:=cond (I1 0 t b.length) (vl (cut b 0 t) λv=>cond (A3 v.length) (vl (C7 v) λa=>cond ((↑(a).2:Int)!=0) (w (↑(a).2:Int) e0 e0 0 e0 0 0 0 0 0 0 0 0 0 0 e0 [(bU d x 0 [] 0 0 0 0 0 0 0 0 0 (-1) y),(bH (hK a) (hN a) (hV a) (hA a 0) (hA a 1) (hA a 2) (hA a 3) (hA a 4) (hA a 5) (hA a 6) (hA a 7))]) (vl (A1 (t+1)) λA=>cond (ltI A (b.length:Int)) (vl (A1 (t+1)) λB=>Ea L L d b 0 B x (hK a) (hN a) (hV a) (hA a 0) (hA a 1) (hA a 2) (hA a 3) (hA a 4) (hA a 5) (hA a 6) (hA a 7) y (λz=>w 16 e0 e0 0 e0 0 0 0 0 0 0 0 0 0 0 e0 z) (λc u q e p f g h i j l m n o r=>cond (ltI 65535 u) (w 16 e0 e0 0 e0 0 0 0 0 0 0 0 0 0 0 e0 [(bU c q e p f g h i j l m n o (-1) r),(bH e p f g h i j l m n o)]) (cond (u==(M0 c)) (w 0 c q e p f g h i j l m n o (-1) r [(bU c q e p f g h i j l m n o (-1) r),(bH e p f g h i j l m n o)]) (w 0 c q e p f g h i j l m n o u r [(bU c q e p f g h i j l m n o u r),(bH e p f g h i j l m n o)])))) (cond (((-1):Int)==(M0 d)) (w 0 d x (hK a) (hN a) (hV a) (hA a 0) (hA a 1) (hA a 2) (hA a 3) (hA a 4) (hA a 5) (hA a 6) (hA a 7) (-1) y [(bU d x (hK a) (hN a) (hV a) (hA a 0) (hA a 1) (hA a 2) (hA a 3) (hA a 4) (hA a 5) (hA a 6) (hA a 7) (-1) y),(bH (hK a) (hN a) (hV a) (hA a 0) (hA a 1) (hA a 2) (hA a 3) (hA a 4) (hA a 5) (hA a 6) (hA a 7))]) (w 0 d x (hK a) (hN a) (hV a) (hA a 0) (hA a 1) (hA a 2) (hA a 3) (hA a 4) (hA a 5) (hA a 6) (hA a 7) (-1) y [(bU d x (hK a) (hN a) (hV a) (hA a 0) (hA a 1) (hA a 2) (hA a 3) (hA a 4) (hA a 5) (hA a 6) (hA a 7) (-1) y),(bH (hK a) (hN a) (hV a) (hA a 0) (hA a 1) (hA a 2) (hA a 3) (hA a 4) (hA a 5) (hA a 6) (hA a 7))])))) none) none
abbrev Tx(b:Code):Prop:=∀(k:Out->St Z->Option R) name0 authority1 end2 b3 a s5,A9 (I8 L) Q Y b ⟨gp [(2,.ptr 0 0 0),(2,pS name0),(3,pS authority1),(0,.ptr 1 0 0),(1,pI end2),(114,pB b3)] 59,[bU0,(bU name0 a 0 [] 0 0 0 0 0 0 0 0 0 (-1) s5)],s⟩ k=Q9 L name0 authority1 end2 a s5 (λn0 p q j a l m n n8 o d e f g h i c=>k .ret ⟨gp [(2,.ptr 0 0 0),(0,pI n0)] 183,((bU p q j a l m n n8 o d e f g h i)::c),s⟩)
theorem CY:Tx (R:=R) L Q Y s (cd [1,1,1,1,1,1,1,1,1,1,1,1,1,1] K8):=by intro k c b e j h i;unfold Q9;exact(c9 (by kernel_rfl) (A0 (A4 λg=>(A0 (A4 λa=>(A0 rfl (A4 λf=>(A0 (A4 λd=>((DB L Q Y s (E1 4 (E0 (I8 L) Q Y (cd [1,1,1,1,1,1,1,1,1,1,1,1,1,1,1,1,1,0,1,0,1,1] K8) (E0 (I8 L) Q Y (cd [1,1,1,1,1,1,1,1,1,1,1,1,1,1,1,1,1,1] K8) k))) L c b 0 d h (hK a) (hN a) (hV a) (hA a 0) (hA a 1) (hA a 2) (hA a 3) (hA a 4) (hA a 5) (hA a 6) (hA a 7) i).trans (by kernel_rfl))) (A0 rfl rfl))))) rfl)) rfl))
noncomputable def Kf{R:Type}(L:Nat)(p c:By)(u:Int)(A B:By)(x:Int->By->By->Int->By->Int->Int->Int->Int->Int->Int->Int->Int->Int->Int->By->(List Blk)->Option R):Option R:=cond (I1 0 u c.length) (vl (cut c 0 u) λv=>cond (A3 v.length) (vl (C7 v) λa=>cond ((↑(a).2:Int)!=0) (x (↑(a).2:Int) e0 e0 0 e0 0 0 0 0 0 0 0 0 0 0 e0 [(bU p A 0 [] 0 0 0 0 0 0 0 0 0 (-1) B),(bH (hK a) (hN a) (hV a) (hA a 0) (hA a 1) (hA a 2) (hA a 3) (hA a 4) (hA a 5) (hA a 6) (hA a 7))]) (vl (A1 (u+1)) λy=>cond (ltI y (c.length:Int)) (vl (A1 (u+1)) λz=>Ea L L p c 0 z A (hK a) (hN a) (hV a) (hA a 0) (hA a 1) (hA a 2) (hA a 3) (hA a 4) (hA a 5) (hA a 6) (hA a 7) B (λw=>x 16 e0 e0 0 e0 0 0 0 0 0 0 0 0 0 0 e0 w) (λb t q d o e f g h i j l m n r=>cond (ltI 65535 t) (x 16 e0 e0 0 e0 0 0 0 0 0 0 0 0 0 0 e0 [(bU b q d o e f g h i j l m n (-1) r),(bH d o e f g h i j l m n)]) (cond (t==(M0 b)) (x 0 b q d o e f g h i j l m n (-1) r [(bU b q d o e f g h i j l m n (-1) r),(bH d o e f g h i j l m n)]) (x 0 b q d o e f g h i j l m n t r [(bU b q d o e f g h i j l m n t r),(bH d o e f g h i j l m n)])))) (cond (((-1):Int)==(M0 p)) (x 0 p A (hK a) (hN a) (hV a) (hA a 0) (hA a 1) (hA a 2) (hA a 3) (hA a 4) (hA a 5) (hA a 6) (hA a 7) (-1) B [(bU p A (hK a) (hN a) (hV a) (hA a 0) (hA a 1) (hA a 2) (hA a 3) (hA a 4) (hA a 5) (hA a 6) (hA a 7) (-1) B),(bH (hK a) (hN a) (hV a) (hA a 0) (hA a 1) (hA a 2) (hA a 3) (hA a 4) (hA a 5) (hA a 6) (hA a 7))]) (x 0 p A (hK a) (hN a) (hV a) (hA a 0) (hA a 1) (hA a 2) (hA a 3) (hA a 4) (hA a 5) (hA a 6) (hA a 7) (-1) B [(bU p A (hK a) (hN a) (hV a) (hA a 0) (hA a 1) (hA a 2) (hA a 3) (hA a 4) (hA a 5) (hA a 6) (hA a 7) (-1) B),(bH (hK a) (hN a) (hV a) (hA a 0) (hA a 1) (hA a 2) (hA a 3) (hA a 4) (hA a 5) (hA a 6) (hA a 7))])))) none) none
abbrev Tz(b:Code):Prop:=∀(k:Out->St Z->Option R) name0 authority1 end2 b3 a s5,A9 (I8 L) Q Y b ⟨gp [(2,.ptr 0 0 0),(2,pS name0),(3,pS authority1),(0,.ptr 1 0 0),(1,pI end2),(95,pB b3)] 78,[bU0,(bU name0 a 0 [] 0 0 0 0 0 0 0 0 0 (-1) s5)],s⟩ k=Kf L name0 authority1 end2 a s5 (λn0 p q j a l m n n8 o d e f g h i c=>k .ret ⟨gp [(2,.ptr 0 0 0),(0,pI n0)] 183,((bU p q j a l m n n8 o d e f g h i)::c),s⟩)
theorem CZ:Tz (R:=R) L Q Y s (cd [1,1,1,1,1,1,1,1,1,1,1,1,1,1] K8):=by intro k d b f j h i;unfold Kf;exact(c9 (by kernel_rfl) (A0 (A4 λg=>(A0 (A4 λa=>(A0 rfl (A4 λe=>(A0 (A4 λc=>((DB L Q Y s (E1 4 (E0 (I8 L) Q Y (cd [1,1,1,1,1,1,1,1,1,1,1,1,1,1,1,1,1,0,1,0,1,1] K8) (E0 (I8 L) Q Y (cd [1,1,1,1,1,1,1,1,1,1,1,1,1,1,1,1,1,1] K8) k))) L d b 0 c h (hK a) (hN a) (hV a) (hA a 0) (hA a 1) (hA a 2) (hA a 3) (hA a 4) (hA a 5) (hA a 6) (hA a 7) i).trans (by kernel_rfl))) (A0 rfl rfl))))) rfl)) rfl))
noncomputable def Hf{R:Type}(L:Nat)(v b O:By)(A:Int->By->By->Int->By->Int->Int->Int->Int->Int->Int->Int->Int->Int->Int->By->(List Blk)->Option R):Option R:=vl (A1 ((b.length:Int)-1)) λC=>X5 L L v b C O (λg a r t=>cond (A3 a.length) (vl (↑(Q0 a ([58]:List UInt8)):Int) λq=>cond (not (a==e0)) (cond (inR 0 a.length) (vl (bAt a (0:Int)) λD=>Bv g a q (D==91) r t (λB=>A 4 e0 e0 0 e0 0 0 0 0 0 0 0 0 0 0 e0 B) (λm e o M F G=>Q9 L m e o F G A) (λn f p N H I=>Kf L n f p H I A)) none) (Bv g a q false r t (λu=>A 4 e0 e0 0 e0 0 0 0 0 0 0 0 0 0 0 e0 u) (λh c j J w x=>Q9 L h c j w x A) (λi d l K y z=>Kf L i d l y z A))) none)
abbrev Ua(b:Code):Prop:=∀(k:Out->St Z->Option R) name0 authority1 a,A9 (I8 L) Q Y b ⟨gp [(2,.ptr 0 0 0),(2,pS name0),(3,pS authority1),(0,.ptr 1 0 0)] 176,[bU0,(bU name0 [] 0 [] 0 0 0 0 0 0 0 0 0 (-1) a)],s⟩ k=Hf L name0 authority1 a (λn0 p a j q l m n n8 o d e f g h i c=>k .ret ⟨gp [(2,.ptr 0 0 0),(0,pI n0)] 183,((bU p a j q l m n n8 o d e f g h i)::c),s⟩)
theorem Af2(b:Code)(d:Tw (R:=R) L Q Y s b)(a:Code)(e:Tx (R:=R) L Q Y s a)(f:Tz (R:=R) L Q Y s a):Ua (R:=R) L Q Y s (cd [1,1,1,1,1,1,1,1,1,1,1] (G4 [1,1,1,1,1,1,1,1,1,1,1,1,1,1] a (G4 [1,1,1,1,1,1,1,1,1,1,1,1,1,0,1] b K8))):=by intro k B l T;unfold Hf;exact let S:=(E0 (I8 L) Q Y a k);(c9 (by kernel_rfl) (A4 λJ=>((DA L Q Y s (E1 2 (E0 (I8 L) Q Y (cd [1,1,1,1,1,1,1,1,1,1,1,1] (G4 [1,1,1,1,1,1,1,1,1,1,1,1,1,1] a (G4 [1,1,1,1,1,1,1,1,1,1,1,1,1,0,1] b K8))) k)) L B l J T).trans (congr rfl (fx4 λm c x y=>(c9 (by kernel_rfl) (A0 (A4 λw=>(A0 (A0 (A4 λK=>((d S m c w (K==91) x y).trans (congr (congr (congr rfl (by kernel_rfl)) (fx6 λr i u H M N=>(c9 (by kernel_rfl) ((e k r i u H M N).trans (by kernel_rfl))))) (fx6 λt j v I O P=>(c9 (by kernel_rfl) ((f k t j v I O P).trans (by kernel_rfl))))))) rfl) ((d S m c w false x y).trans (congr (congr (congr rfl (by kernel_rfl)) (fx6 λn g p z C D=>(c9 (by kernel_rfl) ((e k n g p z C D).trans (by kernel_rfl))))) (fx6 λo h q A F G=>(c9 (by kernel_rfl) ((f k o h q A F G).trans (by kernel_rfl)))))))) rfl)))))))
theorem Af3:Ua (R:=R) L Q Y s (cd [1,1,1,1,1,1,1,1,1,1,1] K8):=by intro k b a c;exact c9 (by kernel_rfl) (Af2 L Q Y s (cd [1,1,1,1,1,1,1,1,1,1,1,1,1,0,1] K8) (CX L Q Y s) (cd [1,1,1,1,1,1,1,1,1,1,1,1,1,1] K8) (CY L Q Y s) (CZ L Q Y s) k b a c)
noncomputable def KB{R:Type}(L:Nat)(y z b:By)(J:Int->By->By->Int->By->Int->Int->Int->Int->Int->Int->Int->Int->Int->Int->By->(List Blk)->Option R):Option R:=vl (A1 ((b.length:Int)-1)) λw=>X5 L L y b w z (λg a r t=>cond (A3 a.length) (vl (↑(Q0 a ([58]:List UInt8)):Int) λq=>cond (not (a==e0)) (cond (inR 0 a.length) (vl (bAt a (0:Int)) λx=>Bv g a q (x==91) r t (λu=>J 4 e0 e0 0 e0 0 0 0 0 0 0 0 0 0 0 e0 u) (λh c m K A B=>Q9 L h c m A B J) (λi d n M C D=>Kf L i d n C D J)) none) (Bv g a q false r t (λv=>J 4 e0 e0 0 e0 0 0 0 0 0 0 0 0 0 0 e0 v) (λj e o N F G=>Q9 L j e o F G J) (λl f p O H I=>Kf L l f p H I J))) none)
abbrev Ub(b:Code):Prop:=∀(k:Out->St Z->Option R) name0 rest1 authority2 b3,A9 (I8 L) Q Y b ⟨gp [(2,.ptr 0 0 0),(2,pS name0),(0,pS rest1),(2,pS authority2),(0,.ptr 1 0 0),(66,pB b3)] 109,[bU0,(bU name0 [] 0 [] 0 0 0 0 0 0 0 0 0 (-1) rest1)],s⟩ k=KB L name0 rest1 authority2 (λn0 o p i q j l m n8 n c d e f g h a=>k .ret ⟨gp [(2,.ptr 0 0 0),(0,pI n0)] 183,((bU o p i q j l m n8 n c d e f g h)::a),s⟩)
theorem Af5(b:Code)(d:Tw (R:=R) L Q Y s b)(a:Code)(e:Tx (R:=R) L Q Y s a)(f:Tz (R:=R) L Q Y s a):Ub (R:=R) L Q Y s (cd [1,1,1,1,1,1,1,1,1,1,1] (G4 [1,1,1,1,1,1,1,1,1,1,1,1,1,1] a (G4 [1,1,1,1,1,1,1,1,1,1,1,1,1,0,1] b K8))):=by intro k G H m U;unfold KB;exact let T:=(E0 (I8 L) Q Y a k);(c9 (by kernel_rfl) (A4 λD=>((DA L Q Y s (E1 2 (E0 (I8 L) Q Y (cd [1,1,1,1,1,1,1,1,1,1,1,1] (G4 [1,1,1,1,1,1,1,1,1,1,1,1,1,1] a (G4 [1,1,1,1,1,1,1,1,1,1,1,1,1,0,1] b K8))) k)) L G m D H).trans (congr rfl (fx4 λl c x y=>(c9 (by kernel_rfl) (A0 (A4 λw=>(A0 (A0 (A4 λF=>((d T l c w (F==91) x y).trans (congr (congr (congr rfl (by kernel_rfl)) (fx6 λn g r z I J=>(c9 (by kernel_rfl) ((e k n g r z I J).trans (by kernel_rfl))))) (fx6 λo h t A K M=>(c9 (by kernel_rfl) ((f k o h t A K M).trans (by kernel_rfl))))))) rfl) ((d T l c w false x y).trans (congr (congr (congr rfl (by kernel_rfl)) (fx6 λp i u B N O=>(c9 (by kernel_rfl) ((e k p i u B N O).trans (by kernel_rfl))))) (fx6 λq j v C P S=>(c9 (by kernel_rfl) ((f k q j v C P S).trans (by kernel_rfl)))))))) rfl)))))))
theorem Af6:Ub (R:=R) L Q Y s (cd [1,1,1,1,1,1,1,1,1,1,1] K8):=by intro k b c a d;exact c9 (by kernel_rfl) (Af5 L Q Y s (cd [1,1,1,1,1,1,1,1,1,1,1,1,1,0,1] K8) (CX L Q Y s) (cd [1,1,1,1,1,1,1,1,1,1,1,1,1,1] K8) (CY L Q Y s) (CZ L Q Y s) k b c a d)
noncomputable def Pf{R:Type}(L:Nat)(s0:By)(k0:By->By->Int->By->Int->Int->Int->Int->Int->Int->Int->Int->Int->Int->By->Int->(List Blk)->Option R):Option R:=Dz L L s0 0 (λb4=>k0 e0 e0 0 e0 0 0 0 0 0 0 0 0 0 0 e0 4 (bU0::b4)) (λa=>cond (A3 a.length) (cond (not (((Dc a)).2).2) (k0 e0 e0 0 e0 0 0 0 0 0 0 0 0 0 0 e0 15 [bU0]) (cond (not (F4 ((Dc a)).1)) (k0 ((Dc a)).1 e0 0 e0 0 0 0 0 0 0 0 0 0 (-1) (((Dc a)).2).1 0 [(bU (((Dc a)).1) e0 (0:Int) e0 (0:Int) (0:Int) (0:Int) (0:Int) (0:Int) (0:Int) (0:Int) (0:Int) (0:Int) ((-1):Int) ((((Dc a)).2).1))]) (cond (ltI (↑(b8 (((Dc a)).2).1):Int) (2:Int)) (k0 e0 e0 0 e0 0 0 0 0 0 0 0 0 0 0 e0 4 [bU0]) (cond (I1 0 (2:Int) (b8 (((Dc a)).2).1)) (vl (cut (((Dc a)).2).1 (0:Int) (2:Int)) λb5=>cond (not (b5==[47,47])) (k0 e0 e0 0 e0 0 0 0 0 0 0 0 0 0 0 e0 4 [bU0]) (cond (I1 2 (↑(b8 (((Dc a)).2).1):Int) (b8 (((Dc a)).2).1)) (vl (cut (((Dc a)).2).1 (2:Int) (↑(b8 (((Dc a)).2).1):Int)) λb=>cond (A3 b.length) (vl (↑(Q0 b ([47,63,35]:List UInt8)):Int) λd=>cond (I1 0 d b.length) (cond (I1 d (b.length:Int) b.length) (vl (cut b d (b.length:Int)) λc=>cond (c==e0) (cond (D6 1 c.length) (vl (([47]:List UInt8)++c) λb2=>Hf L ((Dc a)).1 (cut b 0 d) b2 (λa9 P S e T f g h i j l m n o p U a5=>k0 P S e T f g h i j l m n o p U a9 ((bU P S e T f g h i j l m n o p U)::a5))) none) (cond (inR 0 c.length) (cond ((bAt c (0:Int))!=47) (cond (D6 1 c.length) (vl (([47]:List UInt8)++c) λb3=>Hf L ((Dc a)).1 (cut b 0 d) b3 (λb0 V W q X r t u v w x y z A B a0 a6=>k0 V W q X r t u v w x y z A B a0 b0 ((bU V W q X r t u v w x y z A B a0)::a6))) none) (KB L ((Dc a)).1 c (cut b 0 d) (λb1 a1 a2 C a3 D F G H I J K M N O a4 a7=>k0 a1 a2 C a3 D F G H I J K M N O a4 b1 ((bU a1 a2 C a3 D F G H I J K M N O a4)::a7)))) none)) none) none) none) none)) none)))) none)
theorem Cg8(a:Code)(b:Ua (R:=PV × List Blk × Z) L Q Y s a)(c:Ub (R:=PV × List Blk × Z) L Q Y s a)(t:By):A9 (I8 L) Q Y (cd [] (G4 [1,1,1,1,1,1,1,1,1,1,1] a K8)) ⟨[pS t]++tps 186,[],s⟩ (F1 (I8 L) ag5)=Pf L t (λu v w x y z A B r8 C m n o p q r l=>some (.tup [(gU u v w x y z A B r8 C m n o p q),pI r],l,s)):=by unfold Pf;exact let j:=(F1 (I8 L) ag5);(c9 (by kernel_rfl) ((Af7 L Q Y s (E1 0 (E0 (I8 L) Q Y (cd [1,1] (G4 [1,1,1,1,1,1,1,1,1,1,1] a K8)) j)) L t 0).trans (congr (congr rfl (by kernel_rfl)) (fx1 λe=>(c9 (by kernel_rfl) (A0 (A0 rfl (A0 rfl (A0 rfl (A0 (A4 λD=>(A0 rfl (A0 (A4 λf=>(A0 (A4 λd=>(A0 (A0 (A4 λi=>(A0 (A0 (A4 λg=>((b j ((Dc e)).1 (cut f 0 d) g).trans (by kernel_rfl))) rfl) (A0 (A0 (A0 (A4 λh=>((b j ((Dc e)).1 (cut f 0 d) h).trans (by kernel_rfl))) rfl) ((c j ((Dc e)).1 i (cut f 0 d) ((bAt i (0:Int))!=47)).trans (by kernel_rfl))) rfl))) rfl) rfl)) rfl)) rfl))) rfl)))) rfl))))))
theorem Cg9(d:Nat)(s0):evC (I8 L) (d+1) Z Y 41 [pS s0] [] s=Pf L s0 (λi j l m n o p q r8 r b c e f g h a=>some (.tup [(gU i j l m n o p q r8 r b c e f g),pI h],a,s)):=
 (evE (fn:=ag5) (by kernel_rfl)).trans (c9 (by kernel_rfl) (Cg8 L (evC (I8 L) d) Y s (cd [1,1,1,1,1,1,1,1,1,1,1] K8) (Af3 L (evC (I8 L) d) Y s) (Af6 L (evC (I8 L) d) Y s) s0))
noncomputable def Zr(L:Nat):Cfg:=B4 L [14] (A2 []) [(41,RM)] (A2 [(3,[2,0]),(2,[2,0]),(1,[0,1,3]),(0,[0,1])]) [] (A2 []) (some [2,0]) [] [] []
noncomputable def EM{R:Type}(L:Nat)(b:By)(c:By->By->Int->By->Int->Int->Int->Int->Int->Int->Int->Int->Int->Int->By->Int->(List Blk)->Option R):Option R:=cond (ltI 2048 (b.length:Int)) (c e0 e0 0 e0 0 0 0 0 0 0 0 0 0 0 e0 3 [bU0]) (cond (A3 b.length) (vl (B9 b) λa=>c (uS a) (uU a) (uK a) (uN a) (uV a) (uA a 0) (uA a 1) (uA a 2) (uA a 3) (uA a 4) (uA a 5) (uA a 6) (uA a 7) (uP a) (uR a) (uE a) [(bQ a)]) none)
theorem A79(d:Nat)(s0):evC (Zr L) (d+1) Z Y 14 [pS s0] [] s=EM L s0 (λi j l m n o p q r8 r b c e f g h a=>some (.tup [(gU i j l m n o p q r8 r b c e f g),pI h],a,s)):=by refine(evE (fn:=Tryz.f14) (by kernel_rfl)).trans ?_;generalize evC (Zr L) d=Q;unfold EM;kernel_rfl
noncomputable def HK(L:Nat):Cfg:=B4 L [43] (A2 []) [(23,Ur),(52,Be5),(53,ET)] (A2 [(11,[2]),(8,[1,1]),(10,[1,1]),(9,[1,1,37]),(7,[1,1,28]),(6,[1,1]),(5,[1,1]),(4,[1,1,15]),(3,[1,1]),(2,[2]),(1,[1,5]),(0,[1])]) [23,52,53] (A2 []) (some [2]) [] [] []
noncomputable def Uh{R:Type}(L:Nat)(j t:By)(u:Int)(m:By)(n o p q u8 r e f g c:Int)(a:By)(z:By->(List Blk)->Option R):Option R:=cond (not (F4 j)) (cond (D6 j.length 1) (vl (j++[58]) λA=>cond (D6 A.length a.length) (z (A++a) [(bU j t u m n o p q u8 r e f g c a)]) none) none) (cond (D6 j.length 3) (vl (j++[58,47,47]) λb=>cond (not (t==e0)) (cond (D6 t.length 1) (vl (t++[64]) λh=>cond (D6 b.length h.length) (cond (A3 m.length) (cond (ltN n 4294967296) (cond (ok8 o p q u8 r e f g) (vl (Gn (mkH u m n (n8 o p q u8 r e f g))) λi=>cond (D6 (b8 (b++h)) i.length) (cond (not (ltI c 0)) (cond (ltN c 9223372036854775808) (vl (ab7 (ah7 c)) λD=>cond (D6 1 D.length) (vl (([58]:List UInt8)++D) λF=>cond (D6 (b8 ((b++h)++i)) F.length) (vl (((b++h)++i)++F) λv=>cond (D6 v.length a.length) (z (v++a) [(bU j t u m n o p q u8 r e f g c a)]) none) none) none) none) (cond (ltI c ((-1):Int)) (cond (D6 (b8 ((b++h)++i)) 2) (vl (((b++h)++i)++[58,120]) λw=>cond (D6 w.length a.length) (z (w++a) [(bU j t u m n o p q u8 r e f g c a)]) none) none) (cond (D6 (b8 ((b++h)++i)) a.length) (vl (((b++h)++i)++a) λB=>z B [(bU j t u m n o p q u8 r e f g c a)]) none))) none) none) none) none) none) none) (cond (A3 m.length) (cond (ltN n 4294967296) (cond (ok8 o p q u8 r e f g) (vl (Gn (mkH u m n (n8 o p q u8 r e f g))) λd=>cond (D6 b.length d.length) (cond (not (ltI c 0)) (cond (ltN c 9223372036854775808) (vl (ab7 (ah7 c)) λx=>cond (D6 1 x.length) (vl (([58]:List UInt8)++x) λl=>cond (D6 (b8 (b++d)) l.length) (cond (D6 (b8 ((b++d)++l)) a.length) (vl (((b++d)++l)++a) λC=>z C [(bU j t u m n o p q u8 r e f g c a)]) none) none) none) none) (cond (ltI c ((-1):Int)) (cond (D6 (b8 (b++d)) 2) (vl ((b++d)++[58,120]) λy=>cond (D6 y.length a.length) (z (y++a) [(bU j t u m n o p q u8 r e f g c a)]) none) none) (cond (D6 (b8 (b++d)) a.length) (z ((b++d)++a) [(bU j t u m n o p q u8 r e f g c a)]) none))) none) none) none) none)) none)
theorem Bx5(d:Nat)(u0 u1 u2 u3 u4 u5 u6 u7 u8 u9 u10 u11 u12 u13 u14):evC (HK L) (d+1) Z Y 43 [(gU u0 u1 u2 u3 u4 u5 u6 u7 u8 u9 u10 u11 u12 u13 u14)] [] s=Uh L u0 u1 u2 u3 u4 u5 u6 u7 u8 u9 u10 u11 u12 u13 u14 (λb a=>some (pS b,a,s)):=by refine(evE (fn:=Tryz.f43) (by kernel_rfl)).trans ?_;generalize evC (HK L) d=Q;unfold Uh;kernel_rfl
noncomputable def Tc(L:Nat):Cfg:=B4 L [21] (A2 []) [(43,YA),(41,RM)] (A2 [(2,[2]),(1,[1,1,0]),(0,[1])]) [43] (A2 []) (some [2]) [] [] []
noncomputable def Xf{R:Type}(L:Nat)(h i:By)(q:Int)(j:By)(l m n o u8 p b c d e:Int)(f:By)(r:Bool->(List Blk)->Option R):Option R:=cond (smU h i j f) (cond (ltN l 4294967296) (cond (ok8 m n o u8 p b c d) (cond (V4 e) (vl (Hn (mkU h i q j l (n8 m n o u8 p b c d) e f)) λg=>cond (A3 g.length) (vl (B9 g) λa=>cond ((uE a)==0) (r (((uS a)==h)&&(((uU a)==i)&&(((uK a)==q)&&(((uN a)==j)&&(((uV a)==l)&&(((uA a 0)==m)&&(((uA a 1)==n)&&(((uA a 2)==o)&&(((uA a 3)==u8)&&(((uA a 4)==p)&&(((uA a 5)==b)&&(((uA a 6)==c)&&(((uA a 7)==d)&&(((uP a)==e)&&(((uR a)==f)&&true))))))))))))))) [(bU h i q j l m n o u8 p b c d e f),(bQ a)]) (r false [(bU h i q j l m n o u8 p b c d e f),(bQ a)])) none) none) none) none) none
theorem Ah3(d:Nat)(u0 u1 u2 u3 u4 u5 u6 u7 u8 u9 u10 u11 u12 u13 u14):evC (Tc L) (d+1) Z Y 21 [(gU u0 u1 u2 u3 u4 u5 u6 u7 u8 u9 u10 u11 u12 u13 u14)] [] s=Xf L u0 u1 u2 u3 u4 u5 u6 u7 u8 u9 u10 u11 u12 u13 u14 (λb a=>some (pB b,a,s)):=by refine(evE (fn:=Tryz.f21) (by kernel_rfl)).trans ?_;generalize evC (Tc L) d=Q;unfold Xf;kernel_rfl
noncomputable def TP(L:Nat):Cfg:=B4 L [27] (A2 []) [(45,RN)] (A2 [(3,[2]),(2,[2]),(1,[1,3]),(0,[1])]) [45] (A2 []) (some [2]) [] [] []
noncomputable def Bl0{R:Type}(L:Nat)(f h:By)(i:Int)(j:By)(l m n o u8 p b c d a:Int)(e:By)(g:Int->(List Blk)->Option R):Option R:=cond (a !=((-1):Int)) (g a [(bU f h i j l m n o u8 p b c d a e)]) (g (M0 f) [(bU f h i j l m n o u8 p b c d a e)])
theorem Ch1(d:Nat)(u0 u1 u2 u3 u4 u5 u6 u7 u8 u9 u10 u11 u12 u13 u14):evC (TP L) (d+1) Z Y 27 [(gU u0 u1 u2 u3 u4 u5 u6 u7 u8 u9 u10 u11 u12 u13 u14)] [] s=Bl0 L u0 u1 u2 u3 u4 u5 u6 u7 u8 u9 u10 u11 u12 u13 u14 (λb a=>some (pI b,a,s)):=by refine(evE (fn:=Tryz.f27) (by kernel_rfl)).trans ?_;generalize evC (TP L) d=Q;unfold Bl0;kernel_rfl
end
theorem Ah2{R:Type}{e:Bool->Option R}(s:By):WF LF s e=e (F4 s):=by unfold WF F4 My bWs Cf Zi;generalize (s==([104,116,116,112]:List UInt8))=a;generalize (s==([119,115]:List UInt8))=b;generalize (s==([104,116,116,112,115]:List UInt8))=c;generalize (s==([119,115,115]:List UInt8))=d;cases a<;>cases b<;>cases c<;>cases d<;>rfl
theorem A84{R:Type}{e:Int->Option R}(s:By):Bl1 LF s e=e (M0 s):=by unfold Bl1 M0 My bWs Cf Zi;generalize (s==([104,116,116,112]:List UInt8))=a;generalize (s==([119,115]:List UInt8))=b;generalize (s==([104,116,116,112,115]:List UInt8))=c;generalize (s==([119,115,115]:List UInt8))=d;cases a<;>cases b<;>cases c<;>cases d<;>rfl
theorem Kb(a b:UInt8):((a.toNat:Int)==(b.toNat:Int))=(a==b):=by rw[p7,beq_iff_eq,beq_iff_eq];exact⟨λh=>x6.1 (by omega),λh=>by rw[h]⟩
theorem Cg7{R:Type}{a:Int->Option R}{b:By->By->Int->Option R}(s t:By)(i:Nat)(h:s.length<=1000000000)(k:t.length<=1000000000)(g:i<s.length):∀(r j n:Nat),j+r=t.length->r<n->
  Ha LF n s t (i:Int) (j:Int) a b=if (t.drop j).contains (s.getD i 0)=true then a (i:Int) else b s t (i:Int):=by
 intro r
 induction r with
 | zero=>
  intro j n d e;obtain⟨n,rfl⟩:∃m,n=m+1:=⟨n-1,by omega⟩
  rw[Ha];rw[A6,s7 (by omega)];rfl
 | succ r f=>
  intro j n d e;obtain⟨n,rfl⟩:∃m,n=m+1:=⟨n-1,by omega⟩
  have c:A1 ((j:Int)+1)=((j+1:Nat):Int):=by rw[A7];rfl
  rw[Ha];rw[A8,E6,E6,D0,D0,Kb,D2 t j (by omega),ae8,c];simp only[cond_true];rw[f (j+1) n (by omega) (by omega)];cases (s.getD i 0==t.getD j 0)<;>rfl
theorem Bx2{R:Type}{a:Int->Option R}{c:By->Option R}(s t:By)(j:s.length<=1000000000)(k:t.length<=1000000000):∀(r i n:Nat),i+r=s.length->r<n->
  Hb LF n s t (i:Int) a c=if Q0 (s.drop i) t<r then a ((i+Q0 (s.drop i) t:Nat):Int) else c s:=by
 have e:=C2;intro r
 induction r with
 | zero=>
  intro i n f g;obtain⟨n,rfl⟩:∃m,n=m+1:=⟨n-1,by omega⟩
  rw[Hb];rw[A6,G1];rfl
 | succ r l=>
  intro i n f g;obtain⟨n,rfl⟩:∃m,n=m+1:=⟨n-1,by omega⟩
  have d:A1 ((i:Int)+1)=((i+1:Nat):Int):=by rw[A7];rfl
  rw[Hb];rw[A8,cond_true];refine c9 (Cg7 s t i j k (by omega) t.length 0 LF (by omega) (by omega)) ?_;rw[ac4,d,l (i+1) n (by omega) (by omega),D2 s i (by omega)];unfold Q0;cases h:t.contains (s.getD i 0) with
  | true=>
   rw[if_pos rfl,w9,h];rfl
  | false=>
   rw[if_neg (by simp),w9,h];simp only[p4,if_true,j0,ad2];rw[show i+1+(ag4 (λb=>!t.contains b) (s.drop (i+1))).length=i+((ag4 (λb=>!t.contains b) (s.drop (i+1))).length+1) by omega]
theorem At7(s t:By):Q0 s t<=s.length:=ai0 (List.takeWhile_sublist _)
theorem A77{R:Type}{a:Int->Option R}(s t:By)(b:A3 s.length=true)(c:A3 t.length=true):Cg5 LF s t a=a (Q0 s t:Int):=by
 have e:=K7 b;have f:=K7 c;have d:=C2;have g:=At7 s t;refine(Bx2 s t e f s.length 0 LF (by omega) (by omega)).trans ?_;rw[ac4,ac1];split
 ·rfl
 ·rw[show Q0 s t=s.length by omega]
set_option maxHeartbeats 4000000 in theorem DF{R:Type}(s:By)(i:Nat)(b:UInt8)(f:By->Int->Option R)(g:Unit->Option R) :
  Af s (i:Int) (b.toNat:Int) (λs i _=>f s i) g=if O8 b=true\/(i≠0/\N7 b=true) then f s i else g ():=by
 have a:(b=43)=(b.toNat=43):=by rw[eq_iff_iff,<-x6];rfl
 have d:(b=45)=(b.toNat=45):=by rw[eq_iff_iff,<-x6];rfl
 have e:(b=46)=(b.toNat=46):=by rw[eq_iff_iff,<-x6];rfl
 simp only[T4,Il,a,d,e];unfold Af Hi Xe Ki Hh Kh Hg;generalize b.toNat=c;simp only[cond_eq_ite,aa3,Jy,beq_iff_eq,Bool.not_eq_false',Lo,beq_eq_false_iff_ne,j4,p4,p9,Bool.true_eq_false,if_true,if_false,ne_eq]
 repeat' split
 all_goals first|rfl|(exfalso;omega)
theorem WY{c:UInt8}:∀{p:By},c∉p->p.takeWhile (λb=>b !=c)=p
 | [],_=>rfl
 | b::p,h=>by
  simp only[v7,not_or] at h;rw[w9,if_pos (by simpa using ac9 h.1),WY h.2]
theorem Cj7{c:UInt8}{p:By}(r:By)(h:c∉p):(p++c::r).takeWhile (λb=>b !=c)=p:=by
 rw[List.takeWhile_append_of_pos (λx a=>by
  rw[bne_iff_ne];intro e;subst e;exact h a),w9,if_neg (by simp),List.append_nil]
theorem Dk6{c b:UInt8}(r:By)(h:b≠c):(b::r).takeWhile (λb=>b !=c)=b::r.takeWhile λb=>b !=c:=by rw[w9,if_pos (by simpa using h)]
theorem B71(b:UInt8):((b.toNat:Int)==58)=(b==58):=Kb b 58
theorem A82{R:Type}{c:By->By->Bool->Option R}(s:By)(q:s.length<=1000000000):∀(r i n:Nat),1<=i->i+r=s.length->r<n->
  N4 LF n s (i:Int) c (λ_=>c [] [] false)=if ((s.drop i).takeWhile λb=>b !=58).all N7=true/\((s.drop i).takeWhile λb=>b !=58).length<r then c (B6 (s.take (i+((s.drop i).takeWhile λb=>b !=58).length))) (s.drop (i+((s.drop i).takeWhile λb=>b !=58).length+1)) true else c [] [] false:=by
 intro r
 induction r with
 | zero=>
  intro i n k l o;obtain⟨n,rfl⟩:∃m,n=m+1:=⟨n-1,by omega⟩
  rw[N4];rw[A6,G1];rfl
 | succ r p=>
  intro i n k l o;obtain⟨n,rfl⟩:∃m,n=m+1:=⟨n-1,by omega⟩
  have g:A1 ((i:Int)+1)=((i+1:Nat):Int):=by rw[A7];rfl
  rw[N4];unfold Kg;rw[A8,E6,D0,D2 s i (by omega),B71,A8];simp only[cond_true,cond_false];by_cases a:s.getD i 0=58
  ·rw[a,show((58:UInt8)==58)=true from rfl,cond_true,show((58:UInt8)::s.drop (i+1)).takeWhile (λb=>b !=58)=[] from rfl,if_pos ⟨rfl,by simp⟩];simp only[vl];rw[H5,J8,j7,E3 (by rw[j8];omega),g,H5,O5,j7];rfl
  ·rw[show(s.getD i 0==58)=false by simpa using a,cond_false,Dk6 _ a];simp only[vl];refine(DF s i (s.getD i 0) (λf e=>N4 LF n f (A1 (e+1)) c λ_=>c [] [] false) (λ_=>c [] [] false)).trans ?_;rw[g,p (i+1) n (by omega) (by omega) (by omega),ae6,j0];have j:(O8 (s.getD i 0)=true\/i≠0/\N7 (s.getD i 0)=true)↔N7 (s.getD i 0)=true:=by
    refine⟨λh=>?_,λh=>.inr ⟨by omega,h⟩⟩;rcases h with h|⟨_,h⟩
    ·rw[Il];rw[T4] at h;exact h.elim .inl λh=>.inr (.inl h)
    ·exact h
   by_cases d:N7 (s.getD i 0)=true
   ·rw[if_pos (j.2 d)];simp only[d,ah4,ad2];rw[show i+1+((s.drop (i+1)).takeWhile λb=>b !=58).length=i+(((s.drop (i+1)).takeWhile λb=>b !=58).length+1) by omega]
   ·rw[if_neg (λh=>d (j.1 h)),if_neg (λh=>d (by have:=h.1;rw[s8] at this;exact this.1))]
theorem A83{R:Type}{a:By->By->Bool->Option R}(s:By)(n:A3 s.length=true):Ag1 LF s a=a (Dc s).1 (Dc s).2.1 (Dc s).2.2:=by
 have u:=K7 n;have o:=C2;obtain⟨N,hN⟩:∃m,LF=m+1:=⟨LF-1,by omega⟩
 unfold Ag1;rw[show N4 LF LF = @N4 R LF (N+1) by rw[<-hN],N4];unfold Kg;cases s with
 | nil=>
  rfl
 | cons b r=>
  rw[j0] at u;rw[B5 (by simp only[j0];omega),J6 (by omega) (by simp),Z9,y7,B71,A6];simp only[cond_true,cond_false,vl];have l:A1 (((0:Nat):Int)+1)=((1:Nat):Int):=rfl;have go:Af (b::r) ((0:Nat):Int) (b.toNat:Int) (λe d _=>N4 LF N e (A1 (d+1)) a λ_=>a [] [] false) (λ_=>a [] [] false)=if O8 b=true/\(r.takeWhile λb=>b !=58).all N7=true/\(r.takeWhile λb=>b !=58).length<r.length then a (B6 ((b::r).take (1+(r.takeWhile λb=>b !=58).length))) ((b::r).drop (1+(r.takeWhile λb=>b !=58).length+1)) true else a [] [] false:=by
   refine(DF (b::r) 0 b (λe d=>N4 LF N e (A1 (d+1)) a λ_=>a [] [] false) (λ_=>a [] [] false)).trans ?_;rw[l,A82 (b::r) (by simp;omega) r.length 1 N (by omega) (by simp;omega) (by omega)];by_cases j:O8 b=true
   ·rw[if_pos (.inl j)];simp only[j,true_and];rfl
   ·rw[if_neg (by simp[j]),if_neg (λh=>j h.1)]
  have k:∀c,(bif c then Af (b::r) 0 (b.toNat:Int) (λe d _=>N4 LF N e (A1 (d+1)) a λ_=>a [] [] false) (λ_=>a [] [] false) else Af (b::r) 0 (b.toNat:Int) (λe d _=>N4 LF N e (A1 (d+1)) a λ_=>a [] [] false) (λ_=>a [] [] false))=Af (b::r) ((0:Nat):Int) (b.toNat:Int) (λe d _=>N4 LF N e (A1 (d+1)) a λ_=>a [] [] false) (λ_=>a [] [] false):=λc=>by cases c<;>rfl
  refine(k _).trans (go.trans ?_);unfold Dc;rcases T1 58 r with f|⟨p,t,rfl,f⟩
  ·rw[WY f,G1];by_cases i:b=58
   ·subst i;rw[show v8 (58::r) [58]=([],r,true) from Ab (p:=[]) (by simp)];rfl
   ·rw[Qd (by simp only[v7,not_or];exact⟨ac9 i,f⟩)];rfl
  ·rw[Cj7 t f];by_cases i:b=58
   ·subst i;rw[show v8 (58::(p++58::t)) [58]=([],p++58::t,true) from Ab (p:=[]) (by simp),if_neg (λh=>by cases h.1)];rfl
   ·rw[show v8 (b::(p++58::t)) [58]=(b::p,t,true) from Ab (p:=b::p) (by simp only[v7,not_or];exact⟨ac9 i,f⟩)];simp only[ah4];have q:W0 (b::p)=(O8 b&&p.all N7):=rfl;rw[q];by_cases g:O8 b=true/\p.all N7=true
    ·rw[if_pos ⟨g.1,g.2,by simp⟩,g.1,g.2,show(b::(p++58::t))=(b::p)++58::t from rfl,show 1+p.length=(b::p).length by rw[j0];omega,ae3,show(b::p)++58::t=((b::p)++[58])++t by simp,ad9 (by simp)];rfl
    ·rw[if_neg (λh=>g ⟨h.1,h.2.1⟩),if_neg (by simpa using g)]
end
end Go.Proofs.YtcfingekgbbclaaGreatDoor.E
