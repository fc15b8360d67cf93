/-
  Parts of the proof, merged by a program of the prover's own; no condition.
-/
import Derived.Test.YtcfingekgbbclaaGreatDoorKOS4
import Derived.LaidMore
import Derived.LaidSub
import Derived.Laws.Runes
import Derived.Lay
import Derived.Lib.IndexAny
import Derived.Lib.MapLaws
import Derived.OpenShut
import Derived.ProofKit
import Derived.Shelf.Vars
import Derived.Test.YtcfingekgbbclaaGreatDoorChecked
import Derived.Test.YtcfingekgbbclaaGreatDoorRows
open Go.Proofs.Tryz renaming prog->a8,checked->ag2,f101->ag6,f41->ah1,f55->ah2,f58->ah3,f60->ah4,f61->ah5,f75->ah6,f40->aj2,f62->aj3,f82->aj4
open List renaming length->b8,getD->b9,length_cons->j0,length_drop->j1,length_append->j2,length_take->j5,length_singleton->j9,mem_cons->p5,drop_of_length_le->s8,size_toArray->v7,takeWhile_cons->v8,getElem?_append_right->w8,toArray->w9,isPrefixOf->x3,mem_of_mem_drop->x4,length_nil->x6,mem_append->x7,getElem?_take_of_lt->y7,getD_cons_zero->y9,getElem?_cons_zero->aa1,getElem?_take->aa4,getElem?_toArray->aa5,drop_zero->aa9,take_left->ab0,getElem?_append_left->ab2,mem_singleton->ab6,getElem?_cons_succ->ab8,mem_of_mem_take->ac4,takeWhile_append_of_pos->ac5,drop_succ_cons->ac6,getElem?_eq_some_iff->ad1,getElem?_eq_getElem->ad6,cons_append->ad9,isEmpty_iff->ae0,length_eq_zero_iff->ae1,not_mem_nil->ae2,take_of_length_le->ae4,append_nil->ae7,drop_left'->ae8,nil_append->ae9,getElem?_eq_none->af0,drop_left->af3,getD_cons_succ->af4,getElem?_range->af5,contains_cons->af6,getElem?_drop->af7,getElem?_map->ag0,takeWhile->ah0,all_cons->ai0,map_map->ai7
open Eq renaming trans->c9
open Bool renaming not_true->j4,false_eq_true->p4,not_false->p6,and_eq_true->s7,eq_iff_iff->s9,eq_false_iff->aa6,not_eq_true'->aa7,or_eq_true->ab4,not_eq_true->ag3,false_or->ah8,true_and->ah9,or_self->ai3
open Option.some renaming inj->j6,injEq->p7
open Go.Value renaming int->j7
open Int renaming toNat_natCast->j8,eq_ofNat_of_zero_le->aa0
open Go.Lib renaming indexByte->k9,cut->w6,decodeL->aa8,indexAny->ab1,tabData->ab7,VarReads->ac1,decDigits->ad5,acceptData->af2,deBruijn64tab->af9,indexByte_ge->ag4,size_eq->ag7,firstTab->ai4,pow10Tab->ai5
open Exists renaming intro->p9
open Go.Utf8 renaming decode->x5,encode->ac0
open UInt8 renaming toNat_inj->x8,ofNat->y5
open Nat renaming eq_of_beq_eq_true->x9,ble->z7,mul_one->aa2,zero_le->aa3,le_refl->ab9,le_of_ble_eq_true->ac3,zero_add->ac7,add_lt_add_iff_right->ad7,ble_eq->ae5,ble_eq_true_of_le->af1,strongRecOn->ag8,add_zero->ai8,beq->ai9,sub_self->aj0
open Array renaming length_toList->y8,getElem?_append_left->ac8,getElem?_eq_some_iff->ac9,getElem?_eq_getElem->ad0,size_append->af8
open Go.World renaming laidAll->ab3,cell?->ad4,frozen?->ad8,shape?->ae6
open Option renaming map_some->ab5,bind_some->ae3,getD_some->ag5,isSome->ai1
open Go.Lib.laidMet renaming reads->ac2
open Go.MakeChecks renaming laidMetH_plain->ad2
open Ne renaming symm->ad3
open Go.RowKit.Below renaming refl->ag1
open Go.DataW renaming trod->ag9
open Prod.mk renaming injEq->ai2
open List.Sublist renaming length_le->ai6
namespace Go.Proofs.YtcfingekgbbclaaGreatDoor.E
set_option linter.all false
section
open Go Go.ChangeAt Go.ChangeShapes Go.Proofs Go.RowKit Go.WideShapes
set_option maxRecDepth 100000
theorem own:ownKnob a8.godebug=none:=by kernel_rfl
theorem Cu1:laidOutB a8=true:=by kernel_rfl
noncomputable def gTy(g:Nat):Nat:=match a8.globals[g]? with|some x=>x.type|none=>0
noncomputable def dbT:Nat:=gTy 5
noncomputable def Cx5:Nat:=gTy 1
noncomputable def SG:Nat:=gTy 3
noncomputable def Cr0:Nat:=gTy 2
noncomputable def SE:Nat:=match a8.underlying SG with|some (.array _ e)=>e|_=>0
noncomputable def Yq:Array Field:=match a8.underlying SE with|some (.struct a)=>a|_=>#[]
noncomputable def MJ:Field:=match Yq.toList with|a::_=>a|_=>default
noncomputable def MK:Field:=match Yq.toList with|_::a::_=>a|_=>default
theorem C85:Yq[0]? = some MJ:=by unfold MJ Yq SE SG gTy;kernel_rfl
theorem C86:Yq[1]? = some MK:=by unfold MK Yq SE SG gTy;kernel_rfl
def Ep:List (String × DataW Unit):=[("math/bits.deBruijn32tab", Rows.laid_math_bits_deBruijn32tab), ("math/bits.deBruijn64tab", Rows.laid_math_bits_deBruijn64tab), ("internal/strconv.uint64pow10", Rows.laid_internal_strconv_uint64pow10), ("unicode/utf8.acceptRanges", Rows.laid_unicode_utf8_acceptRanges), ("unicode/utf8.first", Rows.laid_unicode_utf8_first)]
theorem PI{W:World}{n:String}{g:Nat}{a:Array Value}(b:a8.globalNamed n=some g)(h:W.var? a8 n=some a):∃e x,W.heap[g]? = some (.cells a e x):=by
 unfold World.var? at h;rw[b,ae3] at h;split at h
 ·rename_i c e x d;simp only[p7] at h;subst h;exact⟨e,x,d⟩
 ·cases h
theorem AW{W:World}{n:String}{g t e m:Nat}{k:IntKind}{f:List Int}(l:a8.globalNamed n=some g)(d:(a8.globals[g]?).map (·.type)=some t)(w:a8.underlying t=some (.array m e))(v:a8.underlying e=some (.int k))(a:a8.cellsOf e=1)(c:a8.cellsOf t=m)
  (h:ac1 a8 W n (ab7 k f)):∃e x,W.heap[g]? = some (.cells (f.map λz=>j7 k z).toArray e x):=by
 obtain⟨y,A,o,i,p,q,r,j,u⟩:=h;obtain rfl:=j6 (l.symm.trans q);obtain rfl:=j6 (d.symm.trans r);have b:=Lib.cells_of_tab w v a c u;have:o=(f.map λz=>j7 k z).toArray:=by rw[<-b]
 rw[this] at j;exact PI l j
theorem KN{H:Type}{enc:TypeId × Value->H}{P:Program}{w:World}{base:Nat}{sp:Nat->Bool}{held:Bool}{a:Nat}{t e:TypeId}{n:Nat}{b:List Value}{d:DataW H}{p:List MemPlace}(f:P.underlying t=some (.array n e))
  (h:ag9 enc P w base sp held a t b=some (d,p)):b.length=P.cellsOf t:=by
 cases a with
 | zero=>simp[ag9] at h
 | succ a=>
  simp only[ag9,f] at h;split at h
  ·rename_i c;simpa using c
  ·cases h
theorem Bm7{W:World}(C : a8.globalNamed "unicode/utf8.acceptRanges" = some 3)(h:ac1 a8 W "unicode/utf8.acceptRanges" af2) :
  ∃e x,W.heap[3]? = some (.cells (Gc.map λz=>j7 .u8 z).toArray e x):=by
 obtain⟨M,t,v,w,p,H,a,y,A⟩:=h;obtain rfl:=j6 (C.symm.trans H);have n:(a8.globals[3]?).map (·.type)=some SG:=by unfold SG;kernel_rfl
 obtain rfl:=j6 (n.symm.trans a);have F:a8.underlying SG=some (.array 16 SE):=by unfold SG SE;kernel_rfl
 have N:=KN F A;have I:a8.cellsOf SG=32:=by unfold SG;kernel_rfl
 have b:a8.cellsOf SE=2:=by unfold SE;kernel_rfl
 have K:∃j,a8.underlying SE=some (.struct j)/\j.size=2/\∀(i:Nat) (f:Field),j[i]? = some f->a8.underlying f.type=some (.int .u8)/\f.offset=i/\a8.cellsOf f.type=1:=by
  refine⟨Yq,by unfold SE Yq;kernel_rfl,by unfold Yq;kernel_rfl,λi f m=>?_⟩;have:i<2:=by
   have:=(ac9.1 m).1;rwa [show Yq.size=2 by unfold Yq;kernel_rfl] at this
  match i,this with
  | 0,_=>
   obtain rfl:=j6 (m.symm.trans (show Yq[0]? = some MJ from C85));exact⟨by unfold MJ;kernel_rfl,by unfold MJ;kernel_rfl,by unfold MJ;kernel_rfl⟩
  | 1,_=>
   obtain rfl:=j6 (m.symm.trans (show Yq[1]? = some MK from C86));exact⟨by unfold MK;kernel_rfl,by unfold MK;kernel_rfl,by unfold MK;kernel_rfl⟩
 obtain⟨j,o,r,u⟩:=K;have l:v.toList=Gc.map λz=>j7 .u8 z:=by
  have D:(Gc.map λz=>j7 .u8 z).length=32:=by rw[List.length_map];rfl
  apply List.ext_getElem?;intro q;by_cases J:q<32
  ·obtain⟨k,d,O,c,B⟩:=Lib.array_elem F A (q / 2) (by omega);simp only[ag0,af5 (show q / 2<16 by omega),ab5,p7] at c;subst c;rw[b] at B;have L:=Lib.ints_of_struct o u (by rw[b,r]) B;have e0:=congrArg (·[q % 2]?) L;simp only[aa4,af7] at e0;rw[P9,show q / 2*2+q % 2=q by omega] at e0;rw[e0];unfold Gc;have G:∀g:Nat->Value,(List.map g (List.range 32))[q]? = some (g q):=λg=>by
    rw[ag0,af5 J];rfl
   rw[ai7,G];rcases Nat.mod_two_eq_zero_or_one q with a|a
   ·simp[a]
   ·simp[a]
  ·rw[af0 (by omega),af0 (by omega)]
 have:v=(Gc.map λz=>j7 .u8 z).toArray:=by rw[<-l]
 rw[this] at y;exact PI C y
theorem Au9{C:Cfg}(r:C.G=GX){W:World}(b:laidMet a8 Ep W)(p:W.ShapedOpen a8):GOK C (· < W.heap.size) W:=by
 have lt:∀{g:Nat} {o:Obj},W.heap[g]? = some o->g<W.heap.size:=λh=>(ac9.1 h).1
 have I:ac1 a8 W "math/bits.deBruijn64tab" (ab7 .u8 (af9.map λn:Nat=>(n:Int))):=ac2 b (by rw [show (ab7 .u8 (af9.map λn:Nat=>(n:Int)):DataW Unit)=Rows.laid_math_bits_deBruijn64tab by kernel_rfl];simp [Ep])
 have J:ac1 a8 W "internal/strconv.uint64pow10" (ab7 .u64 ai5):=ac2 b (by rw [show (ab7 .u64 ai5:DataW Unit)=Rows.laid_internal_strconv_uint64pow10 by kernel_rfl];simp [Ep])
 have K:ac1 a8 W "unicode/utf8.acceptRanges" af2:=ac2 b (by rw [show af2=Rows.laid_unicode_utf8_acceptRanges by kernel_rfl];simp [Ep])
 have L:ac1 a8 W "unicode/utf8.first" (ab7 .u8 ai4):=ac2 b (by rw [show (ab7 .u8 ai4:DataW Unit)=Rows.laid_unicode_utf8_first by kernel_rfl];simp [Ep])
 have y:=AW (g:=5) (t:=dbT) (e:=5) (m:=64) (by kernel_rfl) (by unfold dbT;kernel_rfl) (by unfold dbT;kernel_rfl) (by kernel_rfl) (by kernel_rfl) (by unfold dbT;kernel_rfl) I;have A:=AW (g:=1) (t:=Cx5) (e:=112) (m:=20) (by kernel_rfl) (by unfold Cx5;kernel_rfl) (by unfold Cx5;kernel_rfl) (by kernel_rfl) (by kernel_rfl) (by unfold Cx5;kernel_rfl) J;have B:=Bm7 (by kernel_rfl) K;have D:=AW (g:=2) (t:=Cr0) (e:=5) (m:=256) (by kernel_rfl) (by unfold Cr0;kernel_rfl) (by unfold Cr0;kernel_rfl) (by kernel_rfl) (by kernel_rfl) (by unfold Cr0;kernel_rfl) L;have F:=cell_of_shapedOpen_int (k:=.i64) (g:=0) (t:=3) (zero:=#[.int .i64 0]) p (of_decide_eq_true (by kernel_rfl)) (by kernel_rfl) rfl (by kernel_rfl) (by kernel_rfl) (by kernel_rfl);refine⟨λg k w h=>?_,λg h=>?_⟩
 ·rw[r] at h;simp only[GX] at h;have key:∀{q:Nat} {v:IntKind} {a:List Int},(∃e x,W.heap[q]? = some (.cells (a.map λz=>j7 v z).toArray e x))->g=q->(v,a)=(k,w)->g<W.heap.size/\∃e x,W.heap[g]? = some (.cells (w.map λz=>j7 k z).toArray e x):=λc G H=>by
   subst G;cases H;obtain⟨e,x,c⟩:=c;exact⟨lt c,e,x,c⟩
  cases d:ai9 g 2 with
  | true=>rw[d,cond_true] at h;exact key D (x9 d) (j6 h)
  | false=>
   rw[d,cond_false] at h;cases f:ai9 g 3 with
   | true=>rw[f,cond_true] at h;exact key B (x9 f) (j6 h)
   | false=>
    rw[f,cond_false] at h;cases i:ai9 g 1 with
    | true=>rw[i,cond_true] at h;exact key A (x9 i) (j6 h)
    | false=>
     rw[i,cond_false] at h;cases j:ai9 g 5 with
     | true=>rw[j,cond_true] at h;exact key y (x9 j) (j6 h)
     | false=>rw[j,cond_false] at h;cases h
 ·rw[r] at h;have e:=x9 h;subst e;obtain⟨m,u⟩:=F;refine⟨?_,m,u⟩;apply Classical.byContradiction;intro l;simp[ad4,Array.getElem?_eq_none (Nat.le_of_not_lt l)] at u
theorem AC(os:Os)(args:Array Value):((ab3 a8 os Ep).forCall (λ_ _=>0) ⟨#[],args,[]⟩).Shaped a8:=
 World.shaped_of_ZipB (by kernel_rfl) (by kernel_rfl)
theorem LC(os:Os)(args:Array Value):laidMetH a8 Ep ((ab3 a8 os Ep).forCall (λ_ _=>0) ⟨#[],args,[]⟩).memory:=by rw[ad2 _ _ _ (by kernel_rfl)];exact laidMet_laidAll _ (by kernel_rfl) (by kernel_rfl)
theorem Aw2{H:Type}{enc:TypeId × Value->H}{os:Os}(j:os.Started){C:Cfg}(u:C.P=a8)(r:C.G=GX)(Z:XOK C)(W:No C){f tb:Nat}{fn:Func}{c:Code}{s:ChangeSpec}{g:List PathCond}{apart fresh handsOn again:Bool}(l:a8.inits.idxOf? f=none)(x:a8.funcs[f]? = some fn)(hb:fn.body=some c)(n:(fn.name == "runtime.NumGoroutine")=false)
  (F:∀t∈fn.params.toList,(a8.readableRec t=true/\t<a8.types.size)/\(Kt a8 20 t).isSome=true) (z:fn.resultTypes = #[tb]) (m:a8.underlying tb=some .bool) (q:s.vars=[])
  (p:∀ds:List (DataW H),ds.length=fn.params.toList.length->s.fn H ds = { results:=[.lit (.bool true)],args:=ds })
  (a:Array Value) (h:Nat) (o:Input.okWideB a8 ((ab3 a8 os Ep).forCall (λ_ _=>0) ⟨#[],a,[]⟩) f ⟨#[],a,[]⟩=true)
  (Om:s.preB enc a8 fn g apart ((ab3 a8 os Ep).forCall (λ_ _=>0) ⟨#[],a,[]⟩).memory a h=true)
  (J:s.sizedB enc a8 fn apart ((ab3 a8 os Ep).forCall (λ_ _=>0) ⟨#[],a,[]⟩).memory a h=true)
  (D:∀args,Kw a8 fn.params.toList args->∃d T,evC C d Unit noY f args [] ()=some (.s (.bool true),T,())) :
  ReturnsInHanded {} ag2 os f .any (λw args=>(s.pre enc a8 fn g apart w args/\laidMetH a8 Ep w)/\sizedMet enc a8 fn (OpenSpec.ofChange s) apart w args) (s.post enc a8 fn apart fresh handsOn again):=by
 obtain⟨P,G,X,R,a0,lf,Q,M,xp,L,N,Y,S,nt,a1⟩:=C;simp only at u r;subst u;refine returnsInHanded_of_calls (C:=ag2) own j l
  (ChangeSpec.witness_shaped (enc:=enc) (C:=ag2) (os:=os) (X:=λw _=>laidMetH a8 Ep w) false (ab3 a8 os Ep) a h (World.laidAll_os _ _ _) (AC os a) o Om J (LC os a)) ?_
 intro w b i _ I _ o Om A;obtain⟨_,_,_,B,y,_,_,_,_,Nm⟩:=o;have e:B=fn:=j6 (y.symm.trans x);subst e;obtain⟨⟨⟨ds,U,k,hw,hc⟩,O⟩,hz⟩:=Om;have K:=DataW.Whole.of_heap (w':=w.forCall b i) (by rfl) hw;have V:laidMet a8 Ep (w.forCall b i):=by
  rw[ad2 _ _ _ (by kernel_rfl)] at O;exact laidMet.of_heap (w':=w.forCall b i) (by rfl) O
 refine(B68 (apart:=apart) (fresh:=fresh) (handsOn:=handsOn) (again:=again) Z W follows Cu1 x hb n F z m q p D (w.forCall b i) (Au9 r V I) w.heap.size i.args ds U k Nm K).mono λe W' ⟨v,he,F⟩=>?_
 subst he;exact ChangeSpec.post_blind F
end
section
open Go Go.Proofs
set_option maxRecDepth 100000
section
theorem PJ:B0 a8 GX 165 Jn:=λargs ret a h=>by
 have:L7 (Jn args)=none:=by unfold Jn EO;split<;>rfl
 rw[this] at h;cases h
theorem Bc6:B0 a8 GX 79 QN:=xf [] (Ar1 LF) QO rfl trivial rfl (by kernel_rfl) follows λargs=>by
 unfold QO;split
 ·rename_i s p;exact λa=>⟨rfl,rfl,rfl,_,_,(Cv1 LF noY () 0 s p).trans (Br7 s p a),rfl⟩
 ·trivial
theorem XG:B0 a8 GX 59 ES:=xf [] (Aq8 LF) QC rfl ⟨Bc6,trivial⟩ rfl (by kernel_rfl) follows λargs=>by
 unfold QC;split
 ·rename_i s p;exact λa=>⟨rfl,rfl,rfl,_,_,(Ct1 LF noY () 0 s p).trans (Bp3 s p a),rfl⟩
 ·trivial
theorem Cm2:B0 a8 GX 93 An1:=xf [] (Ar2 LF) QQ rfl trivial rfl (by kernel_rfl) follows λargs=>by
 unfold QQ;split
 ·rename_i s p;exact λa=>⟨rfl,rfl,rfl,_,_,(Cv3 LF noY () 0 s p).trans (Br8 s p a),rfl⟩
 ·trivial
theorem De8:B0 a8 GX 65 B29:=xf [] (Aq9 LF) QD rfl ⟨Cm2,trivial⟩ rfl (by kernel_rfl) follows λargs=>by
 unfold QD;split
 ·rename_i s p;exact λa=>⟨rfl,rfl,rfl,_,_,(Ct3 LF noY () 0 s p).trans (Bp4 s p a),rfl⟩
 ·trivial
theorem C39:B0 a8 GX 137 Be0:=xf [] (TC LF) FE rfl ⟨Cm2,trivial⟩ rfl (by kernel_rfl) follows λargs=>by
 unfold FE;split
 ·rename_i s p;exact λa=>⟨rfl,rfl,rfl,_,_,(Ca9 LF noY () 0 s p).trans (Ax5 s p a),rfl⟩
 ·trivial
theorem C53:B0 a8 GX 107 Bf3:=xf [] (TK LF) GE rfl ⟨C39,trivial⟩ rfl (by kernel_rfl) follows λargs=>by
 unfold GE;split
 ·rename_i s p;exact λa=>⟨rfl,rfl,rfl,_,_,(Cj0 LF noY () 0 s p).trans (Ba2 s p a),rfl⟩
 ·trivial
theorem C35:B0 a8 GX 74 Bd7:=xf [0,0] (SZ LF) EY rfl ⟨Bc6,trivial⟩ rfl (by kernel_rfl) follows λargs=>by
 unfold EY;split
 ·rename_i s p;exact λa=>⟨rfl,rfl,rfl,_,_,(Ca3 LF noY () 0 s p).trans (Aw4 s p a),rfl⟩
 ·trivial
theorem Cl3:B0 a8 GX 57 Am4:=xf [0,0] (Aq3 LF) PO rfl ⟨C35,trivial⟩ rfl (by kernel_rfl) follows λargs=>by
 unfold PO;split
 ·rename_i s p;exact λa=>⟨rfl,rfl,rfl,_,_,(Cp7 LF noY () 0 s p).trans (Bn2 s p a),rfl⟩
 ·trivial
theorem Cl4:B0 a8 GX 138 XQ:=xf [1] (Du LF) Xu rfl ⟨PJ,Cn2,Bc8,trivial⟩ rfl (by kernel_rfl) follows λargs=>by
 unfold Xu;split
 ·rename_i s p v n;exact λa=>λb=>λc=>λd=>(let⟨r,H,e,q⟩:=ZR s p v n a b c d;⟨rfl,rfl,rfl,r,H,(NL LF noY () 0 s p v n).trans e,q⟩)
 ·trivial
theorem KV:B0 a8 GX 109 Ud:=xf [1] (HA LF) Yk rfl ⟨Cl4,trivial⟩ rfl (by kernel_rfl) follows λargs=>by
 unfold Yk;split
 ·rename_i s p;exact λa=>λb=>⟨rfl,rfl,rfl,_,_,(By7 LF noY () 0 s p).trans (Aj9 s p a b),rfl⟩
 ·trivial
theorem Cm1:B0 a8 GX 56 An0:=xf [] (Sg LF) QM rfl trivial rfl (by kernel_rfl) follows λargs=>by
 unfold QM;split
 ·rename_i s;exact λa=>⟨rfl,rfl,rfl,_,_,(Cu9 LF noY () 0 s).trans (Br5 s a),rfl⟩
 ·trivial
theorem Cl5:B0 a8 GX 122 Am6:=xf [] (Aq6 LF) QA rfl ⟨XG,trivial⟩ rfl (by kernel_rfl) follows λargs=>by
 unfold QA;split
 ·rename_i s;exact λa=>⟨rfl,rfl,rfl,_,_,(Cs7 LF noY () 0 s).trans (Bp0 s a),rfl⟩
 ·trivial
theorem Bc3:B0 a8 GX 124 PP:=xf [0,0] (W3 LF) PQ rfl trivial rfl (by kernel_rfl) follows λargs=>by
 unfold PQ;split
 ·rename_i s base;exact λa=>λb=>⟨rfl,rfl,rfl,_,_,(Cq6 LF noY () 0 s base).trans (Bn7 s base a b),rfl⟩
 ·trivial
theorem C81:B0 a8 GX 123 B32:=xf [0,0] (B63 LF) An2 rfl ⟨Cl5,Bc3,trivial⟩ rfl (by kernel_rfl) follows λargs=>by
 unfold An2;split
 ·rename_i s;exact λa=>⟨rfl,rfl,rfl,_,_,(Db2 LF noY () 0 s).trans (Cc0 s a),rfl⟩
 ·trivial
theorem Bm2:B0 a8 GX 121 QW:=xf [1] (TE LF) FI rfl ⟨KV,trivial⟩ rfl (by kernel_rfl) follows λargs=>by
 unfold FI;split
 ·rename_i s;exact λa=>⟨rfl,rfl,rfl,_,_,(Cd2 LF noY () 0 s).trans (Az0 s a),rfl⟩
 ·trivial
theorem PK:B0 a8 GX 90 Po:=xf [] (Yz LF) Rn rfl ⟨Bm2,Cl5,C81,Bc3,trivial⟩ rfl (by kernel_rfl) follows λargs=>by
 unfold Rn;split
 ·rename_i s;exact λa=>⟨rfl,rfl,rfl,_,_,(Ay2 LF noY () 0 s).trans (UT s a),rfl⟩
 ·trivial
theorem Df2:B0 a8 GX 108 B34:=xf [0,0] (Sj LF) RA rfl ⟨Bm2,C81,trivial⟩ rfl (by kernel_rfl) follows λargs=>by
 unfold RA;split
 ·rename_i s;exact λa=>⟨rfl,rfl,rfl,_,_,(Cx4 LF noY () 0 s).trans (Bt9 s a),rfl⟩
 ·trivial
theorem Dk3:B0 a8 GX 180 C63:=xf [0,0] (HC LF) Ao7 rfl ⟨KV,Bc3,Cl9,trivial⟩ rfl (by kernel_rfl) follows λargs=>by
 unfold Ao7;split
 ·rename_i s;exact λa=>⟨rfl,rfl,rfl,_,_,(Dd2 LF noY () 0 s).trans (Ck5 s a),rfl⟩
 ·trivial
theorem Dk2:B0 a8 GX 67 C62:=xf [] (HB LF) Ao6 rfl ⟨Cl9,trivial⟩ rfl (by kernel_rfl) follows λargs=>by
 unfold Ao6;split
 ·rename_i v;exact λa=>⟨rfl,rfl,rfl,_,_,(Dd1 LF noY () 0 v).trans (Ck3 v a),rfl⟩
 ·trivial
theorem B15:B0 a8 GX 117 ME:=xf [] (Cr LF) Ro rfl trivial rfl (by kernel_rfl) follows λargs=>by
 unfold Ro;split
 ·rename_i s;exact λa=>⟨rfl,rfl,rfl,_,_,(A16 LF noY () 0 s).trans (VJ s a),rfl⟩
 ·trivial
theorem Cm9:B0 a8 GX 17 An9:=xf [] (Sl LF) RJ rfl trivial rfl (by kernel_rfl) follows λargs=>by
 unfold RJ;split
 ·rename_i s;exact λa=>⟨rfl,rfl,rfl,_,_,(Cz1 LF noY () 0 s).trans (Bv9 s a),rfl⟩
 ·trivial
theorem Xp:B0 a8 GX 88 Nu:=xf [1] (Gg LF) Yf rfl trivial rfl (by kernel_rfl) follows λargs=>by
 unfold Yf;split
 ·rename_i s c;exact λa=>λb=>(let⟨r,H,e,q⟩:=Af7 s c a b;⟨rfl,rfl,rfl,r,H,(Bw9 LF noY () 0 s c).trans e,q⟩)
 ·trivial
theorem Df5:B0 a8 GX 147 B36:=xf [] (Iz LF) RF rfl trivial rfl (by kernel_rfl) follows λargs=>by
 unfold RF;split
 ·rename_i b;exact λa=>⟨rfl,rfl,rfl,_,_,(Cy3 LF noY () 0 b).trans (Bu9 b a),rfl⟩
 ·trivial
theorem Cn0:B0 a8 GX 118 Ao0:=xf [0,0] (P3 LF) RK rfl ⟨Df5,trivial⟩ rfl (by kernel_rfl) follows λargs=>by
 unfold RK;split
 ·rename_i s;exact λa=>⟨rfl,rfl,rfl,_,_,(Cz3 LF noY () 0 s).trans (Bw0 s a),rfl⟩
 ·trivial
theorem Al9:B0 a8 GX 116 FR:=xf [1] (GW LF) Yd rfl ⟨Xp,trivial⟩ rfl (by kernel_rfl) follows λargs=>by
 unfold Yd;split
 ·rename_i s;exact λa=>⟨rfl,rfl,rfl,_,_,(Bw3 LF noY () 0 s).trans (Ae7 s a),rfl⟩
 ·trivial
theorem Bc7:B0 a8 GX 86 FQ:=xf [] (Sm LF) Nt rfl ⟨Al9,B15,Cn0,trivial⟩ rfl (by kernel_rfl) follows λargs=>by
 unfold Nt;split
 ·rename_i s;exact λa=>⟨rfl,rfl,rfl,_,_,(Ae6 LF noY () 0 s).trans (LV s a),rfl⟩
 ·trivial
theorem C46:B0 a8 GX 87 Be7:=xf [0,0] (Lh LF) FT rfl ⟨Al9,Cn0,trivial⟩ rfl (by kernel_rfl) follows λargs=>by
 unfold FT;split
 ·rename_i s;exact λa=>⟨rfl,rfl,rfl,_,_,(Cf9 LF noY () 0 s).trans (A61 s a),rfl⟩
 ·trivial
theorem Df4:B0 a8 GX 173 B35:=xf [0,0] (Sk LF) RE rfl ⟨B13,trivial⟩ rfl (by kernel_rfl) follows λargs=>by
 unfold RE;split
 ·rename_i s;exact λa=>⟨rfl,rfl,rfl,_,_,(Cy1 LF noY () 0 s).trans (Bu8 s a),rfl⟩
 ·trivial
theorem Df8:B0 a8 GX 145 B39:=xf [0,0] (Sn LF) RN rfl ⟨Xp,Df4,trivial⟩ rfl (by kernel_rfl) follows λargs=>by
 unfold RN;split
 ·rename_i s;exact λa=>⟨rfl,rfl,rfl,_,_,(C02 LF noY () 0 s).trans (Bx5 s a),rfl⟩
 ·trivial
theorem B14:B0 a8 GX 138 Xv:=by
 refine B0.fix (pf:=Rm) _ (Ch (C₀:=Du LF) (M4.ok (l:=[(165,Jn),(166,Ao2),(154,GA)]) rfl ⟨PJ,Cn2,Bc8,trivial⟩) (I3 rfl (by kernel_rfl)) follows ?_);intro args ret f h;unfold Rm at h;split at h
 ·rename_i s p v n;obtain⟨a,h⟩:=C0 h;obtain⟨b,h⟩:=C0 h;obtain⟨c,h⟩:=C0 h;obtain⟨d,h⟩:=C0 h;obtain⟨rfl,rfl⟩:=J1 h;have e:=(NL LF noY () 0 s p v n).trans (IA s p v n a b c d);exact⟨rfl,1,_,[],e,rfl,rfl⟩
 ·cases h
theorem B19:B0 a8 GX 109 MI:=by
 refine B0.fix (pf:=Ru) _ (Ch (C₀:=Zd LF) (M4.ok (l:=[(138,Xv)]) rfl ⟨B14,trivial⟩) (I3 rfl (by kernel_rfl)) follows ?_);intro args ret c h;unfold Ru at h;split at h
 ·rename_i s p;obtain⟨a,h⟩:=C0 h;obtain⟨b,h⟩:=C0 h;obtain⟨rfl,rfl⟩:=J1 h;have e:=(A98 LF noY () 0 s p).trans (WO s p a b);exact⟨rfl,1,_,[],e,rfl,rfl⟩
 ·cases h
end
section
theorem De4:B0 a8 GX 179 B25:=xf [0,0] (Z8 LF) PW rfl trivial rfl (by kernel_rfl) follows λargs=>by
 unfold PW;split
 ·rename_i s;exact λa=>⟨rfl,rfl,rfl,_,_,(Cr9 LF noY () 0 s).trans (Bo6 s a),rfl⟩
 ·trivial
theorem C31:B0 a8 GX 164 Bd5:=xf [1,0] (Ld LF) EQ rfl ⟨KV,De4,Dk3,trivial⟩ rfl (by kernel_rfl) follows λargs=>by
 unfold EQ;split
 ·rename_i s last;exact λa=>(let⟨r,H,e,q⟩:=Au8 s last a;⟨rfl,rfl,rfl,r,H,(B88 LF noY () 0 s last).trans e,q⟩)
 ·trivial
theorem Dk6:B0 a8 GX 135 C66:=xf [0,0] (BJ LF) Ap0 rfl ⟨Cn3,C31,trivial⟩ rfl (by kernel_rfl) follows λargs=>by
 unfold Ap0;split
 ·rename_i s;exact λa=>(let⟨r,H,e,q⟩:=De0 s a;⟨rfl,rfl,rfl,r,H,(Dd9 LF noY () 0 s).trans e,q⟩)
 ·trivial
theorem C55:B0 a8 GX 95 Bf5:=xf [0,0] (Y4 LF) GJ rfl trivial rfl (by kernel_rfl) follows λargs=>by
 unfold GJ;split
 ·rename_i a b c d e f g h;exact λi=>⟨rfl,rfl,rfl,_,_,(Co4 LF noY () 0 a b c d e f g h).trans (Bd3 a b c d e f g h i),rfl⟩
 ·trivial
theorem Dk5:B0 a8 GX 96 C65:=xf [] (HD LF) Ao9 rfl ⟨De3,Bm3,trivial⟩ rfl (by kernel_rfl) follows λargs=>by
 unfold Ao9;split
 ·rename_i b a l;exact λc=>λd=>(let⟨r,H,e,q⟩:=Dd7 b a l c d;⟨rfl,rfl,rfl,r,H,(Dd6 LF noY () 0 b a l).trans e,q⟩)
 ·trivial
theorem Dk4:B0 a8 GX 68 C64:=xf [] (B65 LF) Ao8 rfl ⟨C55,Dk5,trivial⟩ rfl (by kernel_rfl) follows λargs=>by
 unfold Ao8;split
 ·rename_i a b c d f g h i;exact λj=>(let⟨r,H,e,q⟩:=Dd5 a b c d f g h i j;⟨rfl,rfl,rfl,r,H,(Dd4 LF noY () 0 a b c d f g h i).trans e,q⟩)
 ·trivial
theorem Df6:B0 a8 GX 146 B37:=xf [0,0] (Aa LF) RH rfl trivial rfl (by kernel_rfl) follows λargs=>by
 unfold RH;split
 ·rename_i s;exact λa=>⟨rfl,rfl,rfl,_,_,(Cy9 LF noY () 0 s).trans (Bv3 s a),rfl⟩
 ·trivial
theorem C41:B0 a8 GX 114 Be2:=xf [1,0] (R8 LF) FM rfl ⟨Xp,Df8,Df6,trivial⟩ rfl (by kernel_rfl) follows λargs=>by
 unfold FM;split
 ·rename_i s last;exact λa=>(let⟨r,H,e,q⟩:=A36 s last a;⟨rfl,rfl,rfl,r,H,(Ce9 LF noY () 0 s last).trans e,q⟩)
 ·trivial
theorem B16:B0 a8 GX 113 MF:=xf [] (Cs LF) Rp rfl trivial rfl (by kernel_rfl) follows λargs=>by
 unfold Rp;split
 ·rename_i s;exact λa=>⟨rfl,rfl,rfl,_,_,(A17 LF noY () 0 s).trans (VM s a),rfl⟩
 ·trivial
theorem Df9:B0 a8 GX 84 B40:=xf [0,0] (Ab LF) RO rfl ⟨B16,C41,trivial⟩ rfl (by kernel_rfl) follows λargs=>by
 unfold RO;split
 ·rename_i s;exact λa=>(let⟨r,H,e,q⟩:=C04 s a;⟨rfl,rfl,rfl,r,H,(C03 LF noY () 0 s).trans e,q⟩)
 ·trivial
theorem Al7:B0 a8 GX 168 Ns:=xf [] (GV LF) Yb rfl trivial rfl (by kernel_rfl) follows λargs=>by
 unfold Yb;split
 ·rename_i n;exact⟨rfl,rfl,rfl,_,_,(Bu0 LF noY () 0 n).trans (Ad0 n ),rfl⟩
 ·trivial
theorem Al6:B0 a8 GX 170 Nr:=xf [] (X2 LF) Ya rfl trivial rfl (by kernel_rfl) follows λargs=>by
 unfold Ya;split
 ·rename_i d c f;exact λa=>λb=>λe=>⟨rfl,rfl,rfl,_,_,(Bs7 LF noY () 0 d c f).trans (Ac0 d c f a b e),rfl⟩
 ·trivial
theorem Df1:B0 a8 GX 183 An4:=xf [] (Ar4 LF) QY rfl trivial rfl (by kernel_rfl) follows λargs=>by
 unfold QY;split
 ·rename_i d;exact λa=>⟨rfl,rfl,rfl,_,_,(Cw9 LF noY () 0 d).trans (Bt6 d a),rfl⟩
 ·trivial
theorem Df3:B0 a8 GX 189 An6:=xf [] (Iy LF) RD rfl trivial rfl (by kernel_rfl) follows λargs=>by
 unfold RD;split
 ·rename_i b;exact λa=>⟨rfl,rfl,rfl,_,_,(Cx9 LF noY () 0 b).trans (Bu3 b a),rfl⟩
 ·trivial
end
section
theorem Cm7:B0 a8 GX 182 FJ:=by
 refine B0.fix (pf:=RC) _ (Ch (C₀:=Ar5 LF) (M4.ok (l:=[]) rfl trivial) (I3 rfl (by kernel_rfl)) follows ?_);intro args ret a h;unfold RC at h;split at h
 ·rename_i b;obtain⟨rfl,rfl⟩:=J1 h;have e:=(Cx6 LF noY () 0 b).trans (Bu1 b );exact⟨rfl,1,_,[],e,rfl,rfl⟩
 ·cases h
theorem Bm4:BE a8 GX 188 Pp:=by
 refine Fm (C₀:=TF LF) (M4.ok (l:=[]) rfl trivial) (I3 rfl (by kernel_rfl)) follows ?_;intro args H ret f h;unfold Pp at h;split at h
 ·rename_i k b;obtain⟨a,h⟩:=C0 h;obtain⟨c,h⟩:=C0 h;obtain⟨rfl,rfl⟩:=J1 h;refine⟨rfl,rfl,λZ d s=>?_⟩;have e:=(Cd7 LF d s 0 k b).trans (A03 k b a c);exact⟨1,_,e,rfl⟩
 ·cases h
theorem Dg7:BE a8 GX 169 QU:=by
 refine Fm (C₀:=Za LF) (Tw (lx:=[(182,FJ),(183,An4)]) (ly:=[(188,Pp)]) (ls:=[]) rfl rfl rfl ⟨Cm7,Df1,trivial⟩ ⟨Bm4,trivial⟩ trivial) (I3 rfl (by kernel_rfl)) follows ?_;intro args H ret f h;unfold QU at h;split at h
 ·rename_i q b z l;obtain⟨a,h⟩:=C0 h;obtain⟨c,h⟩:=C0 h;obtain⟨d,h⟩:=C0 h;obtain⟨rfl,rfl⟩:=J1 h;obtain⟨g,i,e0⟩:=Bs9 q b z l a c d;exact⟨rfl,rfl,λZ e s=>⟨1,_,(Cw5 LF e s 0 q b z l).trans (e0 _ _),rfl⟩⟩
 ·cases h
theorem Cm6:B0 a8 GX 141 An5:=by
 refine B0.fix (pf:=QZ) _ (I6 [0,0] (C₀:=Q4 LF) (Tw (lx:=[(168,Ns),(170,Nr)]) (ly:=[(169,QU)]) (ls:=[]) rfl rfl rfl ⟨Al7,Al6,trivial⟩ ⟨Dg7,trivial⟩ trivial) (I3 rfl (by kernel_rfl)) follows ?_);intro args ret f h;unfold QZ at h;split at h
 ·rename_i b a p;obtain⟨c,h⟩:=C0 h;obtain⟨rfl,rfl⟩:=J1 h;obtain⟨r,H,e,d⟩:=Cx1 b a p c;exact⟨rfl,rfl,rfl,1,r,H,(Cx0 LF noY () 0 b a p).trans e,d⟩
 ·cases h
end
section
theorem Dg6:BE a8 GX 186 PS:=by
 refine Fm (C₀:=Yx LF) (Tw (lx:=[(182,FJ),(189,An6)]) (ly:=[(188,Pp)]) (ls:=[]) rfl rfl rfl ⟨Cm7,Df3,trivial⟩ ⟨Bm4,trivial⟩ trivial) (I3 rfl (by kernel_rfl)) follows ?_;intro args H ret j h;unfold PS at h;split at h
 ·rename_i a n i b c z l;obtain⟨d,h⟩:=C0 h;obtain⟨e,h⟩:=C0 h;obtain⟨f,h⟩:=C0 h;obtain⟨rfl,rfl⟩:=J1 h;obtain⟨k,e0⟩:=Bn9 a n i b c z l d e f;exact⟨rfl,rfl,λZ g s=>⟨1,_,(Cq7 LF g s 0 a n i b c z l).trans (e0 _ _),rfl⟩⟩
 ·cases h
theorem Cl8:B0 a8 GX 104 XS:=xf [] (Ge LF) Xx rfl trivial rfl (by kernel_rfl) follows λargs=>by
 unfold Xx;split
 ·rename_i s c;exact λa=>λb=>⟨rfl,rfl,rfl,_,_,(Bp8 LF noY () 0 s c).trans (ZZ s c a b),rfl⟩
 ·trivial
theorem Bm0:B0 a8 GX 80 DL:=xf [] (SY LF) EX rfl ⟨Cl8,trivial⟩ rfl (by kernel_rfl) follows λargs=>by
 unfold EX;split
 ·rename_i s c;exact λa=>λb=>⟨rfl,rfl,rfl,_,_,(Ca2 LF noY () 0 s c).trans (Aw1 s c a b),rfl⟩
 ·trivial
end
end
section
open Go Go.Proofs Go.Sort
set_option maxRecDepth 100000
theorem KH{C:Cfg}{Z:Type}{I:Z->(Nat->Prop)->(Nat->Prop)->World->Prop}(J:HI I){f:Ctx}{u:Nat->Prop}{w w':World}{z v1:Bool}{E o r:Nat}{l l' m:LL}{s:Z}(g cap:Nat)(H:List Value)(i:Array Value)
  (P:Oj C E=false) (j:HR f [.arr z E 1 l,.arr v1 o r m] w) (K:I s f.St u w) (M:∀b g,f.nm b=some g->¬u g)
  (d:f.nm 0=some g\/g=w.heap.size) (O:g<w'.heap.size) (e:∀k,k<w.heap.size->f.nm 0≠some k->w'.heap[k]? = w.heap[k]?) (p:w.heap.size<=w'.heap.size) (R:w'.os=w.os) (S:w'.tape=w.tape) (T:w'.output=w.output)
  (n:w'.heap[g]? = some (.cells i E (0,0))) (X:Els f.St w' 1 l' H) (D:l'≠[]) (t:∀q,q<H.length->i[q]? = H[q]?) (Y:H.length<=i.size) (B:l'.length<=cap) (hm:cap<=maxLen) (L:i.size=cap) :
  Dt C I f [.arr z E 1 l,.arr v1 o r m] w u (.fl 0) [.arr z E 1 l',.arr v1 o r m] s (.slice (some ⟨g,0,none⟩) l'.length cap) w':=by
 have x:0<[Blk.arr z E 1 l,.arr v1 o r m].length:=by simp
 have G:(f.re 0 (some g)).nm 0=some g:=by simp[Ctx.re]
 have F:¬Ll C (A5 [Blk.arr z E 1 l,.arr v1 o r m] 0):=by simp[A5,Blk.shp,Ll,P]
 have a:([Blk.arr z E 1 l,.arr v1 o r m].map (Blk.kill 0)).set 0 (.arr z E 1 l')=[.arr z E 1 l',.arr v1 o r m]:=rfl;have N:¬f.St g:=by
  rcases d with h|h
  ·exact(j.lt 0 g h).2.2
  ·intro hs;have:=j.stlt g hs;omega
 obtain⟨U,V,q3⟩:=VQ (C:=C) (y:=.arr z E 1 l') (ng:=some g) (w':=w') j x F (λk a=>by
   simp only[p7] at a;subst a;refine⟨O,N,λc t A=>?_⟩;rcases d with h|h
   ·exact t (j.inj c 0 _ A h)
   ·have:=(j.lt c _ A).2.1;omega)
  (λk a=>by
   simp only[p7] at a;subst a;rcases d with h|h
   ·exact .inl h
   ·exact .inr (by omega)) e p R S T
  (BR.els G n X (by rintro⟨_,h⟩;exact D h) t Y) rfl
 rw[a] at U V;refine⟨_,u,U.lift u,V,?_,λc t=>?_,?_,λb W v=>?_⟩
 ·refine .fl 0 g z E 1 l'.length cap rfl (λ_ h=>D (ae1.1 h)) G B hm ?_;simp only[ae6,n,L,aa2]
 ·simp only[PV.nms,ab6] at t;subst t;simp
 ·refine J.mono s f.St u w f.St w' K (λ_ h=>h) (λk a Q=>(J.foot _ _ _ _ K k Q).2 a) (λk a=>Nat.lt_of_lt_of_le (j.stlt k a) p) (λk a=>?_) p R S T;rcases a with a|a
  ·exact e k (j.stlt k a) (λh=>(j.lt 0 k h).2.2 a)
  ·exact e k (J.foot _ _ _ _ K k a).1 (λh=>M 0 k h a)
 ·simp only[Ctx.re] at v;split at v
  ·simp only[p7] at v;subst v;rcases d with h|h
   ·exact M 0 _ h
   ·intro Q;have:=(J.foot _ _ _ _ K _ Q).1;omega
  ·exact M b W v
theorem Ce{w:World}{g o e:Nat}{vs:List Value}{a:Array Value}(c:w.heap[g]? = some (.cells a e (0,0)))(f:o+vs.length<=a.size)(l:∀v∈vs,v.oneCell'=true) :
  (w.setCells g o vs).heap[g]? = some (.cells (F9 a.toList o vs).toArray e (0,0))/\(∀k,k≠g->(w.setCells g o vs).heap[k]? = w.heap[k]?)/\(w.setCells g o vs).heap.size=w.heap.size/\(w.setCells g o vs).os=w.os/\(w.setCells g o vs).tape=w.tape/\(w.setCells g o vs).output=w.output:=by
 obtain⟨w',i,m,n,p,q,t,u,_⟩:=N2 (P:=a8) (o:=o) c f l;have b:∀j,j<vs.length->∃v,w.cell? ⟨g,o+0+j,none⟩=some v:=λj d=>by
  refine⟨a[o+j]'(by omega),?_⟩;simp[ad4,c,ad0 (show o+j<a.size by omega)]
 have r:=run_storeCells_cells (P:=a8) g o vs 0 w (λj d=>by obtain⟨v,h⟩:=b j d;rw[h];rfl) (λj d=>by simp[ad8,c]) l;rw[r] at i;simp only[ai8,Result.ok.injEq,true_and] at i;rw[i];exact⟨m,n,p,q,t,u⟩
theorem IG{St:Nat->Prop}{w:World}{l:LL}{d:List Value}{i:Nat}{n:Int}(h:Els St w 1 l d)(q:i<=l.length):Els St w 1 (Lq l i n) (d.take i++j7 .i64 n::d.drop i):=by
 have c:=h.1;rw[aa2] at c;have m:Els St w 1 (l.take i) (d.take i):=by
  refine⟨by rw[j5,j5,c,aa2],λj f=>?_⟩;rw[j5] at f;rw[List.getElem_take];obtain⟨a,b⟩:=h.2 j (by omega);refine⟨a,λk g=>?_⟩;obtain⟨U,e,v⟩:=b k g;exact⟨U,by rw[y7 (by omega)];exact e,v⟩
 have o:Els St w 1 [[SV.int .i64 n]] [j7 .i64 n]:=by
  refine⟨rfl,λj f=>?_⟩;have:j=0:=by simpa using f
  subst this;refine⟨rfl,λk g=>?_⟩;have:k=0:=by simpa using g
  subst this;exact⟨_,rfl,.int _ _⟩
 have p:Els St w 1 (l.drop i) (d.drop i):=by
  refine⟨by rw[j1,j1,c,aa2],λj f=>?_⟩;rw[j1] at f;rw[List.getElem_drop];obtain⟨a,b⟩:=h.2 (i+j) (by omega);refine⟨a,λk g=>?_⟩;obtain⟨U,e,v⟩:=b k g;exact⟨U,by rw[af7];rw[show i+(j*1+k)=(i+j)*1+k by omega];exact e,v⟩
 have:=(m.append o).append p;unfold Lq;simpa using this
theorem IH(l:LL)(i:Nat)(n:Int)(h:i<=l.length):(Lq l i n).length=l.length+1:=by unfold Lq;rw[j2,j0,j5,j1];omega
theorem UF(l:LL)(i:Nat)(n:Int):Lq l i n≠[]:=by unfold Lq;simp
theorem Dg8:BE a8 GX 187 RU:=by
 intro C hP hG Z I yh yv hI hy args H s ret Hc G Γ Φ w Vs g2 hH hg hi hd hc hn;unfold RU at G;split at G
 ·rename_i i z l d;obtain⟨h0,G⟩:=C0 G;obtain⟨h1,G⟩:=C0 G;obtain⟨rfl,rfl⟩:=J1 G;obtain⟨i0,i1⟩:=E2.1 h0;obtain⟨i,rfl⟩:=aa0 i0;have hl:=ac3 h1;have X:i<=l.length:=by
   have:(i:Int)<((l.length+1:Nat):Int):=i1;omega
  obtain⟨S,X0,V,rfl,hs,hx,hv⟩:=hc.arr3;obtain rfl:=hx.inv_int;have c0:Oj C 3=false:=by
   unfold Oj Cfg.sh;rw[hP];kernel_rfl
  obtain⟨g1,d0,n1,n2,n3,n4,n5⟩:=hH.arr' (b:=1) rfl (by simp);have f5:∃cap,V = .slice (some ⟨g1,0,none⟩) 1 cap:=by
   cases hv with
   | flv _ e sz h=>simp[A5,Blk.shp] at h
   | fl _ g v e sz n cap h e8 y R hm e6=>
    rw[n1] at y;simp only[p7] at y;subst y;simp only[A5,ab8,aa1,ab5,Blk.shp,p7,Shp.arr.injEq] at h;obtain⟨_,_,_,h4⟩:=h;subst h4;exact⟨cap,rfl⟩
  obtain⟨A,rfl⟩:=f5;obtain⟨V1,p1,p2⟩:=n5 0 (by simp) 0 (by simp);have p3:V1 = .int .i64 d:=by cases p2;rfl
  subst p3;have t:∀j v,[j7 .i64 d][j]? = some v->w.cell? ⟨g1,0+j,none⟩=some v:=by
   intro j v x;have:j=0:=by
    have:=(ad1.1 x).1;simpa using this
   subst this;simp only[aa1,p7] at x;subst x;simpa[ad4,n2] using p1
  have M:∀v∈[j7 .i64 d],v.oneCell'=true:=by simp[Value.oneCell']
  rw[j8];refine Ri (fn:=Tryz.f187) (by kernel_rfl) (by kernel_rfl) (by kernel_rfl) ?_;have B:∀(base:Option Addr) (c:Nat) (f:List Value),l.length<=c->c<l.length+1->f.length=l.length->(base=none->l.length=0)->(∀a,base=some a->∀j v,f[j]? = some v->w.cell? (a.add j)=some v)->Els Γ.St w 1 l f->
    Calls a8 187 #[.slice base l.length c,.int .i64 (l.length:Int),.slice (some ⟨g1,0,none⟩) 1 A] w λe w'=>∃V,e = .returned V/\Dt C I Γ [.arr z 3 1 l,.arr false 3 1 [[SV.int .i64 d]]] w Φ (.fl 0) [.arr z 3 1 (Lq l l.length d),.arr false 3 1 [[SV.int .i64 d]]] s V w':=by
   intro base c f a1 a2 a3 a4 a5 a6;refine(Any2.slices_Insert_int_end_grow Tryz.lays2_21 base l.length c g1 0 1 A f [.int .i64 d] w (by omega) a1 a2 (by omega) a3 rfl a4 a5 t M).mono ?_;rintro e w' ⟨rfl,rfl⟩;refine⟨_,rfl,?_⟩;obtain⟨T,b7⟩:=Ic (w:=w) (need:=l.length+1) (cap:=c) (e:=3) (by omega);have hE:=IG (n:=d) a6 (ab9 l.length);have d8:f.take l.length++j7 .i64 d::f.drop l.length=f++[j7 .i64 d]:=by
    rw[ae4 (by omega),s8 (by omega)]
   rw[d8] at hE;have r:=IH l l.length d (ab9 _);obtain⟨r1,r2⟩:=Zq (olds:=f) (Vs:=[j7 .i64 d]) (z:=(j7 .i64 0).cells) (k:=grownCap w (l.length+1) c 3) (n:=l.length) (m:=1) (size:=1) rfl (by omega) rfl T;have c7:(f.toArray++[j7 .i64 d].toArray)=(f++[j7 .i64 d]).toArray:=by simp
   rw[c7] at r1 r2;have key:∀(row:Array Value) (O:Nat),row.size=O->(∀q,q<(f++[j7 .i64 d]).length->row[q]? = (f++[j7 .i64 d])[q]?)->l.length+1<=O->O<=maxLen->
     Dt C I Γ [.arr z 3 1 l,.arr false 3 1 [[SV.int .i64 d]]] w Φ (.fl 0) [.arr z 3 1 (Lq l l.length d),.arr false 3 1 [[SV.int .i64 d]]] s (.slice (some ⟨w.heap.size,0,none⟩) (l.length+1) O) (w.drew.alloc (.cells row 3)):=by
    intro row O b1 b2 b3 b4;have D:(w.drew.alloc (.cells row 3)).heap=w.heap.push (.cells row 3):=rfl;have:=KH (C:=C) (w':=w.drew.alloc (.cells row 3)) (l':=Lq l l.length d) hI w.heap.size O (f++[j7 .i64 d]) row c0 hH hi hd (.inr rfl) (by rw[D];simp) (λk N _=>H9 D N) (by rw[D];simp) rfl rfl rfl (H8 D) (hE.mono (λg hg=>H9 D (hH.stlt g hg)) (λ_ h=>h)) (UF _ _ _) b2 (by rw[b1,j2,j9];omega) (by rw[r];exact b3) b4 b1;rw[r] at this;exact this
   exact key _ _ (r1.trans (aa2 _)) r2 T b7
  have f9:∀(row:Array Value) (f:List Value),f.length=l.length->i<l.length->l.length+1<=row.size->(∀q,q<i->row[q]? = f[q]?)->
    ∀q,q<(f.take i++j7 .i64 d::f.drop i).length->(F9 (F9 row.toList i [j7 .i64 d]) (i+1) (f.drop i)).toArray[q]? = (f.take i++j7 .i64 d::f.drop i)[q]?:=by
   intro row f a1 a2 a3 a4 q hq;have f3:q<l.length+1:=by
    rw[j2,j0,j5,j1] at hq;omega
   have ht:(f.take i).length=i:=by rw[j5];omega
   have Y:row.toList.length=row.size:=y8;simp only[aa5];rw[N1 _ _ _ (by rw[D5,j1,Y];omega),N1 _ _ _ (by rw[j9,Y];omega)];by_cases h1:q<i
   ·rw[F7,F7,ab2 (by omega),y7 h1];simpa using a4 q h1
   ·by_cases h2:q=i
    ·subst h2;rw[F7,if_pos (by rw[j9];omega),w8 (by omega),ht,aj0];rfl
    ·rw[if_pos (by rw[j1];omega),w8 (by omega),ht,show q-i=(q-(i+1))+1 by omega,ab8]
  have P:∀(g c:Nat) (f:List Value),i<l.length->l.length<=c->c<l.length+1->f.length=l.length->(∀j v,f[j]? = some v->w.cell? ⟨g,0+j,none⟩=some v)->(∀v∈f,v.oneCell'=true)->Els Γ.St w 1 l f->
    Calls a8 187 #[.slice (some ⟨g,0,none⟩) l.length c,.int .i64 (i:Int),.slice (some ⟨g1,0,none⟩) 1 A] w λe w'=>∃V,e = .returned V/\Dt C I Γ [.arr z 3 1 l,.arr false 3 1 [[SV.int .i64 d]]] w Φ (.fl 0) [.arr z 3 1 (Lq l i d),.arr false 3 1 [[SV.int .i64 d]]] s V w':=by
   intro g c f W a1 a2 a3 a4 a5 a6;refine(Any2.slices_Insert_int_grow Tryz.lays2_21 g 0 l.length c i g1 0 1 A f [.int .i64 d] w W (by omega) a1 a2 (by omega) a3 rfl a4 t a5 M).mono ?_;rintro e w' ⟨rfl,rfl⟩;refine⟨_,rfl,?_⟩;obtain⟨T,b7⟩:=Ic (w:=w) (need:=l.length+1) (cap:=c) (e:=3) (by omega);have hE:=IG (n:=d) a6 X;have r:=IH l i d X;have key:∀(row:Array Value) (O:Nat),row.size=O->(∀q,q<i->row[q]? = f[q]?)->l.length+1<=O->O<=maxLen->
     Dt C I Γ [.arr z 3 1 l,.arr false 3 1 [[SV.int .i64 d]]] w Φ (.fl 0) [.arr z 3 1 (Lq l i d),.arr false 3 1 [[SV.int .i64 d]]] s (.slice (some ⟨w.heap.size,0,none⟩) (l.length+1) O) (((w.alloc (.cells row 3)).drew.setCells w.heap.size i [j7 .i64 d]).drew.setCells w.heap.size (i+1) (f.drop i)):=by
    intro row O b1 b2 b3 b4;have D:(w.alloc (.cells row 3)).drew.heap=w.heap.push (.cells row 3):=rfl;obtain⟨c1,c2,c3,c4,c5,c6⟩:=Ce (w:=(w.alloc (.cells row 3)).drew) (o:=i) (vs:=[j7 .i64 d]) (H8 D) (by rw[j9];omega) M;generalize f6:(w.alloc (.cells row 3)).drew.setCells w.heap.size i [j7 .i64 d]=w1 at *;have Q:(F9 row.toList i [j7 .i64 d]).toArray.size=O:=by rw[v7,D5];simpa using b1
    obtain⟨d1,d2,d3,d4,d5,d6⟩:=Ce (w:=w1.drew) (o:=i+1) (vs:=f.drop i) c1 (by rw[Q,j1];omega) (λv hv=>a5 v (x4 hv));have b0:∀k,k<w.heap.size->(w1.drew.setCells w.heap.size (i+1) (f.drop i)).heap[k]? = w.heap[k]?:=λk N=>by
     rw[d2 k (by omega)];exact(c2 k (by omega)).trans (H9 D N)
    have e7:(w1.drew.setCells w.heap.size (i+1) (f.drop i)).heap.size=w.heap.size+1:=by
     rw[d3];show w1.heap.size=_;rw[c3,D];simp
    have:=KH (C:=C) (w':=w1.drew.setCells w.heap.size (i+1) (f.drop i)) (l':=Lq l i d) hI w.heap.size O (f.take i++j7 .i64 d::f.drop i) _ c0 hH hi hd (.inr rfl) (by rw[e7];omega) (λk N _=>b0 k N) (by rw[e7];omega) (d4.trans c4) (d5.trans c5) (d6.trans c6) d1 (hE.mono (λg hg=>b0 g (hH.stlt g hg)) (λ_ h=>h)) (UF _ _ _) (f9 row f a3 W (by omega) b2) (by rw[v7,D5,j2,j0,j5,j1];simp only[v7,D5] at Q ⊢;omega) (by rw[r];exact b3) b4 (by rw[v7,D5];simpa using Q);rw[r] at this;exact this
   have f7:(j7 .i64 0).cells.size=1:=rfl;have ht:(f.take i).length=i:=by rw[j5];omega
   refine key _ _ ?_ (λq hq=>?_) T b7
   ·simp only[af8,v7,size_zeroCells,f7,aa2,ht];have:l.length+1<=grownCap w (l.length+1) c 3:=T;show i+(l.length+1-i)+(grownCap w (l.length+1) c 3-(l.length+1))=grownCap w (l.length+1) c 3;omega
   ·rw[ac8 (by simp only[af8,v7,ht];omega),ac8 (by simp only[v7,ht];omega),aa5,y7 hq]
  have e9:∀(row:Array Value) (f:List Value),f.length=l.length->i<l.length->l.length+1<=row.size->(∀q,q<i->row[q]? = f[q]?)->
    ∀q,q<(f.take i++j7 .i64 d::f.drop i).length->(F9 (F9 row.toList (i+1) (f.drop i)) i [j7 .i64 d]).toArray[q]? = (f.take i++j7 .i64 d::f.drop i)[q]?:=by
   intro row f a1 a2 a3 a4 q hq;have f3:q<l.length+1:=by
    rw[j2,j0,j5,j1] at hq;omega
   have ht:(f.take i).length=i:=by rw[j5];omega
   have Y:row.toList.length=row.size:=y8;simp only[aa5];rw[N1 _ _ _ (by rw[D5,j9,Y];omega),N1 _ _ _ (by rw[j1,Y];omega)];by_cases h1:q<i
   ·rw[F7,F7,ab2 (by omega),y7 h1];simpa using a4 q h1
   ·by_cases h2:q=i
    ·subst h2;rw[if_pos (by rw[j9];omega),w8 (by omega),ht,aj0];rfl
    ·rw[if_neg (by rw[j9];omega),if_pos (by rw[j1];omega),w8 (by omega),ht,show q-i=(q-(i+1))+1 by omega,ab8]
  cases hs with
  | flv _ e2 f8 h'=>
   simp only[A5,aa1,ab5,Blk.shp,p7,Shp.arr.injEq] at h';obtain⟨q1,q2,q3,h4⟩:=h';obtain rfl:=ae1.1 h4;obtain rfl:i=0:=by simpa using X
   exact B none 0 [] (by simp) (by simp) rfl (λ_=>rfl) (λa h=>by cases h) ⟨rfl,λj x=>by simp at x⟩
  | fl _ g z' e2 f8 n' cap h' e8 y R hm e6=>
   simp only[A5,aa1,ab5,Blk.shp,p7,Shp.arr.injEq] at h';obtain⟨rfl,rfl,rfl,rfl⟩:=h';have f2:¬(z=true/\l=[]):=by rintro⟨q1,q2⟩;exact e8 q1 (by rw[q2];rfl)
   obtain⟨g',p,e3,hh,c8,K,d9⟩:=hH.arr' (b:=0) rfl f2;obtain rfl:g=g':=by
    rw[y] at e3;exact j6 e3
   have d7:p.size=cap:=by
    have:=e6;simp only[ae6,hh,p7,ai2,true_and,aa2] at this;exact this
   rw[aa2] at c8;have hO:Els Γ.St w 1 l (p.toList.take l.length):=by
    refine⟨by rw[j5,y8 (xs:=p)];omega,λj x=>⟨K j x,λk N=>?_⟩⟩;obtain⟨U,e1,u⟩:=d9 j x k N;refine⟨U,?_,u⟩;have g0:k<1:=by rw[<-K j x];exact N
    rw[aa4,P9];simpa using e1
   have F:(p.toList.take l.length).length=l.length:=by rw[j5,y8 (xs:=p)];omega
   have J:∀j v,(p.toList.take l.length)[j]? = some v->w.cell? ⟨g,0+j,none⟩=some v:=by
    intro j v x;have a7:j<l.length:=by
     have:=(ad1.1 x).1;omega
    rw[aa4,if_pos a7] at x;simpa[ad4,hh] using x
   have b5:∀v∈p.toList.take l.length,v.oneCell'=true:=by
    intro v hv;obtain⟨j,x,rfl⟩:=List.getElem_of_mem hv;have a7:j<l.length:=by omega
    obtain⟨_,u⟩:=hO.2 j a7;obtain⟨U,e1,u2⟩:=u 0 (by rw[K j a7];exact Nat.one_pos);rw[aa2,ai8,ad6 x] at e1;cases e1;exact u2.oneCell
   have r:=IH l i d X;have hE:=IG (n:=d) hO X;have a0:∀j,j<cap->(w.cell? ⟨g,j,none⟩).isSome=true:=by
    intro j x;simp only[ad4,hh];rw[ad0 (by omega)];rfl
   have a9:∀j,w.frozen? ⟨g,j,none⟩=false:=λj=>by simp[ad8,hh]
   have e5:g1≠g:=λe=>by
    have:=hH.inj 1 0 g (by rw[<-e];exact n1) y;omega
   have e4:cap<=9223372036854775807:=by
    simp only[maxLen] at hm;omega
   by_cases L:l.length+1<=cap
   ·have key:∀(w':World) (row:List Value),w'.heap[g]? = some (.cells row.toArray 3 (0,0))->(∀k,k≠g->w'.heap[k]? = w.heap[k]?)->w'.heap.size=w.heap.size->w'.os=w.os->w'.tape=w.tape->w'.output=w.output->row.length=cap->
      (∀q,q<((p.toList.take l.length).take i++j7 .i64 d::(p.toList.take l.length).drop i).length->row.toArray[q]? = ((p.toList.take l.length).take i++j7 .i64 d::(p.toList.take l.length).drop i)[q]?)->
      Dt C I Γ [.arr z 3 1 l,.arr false 3 1 [[SV.int .i64 d]]] w Φ (.fl 0) [.arr z 3 1 (Lq l i d),.arr false 3 1 [[SV.int .i64 d]]] s (.slice (some ⟨g,0,none⟩) (l.length+1) cap) w':=by
     intro w' row k1 k2 k3 k4 k5 k6 k7 k8;have f0:¬ Γ.St g:=(hH.lt 0 g y).2.2;have:=KH (C:=C) (w':=w') (l':=Lq l i d) hI g cap ((p.toList.take l.length).take i++j7 .i64 d::(p.toList.take l.length).drop i) row.toArray c0 hH hi hd (.inl y) (by rw[k3];exact(hH.lt 0 g y).2.1) (λk N f1=>k2 k (λe=>f1 (e▸y))) (by omega) k4 k5 k6 k1
      (hE.mono (λk N=>k2 k (λe=>f0 (e▸N))) (λ_ h=>h)) (UF _ _ _) k8
      (by rw[v7,k7,j2,j0,j5,j1,F];omega) (by rw[r];exact L) hm (by rw[v7,k7])
     rw[r] at this;exact this
    by_cases b6:i=l.length
    ·subst b6;refine(Any2.slices_Insert_int_end_room Tryz.lays2_21 g 0 l.length cap g1 0 1 A [.int .i64 d] w (by omega) L e4 rfl (λj x=>a0 _ (by omega)) (λj x=>a9 _) t M).mono ?_;rintro e w' ⟨rfl,rfl⟩;refine⟨_,rfl,?_⟩;obtain⟨c1,c2,c3,c4,c5,c6⟩:=Ce (w:=w) (o:=0+l.length) (vs:=[j7 .i64 d]) hh (by rw[j9];omega) M;refine key _ _ c1 c2 c3 c4 c5 c6 (by rw[D5];simpa using d7) (λq hq=>?_);rw[ae4 (by omega),s8 (by omega)] at hq ⊢;rw[j2,F,j9] at hq;simp only[aa5];rw[N1 _ _ _ (by rw[j9,y8 (xs:=p)];omega)];by_cases f4:q<l.length
     ·rw[F7,ab2 (by omega),aa4,if_pos f4]
     ·obtain rfl:q=l.length:=by omega
      rw[if_pos (by rw[j9];omega),w8 (by omega),F];simp
    ·have W:i<l.length:=by omega
     refine(Any2.slices_Insert_int_shift Tryz.lays2_21 g 0 l.length cap i g1 0 1 A (p.toList.take l.length) [.int .i64 d] w W (by omega) L e4 e5 F rfl J (λj x=>a0 _ (by omega)) (λj x=>a9 _) t b5 M 3 3 d0.size p.size (by simp[ae6,n2]) (by simp[ae6,hh]) (by omega) (by simp[ad8,n2]) (by simp[ad8,n2])).mono ?_;rintro e w' ⟨rfl,rfl⟩;refine⟨_,rfl,?_⟩;obtain⟨c1,c2,c3,c4,c5,c6⟩:=Ce (w:=w.drew) (o:=0+(i+1)) (vs:=(p.toList.take l.length).drop i) hh (by rw[j1,F];omega) (λv hv=>b5 v (x4 hv));generalize f6:w.drew.setCells g (0+(i+1)) ((p.toList.take l.length).drop i)=w1 at *;have Q:(F9 p.toList (0+(i+1)) ((p.toList.take l.length).drop i)).toArray.size=cap:=by rw[v7,D5];simpa using d7
     obtain⟨d1,d2,d3,d4,d5,d6⟩:=Ce (w:=w1) (o:=0+i) (vs:=[j7 .i64 d]) c1 (by rw[Q,j9];omega) M;refine key _ _ d1 (λk N=>(d2 k N).trans (c2 k N)) (d3.trans c3) (d4.trans c4) (d5.trans c5) (d6.trans c6) (by rw[D5];simpa using Q) ?_;rw[ac7,ac7];exact e9 p _ F W (by omega) (λq hq=>by rw[aa4,P9];simp)
   ·by_cases b6:i=l.length
    ·subst b6;exact B (some ⟨g,0,none⟩) cap (p.toList.take l.length) R (by omega) F (λh=>by cases h) (λa h j v x=>by
      obtain rfl:=j6 h;rw[M6];exact J j v x) hO
    ·exact P g cap _ (by omega) R (by omega) F J b5 hO
 ·cases G
end
section
open Go Go.Proofs
set_option maxRecDepth 100000
section
theorem C56:BE a8 GX 175 DK:=by
 refine Fm (C₀:=ST LF) (Tw (lx:=[(170,Nr),(168,Ns)]) (ly:=[(186,PS),(187,RU)]) (ls:=[]) rfl rfl rfl ⟨Al6,Al7,trivial⟩ ⟨Dg6,Dg8,trivial⟩ trivial) (I3 rfl (by kernel_rfl)) follows ?_;intro args H ret o h;unfold DK at h;split at h
 ·rename_i a n i b c z l;obtain⟨d,h⟩:=C0 h;obtain⟨f,h⟩:=C0 h;obtain⟨g,h⟩:=C0 h;obtain⟨j,h⟩:=C0 h;obtain⟨k,h⟩:=C0 h;obtain⟨rfl,rfl⟩:=J1 h;refine⟨rfl,rfl,λZ m s=>?_⟩;have e:=(B75 LF m s 0 a n i b c z l).trans (At2 a n i b c z l d f g j k);exact⟨1,_,e,rfl⟩
 ·cases h
theorem Df0:B0 a8 GX 155 B33:=by
 refine B0.fix (pf:=QX) _ (I6 [1,0] (C₀:=Z9 LF) (Tw (lx:=[(80,DL)]) (ly:=[(175,DK)]) (ls:=[]) rfl rfl rfl ⟨Bm0,trivial⟩ ⟨C56,trivial⟩ trivial) (I3 rfl (by kernel_rfl)) follows ?_);intro args ret c h;unfold QX at h;split at h
 ·rename_i s;obtain⟨a,h⟩:=C0 h;obtain⟨rfl,rfl⟩:=J1 h;obtain⟨r,H,e,b⟩:=Cw7 s a;exact⟨rfl,rfl,rfl,1,r,H,(Cw6 LF noY () 0 s).trans e,b⟩
 ·cases h
end
end
section
open Go Go.Proofs Go.Sort
set_option maxRecDepth 100000
theorem Co1:B0 a8 GX 139 XZ:=by
 refine B0.fix (pf:=Yn) _ (J2 (fn:=Tryz.f139) (by kernel_rfl) (by kernel_rfl) (by kernel_rfl) ?_);intro args ret l h;unfold Yn at h;split at h
 ·rename_i s;obtain⟨b,h⟩:=C0 h;obtain⟨rfl,rfl⟩:=J1 h;refine⟨rfl,rfl,λC n a o w m c g f=>?_⟩;obtain⟨U,rfl,j⟩:=f.arr1;obtain⟨k,rfl,rfl⟩:=j.inv_str;have i:=L8 b;refine(Any.utf8_ValidString Tryz.lays196 k w (by simp at i;omega) (Cr6 c a)).mono ?_;rintro e w' ⟨rfl,d⟩;rw[<-Bc0];exact⟨_,rfl,d,VP.mk_bool _⟩
 ·cases h
theorem Cn8:B0 a8 GX 140 XX:=by
 refine B0.fix (pf:=Yl) _ (J2 (fn:=Tryz.f140) (by kernel_rfl) (by kernel_rfl) (by kernel_rfl) ?_);intro args ret j h;unfold Yl at h;split at h
 ·rename_i s;obtain⟨a,h⟩:=C0 h;obtain⟨rfl,rfl⟩:=J1 h;refine⟨rfl,rfl,λC m b n w k l d c=>?_⟩;obtain⟨U,rfl,g⟩:=c.arr1;obtain⟨i,rfl,rfl⟩:=g.inv_str;have f:=L8 a;refine(Any.utf8_RuneCountInString Tryz.lays195 i w (by simp at f;omega)).mono ?_;rintro e w' ⟨rfl,pos,rfl⟩;rw[Lib.runeCountL_eq];exact⟨_,rfl,Ap8 _ _ _,VP.mk_int _ _⟩
 ·cases h
theorem C29:B0 a8 GX 153 Tz:=λargs ret a h=>by
 have:L7 (Tz args)=none:=by unfold Tz XP;split<;>rfl
 rw[this] at h;cases h
theorem C57:Bd4 a8 GX 152 DN:=by
 refine Ai6 (C₀:=Al LF) ((M4.ok (l:=[(153,Tz),(154,GA)]) rfl ⟨C29,Bc8,trivial⟩)) (I3 rfl (by kernel_rfl)) follows ?_;intro args H L h Z a s d c;unfold DN at h;split at h
 ·rename_i p t n;simp only[p7,ai2] at h;obtain⟨b,rfl⟩:=h;obtain⟨e,f⟩:=A96 (R:=PV × List Blk × Z) a p t n s d b c;exact⟨1,_,(Ch7 LF a 0 p t n s).trans (f _)⟩
 ·cases h
end
section
open Go Go.Proofs
set_option maxRecDepth 100000
section
theorem C36:B0 a8 GX 126 Bd8:=xf [] (Le LF) EZ rfl ⟨Df0,Cm6,trivial⟩ rfl (by kernel_rfl) follows λargs=>by
 unfold EZ;split
 ·rename_i s;exact λa=>⟨rfl,rfl,rfl,_,_,(Ca5 LF noY () 0 s).trans (Ax2 s a),rfl⟩
 ·trivial
theorem Cm3:B0 a8 GX 92 QR:=xf [] (Si LF) QS rfl ⟨Cl3,C36,trivial⟩ rfl (by kernel_rfl) follows λargs=>by
 unfold QS;split
 ·rename_i s;exact λa=>⟨rfl,rfl,rfl,_,_,(Cv5 LF noY () 0 s).trans (Bs0 s a),rfl⟩
 ·trivial
theorem De9:B0 a8 GX 110 B31:=xf [0,0] (Oe LF) QL rfl ⟨Co1,Cn8,Cm1,Cm6,Cm3,trivial⟩ rfl (by kernel_rfl) follows λargs=>by
 unfold QL;split
 ·rename_i s;exact λa=>(let⟨r,H,e,q⟩:=Cu3 s a;⟨rfl,rfl,rfl,r,H,(Cu2 LF noY () 0 s).trans e,q⟩)
 ·trivial
theorem De7:B0 a8 GX 136 B28:=xf [] (Ix LF) PZ rfl trivial rfl (by kernel_rfl) follows λargs=>by
 unfold PZ;split
 ·rename_i b;exact λa=>⟨rfl,rfl,rfl,_,_,(Cs5 LF noY () 0 b).trans (Bo9 b a),rfl⟩
 ·trivial
theorem De6:B0 a8 GX 106 B27:=xf [0,0] (Sf LF) PY rfl ⟨De7,trivial⟩ rfl (by kernel_rfl) follows λargs=>by
 unfold PY;split
 ·rename_i s;exact λa=>(let⟨r,H,e,q⟩:=Cs3 s a;⟨rfl,rfl,rfl,r,H,(Cs2 LF noY () 0 s).trans e,q⟩)
 ·trivial
theorem C32:B0 a8 GX 105 Bd6:=xf [0,0] (SU LF) ER rfl ⟨Dk6,trivial⟩ rfl (by kernel_rfl) follows λargs=>by
 unfold ER;split
 ·rename_i s;exact λa=>λb=>(let⟨r,H,e,q⟩:=B90 s a b;⟨rfl,rfl,rfl,r,H,(B89 LF noY () 0 s).trans e,q⟩)
 ·trivial
theorem Cl7:B0 a8 GX 81 XR:=xf [0,0] (Gd LF) Xw rfl ⟨XG,C32,De6,C53,PK,Df2,B19,De9,Bm3,trivial⟩ rfl (by kernel_rfl) follows λargs=>by
 unfold Xw;split
 ·rename_i s;exact λa=>(let⟨r,H,e,q⟩:=Bp2 s a;⟨rfl,rfl,rfl,r,H,(Bp1 LF noY () 0 s).trans e,q⟩)
 ·trivial
theorem C37:B0 a8 GX 125 QP:=by
 refine B0.fix (pf:=FC) _ (Ch (C₀:=TA LF) (M4.ok (l:=[]) rfl trivial) (I3 rfl (by kernel_rfl)) follows ?_);intro args ret a h;unfold FC at h;split at h
 ·rename_i t p n;obtain⟨rfl,rfl⟩:=J1 h;have e:=(Ca7 LF noY () 0 t p n).trans (Ax3 t p n );exact⟨rfl,1,_,[],e,rfl,rfl⟩
 ·cases h
theorem Dg1:B0 a8 GX 91 Ao4:=by
 refine B0.fix (pf:=RW) _ (Ch (C₀:=Ar7 LF) (M4.ok (l:=[(125,QP)]) rfl ⟨C37,trivial⟩) (I3 rfl (by kernel_rfl)) follows ?_);intro args ret a h;unfold RW at h;split at h
 ·rename_i t p;obtain⟨rfl,rfl⟩:=J1 h;have e:=(C08 LF noY () 0 t p).trans (By6 t p );exact⟨rfl,1,_,[],e,rfl,rfl⟩
 ·cases h
theorem C80:B0 a8 GX 64 B30:=by
 refine B0.fix (pf:=Am8) _ (I6 [] (C₀:=Od LF) (Tw (lx:=[(90,Po),(91,Ao4),(92,QR)]) (ly:=[]) (ls:=[(152,DN)]) rfl rfl rfl ⟨PK,Dg1,Cm3,trivial⟩ trivial ⟨C57,trivial⟩) (I3 rfl (by kernel_rfl)) follows ?_);intro args ret c h;unfold Am8 at h;split at h
 ·rename_i s;obtain⟨a,h⟩:=C0 h;obtain⟨rfl,rfl⟩:=J1 h;obtain⟨r,H,e,b⟩:=Da3 s a;exact⟨rfl,rfl,rfl,1,r,H,(Da2 LF noY () 0 s).trans e,b⟩
 ·cases h
theorem Bc5:B0 a8 GX 46 QE:=xf [] (Ar0 LF) QG rfl ⟨C80,trivial⟩ rfl (by kernel_rfl) follows λargs=>by
 unfold QG;split
 ·rename_i j k v4 a b c d f g h i;exact λl=>λm=>λn=>(let⟨r,H,e,q⟩:=Ct5 j k v4 a b c d f g h i l m n;⟨rfl,rfl,rfl,r,H,(Ct4 LF noY () 0 j k v4 a b c d f g h i).trans e,q⟩)
 ·trivial
theorem Cl6:B0 a8 GX 50 Am7:=xf [] (Aq7 LF) QB rfl ⟨Bc5,Dk2,Dk4,trivial⟩ rfl (by kernel_rfl) follows λargs=>by
 unfold QB;split
 ·rename_i j k v4 a b c d f g h i;exact λl=>λm=>λn=>(let⟨r,H,e,q⟩:=Ct0 j k v4 a b c d f g h i l m n;⟨rfl,rfl,rfl,r,H,(Cs9 LF noY () 0 j k v4 a b c d f g h i).trans e,q⟩)
 ·trivial
theorem De5:B0 a8 GX 47 B26:=xf [] (Aq5 LF) PX rfl ⟨C80,De8,trivial⟩ rfl (by kernel_rfl) follows λargs=>by
 unfold PX;split
 ·rename_i p s;exact λa=>λb=>⟨rfl,rfl,rfl,_,_,(Cs1 LF noY () 0 p s).trans (Bo7 p s a b),rfl⟩
 ·trivial
end
end
section
open Go
structure R7 where
 sch:By
 user:By
 host:B2
 port:Int
 rest:By
def Z5:R7:=⟨[],[],L0,0,[]⟩
def BH:By:=[104,116,116,112]
def Iw:By:=[104,116,116,112,115]
def bWs:By:=[119,115]
def KX:By:=[119,115,115]
def G7(s:By):Int:=if s==BH||s==bWs then 80 else if s==Iw||s==KX then 443 else -1
def C8(s:By):Bool:=s==BH||s==bWs||(s==Iw||s==KX)
def Di6(s:By):Bool:=s==BH||s==bWs
def ctl(b:UInt8):Bool:=z7 b.toNat 32||b==127
def P6(b:UInt8):Bool:=(z7 97 b.toNat&&z7 b.toNat 122)||(z7 65 b.toNat&&z7 b.toNat 90)
def K9(b:UInt8):Bool:=P6 b||(z7 48 b.toNat&&z7 b.toNat 57)||b==43||b==45||b==46
def S9:By->Bool
 | []=>false
 | b::r=>P6 b&&r.all K9
def L5(b:UInt8):Bool:=b==47||b==63||b==35
def I1(s:By):Nat:=(s.takeWhile λb=>!L5 b).length
def Gs(c:UInt8):By->Option Nat
 | []=>none
 | b::r=>if b=c then some 0 else (Gs c r).map (· + 1)
def Gv:Int->By->Option Int
 | n,[]=>if n<65536 then some n else none
 | n,b::r=>if 48<=b.toNat/\b.toNat<=57 then Gv (min (10*max n 0+((b.toNat-48:Nat):Int)) 65536) r else none
def Eb(a:By):Option (By × By):=
 if a.head? = some 91 then (match Gs 93 a with
  | some k=>some (a.take (k+1),a.drop (k+1))
  | none=>none)
 else match Gs 58 a with
  | some k=>some (a.take k,a.drop k)
  | none=>some (a,[])
def M7(c user b:By)(a:By):R7 × Nat:=
 match Eb a with
 | none=>(Z5,4)
 | some (name,tail)=>
  if tail≠[]/\tail.head?≠some 58 then (Z5,4)
  else if (B9 name).2≠0 then (Z5,(B9 name).2)
  else match Gv (-1) (tail.drop 1) with
   | none=>(Z5,16)
   | some p=>(⟨c,user,(B9 name).1,if p=G7 c then -1 else p,b⟩,0)
def G0(c b a:By):R7 × Nat:=
 if 0<=K5 64 a then M7 c (a.take (K5 64 a).toNat) b (a.drop ((K5 64 a).toNat+1)) else M7 c [] b a
def R2(r:By):By:=if r.head? = some 47 then r else 47::r
def B8(s:By):R7 × Nat:=
 if s.any ctl then (Z5,4)
 else if !(w6 s [58]).2.2||!S9 (w6 s [58]).1 then (Z5,15)
 else if !C8 (B3 (w6 s [58]).1) then (⟨B3 (w6 s [58]).1,[],L0,-1,(w6 s [58]).2.1⟩,0)
 else if !([47,47]:By).isPrefixOf (w6 s [58]).2.1 then (Z5,4)
 else G0 (B3 (w6 s [58]).1) (R2 (((w6 s [58]).2.1.drop 2).drop (I1 ((w6 s [58]).2.1.drop 2)))) (((w6 s [58]).2.1.drop 2).take (I1 ((w6 s [58]).2.1.drop 2)))
def E1(s:By):R7 × Nat:=if 2048<s.length then (Z5,3) else B8 s
def Q6(p:Int):By:=if p<0 then 45::ad5 (-p).toNat else ad5 p.toNat
def Na(u:R7):By:=(if u.user=[] then [] else u.user++[64])++(T2 u.host++(if u.port=-1 then [] else 58::Q6 u.port))
def Cf(u:R7):By:=if C8 u.sch then u.sch++58::47::47::(Na u++u.rest) else u.sch++58::u.rest
def Cb2(b:Int)(c:By)(v4:Int)(a:List Nat):B2:=⟨if ltN b 4 then b.toNat else 4,c,v4.toNat,a⟩
def mkU(f g:By)(b:Int)(c:By)(v4:Int)(a:List Nat)(d:Int)(e:By):R7:=⟨f,g,Cb2 b c v4 a,d,e⟩
def smU(c d a b:By):Bool:=z7 c.length 100000000&&z7 d.length 100000000&&z7 a.length 100000000&&z7 b.length 100000000
def eqH(a b:B2):Bool:=a.kind==b.kind&&a.name==b.name&&a.v4==b.v4&&a.v6==b.v6
def eqU(a b:R7):Bool:=a.sch==b.sch&&a.user==b.user&&eqH a.host b.host&&a.port==b.port&&a.rest==b.rest
def Hs(u:R7):Bool:=(B8 (Cf u)).2==0&&eqU (B8 (Cf u)).1 u
def prt(b:By)(a:Int):Int:=if a==-1 then G7 b else a
def DH:By->Int
 | s=>let rec go:Int->By->Int
   | n,[]=>n
   | n,b::r=>if 48<=b.toNat/\b.toNat<=57 then go (min (10*max n 0+((b.toNat-48:Nat):Int)) 65536) r else 0
  go (-1) s
def R1(s t:By):Nat:=(s.takeWhile λb=>!t.contains b).length
def Di(s:By):By × By × Bool:=if (w6 s [58]).2.2&&S9 (w6 s [58]).1 then (B3 (w6 s [58]).1,(w6 s [58]).2.1,true) else ([],[],false)
def isl:By:=[47,63,35]
def Zy(p:By):Bool:=p==isl
def KQ(r:Int):Bool:=ltN r 55296||(ltI 57343 r&&ltN r 1114112)
def irn(r:Int):Int:=if r=47 then 0 else if r=63 then 1 else if r=35 then 2 else -1
def Dz(n:Int):Bool:=ltN (n+9223372036854775808) 18446744073709551616
abbrev uS(p:R7 × Nat):By:=p.1.sch
abbrev uU(p:R7 × Nat):By:=p.1.user
abbrev uK(p:R7 × Nat):Int:=p.1.host.kind
abbrev uN(p:R7 × Nat):By:=p.1.host.name
abbrev uV(p:R7 × Nat):Int:=p.1.host.v4
abbrev uA(p:R7 × Nat)(i:Nat):Int:=(p.1.host.v6.getD i 0:Nat)
abbrev uP(p:R7 × Nat):Int:=p.1.port
abbrev uR(p:R7 × Nat):By:=p.1.rest
abbrev uE(p:R7 × Nat):Int:=p.2
theorem LA(s:By):decide (0<G7 s)=C8 s:=by
 unfold G7 C8;cases (s==BH||s==bWs) with
 | true=>rfl
 | false=>cases (s==Iw||s==KX)<;>rfl
theorem LX{s:By}(h:C8 s=true):s=BH\/s=bWs\/s=Iw\/s=KX:=by simp only[C8,ab4,beq_iff_eq] at h;rcases h with(h|h)|(h|h)<;>simp[h]
theorem NP{c:UInt8}:∀{s:By},c∉s->Gs c s=none
 | [],_=>rfl
 | b::r,h=>by
  simp only[p5,not_or] at h;rw[Gs,if_neg (ad3 h.1),NP h.2];rfl
theorem Vk{c:UInt8}:∀{p:By} (r:By),c∉p->Gs c (p++c::r)=some p.length
 | [],r,_=>by rw[ae9,Gs,if_pos rfl];rfl
 | b::p,r,h=>by
  simp only[p5,not_or] at h;rw[ad9,Gs,if_neg (ad3 h.1),Vk r h.2];rfl
theorem Qb{c:UInt8}:∀{s:By} {k:Nat},Gs c s=some k->∃p r,s=p++c::r/\c∉p/\p.length=k
 | [],k,h=>by cases h
 | b::s,k,h=>by
  rw[Gs] at h;split at h
  ·rename_i a;obtain rfl:=j6 h;exact⟨[],s,by rw[a];rfl,by simp,rfl⟩
  ·rename_i a;cases d:Gs c s with
   | none=>rw[d] at h;cases h
   | some j=>
    rw[d] at h;obtain rfl:=j6 h;obtain⟨p,r,rfl,e,rfl⟩:=Qb d;exact⟨b::p,r,rfl,by simp only[p5,not_or];exact⟨ad3 a,e⟩,rfl⟩
theorem Lt{c:UInt8}:∀{s:By},c∉s->K5 c s=-1
 | [],_=>rfl
 | b::r,h=>by
  simp only[p5,not_or] at h;rw[K5,Lt h.2,if_pos (by decide),if_neg (ad3 h.1)]
theorem Qd{c:UInt8}:∀(p:By) {r:By},c∉r->K5 c (p++c::r)=(p.length:Int)
 | [],r,h=>by rw[ae9,K5,Lt h,if_pos (by decide),if_pos rfl];rfl
 | b::p,r,h=>by
  rw[ad9,K5,Qd p h,F7,j0];omega
theorem AE{c:UInt8}:∀{s:By},c∈s->∃p r,s=p++c::r/\c∉r
 | [],h=>by cases h
 | b::s,h=>by
  by_cases a:c∈s
  ·obtain⟨p,r,rfl,d⟩:=AE a;exact⟨b::p,r,rfl,d⟩
  ·simp only[p5,a,or_false] at h;subst h;exact⟨[],s,rfl,a⟩
theorem IL{c:UInt8}{s:By}(h:0<=K5 c s):∃p r,s=p++c::r/\c∉r/\K5 c s=(p.length:Int):=by
 by_cases b:c∈s
 ·obtain⟨p,r,rfl,a⟩:=AE b;exact⟨p,r,rfl,a,Qd p a⟩
 ·rw[Lt b] at h;omega
theorem AU{p:By}{r:By}(h:∀b∈p,L5 b=false)(d:∀b,r.head? = some b->L5 b=true):I1 (p++r)=p.length:=by
 unfold I1;have a:r.takeWhile (λb=>!L5 b)=[]:=by
  cases r with
  | nil=>rfl
  | cons b t=>rw[v8,d b rfl];rfl
 rw[ac5 (λb c=>by rw[h b c];rfl),a,ae7]
theorem A92(s:By):∀b∈s.take (I1 s),L5 b=false:=by
 intro b a;have h:s.take (I1 s)=s.takeWhile λb=>!L5 b:=by
  unfold I1;exact(List.prefix_iff_eq_take.1 (List.takeWhile_prefix _)).symm
 rw[h] at a;have:∀l:By,b∈l.takeWhile (λb=>!L5 b)->L5 b=false:=by
  intro l
  induction l with
  | nil=>intro h;cases h
  | cons x l d=>
   intro h;rw[v8] at h;split at h
   ·rename_i c;rcases p5.1 h with rfl|h
    ·simpa using c
    ·exact d h
   ·cases h
 exact this s a
theorem U2{b:UInt8}:P6 b=true↔(97<=b.toNat/\b.toNat<=122)\/(65<=b.toNat/\b.toNat<=90):=by simp[P6,ae5]
theorem Uk{b:UInt8}:ctl b=true↔b.toNat<=32\/b.toNat=127:=by
 unfold ctl;rw[ab4,ae5,beq_iff_eq];have:b=127↔b.toNat=127:=⟨λh=>by rw[h];rfl,λh=>x8.1 h⟩
 rw[this]
theorem Eg{b:UInt8}:K9 b=true↔(97<=b.toNat/\b.toNat<=122)\/(65<=b.toNat/\b.toNat<=90)\/(48<=b.toNat/\b.toNat<=57)\/b=43\/b=45\/b=46:=by simp only[K9,ab4,U2,s7,ae5,beq_iff_eq,or_assoc]
abbrev clU(a b:By)(k:Int)(n:By)(v c d e f g h i j p:Int)(r:By):List PV:=[.s (.str a),.s (.str b),.s (.int .i64 k),.s (.str n),.s (.int .u32 v),.s (.int .u16 c),.s (.int .u16 d),.s (.int .u16 e),.s (.int .u16 f),.s (.int .u16 g),.s (.int .u16 h),.s (.int .u16 i),.s (.int .u16 j),.s (.int .i64 p),.s (.str r)]
abbrev clH(k:Int)(n:By)(v c d e f g h i j:Int):List PV:=[.s (.int .i64 k),.s (.str n),.s (.int .u32 v),.s (.int .u16 c),.s (.int .u16 d),.s (.int .u16 e),.s (.int .u16 f),.s (.int .u16 g),.s (.int .u16 h),.s (.int .u16 i),.s (.int .u16 j)]
abbrev bU(a b:By)(k:Int)(n:By)(v c d e f g h i j p:Int)(r:By):Blk:=.box (clU a b k n v c d e f g h i j p r)
abbrev gU(a b:By)(k:Int)(n:By)(v c d e f g h i j p:Int)(r:By):PV:=.agg (clU a b k n v c d e f g h i j p r)
abbrev bH(k:Int)(n:By)(v c d e f g h i j:Int):Blk:=.box (clH k n v c d e f g h i j)
abbrev gH(k:Int)(n:By)(v c d e f g h i j:Int):PV:=.agg (clH k n v c d e f g h i j)
abbrev clO(a:By)(k:Int)(n:By)(v c d e f g h i j p:Int):List PV:=[.s (.str a),.s (.int .i64 k),.s (.str n),.s (.int .u32 v),.s (.int .u16 c),.s (.int .u16 d),.s (.int .u16 e),.s (.int .u16 f),.s (.int .u16 g),.s (.int .u16 h),.s (.int .u16 i),.s (.int .u16 j),.s (.int .i64 p)]
abbrev bO(a:By)(k:Int)(n:By)(v c d e f g h i j p:Int):Blk:=.box (clO a k n v c d e f g h i j p)
abbrev gO(a:By)(k:Int)(n:By)(v c d e f g h i j p:Int):PV:=.agg (clO a k n v c d e f g h i j p)
abbrev bO0:Blk:=bO [] 0 [] 0 0 0 0 0 0 0 0 0 0
abbrev bU0:Blk:=bU [] [] 0 [] 0 0 0 0 0 0 0 0 0 0 []
abbrev bQ(p:R7 × Nat):Blk:=bU (uS p) (uU p) (uK p) (uN p) (uV p) (uA p 0) (uA p 1) (uA p 2) (uA p 3) (uA p 4) (uA p 5) (uA p 6) (uA p 7) (uP p) (uR p)
abbrev okQ(p:R7 × Nat):Bool:=ok8 (uA p 0) (uA p 1) (uA p 2) (uA p 3) (uA p 4) (uA p 5) (uA p 6) (uA p 7)
abbrev mkQ(b:By)(p:R7 × Nat)(a:Int):R7:=mkU b (uU p) (uK p) (uN p) (uV p) (n8 (uA p 0) (uA p 1) (uA p 2) (uA p 3) (uA p 4) (uA p 5) (uA p 6) (uA p 7)) a (uR p)
end
section
open Go Go.Proofs
set_option maxRecDepth 100000
section
def GF:List PV->Tr
 | [.s (.str s)]=>.ret (.s (.int .i64 (G7 s))) []
 | _=>.fail
def DO(args:List PV):Tr:=GF (C5 [[0]] args)
def GG:List PV->Tr
 | [.s (.str s)]=>.ret (.s (.bool (C8 s))) []
 | _=>.fail
def Ps(args:List PV):Tr:=GG (C5 [[0]] args)
def Dk7:List PV->Tr
 | [.agg [.s (.str a),.s (.str n),.s (.int .i64 j),.s (.str k),.s (.int .u32 v4),.s (.int .u16 b),.s (.int .u16 c),.s (.int .u16 d),.s (.int .u16 e),.s (.int .u16 f),.s (.int .u16 g),.s (.int .u16 h),.s (.int .u16 i),.s (.int .i64 l),.s (.str m)]]=>.ret (.s (.bool (Di6 a))) []
 | _=>.fail
def SC:List PV->Tr
 | [.agg [.s (.str b),.s (.str n),.s (.int .i64 k),.s (.str l),.s (.int .u32 v4),.s (.int .u16 c),.s (.int .u16 d),.s (.int .u16 e),.s (.int .u16 f),.s (.int .u16 g),.s (.int .u16 h),.s (.int .u16 i),.s (.int .u16 j),.s (.int .i64 a),.s (.str m)]]=>.ret (.s (.int .i64 (prt b a))) []
 | _=>.fail
def Ao5(args:List PV):Tr:=SC (C5 [[0,0,0,0,0,0,0,0,0,0,0,0,0,0,0]] args)
def SD:List PV->Tr
 | [.s (.str s)]=>.need (A2 (b8 s)) (.ret (.s (.bool (S9 s))) [])
 | _=>.fail
def B46(args:List PV):Tr:=SD (C5 [[0]] args)
def RY:List PV->Tr
 | [.s (.str s)]=>.need (A2 (b8 s)) (.ret (.tup [.s (.int .i64 (DH s)),.s (.bool (ai1 (Gv ((-1):Int) s)))]) [])
 | _=>.fail
def B44(args:List PV):Tr:=RY (C5 [[0]] args)
def Ym:List PV->Tr
 | [.agg [.s (.str c),.s (.str e),.s (.int .i64 n),.s (.str o),.s (.int .u32 v4),.s (.int .u16 f),.s (.int .u16 g),.s (.int .u16 h),.s (.int .u16 i),.s (.int .u16 j),.s (.int .u16 k),.s (.int .u16 l),.s (.int .u16 m),.s (.int .i64 d),.s (.str b)],.s (.str a)]=>.need (A2 (b8 c)) (.need (A2 (b8 b)) (.need (A2 (b8 a)) (.need (List.isEmpty e) (.need (d==((-1):Int)) (.ret (.tup [.agg [.s (.str (uS (G0 c b a))),.s (.str (uU (G0 c b a))),.s (.int .i64 (uK (G0 c b a))),.s (.str (uN (G0 c b a))),.s (.int .u32 (uV (G0 c b a))),.s (.int .u16 (uA (G0 c b a) 0)),.s (.int .u16 (uA (G0 c b a) 1)),.s (.int .u16 (uA (G0 c b a) 2)),.s (.int .u16 (uA (G0 c b a) 3)),.s (.int .u16 (uA (G0 c b a) 4)),.s (.int .u16 (uA (G0 c b a) 5)),.s (.int .u16 (uA (G0 c b a) 6)),.s (.int .u16 (uA (G0 c b a) 7)),.s (.int .i64 (uP (G0 c b a))),.s (.str (uR (G0 c b a)))],.s (.int .i64 (uE (G0 c b a)))]) [])))))
 | _=>.fail
def XY(args:List PV):Tr:=Ym (C5 [[0,0,0,0,0,0,0,0,0,0,0,0,0,0,0],[0]] args)
def RZ:List PV->Tr
 | [.s (.str s)]=>.need (A2 (b8 s)) (.ret (.tup [.agg [.s (.str (uS (B8 s))),.s (.str (uU (B8 s))),.s (.int .i64 (uK (B8 s))),.s (.str (uN (B8 s))),.s (.int .u32 (uV (B8 s))),.s (.int .u16 (uA (B8 s) 0)),.s (.int .u16 (uA (B8 s) 1)),.s (.int .u16 (uA (B8 s) 2)),.s (.int .u16 (uA (B8 s) 3)),.s (.int .u16 (uA (B8 s) 4)),.s (.int .u16 (uA (B8 s) 5)),.s (.int .u16 (uA (B8 s) 6)),.s (.int .u16 (uA (B8 s) 7)),.s (.int .i64 (uP (B8 s))),.s (.str (uR (B8 s)))],.s (.int .i64 (uE (B8 s)))]) [])
 | _=>.fail
def B45(args:List PV):Tr:=RZ (C5 [[0]] args)
def GH:List PV->Tr
 | [.agg [.s (.str l),.s (.str m),.s (.int .i64 n),.s (.str i),.s (.int .u32 v4),.s (.int .u16 a),.s (.int .u16 b),.s (.int .u16 c),.s (.int .u16 d),.s (.int .u16 e),.s (.int .u16 f),.s (.int .u16 g),.s (.int .u16 h),.s (.int .i64 j),.s (.str k)]]=>.need (smU l m i k) (.need (ltN v4 4294967296) (.need (ok8 a b c d e f g h) (.need (Dz j) (.ret (.s (.str (Cf (mkU l m n i v4 (n8 a b c d e f g h) j k)))) []))))
 | _=>.fail
def Bf4(args:List PV):Tr:=GH (C5 [[0,0,0,0,0,0,0,0,0,0,0,0,0,0,0]] args)
def Rv:List PV->Tr
 | [.agg [.s (.str l),.s (.str m),.s (.int .i64 n),.s (.str i),.s (.int .u32 v4),.s (.int .u16 a),.s (.int .u16 b),.s (.int .u16 c),.s (.int .u16 d),.s (.int .u16 e),.s (.int .u16 f),.s (.int .u16 g),.s (.int .u16 h),.s (.int .i64 j),.s (.str k)]]=>.need (smU l m i k) (.need (ltN v4 4294967296) (.need (ok8 a b c d e f g h) (.need (Dz j) (.ret (.s (.bool (Hs (mkU l m n i v4 (n8 a b c d e f g h) j k)))) []))))
 | _=>.fail
def Yo(args:List PV):Tr:=Rv (C5 [[0,0,0,0,0,0,0,0,0,0,0,0,0,0,0]] args)
def Yg:List PV->Tr
 | [.s (.str s)]=>.ret (.s (.bool (C8 s))) []
 | _=>.fail
def Ub(args:List PV):Tr:=Yg (C5 [[0]] args)
def FZ:List PV->Tr
 | [.s (.str s)]=>.ret (.s (.int .i64 (G7 s))) []
 | _=>.fail
def Bf2(args:List PV):Tr:=FZ (C5 [[0]] args)
def FW:List PV->Tr
 | [.s (.str s),.s (.str t)]=>.need (A2 (b8 s)) (.need (A2 (b8 t)) (.ret (.s (.int .i64 (↑(R1 s t):Int))) []))
 | _=>.fail
def Be9(args:List PV):Tr:=FW (C5 [[0],[0]] args)
def FY:List PV->Tr
 | [.s (.str s)]=>.need (A2 (b8 s)) (.ret (.tup [.s (.str ((Di s)).1),.s (.str (((Di s)).2).1),.s (.bool (((Di s)).2).2)]) [])
 | _=>.fail
def Bf1(args:List PV):Tr:=FY (C5 [[0]] args)
def FX:List PV->Tr
 | [.s (.str s)]=>.need (A2 (b8 s)) (.ret (.tup [.agg [.s (.str (uS (B8 s))),.s (.str (uU (B8 s))),.s (.int .i64 (uK (B8 s))),.s (.str (uN (B8 s))),.s (.int .u32 (uV (B8 s))),.s (.int .u16 (uA (B8 s) 0)),.s (.int .u16 (uA (B8 s) 1)),.s (.int .u16 (uA (B8 s) 2)),.s (.int .u16 (uA (B8 s) 3)),.s (.int .u16 (uA (B8 s) 4)),.s (.int .u16 (uA (B8 s) 5)),.s (.int .u16 (uA (B8 s) 6)),.s (.int .u16 (uA (B8 s) 7)),.s (.int .i64 (uP (B8 s))),.s (.str (uR (B8 s)))],.s (.int .i64 (uE (B8 s)))]) [])
 | _=>.fail
def Bf0(args:List PV):Tr:=FX (C5 [[0]] args)
def Rs:List PV->Tr
 | [.s (.str s)]=>.need (A2 (b8 s)) (.ret (.tup [.agg [.s (.str (uS (E1 s))),.s (.str (uU (E1 s))),.s (.int .i64 (uK (E1 s))),.s (.str (uN (E1 s))),.s (.int .u32 (uV (E1 s))),.s (.int .u16 (uA (E1 s) 0)),.s (.int .u16 (uA (E1 s) 1)),.s (.int .u16 (uA (E1 s) 2)),.s (.int .u16 (uA (E1 s) 3)),.s (.int .u16 (uA (E1 s) 4)),.s (.int .u16 (uA (E1 s) 5)),.s (.int .u16 (uA (E1 s) 6)),.s (.int .u16 (uA (E1 s) 7)),.s (.int .i64 (uP (E1 s))),.s (.str (uR (E1 s)))],.s (.int .i64 (uE (E1 s)))]) [])
 | _=>.fail
def Jo(args:List PV):Tr:=Rs (C5 [[0]] args)
def C60:List PV->Tr
 | [.s (.int .i64 n)]=>.need (ltN n 9223372036854775808) (.ret (.s (.str (ad5 (Int.toNat n)))) [])
 | _=>.fail
def EV:List PV->Tr
 | [.s (.int .i64 n)]=>.need (Dz n) (.ret (.s (.str (Q6 n))) [])
 | _=>.fail
def QK(args:List PV):Tr:=EV (C5 [[0]] args)
def GB:List PV->Tr
 | [.s (.str s),.s (.int .u8 c)]=>.need (A2 (b8 s)) (.need (inR c 256) (.ret (.s (.int .i64 (k9 s (u8n c)))) []))
 | _=>.fail
def Uc(args:List PV):Tr:=GB (C5 [[0],[0]] args)
def FD:List PV->Tr
 | [.s (.str s),.s (.str p)]=>.need (A2 (b8 s)) (.ret (.s (.str (Gm s p))) [])
 | _=>.fail
def Bd9(args:List PV):Tr:=FD (C5 [[0],[0]] args)
def RX:List PV->Tr
 | [.s (.str s),.s (.str p)]=>.need (A2 (b8 s)) (.ret (.s (.str (Gm s p))) [])
 | _=>.fail
def B42(args:List PV):Tr:=RX (C5 [[0],[0]] args)
def XU:List PV->Tr
 | [.s (.str s),.s (.str p)]=>.need (A2 (b8 s)) (.need (Zy p) (.ret (.s (.int .i64 (ab1 s p))) []))
 | _=>.fail
def RT(args:List PV):Tr:=XU (C5 [[0],[0]] args)
def Pq:List PV->Tr
 | [.s (.str s),.s (.str p)]=>.need (A2 (b8 s)) (.need (Zy p) (.need (z7 9 (b8 s)) (.ret (.s (.int .i64 (ab1 s p))) [])))
 | _=>.fail
def XV(args:List PV):Tr:=Pq (C5 [[0],[0]] args)
def Pr:List PV->Tr
 | [.s (.str s),.s (.str p)]=>.need (Zy p) (.need (z7 (b8 s) 8) (.ret (.s (.int .i64 (ab1 s p))) []))
 | _=>.fail
def XW(args:List PV):Tr:=Pr (C5 [[0],[0]] args)
def Rt:List PV->Tr
 | [.s (.int .i64 n)]=>.ret (.s (.bool (ltI (8:Int) n))) []
 | _=>.fail
def Yj(args:List PV):Tr:=Rt (C5 [[0]] args)
def Yi:List PV->Tr
 | [.s (.str p),.s (.int .i32 r)]=>.need (Zy p) (.need (ltN r 1114112) (.ret (.s (.int .i64 (irn r))) []))
 | _=>.fail
def GC(args:List PV):Tr:=Yi (C5 [[0],[0]] args)
def MH:List PV->Tr
 | [.s (.str s)]=>.fail
 | _=>.fail
def Nv(args:List PV):Tr:=MH (C5 [[0]] args)
def Yp:List PV->Tr
 | [.s (.int .i32 r)]=>.ret (.s (.bool (KQ r))) []
 | _=>.fail
def GI(args:List PV):Tr:=Yp (C5 [[0]] args)
end
section
variable {Z R : Type} (L : Nat) (Q : G1) (Y : Yh Z) (s : Z) (k : Out -> St Z -> Option R)
noncomputable def TB(L:Nat):Cfg:=B6 L [112] (A3 []) [(79,QN)] (A3 [(3,[4]),(2,[4]),(1,[0,0,5]),(0,[0,0])]) [79] (A3 []) (some [4]) [] [] []
noncomputable def Bi5{R:Type}(L:Nat)(b a:By)(d:By->Option R):Option R:=cond (A2 b.length) (cond (x3 a b) (cond (I7 (a.length:Int) (b.length:Int) b.length) (vl (cut b (a.length:Int) (b.length:Int)) λc=>d c) none) (d b)) none
theorem Ca8(d:Nat)(s0 prefix1):evC (TB L) (d+1) Z Y 112 [pS s0,pS prefix1] [] s=Bi5 L s0 prefix1 (λa=>some (pS a,[],s)):=by refine(evE (fn:=Tryz.f112) (by kernel_rfl)).trans ?_;generalize evC (TB L) d=Q;unfold Bi5;kernel_rfl
noncomputable def Ar8(L:Nat):Cfg:=B6 L [83] (A3 []) [(112,Bd9)] (A3 [(1,[4]),(0,[0,0])]) [112] (A3 []) (some [4]) [] [] []
noncomputable def C11{R:Type}(L:Nat)(b a:By)(c:By->Option R):Option R:=cond (A2 b.length) (c (Gm b a)) none
theorem C12(d:Nat)(s0 prefix1):evC (Ar8 L) (d+1) Z Y 83 [pS s0,pS prefix1] [] s=C11 L s0 prefix1 (λa=>some (pS a,[],s)):=by refine(evE (fn:=Tryz.f83) (by kernel_rfl)).trans ?_;generalize evC (Ar8 L) d=Q;unfold C11;kernel_rfl
noncomputable def TL(L:Nat):Cfg:=B6 L [44] (A3 []) [] (A3 [(8,[2]),(4,[2]),(7,[2]),(6,[7]),(5,[3,3]),(3,[3,0]),(2,[3,0]),(1,[3]),(0,[0])]) [] (A3 [(0,[])]) (some [2]) [] [] []
noncomputable def Bl3{R:Type}(L:Nat)(a:By)(b:Int->Option R):Option R:=cond (a==[104,116,116,112]) (cond (a==[104,116,116,112]) (b 80) (cond (a==[104,116,116,112,115]) (cond (a==[104,116,116,112,115]) (b 443) (b (-1))) (cond (a==[119,115,115]) (b 443) (b (-1))))) (cond (a==[119,115]) (b 80) (cond (a==[104,116,116,112,115]) (cond (a==[104,116,116,112,115]) (b 443) (b (-1))) (cond (a==[119,115,115]) (b 443) (b (-1)))))
theorem Cj6(d:Nat)(scheme0):evC (TL L) (d+1) Z Y 44 [pS scheme0] [] s=Bl3 L scheme0 (λa=>some (pI a,[],s)):=by refine(evE (fn:=Tryz.f44) (by kernel_rfl)).trans ?_;generalize evC (TL L) d=Q;unfold Bl3;kernel_rfl
noncomputable def TM(L:Nat):Cfg:=B6 L [22] (A3 []) [(44,DO)] (A3 [(1,[2]),(0,[0])]) [44] (A3 []) (some [2]) [] [] []
noncomputable def Bl4{R:Type}(L:Nat)(a:By)(b:Bool->Option R):Option R:=b (ltI 0 (G7 a))
theorem Cj9(d:Nat)(scheme0):evC (TM L) (d+1) Z Y 22 [pS scheme0] [] s=Bl4 L scheme0 (λa=>some (pB a,[],s)):=by refine(evE (fn:=Tryz.f22) (by kernel_rfl)).trans ?_;generalize evC (TM L) d=Q;unfold Bl4;kernel_rfl
noncomputable def Ar9(L:Nat):Cfg:=B6 L [26] (A3 []) [(44,DO)] (A3 [(3,[2]),(2,[2]),(1,[1,3]),(0,[1])]) [44] (A3 []) (some [2]) [] [] []
noncomputable def C18{R:Type}(L:Nat)(f h:By)(i:Int)(j:By)(l m n o u8 p b c d a:Int)(e:By)(g:Int->(List Blk)->Option R):Option R:=cond (a !=((-1):Int)) (g a [(bU f h i j l m n o u8 p b c d a e)]) (g (G7 f) [(bU f h i j l m n o u8 p b c d a e)])
theorem C19(d:Nat)(u0 u1 u2 u3 u4 u5 u6 u7 u8 u9 u10 u11 u12 u13 u14):evC (Ar9 L) (d+1) Z Y 26 [(gU u0 u1 u2 u3 u4 u5 u6 u7 u8 u9 u10 u11 u12 u13 u14)] [] s=C18 L u0 u1 u2 u3 u4 u5 u6 u7 u8 u9 u10 u11 u12 u13 u14 (λb a=>some (pI b,a,s)):=by refine(evE (fn:=Tryz.f26) (by kernel_rfl)).trans ?_;generalize evC (Ar9 L) d=Q;unfold C18;kernel_rfl
noncomputable abbrev Ob:Code:=C6 ah2
noncomputable def Ac(L:Nat):Cfg:=B6 L [55] (A3 [(2,[0,1,4,0])]) [(73,Uc)] (A3 [(9,[2]),(8,[0,6,0]),(7,[2]),(6,[0,6,0,29]),(5,[0,2,0,0,1,0]),(4,[0,2,0,2,0]),(3,[0,2,3,0]),(2,[0,6,0,0]),(1,[0,6,0]),(0,[0])]) [73] (A3 [(0,[0]),(1,[0,6,0])]) (some [2]) [] [] []
noncomputable def EL{R:Type}(d:By)(a c:Int)(b:By->Int->Int->Option R):Option R:=b d c a
abbrev AZ(b:Code):Prop:=∀(k:Out->St Z->Option R) a i1 b2 n3,A9 (Ac L) Q Y b ⟨gp [(0,pS a),(2,pI i1),(0,p8 b2),(0,pB true),(1,pI n3),(0,pI i1)] 33,[],s⟩ k=EL a i1 n3 (λa c d=>k .normal ⟨gp [(0,pS a),(6,pI c),(0,pI d),(29,pB false)] 3,[],s⟩)
theorem Bb1:AZ (R:=R) L Q Y s (cd [1,0,1,0,0,1,1,0,0,1,1,1] Ob):=by intro k d b a c;unfold EL;kernel_rfl
noncomputable def Fk{R:Type}(h:By)(c d:Int)(a:Bool)(g:Int)(e:Unit->Option R)(f:By->Int->Int->Bool->Option R):Option R:=cond (not a) (cond (c==0) (e ()) (cond (inR d 256) (vl (k9 ([48,49,50,51,52,53,54,55,56,57,43,45,46]:List UInt8) (u8n d)) λb=>cond (ltI b 0) (e ()) (f h g c (ltI b 0))) none)) (f h g c false)
abbrev BA(b:Code):Prop:=∀(k:Out->St Z->Option R) a i1 b2 letter3 n4,A9 (Ac L) Q Y b ⟨gp [(0,pS a),(2,pI i1),(0,p8 b2),(0,pB letter3),(1,pI n4),(0,pI i1)] 33,[],s⟩ k=Fk a i1 b2 letter3 n4 (λ_=>k .ret ⟨gp [(2,pB false)] 39,[],s⟩) (λa d e c=>k .normal ⟨gp [(0,pS a),(6,pI d),(0,pI e),(29,pB c)] 3,[],s⟩)
theorem Bb2:BA (R:=R) L Q Y s (cd [1,0,1,0,0,1,1,0,0,1,1,1] Ob):=by intro k e c b a d;unfold Fk;kernel_rfl
noncomputable def N7{R:Type}(L n:Nat)(b:By)(e a:Int)(c:Unit->Option R)(d:By->Option R):Option R:=match n with|0=>none|n+1=>cond (ltI a e) (cond (inR a b.length) (cond (not (ltI (bAt b a) (97:Int))) (cond (not (ltI 122 (bAt b a))) (EL b a e (λx r t=>N7 L n x r (A1 (t+1)) c d)) (cond (not (ltI (bAt b a) (65:Int))) (Fk b a (bAt b a) (not (ltI 90 (bAt b a))) e (λ_=>c ()) (λy u v D=>N7 L n y u (A1 (v+1)) c d)) (Fk b a (bAt b a) false e (λ_=>c ()) (λz w f A=>vl (A1 (f+1)) λg=>N7 L n z w g c d)))) (cond (not (ltI (bAt b a) (65:Int))) (Fk b a (bAt b a) (not (ltI 90 (bAt b a))) e (λ_=>c ()) (λp h i B=>vl (A1 (i+1)) λj=>N7 L n p h j c d)) (Fk b a (bAt b a) false e (λ_=>c ()) (λq l m C=>vl (A1 (m+1)) λo=>N7 L n q l o c d)))) none) (d b)
theorem Bb3(a:Code)(d:AZ (R:=R) L Q Y s a)(b:BA (R:=R) L Q Y s a)(n:Nat)(c:By)(f e:Int):D0 0 ((Ac L).keep 2) (bd (Ac L) Q Y (cd [1,0,1,0,0] (G3 [1,0,1,0,0,1,1,0,0,1,1,1] a Ob))) n ⟨gp [(0,pS c),(6,pI f),(0,pI e)] 33,[],s⟩ k =
 N7 L n c f e (λ_=>k .ret ⟨gp [(2,pB false)] 39,[],s⟩) (λc=>k (.exit 0) ⟨gp [(0,pS c)] 41,[],s⟩):=by
 induction n generalizing c f e with
 | zero=>rfl
 | succ n h=>rw[N7];exact let g:=(E6 1 (E5 (Ac L) Q Y (cd [1,0,1,0,0,1,1,1] Ob) (lpK 0 ((Ac L).keep 2) (bd (Ac L) Q Y (cd [1,0,1,0,0] (G3 [1,0,1,0,0,1,1,0,0,1,1,1] a Ob))) n k)));(c9 (by kernel_rfl) (A0 (A0 (A0 (A0 ((d g c e (bAt c e) f).trans (congr rfl (fx3 λx r t=>(c9 (by kernel_rfl) (h x r (A1 (t+1))))))) (A0 ((b g c e (bAt c e) (not (ltI 90 (bAt c e))) f).trans (congr (congr rfl (by kernel_rfl)) (fx4 λy u v H=>(c9 (by kernel_rfl) (h y u (A1 (v+1))))))) ((b g c e (bAt c e) false f).trans (congr (congr rfl (by kernel_rfl)) (fx4 λz w D A=>(c9 (by kernel_rfl) (A4 λi=>(h z w i)))))))) (A0 ((b g c e (bAt c e) (not (ltI 90 (bAt c e))) f).trans (congr (congr rfl (by kernel_rfl)) (fx4 λp j F B=>(c9 (by kernel_rfl) (A4 λl=>(h p j l)))))) ((b g c e (bAt c e) false f).trans (congr (congr rfl (by kernel_rfl)) (fx4 λq m G C=>(c9 (by kernel_rfl) (A4 λo=>(h q m o)))))))) rfl) rfl))
noncomputable def Cj8{R:Type}(L:Nat)(c:By)(b:Bool->Option R):Option R:=N7 L L c (c.length:Int) 0 (λ_=>b false) (λa=>b (not (a==[])))
theorem C21(a:Code)(b:AZ (R:=PV × List Blk × Z) L Q Y s a)(c:BA (R:=PV × List Blk × Z) L Q Y s a)(d:By):A9 (Ac L) Q Y (cd [] (G3 [1,0,1,0,0,1,1,0,0,1,1,1] a Ob)) ⟨[pS d]++tps 41,[],s⟩ (F5 (Ac L) ah2)=Cj8 L d (λe=>some (pB e,[],s)):=by unfold Cj8;exact(c9 (by kernel_rfl) ((Bb3 L Q Y s (E6 0 (E5 (Ac L) Q Y (cd [1,1] Ob) (F5 (Ac L) ah2))) a b c L d (d.length:Int) 0).trans (by kernel_rfl)))
theorem C22(d:Nat)(s0):evC (Ac L) (d+1) Z Y 55 [pS s0] [] s=Cj8 L s0 (λa=>some (pB a,[],s)):=
 (evE (fn:=ah2) (by kernel_rfl)).trans (c9 (by kernel_rfl) (C21 L (evC (Ac L) d) Y s (cd [1,0,1,0,0,1,1,0,0,1,1,1] Ob) (Bb1 L (evC (Ac L) d) Y s) (Bb2 L (evC (Ac L) d) Y s) s0))
noncomputable abbrev B57:Code:=C6 aj4
noncomputable def So(L:Nat):Cfg:=B6 L [82] (A3 [(3,[0,1,0,0,2,0])]) [] (A3 [(9,[2,0]),(8,[0,3,2,0]),(7,[0,3,2,0]),(6,[2,0]),(5,[0,3,0,1,0,11]),(4,[0,3,0,1,0]),(3,[0,3,2,0,0]),(2,[0,3,2,0]),(1,[0,3]),(0,[0])]) [] (A3 [(0,[4]),(1,[0,3,2,0])]) (some [2,0]) [] [] []
noncomputable def Ms{R:Type}(L n:Nat)(b:By)(h j a:Int)(d:Unit->Option R)(i:Int->Option R):Option R:=match n with|0=>none|n+1=>cond (ltI a j) (cond (inR a b.length) (cond (ltI (bAt b a) (48:Int)) (d ()) (cond (inR a b.length) (cond (ltI 57 (bAt b a)) (d ()) (vl (A1 ((10:Int)*(if ((0:Int) > h) then (0:Int) else h))) λe=>cond (inR a b.length) (vl (wu8 ((bAt b a)-48)) λf=>vl (A1 (e+(A1 f))) λc=>vl (if ((65536:Int)<c) then (65536:Int) else c) λg=>Ms L n b g j (A1 (a+1)) d i) none)) none)) none) (i h)
theorem Ba6(n s0 n1 n2 n3):D0 0 ((So L).keep 3) (bd (So L) Q Y (cd [1,1,0,1,0,0] B57)) n ⟨gp [(0,pS s0),(3,pI n1),(2,pI n2),(0,pI n3)] 26,[],s⟩ k =
 Ms L n s0 n1 n2 n3 (λ_=>k .ret ⟨gp [(2,pI (0:Int)),(0,pB false)] 31,[],s⟩) (λn0=>k (.exit 0) ⟨gp [(4,pI n0)] 30,[],s⟩):=by
 induction n generalizing s0 n1 n2 n3 with
 | zero=>rfl
 | succ n a=>rw[Ms];simp only[<-a];kernel_rfl
noncomputable def C14{R:Type}(L:Nat)(c:By)(b:Int->Bool->Option R):Option R:=Ms L L c (-1) (c.length:Int) 0 (λ_=>b 0 false) (λa=>b a (ltI a 65536))
theorem C15(d:Nat)(s0):evC (So L) (d+1) Z Y 82 [pS s0] [] s=C14 L s0 (λa b=>some (.tup [pI a,pB b],[],s)):=by refine(evE (fn:=aj4) (by kernel_rfl)).trans ?_;generalize evC (So L) d=Q;unfold C14;exact(c9 (by kernel_rfl) ((Ba6 L Q Y s (E6 0 (E5 (So L) Q Y (cd [1,1,1] B57) (F5 (So L) aj4))) L s0 (-1) (s0.length:Int) 0).trans (by kernel_rfl)))
noncomputable abbrev Bq:Code:=C6 ah4
noncomputable def X4(L:Nat):Cfg:=B6 L [60] (A3 []) [(80,DL),(59,ES),(73,Uc),(81,XR),(83,B42),(82,B44),(44,DO)] (A3 [(24,[4,0]),(23,[2,1]),(22,[2,1,8,71]),(21,[2,1,8]),(20,[4,0]),(19,[2,1,6,1,63]),(18,[2,1,6,1,0]),(17,[4,0]),(16,[2,1,3,2,0,54]),(15,[2,1,3,2,0]),(14,[4,0]),(13,[2,1,2,0,50]),(9,[2,1,2,0]),(8,[4,0]),(7,[1,0,1,4,23]),(6,[1,0,1,4]),(12,[2,1,2,0]),(11,[1,0,1,2,0,1,35]),(10,[1,0,1,2,0,1]),(5,[1,0,1,2,0,20]),(4,[1,0,1,2,0]),(3,[1,0,1]),(2,[1,0,1,1,11]),(1,[1,0,1,1]),(0,[1,0,1])]) [80,59,73,83,82,44] (A3 []) (some [4,0]) [] [] []
noncomputable def V9{R:Type}(d e g h:By)(q:Int)(u:By)(r n8 t i j l m n o f:Int)(c:By)(p:Int->Blk->By->By->Int->By->Int->Int->Int->Int->Int->Int->Int->Int->Int->Int->By->(List Blk)->Option R):Option R:=cond (A2 d.length) (vl (B9 d) λa=>cond ((↑(a).2:Int)!=0) (p (↑(a).2:Int) (bU g h q u r n8 t i j l m n o f c) ([]:List UInt8) ([]:List UInt8) 0 ([]:List UInt8) 0 0 0 0 0 0 0 0 0 0 ([]:List UInt8) [(bH (↑(B2.kind (a).1):Int) (B2.name (a).1) (↑(B2.v4 (a).1):Int) (↑(b9 (B2.v6 (a).1) 0 0):Int) (↑(b9 (B2.v6 (a).1) 1 0):Int) (↑(b9 (B2.v6 (a).1) 2 0):Int) (↑(b9 (B2.v6 (a).1) 3 0):Int) (↑(b9 (B2.v6 (a).1) 4 0):Int) (↑(b9 (B2.v6 (a).1) 5 0):Int) (↑(b9 (B2.v6 (a).1) 6 0):Int) (↑(b9 (B2.v6 (a).1) 7 0):Int))]) (cond (A2 e.length) (vl (Gm e ([58]:List UInt8)) λb=>cond (A2 b.length) (cond (not (ai1 (Gv ((-1):Int) b))) (p 16 (bU g h q u r n8 t i j l m n o f c) ([]:List UInt8) ([]:List UInt8) 0 ([]:List UInt8) 0 0 0 0 0 0 0 0 0 0 ([]:List UInt8) [(bH (↑(B2.kind (a).1):Int) (B2.name (a).1) (↑(B2.v4 (a).1):Int) (↑(b9 (B2.v6 (a).1) 0 0):Int) (↑(b9 (B2.v6 (a).1) 1 0):Int) (↑(b9 (B2.v6 (a).1) 2 0):Int) (↑(b9 (B2.v6 (a).1) 3 0):Int) (↑(b9 (B2.v6 (a).1) 4 0):Int) (↑(b9 (B2.v6 (a).1) 5 0):Int) (↑(b9 (B2.v6 (a).1) 6 0):Int) (↑(b9 (B2.v6 (a).1) 7 0):Int))]) (cond ((DH b)!=(G7 g)) (p 0 (bU g h (↑(B2.kind (a).1):Int) (B2.name (a).1) (↑(B2.v4 (a).1):Int) (↑(b9 (B2.v6 (a).1) 0 0):Int) (↑(b9 (B2.v6 (a).1) 1 0):Int) (↑(b9 (B2.v6 (a).1) 2 0):Int) (↑(b9 (B2.v6 (a).1) 3 0):Int) (↑(b9 (B2.v6 (a).1) 4 0):Int) (↑(b9 (B2.v6 (a).1) 5 0):Int) (↑(b9 (B2.v6 (a).1) 6 0):Int) (↑(b9 (B2.v6 (a).1) 7 0):Int) (DH b) c) g h (↑(B2.kind (a).1):Int) (B2.name (a).1) (↑(B2.v4 (a).1):Int) (↑(b9 (B2.v6 (a).1) 0 0):Int) (↑(b9 (B2.v6 (a).1) 1 0):Int) (↑(b9 (B2.v6 (a).1) 2 0):Int) (↑(b9 (B2.v6 (a).1) 3 0):Int) (↑(b9 (B2.v6 (a).1) 4 0):Int) (↑(b9 (B2.v6 (a).1) 5 0):Int) (↑(b9 (B2.v6 (a).1) 6 0):Int) (↑(b9 (B2.v6 (a).1) 7 0):Int) (DH b) c [(bH (↑(B2.kind (a).1):Int) (B2.name (a).1) (↑(B2.v4 (a).1):Int) (↑(b9 (B2.v6 (a).1) 0 0):Int) (↑(b9 (B2.v6 (a).1) 1 0):Int) (↑(b9 (B2.v6 (a).1) 2 0):Int) (↑(b9 (B2.v6 (a).1) 3 0):Int) (↑(b9 (B2.v6 (a).1) 4 0):Int) (↑(b9 (B2.v6 (a).1) 5 0):Int) (↑(b9 (B2.v6 (a).1) 6 0):Int) (↑(b9 (B2.v6 (a).1) 7 0):Int))]) (p 0 (bU g h (↑(B2.kind (a).1):Int) (B2.name (a).1) (↑(B2.v4 (a).1):Int) (↑(b9 (B2.v6 (a).1) 0 0):Int) (↑(b9 (B2.v6 (a).1) 1 0):Int) (↑(b9 (B2.v6 (a).1) 2 0):Int) (↑(b9 (B2.v6 (a).1) 3 0):Int) (↑(b9 (B2.v6 (a).1) 4 0):Int) (↑(b9 (B2.v6 (a).1) 5 0):Int) (↑(b9 (B2.v6 (a).1) 6 0):Int) (↑(b9 (B2.v6 (a).1) 7 0):Int) f c) g h (↑(B2.kind (a).1):Int) (B2.name (a).1) (↑(B2.v4 (a).1):Int) (↑(b9 (B2.v6 (a).1) 0 0):Int) (↑(b9 (B2.v6 (a).1) 1 0):Int) (↑(b9 (B2.v6 (a).1) 2 0):Int) (↑(b9 (B2.v6 (a).1) 3 0):Int) (↑(b9 (B2.v6 (a).1) 4 0):Int) (↑(b9 (B2.v6 (a).1) 5 0):Int) (↑(b9 (B2.v6 (a).1) 6 0):Int) (↑(b9 (B2.v6 (a).1) 7 0):Int) f c [(bH (↑(B2.kind (a).1):Int) (B2.name (a).1) (↑(B2.v4 (a).1):Int) (↑(b9 (B2.v6 (a).1) 0 0):Int) (↑(b9 (B2.v6 (a).1) 1 0):Int) (↑(b9 (B2.v6 (a).1) 2 0):Int) (↑(b9 (B2.v6 (a).1) 3 0):Int) (↑(b9 (B2.v6 (a).1) 4 0):Int) (↑(b9 (B2.v6 (a).1) 5 0):Int) (↑(b9 (B2.v6 (a).1) 6 0):Int) (↑(b9 (B2.v6 (a).1) 7 0):Int))]))) none) none)) none
abbrev Pf(b:Code):Prop:=∀(k:Out->St Z->Option R) name0 tail1 b2 j s4 n5 s6 h n8 i a c d e f g n16 s17,A9 (X4 L) Q Y b ⟨gp [(2,.ptr 0 0 0),(1,.ptr 1 0 0),(2,pS name0),(0,pS tail1),(50,pB b2)] 29,[(bU j s4 n5 s6 h n8 i a c d e f g n16 s17),bU0],s⟩ k=V9 name0 tail1 j s4 n5 s6 h n8 i a c d e f g n16 s17 (λn0 n q j o r p h n8 i a c d e f g m l=>k .ret ⟨gp [(4,.ptr 1 0 0),(0,pI n0)] 83,(n::(bU q j o r p h n8 i a c d e f g m)::l),s⟩)
theorem Xl:Pf (R:=R) L Q Y s (cd [1,1,1,1,1] Bq):=by intro k a b l p q m r n n8 o c d e f g h i j;unfold V9;kernel_rfl
noncomputable def Q2{R:Type}(b a s2 s3:By)(n4:Int)(s5:By)(n6 n7 n8 n9 c d e f g h:Int)(i:By)(k0:Int->Blk->By->By->Int->By->Int->Int->Int->Int->Int->Int->Int->Int->Int->Int->By->(List Blk)->Option R):Option R:=cond (not (a==[])) (cond (inR 0 a.length) (cond ((bAt a (0:Int))!=58) (k0 4 (bU s2 s3 n4 s5 n6 n7 n8 n9 c d e f g h i) ([]:List UInt8) ([]:List UInt8) 0 ([]:List UInt8) 0 0 0 0 0 0 0 0 0 0 ([]:List UInt8) []) (V9 b a s2 s3 n4 s5 n6 n7 n8 n9 c d e f g h i (λo j P S p T q r t u v w x y z A U m=>k0 o j P S p T q r t u v w x y z A U m))) none) (V9 b a s2 s3 n4 s5 n6 n7 n8 n9 c d e f g h i (λB l V W C X D F G H I J K M N O a0 n=>k0 B l V W C X D F G H I J K M N O a0 n))
abbrev Ph(b:Code):Prop:=∀(k:Out->St Z->Option R) name0 tail1 n o i p j l n8 m a c d e f g h,A9 (X4 L) Q Y b ⟨gp [(2,.ptr 0 0 0),(1,.ptr 1 0 0),(2,pS name0),(0,pS tail1)] 80,[(bU n o i p j l n8 m a c d e f g h),bU0],s⟩ k=Q2 name0 tail1 n o i p j l n8 m a c d e f g h (λn0 r n o i p j l n8 m a c d e f g h q=>k .ret ⟨gp [(4,.ptr 1 0 0),(0,pI n0)] 83,(r::(bU n o i p j l n8 m a c d e f g h)::q),s⟩)
theorem WY(b:Code)(a:Pf (R:=R) L Q Y s b):Ph (R:=R) L Q Y s (cd [1,1,1,1] (G3 [1,1,1,1,1] b Bq)):=by intro k d c q r m t n o n8 p e f g h i j l;unfold Q2;exact(c9 (by kernel_rfl) (A0 (A0 (A0 rfl ((a k d c ((bAt c (0:Int))!=58) q r m t n o n8 p e f g h i j l).trans (by kernel_rfl))) rfl) ((a k d c false q r m t n o n8 p e f g h i j l).trans (by kernel_rfl))))
theorem WZ:Ph (R:=R) L Q Y s (cd [1,1,1,1] Bq):=by intro k a b o p j q l m n8 n c d e f g h i;exact c9 (by kernel_rfl) (WY L Q Y s (cd [1,1,1,1,1] Bq) (Xl L Q Y s) k a b o p j q l m n8 n c d e f g h i)
noncomputable def Qt{R:Type}(a I J:By)(F:Int)(K:By)(G n8 H v w x y z A B:Int)(C:By)(D:Int->Blk->By->By->Int->By->Int->Int->Int->Int->Int->Int->Int->Int->Int->Int->By->(List Blk)->Option R):Option R:=V9 a ([]:List UInt8) I J F K G n8 H v w x y z A B C (λd b q r e t f g h i j l m n o p u c=>D d b q r e t f g h i j l m n o p u c)
abbrev Pi(b:Code):Prop:=∀(k:Out->St Z->Option R) authority0 kk1 b2 j s4 n5 s6 h n8 i a c d e f g n16 s17,A9 (X4 L) Q Y b ⟨gp [(1,pS authority0),(0,.ptr 0 0 0),(1,.ptr 1 0 0),(2,pS authority0),(0,pS ([]:List UInt8)),(1,pI kk1),(35,pB b2)] 42,[(bU j s4 n5 s6 h n8 i a c d e f g n16 s17),bU0],s⟩ k=Qt authority0 j s4 n5 s6 h n8 i a c d e f g n16 s17 (λn0 n q j o r p h n8 i a c d e f g m l=>k .ret ⟨gp [(4,.ptr 1 0 0),(0,pI n0)] 83,(n::(bU q j o r p h n8 i a c d e f g m)::l),s⟩)
theorem XA(c:Code)(a:Pf (R:=R) L Q Y s c):Pi (R:=R) L Q Y s (cd [1,1,1,1] (G3 [1,1,1,1,1] c Bq)):=by intro k b m u q r n t o n8 p d e f g h i j l;unfold Qt;exact(c9 (by kernel_rfl) ((a k b ([]:List UInt8) false q r n t o n8 p d e f g h i j l).trans (by kernel_rfl)))
theorem XB:Pi (R:=R) L Q Y s (cd [1,1,1,1] Bq):=by intro k a b l p q m r n n8 o c d e f g h i j;exact c9 (by kernel_rfl) (XA L Q Y s (cd [1,1,1,1,1] Bq) (Xl L Q Y s) k a b l p q m r n n8 o c d e f g h i j)
noncomputable def Ts{R:Type}(L:Nat)(u0 u1:By)(u2:Int)(u3:By)(u4 u5 u6 u7 u8 u9 e f g h:Int)(i a:By)(k0:By->By->Int->By->Int->Int->Int->Int->Int->Int->Int->Int->Int->Int->By->Int->(List Blk)->Option R):Option R:=cond (A2 a.length) (vl (K5 (u8n (64:Int)) a) λc5=>cond (not (ltI c5 0)) (cond (I7 0 c5 a.length) (vl (cut a 0 c5) λe8=>cond (I7 (A1 (c5+1)) (a.length:Int) a.length) (vl (cut a (A1 (c5+1)) (a.length:Int)) λb=>cond (A2 b.length) (cond (x3 ([91]:List UInt8) b) (cond (A2 b.length) (vl (k9 b (u8n (93:Int))) λJ=>cond (ltI J 0) (k0 ([]:List UInt8) ([]:List UInt8) 0 ([]:List UInt8) 0 0 0 0 0 0 0 0 0 0 ([]:List UInt8) 4 [(bU u0 e8 u2 u3 u4 u5 u6 u7 u8 u9 e f g h i),bU0]) (vl (A1 (J+1)) λe9=>cond (I7 0 e9 b.length) (vl (A1 (J+1)) λf0=>cond (I7 f0 (b.length:Int) b.length) (vl (cut b f0 (b.length:Int)) λi6=>Q2 (cut b 0 e9) i6 u0 e8 u2 u3 u4 u5 u6 u7 u8 u9 e f g h i (λi5 i4 g4 g5 f3 g6 f4 f5 f6 f7 f8 f9 g0 g1 g2 g3 g7 h3=>k0 g4 g5 f3 g6 f4 f5 f6 f7 f8 f9 g0 g1 g2 g3 g7 i5 (i4::((bU g4 g5 f3 g6 f4 f5 f6 f7 f8 f9 g0 g1 g2 g3 g7)::h3)))) none) none)) none) (cond (A2 b.length) (vl (k9 b (u8n (58:Int))) λc=>cond (not (ltI c 0)) (cond (I7 0 c b.length) (cond (I7 c (b.length:Int) b.length) (vl (cut b c (b.length:Int)) λi7=>Q2 (cut b 0 c) i7 u0 e8 u2 u3 u4 u5 u6 u7 u8 u9 e f g h i (λh9 g8 c6 c7 j c8 l m n o p q r t u v d0 h4=>k0 c6 c7 j c8 l m n o p q r t u v d0 h9 (g8::((bU c6 c7 j c8 l m n o p q r t u v d0)::h4)))) none) none) (Qt b u0 e8 u2 u3 u4 u5 u6 u7 u8 u9 e f g h i (λi0 g9 d1 d2 w d3 x y z A B C D F G H d4 h5=>k0 d1 d2 w d3 x y z A B C D F G H d4 i0 (g9::((bU d1 d2 w d3 x y z A B C D F G H d4)::h5))))) none)) none) none) none) (cond (A2 a.length) (cond (x3 ([91]:List UInt8) a) (cond (A2 a.length) (vl (k9 a (u8n (93:Int))) λc4=>cond (ltI c4 0) (k0 ([]:List UInt8) ([]:List UInt8) 0 ([]:List UInt8) 0 0 0 0 0 0 0 0 0 0 ([]:List UInt8) 4 [(bU u0 u1 u2 u3 u4 u5 u6 u7 u8 u9 e f g h i),bU0]) (vl (A1 (c4+1)) λf1=>cond (I7 0 f1 a.length) (vl (cut a 0 f1) λi9=>vl (A1 (c4+1)) λf2=>cond (I7 f2 (a.length:Int) a.length) (vl (cut a f2 (a.length:Int)) λj3=>Q2 i9 j3 u0 u1 u2 u3 u4 u5 u6 u7 u8 u9 e f g h i (λi1 h0 d5 d6 I d7 K M N O P S T U V W d8 h6=>k0 d5 d6 I d7 K M N O P S T U V W d8 i1 (h0::((bU d5 d6 I d7 K M N O P S T U V W d8)::h6)))) none) none)) none) (cond (A2 a.length) (vl (k9 a (u8n (58:Int))) λd=>cond (not (ltI d 0)) (cond (I7 0 d a.length) (vl (cut a 0 d) λk1=>cond (I7 d (a.length:Int) a.length) (vl (cut a d (a.length:Int)) λk2=>Q2 k1 k2 u0 u1 u2 u3 u4 u5 u6 u7 u8 u9 e f g h i (λi2 h1 d9 e1 X e2 a0 a1 a2 a3 a4 a5 a6 a7 a9 b0 e3 h7=>k0 d9 e1 X e2 a0 a1 a2 a3 a4 a5 a6 a7 a9 b0 e3 i2 (h1::((bU d9 e1 X e2 a0 a1 a2 a3 a4 a5 a6 a7 a9 b0 e3)::h7)))) none) none) (Qt a u0 u1 u2 u3 u4 u5 u6 u7 u8 u9 e f g h i (λi3 h2 e4 e5 b1 e6 b2 b3 b4 b5 b6 b7 c0 c1 c2 c3 e7 h8=>k0 e4 e5 b1 e6 b2 b3 b4 b5 b6 b7 c0 c1 c2 c3 e7 i3 (h2::((bU e4 e5 b1 e6 b2 b3 b4 b5 b6 b7 c0 c1 c2 c3 e7)::h8))))) none)) none)) none
theorem Bz7(d:Code)(a:Ph (R:=PV × List Blk × Z) L Q Y s d)(c:Pi (R:=PV × List Blk × Z) L Q Y s d)(m G:By)(n:Int)(o:By)(p q r t u8 u e f g h:Int)(i b:By):A9 (X4 L) Q Y (cd [] (G3 [1,1,1,1] d Bq)) ⟨[(gU m G n o p q r t u8 u e f g h i),pS b]++tps 87,[],s⟩ (F5 (X4 L) ah4)=Ts L m G n o p q r t u8 u e f g h i b (λX r1 r2 r3 r4 r5 r6 r7 r8 r9 I J K M N O H=>some (.tup [(gU X r1 r2 r3 r4 r5 r6 r7 r8 r9 I J K M N),pI O],H,s)):=by unfold Ts;exact let x:=(F5 (X4 L) ah4);(c9 (by kernel_rfl) (A0 (A4 λW=>(A0 (A0 (A4 λv=>(A0 (A4 λw=>(A0 (A0 (A0 (A4 λP=>(A0 rfl (A4 λy=>(A0 (A4 λS=>(A0 (A4 λz=>((a x (cut w 0 y) z m v n o p q r t u8 u e f g h i).trans (by kernel_rfl))) rfl)) rfl)))) rfl) (A0 (A4 λj=>(A0 (A0 (A0 (A4 λA=>((a x (cut w 0 j) A m v n o p q r t u8 u e f g h i).trans (by kernel_rfl))) rfl) rfl) ((c x w j (not (ltI j 0)) m v n o p q r t u8 u e f g h i).trans (by kernel_rfl)))) rfl)) rfl)) rfl)) rfl) (A0 (A0 (A0 (A4 λT=>(A0 rfl (A4 λU=>(A0 (A4 λB=>(A4 λV=>(A0 (A4 λC=>((a x B C m G n o p q r t u8 u e f g h i).trans (by kernel_rfl))) rfl))) rfl)))) rfl) (A0 (A4 λl=>(A0 (A0 (A4 λD=>(A0 (A4 λF=>((a x D F m G n o p q r t u8 u e f g h i).trans (by kernel_rfl))) rfl)) rfl) ((c x b l (not (ltI l 0)) m G n o p q r t u8 u e f g h i).trans (by kernel_rfl)))) rfl)) rfl))) rfl))
theorem Bz8(d:Nat)(u0 u1 u2 u3 u4 u5 u6 u7 u8 u9 u10 u11 u12 u13 u14 authority15):evC (X4 L) (d+1) Z Y 60 [(gU u0 u1 u2 u3 u4 u5 u6 u7 u8 u9 u10 u11 u12 u13 u14),pS authority15] [] s=Ts L u0 u1 u2 u3 u4 u5 u6 u7 u8 u9 u10 u11 u12 u13 u14 authority15 (λi j l m n o p q r8 r b c e f g h a=>some (.tup [(gU i j l m n o p q r8 r b c e f g),pI h],a,s)):=
 (evE (fn:=ah4) (by kernel_rfl)).trans (c9 (by kernel_rfl) (Bz7 L (evC (X4 L) d) Y s (cd [1,1,1,1] Bq) (WZ L (evC (X4 L) d) Y s) (XB L (evC (X4 L) d) Y s) u0 u1 u2 u3 u4 u5 u6 u7 u8 u9 u10 u11 u12 u13 u14 authority15))
noncomputable abbrev B58:Code:=C6 aj2
noncomputable def Sp(L:Nat):Cfg:=B6 L [40] (A3 [(2,[0,1,0,8,0])]) [(54,Ao3),(55,B46),(56,An0),(22,Ps),(57,Am4),(58,RT),(59,ES),(60,XY)] (A3 [(23,[2,0]),(22,[2,5,0]),(21,[2,5,0,65]),(20,[2,5,0]),(19,[2,3,1,0]),(18,[2,3,1,0,0,52]),(17,[2,3,1,0,0]),(16,[2,3,1,0]),(15,[2,0]),(14,[2,3,1,48]),(13,[2,3,0,0]),(12,[2,0]),(11,[2,3,1,40]),(10,[2,3,1]),(9,[2,0]),(8,[2,2,0,33]),(7,[2,2,0,0]),(6,[0,1,9,0]),(5,[2,0]),(4,[0,1,9,0,11]),(3,[0,1,1,7,0]),(2,[0,1,9,0,0]),(1,[0,1,9,0]),(0,[0,1])]) [54,55,56,22,57,58,59] (A3 [(0,[0,1]),(1,[0,1,9,0])]) (some [2,0]) [] [] []
noncomputable def Iu{R:Type}(L n:Nat)(b:By)(e a:Int)(c:(List Blk)->Option R)(d:By->Option R):Option R:=match n with|0=>none|n+1=>cond (ltI a e) (cond (inR a b.length) (cond (not (ltI 32 (bAt b a))) (c []) (cond (inR a b.length) (cond ((bAt b a)==127) (c []) (Iu L n b e (A1 (a+1)) c d)) none)) none) (d b)
theorem Bb0(n a n1 n2):D0 1 ((Sp L).keep 2) (bd (Sp L) Q Y (cd [1,0,1,0,0] B58)) n ⟨gp [(0,pS a),(1,.ptr 0 0 0),(9,pI n1),(0,pI n2)] 71,[bU0],s⟩ k =
 Iu L n a n1 n2 (λb=>k .ret ⟨gp [(2,.ptr 0 0 0),(0,pI (4:Int))] 81,(bU0::b),s⟩) (λa=>k (.exit 0) ⟨gp [(0,pS a),(1,.ptr 0 0 0)] 82,[bU0],s⟩):=by
 induction n generalizing a n1 n2 with
 | zero=>rfl
 | succ n c=>rw[Iu];simp only[<-c];kernel_rfl
noncomputable def MA{R:Type}(L:Nat)(q:By)(n:By->By->Int->By->Int->Int->Int->Int->Int->Int->Int->Int->Int->Int->By->Int->(List Blk)->Option R):Option R:=Iu L L q (q.length:Int) 0 (λp=>n ([]:List UInt8) ([]:List UInt8) 0 ([]:List UInt8) 0 0 0 0 0 0 0 0 0 0 ([]:List UInt8) 4 (bU0::p)) (λo=>cond (A2 o.length) (vl ((w6 o ([58]:List UInt8))).1 λf=>vl (((w6 o ([58]:List UInt8))).2).1 λj=>cond (not (((w6 o ([58]:List UInt8))).2).2) (n ([]:List UInt8) ([]:List UInt8) 0 ([]:List UInt8) 0 0 0 0 0 0 0 0 0 0 ([]:List UInt8) 15 [bU0]) (cond (A2 f.length) (cond (not (S9 f)) (n ([]:List UInt8) ([]:List UInt8) 0 ([]:List UInt8) 0 0 0 0 0 0 0 0 0 0 ([]:List UInt8) 15 [bU0]) (cond (A2 f.length) (cond (not (C8 (B3 f))) (n (B3 f) ([]:List UInt8) 0 ([]:List UInt8) 0 0 0 0 0 0 0 0 0 (-1) j 0 [(bU (B3 f) ([]:List UInt8) (0:Int) ([]:List UInt8) (0:Int) (0:Int) (0:Int) (0:Int) (0:Int) (0:Int) (0:Int) (0:Int) (0:Int) ((-1):Int) j),(bU (B3 f) ([]:List UInt8) (0:Int) ([]:List UInt8) (0:Int) (0:Int) (0:Int) (0:Int) (0:Int) (0:Int) (0:Int) (0:Int) (0:Int) ((-1):Int) j)]) (cond (A2 j.length) (vl (Gm j ([47,47]:List UInt8)) λe=>cond (not (x3 ([47,47]:List UInt8) j)) (n ([]:List UInt8) ([]:List UInt8) 0 ([]:List UInt8) 0 0 0 0 0 0 0 0 0 0 ([]:List UInt8) 4 [bU0,(bU (B3 f) ([]:List UInt8) (0:Int) ([]:List UInt8) (0:Int) (0:Int) (0:Int) (0:Int) (0:Int) (0:Int) (0:Int) (0:Int) (0:Int) ((-1):Int) j)]) (cond (A2 e.length) (cond (Zy ([47,63,35]:List UInt8)) (vl (ab1 e ([47,63,35]:List UInt8)) λi=>cond (not (ltI i 0)) (cond (I7 0 i e.length) (cond (I7 (↑(b8 (cut e 0 i)):Int) (e.length:Int) e.length) (vl (cut e (↑(b8 (cut e 0 i)):Int) (e.length:Int)) λg=>cond (A2 g.length) (cond (not (x3 ([47]:List UInt8) g)) (cond (J7 1 g.length) (vl (([47]:List UInt8)++g) λl=>cond (A2 (b8 (B3 f))) (cond (A2 l.length) (cond (A2 (b8 (cut e 0 i))) (cond (((-1):Int)==((-1):Int)) (vl (G0 (B3 f) l (cut e 0 i)) λa=>n (uS a) (uU a) (uK a) (uN a) (uV a) (uA a 0) (uA a 1) (uA a 2) (uA a 3) (uA a 4) (uA a 5) (uA a 6) (uA a 7) (uP a) (uR a) (uE a) [(bQ a),(bU (B3 f) ([]:List UInt8) (0:Int) ([]:List UInt8) (0:Int) (0:Int) (0:Int) (0:Int) (0:Int) (0:Int) (0:Int) (0:Int) (0:Int) ((-1):Int) l)]) none) none) none) none) none) (cond (A2 (b8 (B3 f))) (cond (A2 g.length) (cond (A2 (b8 (cut e 0 i))) (cond (((-1):Int)==((-1):Int)) (vl (G0 (B3 f) g (cut e 0 i)) λb=>n (uS b) (uU b) (uK b) (uN b) (uV b) (uA b 0) (uA b 1) (uA b 2) (uA b 3) (uA b 4) (uA b 5) (uA b 6) (uA b 7) (uP b) (uR b) (uE b) [(bQ b),(bU (B3 f) ([]:List UInt8) (0:Int) ([]:List UInt8) (0:Int) (0:Int) (0:Int) (0:Int) (0:Int) (0:Int) (0:Int) (0:Int) (0:Int) ((-1):Int) g)]) none) none) none) none)) none) none) none) (cond (I7 (e.length:Int) (e.length:Int) e.length) (vl (cut e (e.length:Int) (e.length:Int)) λh=>cond (A2 h.length) (cond (not (x3 ([47]:List UInt8) h)) (cond (J7 1 h.length) (vl (([47]:List UInt8)++h) λm=>cond (A2 (b8 (B3 f))) (cond (A2 m.length) (cond (A2 e.length) (cond (((-1):Int)==((-1):Int)) (vl (G0 (B3 f) m e) λc=>n (uS c) (uU c) (uK c) (uN c) (uV c) (uA c 0) (uA c 1) (uA c 2) (uA c 3) (uA c 4) (uA c 5) (uA c 6) (uA c 7) (uP c) (uR c) (uE c) [(bQ c),(bU (B3 f) ([]:List UInt8) (0:Int) ([]:List UInt8) (0:Int) (0:Int) (0:Int) (0:Int) (0:Int) (0:Int) (0:Int) (0:Int) (0:Int) ((-1):Int) m)]) none) none) none) none) none) (cond (A2 (b8 (B3 f))) (cond (A2 h.length) (cond (A2 e.length) (cond (((-1):Int)==((-1):Int)) (vl (G0 (B3 f) h e) λd=>n (uS d) (uU d) (uK d) (uN d) (uV d) (uA d 0) (uA d 1) (uA d 2) (uA d 3) (uA d 4) (uA d 5) (uA d 6) (uA d 7) (uP d) (uR d) (uE d) [(bQ d),(bU (B3 f) ([]:List UInt8) (0:Int) ([]:List UInt8) (0:Int) (0:Int) (0:Int) (0:Int) (0:Int) (0:Int) (0:Int) (0:Int) (0:Int) ((-1):Int) h)]) none) none) none) none)) none) none)) none) none)) none)) none)) none)) none)
theorem C16(d:Nat)(s0):evC (Sp L) (d+1) Z Y 40 [pS s0] [] s=MA L s0 (λi j l m n o p q r8 r b c e f g h a=>some (.tup [(gU i j l m n o p q r8 r b c e f g),pI h],a,s)):=by refine(evE (fn:=aj2) (by kernel_rfl)).trans ?_;generalize evC (Sp L) d=Q;unfold MA;exact(c9 (by kernel_rfl) ((Bb0 L Q Y s (E6 0 (E5 (Sp L) Q Y (cd [1,1] B58) (F5 (Sp L) aj2))) L s0 (s0.length:Int) 0).trans (by kernel_rfl)))
noncomputable def TN(L:Nat):Cfg:=B6 L [42] (A3 []) [(22,Ps),(50,Am7),(51,QK)] (A3 [(9,[2]),(8,[1,1]),(7,[1,1,28]),(6,[1,1]),(5,[1,1]),(4,[1,1,15]),(3,[1,1]),(2,[2]),(1,[1,5]),(0,[1])]) [22,50,51] (A3 []) (some [2]) [] [] []
noncomputable def Rj{R:Type}(L:Nat)(l t:By)(u:Int)(m:By)(n o p q u8 r e f g b:Int)(a:By)(v:By->(List Blk)->Option R):Option R:=cond (not (C8 l)) (cond (J7 l.length 1) (vl (l++[58]) λw=>cond (J7 w.length a.length) (v (w++a) [(bU l t u m n o p q u8 r e f g b a)]) none) none) (cond (J7 l.length 3) (vl (l++[58,47,47]) λc=>cond (not (t==[])) (cond (J7 t.length 1) (vl (t++[64]) λh=>cond (J7 c.length h.length) (cond (A2 m.length) (cond (ltN n 4294967296) (cond (ok8 o p q u8 r e f g) (vl (T2 (mkH u m n (n8 o p q u8 r e f g))) λj=>cond (J7 (b8 (c++h)) j.length) (cond (b !=((-1):Int)) (cond (Dz b) (cond (J7 1 (b8 (Q6 b))) (vl (([58]:List UInt8)++(Q6 b)) λz=>cond (J7 (b8 ((c++h)++j)) z.length) (vl (((c++h)++j)++z) λA=>cond (J7 A.length a.length) (v (A++a) [(bU l t u m n o p q u8 r e f g b a)]) none) none) none) none) (cond (J7 (b8 ((c++h)++j)) a.length) (vl (((c++h)++j)++a) λx=>v x [(bU l t u m n o p q u8 r e f g b a)]) none)) none) none) none) none) none) none) (cond (A2 m.length) (cond (ltN n 4294967296) (cond (ok8 o p q u8 r e f g) (vl (T2 (mkH u m n (n8 o p q u8 r e f g))) λd=>cond (J7 c.length d.length) (cond (b !=((-1):Int)) (cond (Dz b) (cond (J7 1 (b8 (Q6 b))) (vl (([58]:List UInt8)++(Q6 b)) λi=>cond (J7 (b8 (c++d)) i.length) (cond (J7 (b8 ((c++d)++i)) a.length) (vl (((c++d)++i)++a) λy=>v y [(bU l t u m n o p q u8 r e f g b a)]) none) none) none) none) (cond (J7 (b8 (c++d)) a.length) (v ((c++d)++a) [(bU l t u m n o p q u8 r e f g b a)]) none)) none) none) none) none)) none)
theorem Ck0(d:Nat)(u0 u1 u2 u3 u4 u5 u6 u7 u8 u9 u10 u11 u12 u13 u14):evC (TN L) (d+1) Z Y 42 [(gU u0 u1 u2 u3 u4 u5 u6 u7 u8 u9 u10 u11 u12 u13 u14)] [] s=Rj L u0 u1 u2 u3 u4 u5 u6 u7 u8 u9 u10 u11 u12 u13 u14 (λb a=>some (pS b,a,s)):=by refine(evE (fn:=Tryz.f42) (by kernel_rfl)).trans ?_;generalize evC (TN L) d=Q;unfold Rj;kernel_rfl
noncomputable def Ze(L:Nat):Cfg:=B6 L [16] (A3 []) [(42,Bf4),(40,B45)] (A3 [(2,[2]),(1,[1,1,0]),(0,[1])]) [42] (A3 []) (some [2]) [] [] []
noncomputable def EM{R:Type}(L:Nat)(h i:By)(q:Int)(j:By)(l m n o u8 p b c d e:Int)(f:By)(r:Bool->(List Blk)->Option R):Option R:=cond (smU h i j f) (cond (ltN l 4294967296) (cond (ok8 m n o u8 p b c d) (cond (Dz e) (vl (Cf (mkU h i q j l (n8 m n o u8 p b c d) e f)) λg=>cond (A2 g.length) (vl (B8 g) λa=>cond ((uE a)==0) (r ((h==(uS a))&&((i==(uU a))&&((q==(uK a))&&((j==(uN a))&&((l==(uV a))&&((m==(uA a 0))&&((n==(uA a 1))&&((o==(uA a 2))&&((u8==(uA a 3))&&((p==(uA a 4))&&((b==(uA a 5))&&((c==(uA a 6))&&((d==(uA a 7))&&((e==(uP a))&&((f==(uR a))&&true))))))))))))))) [(bU h i q j l m n o u8 p b c d e f),(bQ a)]) (r false [(bU h i q j l m n o u8 p b c d e f),(bQ a)])) none) none) none) none) none
theorem Bb5(d:Nat)(u0 u1 u2 u3 u4 u5 u6 u7 u8 u9 u10 u11 u12 u13 u14):evC (Ze L) (d+1) Z Y 16 [(gU u0 u1 u2 u3 u4 u5 u6 u7 u8 u9 u10 u11 u12 u13 u14)] [] s=EM L u0 u1 u2 u3 u4 u5 u6 u7 u8 u9 u10 u11 u12 u13 u14 (λb a=>some (pB b,a,s)):=by refine(evE (fn:=Tryz.f16) (by kernel_rfl)).trans ?_;generalize evC (Ze L) d=Q;unfold EM;kernel_rfl
end
section
variable {Z R : Type} (L : Nat) (Q : G1) (Y : Yh Z) (s : Z) (k : Out -> St Z -> Option R)
noncomputable def Zc(L:Nat):Cfg:=B6 L [76] (A3 []) [] (A3 [(1,[2]),(0,[0])]) [] (A3 []) (some [2]) [] [] []
noncomputable def WL{R:Type}(L:Nat)(a:Int)(b:Bool->Option R):Option R:=b (ltI (8:Int) a)
theorem A97(d:Nat)(a:Int):evC (Zc L) (d+1) Z Y 76 [.s (.int .i64 a)] [] s=WL L a (λb=>some (.s (.bool b),[],s)):=by refine(evE (fn:=Tryz.f76) (by kernel_rfl)).trans ?_;generalize evC (Zc L) d=Q;unfold WL;kernel_rfl
noncomputable abbrev Uh:Code:=C6 ag6
noncomputable def Br(L:Nat):Cfg:=B6 L [101] (A3 []) [] (A3 [(5,[2]),(2,[2]),(4,[2]),(3,[10]),(1,[0,2]),(0,[0])]) [] (A3 [(0,[])]) (some [2]) [] [] []
noncomputable def Kv{R:Type}(a:Int)(d:Bool)(b:Unit->Option R)(c:Bool->Option R):Option R:=cond d (b ()) (cond (ltI (57343:Int) a) (cond (not (ltI (1114111:Int) a)) (b ()) (c (not (ltI (1114111:Int) a)))) (c false))
abbrev DD(b:Code):Prop:=∀(k:Out->St Z->Option R) (c:Int) (a:Bool),A9 (Br L) Q Y b ⟨gp [(0,.s (.int .i32 c)),(2,.s (.bool a))] 13,[],s⟩ k=Kv c a (λ_=>k .ret ⟨gp [(2,.s (.bool true))] 14,[],s⟩) (λd=>k .normal ⟨gp [(10,.s (.bool d))] 6,[],s⟩)
theorem XC:DD (R:=R) L Q Y s (cd [1,0,0,1] Uh):=by intro k b a;unfold Kv;kernel_rfl
noncomputable def KP{R:Type}(L:Nat)(b:Int)(a:Bool->Option R):Option R:=cond (not (ltI b (0:Int))) (Kv b (ltI b (55296:Int)) (λ_=>a true) (λc=>a false)) (Kv b false (λ_=>a true) (λd=>a false))
theorem B03(b:Code)(a:DD (R:=PV × List Blk × Z) L Q Y s b)(c:Int):A9 (Br L) Q Y (cd [] (G3 [1,0,0,1] b Uh)) ⟨[.s (.int .i32 c)]++tps 16,[],s⟩ (F5 (Br L) ag6)=KP L c (λc=>some (.s (.bool c),[],s)):=by unfold KP;exact let d:=(E6 0 (E5 (Br L) Q Y (cd [1,1] Uh) (F5 (Br L) ag6)));(c9 (by kernel_rfl) (A0 ((a d c (ltI c (55296:Int))).trans (by kernel_rfl)) ((a d c false).trans (by kernel_rfl))))
theorem B04(d:Nat)(a:Int):evC (Br L) (d+1) Z Y 101 [.s (.int .i32 a)] [] s=KP L a (λa=>some (.s (.bool a),[],s)):=
 (evE (fn:=ag6) (by kernel_rfl)).trans (c9 (by kernel_rfl) (B03 L (evC (Br L) d) Y s (cd [1,0,0,1] Uh) (XC L (evC (Br L) d) Y s) a))
noncomputable abbrev Ah:Code:=C6 ah6
noncomputable def L4(L:Nat):Cfg:=B6 L [75] (A3 [(38,[4,170]),(29,[0,3,2,0,0,4,0,0]),(25,[0,3,2,0,0,4,0]),(12,[0,3,2,0,0,2]),(5,[0,3,2,0,0])]) [(73,Uc),(101,GI)] (A3 [(35,[4]),(42,[4]),(41,[4]),(40,[5,169,5]),(39,[5,0,168]),(38,[175,0,0]),(37,[175]),(44,[4]),(33,[4]),(22,[4]),(21,[8,0,3,94]),(20,[8,0,3]),(26,[0,6,0,0,4,0]),(32,[4]),(30,[0,6,0,0,4,0,0]),(31,[0,6,0,0,4,0,0,139]),(29,[0,6,0,0,4,0,0,126]),(28,[0,6,0,0,4,0,0]),(27,[0,6,0,0,4,0,123]),(25,[0,6,0,0,4,0,108]),(24,[0,6,0,0,4,0]),(23,[0,6,0,0,4]),(19,[4]),(18,[0,6,0,0,88]),(17,[0,6,0,0,0]),(16,[0,6,0,0,0]),(15,[4]),(13,[0,6,0,0,2]),(14,[0,6,0,0,2,51]),(12,[0,6,0,0,2,38]),(11,[0,6,0,0,2]),(10,[0,6,0,0]),(9,[4]),(8,[0,6,0,0,1,31]),(7,[0,6,0,0,1]),(6,[0,6,0,0,23]),(5,[0,6,0,0,16]),(4,[0,6,0,0]),(3,[0,6,0,0]),(2,[0,6,0]),(1,[0,6]),(43,[0,0,181]),(36,[0,0,169]),(34,[0,0,158]),(0,[0,0])]) [73,101] (A3 [(0,[4]),(9,[]),(10,[175]),(5,[]),(6,[0,6,0,0,4,0]),(7,[8,0]),(8,[0,6,0,0,4,0,0]),(1,[]),(2,[0,6,0,0]),(3,[8,0]),(4,[0,6,0,0,2])]) (some [4]) [] [] []
noncomputable def Dk{R:Type}(L n:Nat)(self:Nat->Option R)(a:Nat)(c:Int->Nat->Option R)(d:Nat->Option R):Option R:=cond (decide (a<3)) (vl ((x5 ⟨w9 (([47,63,35]:List UInt8))⟩ a)).1 λb=>cond (b==(65533:Int)) (c (↑a:Int) (a+((x5 ⟨w9 (([47,63,35]:List UInt8))⟩ a)).2)) (self (a+((x5 ⟨w9 (([47,63,35]:List UInt8))⟩ a)).2))) (d a)
noncomputable def Z3{R:Type}(L n:Nat)(a:Nat)(b:Int->Nat->Option R)(c:Nat->Option R):Option R:=Ce3 (α:=Nat->Option R) (λ_=>none) (λn self a=>Dk L n self a b c) n a
theorem Eh{R:Type}(L n:Nat)(a:Nat)(b:Int->Nat->Option R)(c:Nat->Option R):Z3 L (n+1) a b c=Dk L n (λa=>Z3 L n a b c) a b c:=rfl
theorem WH(n:Nat)(a:Nat):D0 1 ((L4 L).keep 38) (bd (L4 L) Q Y (cd [1,0,1,1,1,0,0,1,0,0] Ah)) n ⟨gp [(175,.it 0)] 11,[.iter (([47,63,35]:List UInt8)) a],s⟩ k =
 Z3 L n a (λn0 c=>k .ret ⟨gp [(4,.s (.int .i64 n0))] 182,[.iter (([47,63,35]:List UInt8)) c],s⟩) (λa=>k (.exit 9) ⟨gp [] 187,[.iter (([47,63,35]:List UInt8)) a],s⟩):=by
 induction n generalizing a with
 | zero=>rfl
 | succ n b=>rw[Eh];unfold Dk;exact(c9 (by kernel_rfl) (A0 (A4 λd=>(A0 rfl (b (a+((x5 ⟨w9 (([47,63,35]:List UInt8))⟩ a)).2)))) rfl))
noncomputable def Tq{R:Type}(L n:Nat)(self:By->Int->Int->Int->Option R)(b:By)(a f c:Int)(g:Int->Int->Option R):Option R:=cond (ltI c (↑(b8 b):Int)) (cond (inR (A1 (f-c)) 3) (vl (bAt (([47,63,35]:List UInt8)) (A1 (f-c))) λd=>cond (inR (A1 (a-c)) (b8 b)) (vl (bAt b (A1 (a-c))) λe=>cond (d !=e) (none) (self b a f (A1 (c+(1:Int))))) (none)) (none)) (g a f)
noncomputable def Kq{R:Type}(L n:Nat)(b:By)(a c d:Int)(e:Int->Int->Option R):Option R:=Ce3 (α:=By->Int->Int->Int->Option R) (λ_ _ _ _=>none) (λn self b a c d=>Tq L n self b a c d e) n b a c d
theorem Aj0{R:Type}(L n:Nat)(b:By)(a c d:Int)(e:Int->Int->Option R):Kq L (n+1) b a c d e=Tq L n (λb a c d=>Kq L n b a c d e) b a c d e:=rfl
theorem Xa(n:Nat)(b:By)(a d e:Int):D0 0 ((L4 L).keep 12) (bd (L4 L) Q Y (cd [1,0,1,1,1,1,1,1,0,1,1,1,1,0,0,0,1,0,0,1,0,1,0,0] Ah)) n ⟨gp [(0,.s (.str (([47,63,35]:List UInt8)))),(6,.s (.str b)),(0,.s (.int .i64 a)),(0,.s (.int .i64 d)),(2,.s (.int .i64 e))] 174,[],s⟩ k =
 Kq L n b a d e (λc h=>k (.exit 3) ⟨gp [(8,.s (.int .i64 c)),(0,.s (.int .i64 h))] 177,[],s⟩):=by
 induction n generalizing b a d e with
 | zero=>rfl
 | succ n i=>rw[Aj0];unfold Tq;exact(c9 (by kernel_rfl) (A0 (A0 (A4 λf=>(A0 (A4 λg=>(A0 rfl (i b a d (A1 (e+(1:Int)))))) rfl)) rfl) rfl))
noncomputable def Mp{R:Type}(L n:Nat)(self:By->Int->Option R)(b:By)(a:Int)(m:Int->Option R)(o:Unit->Option R):Option R:=cond (ltI a (3:Int)) (cond (inR a 3) (vl (bAt (([47,63,35]:List UInt8)) a) λj=>cond (inR a (b8 b)) (cond (j !=(bAt b a)) (vl (A1 (a+(1:Int))) λe=>cond (I7 e (3:Int) 3) (vl (cut (([47,63,35]:List UInt8)) e (3:Int)) λg=>cond (inR a (b8 b)) (cond (A2 (b8 g)) (cond (inR (bAt b a) 256) (vl (k9 g (u8n (bAt b a))) λf=>cond (ltI f (0:Int)) (m (-1)) (vl (A1 (f+(1:Int))) λl=>Kq L L b a (A1 (a+l)) 1 (λc h=>m (A1 (h-c))))) (none)) (none)) (none)) (none)) (Kq L L b a a 1 (λd i=>m (A1 (i-d))))) (none)) (none)) (o ())
noncomputable def Ga{R:Type}(L n:Nat)(b:By)(a:Int)(c:Int->Option R)(d:Unit->Option R):Option R:=Ce3 (α:=By->Int->Option R) (λ_ _=>none) (λn self b a=>Mp L n self b a c d) n b a
theorem CY{R:Type}(L n:Nat)(b:By)(a:Int)(c:Int->Option R)(d:Unit->Option R):Ga L (n+1) b a c d=Mp L n (λb a=>Ga L n b a c d) b a c d:=rfl
theorem WI(n:Nat)(b:By)(a:Int):D0 0 ((L4 L).keep 5) (bd (L4 L) Q Y (cd [1,0,1,1,1,1,1,1,0,1,1,1,1,0,0,0] Ah)) n ⟨gp [(0,.s (.str (([47,63,35]:List UInt8)))),(6,.s (.str b)),(0,.s (.int .i64 a)),(0,.s (.int .i64 a))] 177,[],s⟩ k =
 Ga L n b a (λn0=>k .ret ⟨gp [(4,.s (.int .i64 n0))] 182,[],s⟩) (λ_=>k (.exit 1) ⟨gp [] 187,[],s⟩):=by
 induction n generalizing b a with
 | zero=>rfl
 | succ n i=>rw[CY];unfold Mp;exact let d:=(E6 3 (E5 (L4 L) Q Y (cd [1,0,1,1,1,1,1,1,0,1,1,1,1,0,0,0,1,0,0,1,1] Ah) (E6 2 (lpK 0 ((L4 L).keep 5) (bd (L4 L) Q Y (cd [1,0,1,1,1,1,1,1,0,1,1,1,1,0,0,0] Ah)) n k))));(c9 (by kernel_rfl) (A0 (A0 (A4 λe=>(A0 (A0 (A4 λf=>(A0 (A4 λh=>(A0 (A0 (A0 (A4 λg=>(A0 rfl (A4 λc=>((Xa L Q Y s d L b a (A1 (a+c)) 1).trans (by kernel_rfl))))) rfl) rfl) rfl)) rfl)) ((Xa L Q Y s d L b a a 1).trans (by kernel_rfl))) rfl)) rfl) rfl))
noncomputable def Kp{R:Type}(L:Nat)(b:Int)(l:Bool)(d:Int->Option R)(j:Int->Nat->Option R):Option R:=cond l (cond (inR (wu8 b) 256) (vl (k9 (([47,63,35]:List UInt8)) (u8n (wu8 b))) λg=>d g) (none)) (cond (b==(65533:Int)) (Z3 L L 0 (λi e=>j i e) (λf=>j (-1) f)) (cond (not (KQ b)) (d (-1)) (vl (ac0 b).data.toList λc=>vl (A1 ((↑(b8 c):Int)-(1:Int))) λh=>Ga L L c h (λa=>d a) (λ_=>d (-1)))))
abbrev CX(b:Code):Prop:=∀(k:Out->St Z->Option R) (c:Int) (a:Bool),A9 (L4 L) Q Y b ⟨gp [(0,.s (.str (([47,63,35]:List UInt8)))),(0,.s (.int .i32 c)),(158,.s (.bool a))] 26,[],s⟩ k=Kp L c a (λn0=>k .ret ⟨gp [(4,.s (.int .i64 n0))] 182,[],s⟩) (λn0 d=>k .ret ⟨gp [(4,.s (.int .i64 n0))] 182,[.iter (([47,63,35]:List UInt8)) d],s⟩)
theorem WG:CX (R:=R) L Q Y s (cd [1,0,1] Ah):=by intro k e d;unfold Kp;exact(c9 (by kernel_rfl) (A0 (A0 (A4 λc=>rfl) rfl) (A0 ((WH L Q Y s (E6 9 (E5 (L4 L) Q Y (cd [1,0,1,1,1,0,1] Ah) k)) L 0).trans (by kernel_rfl)) (A0 rfl (A4 λb=>(A4 λa=>((WI L Q Y s (E6 1 (E5 (L4 L) Q Y (cd [1,0,1,1,1,1,1,1,0,1,1,1,1,1] Ah) k)) L b a).trans (by kernel_rfl))))))))
noncomputable def KI{R:Type}(L:Nat)(r:Int)(g:Int->Option R)(h:Int->Nat->Option R):Option R:=cond (not (ltI r (0:Int))) (Kp L r (ltI r (128:Int)) (λc=>g c) (λd a=>h d a)) (Kp L r false (λe=>g e) (λf b=>h f b))
theorem By1(b:Code)(a:CX (R:=PV × List Blk × Z) L Q Y s b)(r:Int):A9 (L4 L) Q Y (cd [] (G3 [1,0,1] b Ah)) ⟨[.s (.str (([47,63,35]:List UInt8))),.s (.int .i32 r)]++tps 185,[],s⟩ (F5 (L4 L) ah6)=KI L r (λc=>some (.s (.int .i64 c),[],s)) (λc e=>some (.s (.int .i64 c),[.iter (([47,63,35]:List UInt8)) e],s)):=by unfold KI;exact let d:=(E6 0 (F5 (L4 L) ah6));(c9 (by kernel_rfl) (A0 ((a d r (ltI r (128:Int))).trans (by kernel_rfl)) ((a d r false).trans (by kernel_rfl))))
theorem By2(d:Nat)(r:Int):evC (L4 L) (d+1) Z Y 75 [.s (.str (([47,63,35]:List UInt8))),.s (.int .i32 r)] [] s=KI L r (λa=>some (.s (.int .i64 a),[],s)) (λa b=>some (.s (.int .i64 a),[.iter (([47,63,35]:List UInt8)) b],s)):=
 (evE (fn:=ah6) (by kernel_rfl)).trans (c9 (by kernel_rfl) (By1 L (evC (L4 L) d) Y s (cd [1,0,1] Ah) (WG L (evC (L4 L) d) Y s) r))
noncomputable abbrev YI:Code:=C6 ah3
noncomputable def Gh(L:Nat):Cfg:=B6 L [58] (A3 [(18,[1,2,40]),(12,[0,3,1,1])]) [(75,GC),(76,Yj),(77,Nv)] (A3 [(22,[4]),(21,[4]),(20,[1,7,35,7]),(19,[1,7,0,34]),(18,[1,43,0,0]),(17,[1,43]),(16,[4]),(13,[0,5,1]),(15,[4]),(14,[0,5,1,33]),(12,[0,5,1,27]),(11,[0,5,1]),(10,[0,0,4,25]),(9,[0,0,4,0]),(8,[0,0,24]),(7,[4]),(6,[0,4]),(5,[0,4,14]),(4,[0,4]),(3,[0,0,13]),(2,[4]),(1,[0,0,10]),(0,[0,0])]) [75,76] (A3 [(2,[]),(3,[1,43]),(0,[]),(1,[0,5,1])]) (some [4]) [] [] []
noncomputable def Y1{R:Type}(L n:Nat)(self:By->Nat->Option R)(b:By)(a:Nat)(d:Int->(List Blk)->Option R)(e:By->Nat->Option R):Option R:=cond (decide (a<(b8 b))) (vl ((x5 ⟨w9 b⟩ a)).1 λc=>cond (Zy (([47,63,35]:List UInt8))) (cond (ltN c 1114112) (cond (not (ltI (irn c) (0:Int))) (d (↑a:Int) [(Blk.iter b (a+((x5 ⟨w9 b⟩ a)).2))]) (self b (a+((x5 ⟨w9 b⟩ a)).2))) (none)) (none)) (e b a)
noncomputable def Ko{R:Type}(L n:Nat)(b:By)(a:Nat)(c:Int->(List Blk)->Option R)(d:By->Nat->Option R):Option R:=Ce3 (α:=By->Nat->Option R) (λ_ _=>none) (λn self b a=>Y1 L n self b a c d) n b a
theorem Bj{R:Type}(L n:Nat)(b:By)(a:Nat)(c:Int->(List Blk)->Option R)(d:By->Nat->Option R):Ko L (n+1) b a c d=Y1 L n (λb a=>Ko L n b a c d) b a c d:=rfl
theorem WF(n:Nat)(b:By)(a:Nat):D0 1 ((Gh L).keep 18) (bd (Gh L) Q Y (cd [1,1,1,1,0,1,0,0] YI)) n ⟨gp [(1,.s (.str (([47,63,35]:List UInt8)))),(43,.it 0)] 9,[.iter b a],s⟩ k =
 Ko L n b a (λn0 c=>k .ret ⟨gp [(4,.s (.int .i64 n0))] 50,c,s⟩) (λb a=>k (.exit 2) ⟨gp [] 55,[.iter b a],s⟩):=by
 induction n generalizing b a with
 | zero=>rfl
 | succ n d=>rw[Bj];unfold Y1;exact(c9 (by kernel_rfl) (A0 (A4 λe=>(A0 (A0 (A0 rfl (d b (a+((x5 ⟨w9 b⟩ a)).2))) rfl) rfl)) rfl))
noncomputable def WE{R:Type}(L:Nat)(t:By)(e:Int->(List Blk)->Option R):Option R:=cond (ltI (8:Int) (↑(b8 t):Int)) (none) (Ko L L t 0 (λc a=>e c a) (λd b=>e (-1) [(Blk.iter d b)]))
theorem Bx9(d:Nat)(t:By):evC (Gh L) (d+1) Z Y 58 [.s (.str t),.s (.str (([47,63,35]:List UInt8)))] [] s=WE L t (λb a=>some (.s (.int .i64 b),a,s)):=by refine(evE (fn:=ah3) (by kernel_rfl)).trans ?_;generalize evC (Gh L) d=Q;unfold WE;exact(c9 (by kernel_rfl) (A0 rfl ((WF L Q Y s (E6 2 (E5 (Gh L) Q Y (cd [1,1,1,1,1] YI) (F5 (Gh L) ah3))) L t 0).trans (by kernel_rfl))))
end
end
section
open Go
theorem Ju{c:UInt8}{s:By}(h:c∉s):w6 s [c]=(s,[],false):=by unfold w6;rw[Ss h,if_neg (by decide)]
theorem Q5{c:UInt8}{p r:By}(h:c∉p):w6 (p++c::r) [c]=(p,r,true):=by unfold w6;rw[Zx h,P9,j8,ab0,j9];rw[show p++c::r=(p++[c])++r by simp,ae8 (by simp)]
def Bh:Int->By->Option Int
 | n,[]=>some n
 | n,b::r=>if 48<=b.toNat/\b.toNat<=57 then Bh (min (10*max n 0+((b.toNat-48:Nat):Int)) 65536) r else none
theorem DW:∀(s:By) (n:Int),Gv n s=(Bh n s).bind λm=>if m<65536 then some m else none
 | [],n=>rfl
 | b::r,n=>by
  rw[Gv,Bh];split
  ·exact DW r _
  ·rfl
theorem OB:∀(a b:By) (n:Int),Bh n (a++b)=(Bh n a).bind λm=>Bh m b
 | [],b,n=>rfl
 | x::a,b,n=>by
  rw[ad9,Bh,Bh];split
  ·exact OB a b _
  ·rfl
theorem Bs1:∀u:Nat,Bh (-1) (ad5 u)=some (min (u:Int) 65536):=by
 intro u
 induction u using ag8 with
 | _ u a=>
  by_cases h:u<10
  ·rw[Lib.decDigits_one h];have:(y5 (48+u)).toNat=48+u:=by simp;omega
   rw[Bh,this,P9,Bh]
   congr 1
   omega
  ·rw[V6 u h,OB,a (u / 10) (by omega)];have:(y5 (48+u % 10)).toNat=48+u % 10:=by simp;omega
   show Bh _ _=_;rw[Bh,this,P9,Bh]
   congr 1
   omega
theorem Cb8(p:Int)(a:0<=p)(b:p<=65535):Gv (-1) (Q6 p)=some p:=by
 obtain⟨u,rfl⟩:=aa0 a;unfold Q6;rw[F7,j8,DW,Bs1];show(if _ then _ else _)=_;rw[P9]
 congr 1
 omega
theorem IZ:∀(s:By) (n p:Int),-1<=n->Gv n s=some p->-1<=p/\p<65536
 | [],n,p,a,h=>by
  rw[Gv] at h;split at h
  ·rename_i c;obtain rfl:=j6 h;exact⟨a,c⟩
  ·cases h
 | b::r,n,p,a,h=>by
  rw[Gv] at h;split at h
  ·exact IZ r _ p (by omega) h
  ·cases h
theorem ZS{n:Nat}(h:n<16):K8 (Nl n)=true:=by
 rw[Bf];unfold Nl;split
 ·have:(y5 (48+n)).toNat=48+n:=by simp;omega
  omega
 ·have:(y5 (87+n)).toNat=87+n:=by simp;omega
  omega
theorem B93:∀x:Nat,∀b∈U7 x,K8 b=true:=by
 intro x
 induction x using ag8 with
 | _ x c=>
  intro b a;by_cases h:x<16
  ·rw[Bv h] at a;simp only[ab6] at a;subst a;exact ZS h
  ·rw[Bc h] at a;rcases x7.1 a with a|a
   ·exact c _ (by omega) b a
   ·simp only[ab6] at a;subst a;exact ZS (by omega)
theorem On{l:List Nat}{b:UInt8}(h:b∈N8 l):b=58\/K8 b=true:=by
 rcases Vt _ h with h|⟨x,c,a⟩
 ·exact .inl h
 ·obtain⟨n,_,rfl⟩:=List.mem_map.1 c;exact .inr (B93 n b a)
theorem Ck6{a:List Nat}{b:UInt8}(h:b∈Cn a):b=58\/K8 b=true:=by
 unfold Cn at h;split at h
 ·exact On h
 ·simp only[x7,p5] at h;rcases h with h|h|h|h
  ·exact On h
  ·exact .inl h
  ·exact .inl h
  ·exact On h
theorem Aw3{b:UInt8}(h:48<=b.toNat/\b.toNat<=57):K8 b=true:=(Bf b).2 (.inr (.inl h))
theorem NG{h:B2}(ok:Ap h)(a:K2 h=true):(∃m,T2 h=91::(m++[93])/\∀b∈m,b=58\/K8 b=true)\/(T2 h≠[]/\∀b∈T2 h,b=46\/K8 b=true):=by
 obtain⟨i,k,v4,v6⟩:=h;unfold T2;rw[if_pos a];unfold K2 at a;simp only at a ⊢;by_cases d:i=1
 ·subst d;simp only[if_true,s7,beq_iff_eq] at a ⊢;have:=Hr.1 a.1.1;exact .inr ⟨this.ne,this.byt⟩
 rw[if_neg d] at a ⊢;by_cases f:i=2
 ·subst f;simp only[if_true] at a ⊢;refine .inr ⟨λe=>?_,λb c=>?_⟩
  ·have g:=Ac5 v4 ok.v4;rw[e] at g;have j:(B9 []).1.kind=2:=by rw[g]
   exact absurd j (by decide)
  ·rcases Ak9 c with h|h
   ·exact .inl h
   ·exact .inr (Aw3 h)
 rw[if_neg f] at a ⊢;exact .inl ⟨_,rfl,λb c=>Ck6 c⟩
theorem Bo3{h:B2}(ok:Ap h)(i:K2 h=true){b:UInt8}(a:b∈T2 h):ctl b=false/\L5 b=false/\b≠64:=by
 have q:∀b:UInt8,(b=46\/b=58\/b=91\/b=93\/K8 b=true)->ctl b=false/\L5 b=false/\b≠64:=by
  intro b h;rcases h with rfl|rfl|rfl|rfl|h
  ·decide
  ·decide
  ·decide
  ·decide
  ·rw[Bf] at h;rcases h with h|h|rfl|rfl
   ·refine⟨?_,?_,λe=>?_⟩
    ·rw[aa6,ne_eq,Uk];omega
    ·have d:b≠47:=λe=>by rw[e] at h;simp at h
     have f:b≠63:=λe=>by rw[e] at h;simp at h
     have g:b≠35:=λe=>by rw[e] at h;simp at h
     simp[L5,d,f,g]
    ·rw[e] at h;simp at h
   ·refine⟨?_,?_,λe=>?_⟩
    ·rw[aa6,ne_eq,Uk];omega
    ·have d:b≠47:=λe=>by rw[e] at h;simp at h
     have f:b≠63:=λe=>by rw[e] at h;simp at h
     have g:b≠35:=λe=>by rw[e] at h;simp at h
     simp[L5,d,f,g]
    ·rw[e] at h;simp at h
   ·decide
   ·decide
 apply q;rcases NG ok i with⟨m,e,c⟩|⟨_,c⟩
 ·rw[e] at a;simp only[p5,x7,ae2,or_false] at a;rcases a with h|h|h
  ·simp[h]
  ·rcases c b h with h|h<;>simp[h]
  ·simp[h]
 ·rcases c b a with h|h<;>simp[h]
def Ke(s:By):Prop:=∀b∈s,ctl b=false
def Db1(s:By):Prop:=∀b∈s,L5 b=false
structure CU (u:R7):Prop where
 ns:C8 u.sch=false->S9 u.sch=true/\B3 u.sch=u.sch/\u.user=[]/\u.host=L0/\u.port=-1/\Ke u.rest
 sp:C8 u.sch=true->Ke u.user/\Db1 u.user/\Ap u.host/\K2 u.host=true/\(u.port=-1\/(0<=u.port/\u.port<=65535/\u.port≠G7 u.sch))/\(∃r,u.rest=47::r)/\Ke u.rest
theorem La{s:By}:s.any ctl=false↔Ke s:=by unfold Ke;rw[List.any_eq_false];exact⟨λh b a=>by simpa using h b a,λh b a=>by simp[h b a]⟩
theorem Ol{e user c a:By}(h:(M7 e user c a).2=0):∃f b,(M7 e user c a).1=⟨e,user,f,b,c⟩/\Ap f/\K2 f=true/\(b=-1\/(0<=b/\b<=65535/\b≠G7 e)):=by
 unfold M7 at h ⊢;cases i:Eb a with
 | none=>rw[i] at h;simp at h
 | some q=>
  obtain⟨name,tail⟩:=q;rw[i] at h;simp only at h ⊢;by_cases g:tail≠[]/\tail.head?≠some 58
  ·rw[if_pos g] at h;simp at h
  ·rw[if_neg g] at h ⊢;by_cases d:(B9 name).2≠0
   ·rw[if_pos d] at h;exact absurd h d
   ·rw[if_neg d] at h ⊢;cases j:Gv (-1) (tail.drop 1) with
    | none=>rw[j] at h;simp at h
    | some p=>
     have o:=IZ _ _ _ (by omega) j;obtain⟨m,n⟩:=Bt0 name;refine⟨_,_,rfl,m,n (by simpa using d),?_⟩;split
     ·exact .inl rfl
     ·rename_i l;by_cases k:p=-1
      ·exact .inl k
      ·exact .inr ⟨by omega,by omega,l⟩
theorem Lo{c user b a:By}(h:(M7 c user b a).2≠0):(M7 c user b a).1=Z5:=by
 unfold M7 at h ⊢;split
 ·rfl
 ·rename_i name tail f;rw[f] at h;simp only at h ⊢;split
  ·rfl
  ·rename_i d;rw[if_neg d] at h;split
   ·rfl
   ·rename_i e;rw[if_neg e] at h;split
    ·rfl
    ·rename_i p g;rw[g] at h;exact absurd rfl h
theorem Ax0(s:By):B3 (B3 s)=B3 s:=by
 unfold B3;rw[ai7];apply List.map_congr_left;intro b _;show W5 (W5 b)=W5 b;rcases J9 b with⟨_,e⟩|⟨_,e⟩|⟨c,d,e⟩
 ·rw[e,e]
 ·rw[e,e]
 ·rcases J9 (W5 b) with⟨_,a⟩|⟨_,a⟩|⟨f,g,_⟩
  ·exact a
  ·exact a
  ·omega
theorem Aw7(b:UInt8):P6 (W5 b)=P6 b:=by
 rw[s9,U2,U2];rcases J9 b with⟨_,e⟩|⟨_,e⟩|⟨a,c,e⟩
 ·rw[e]
 ·rw[e]
 ·omega
theorem UK{b c:UInt8}(f:c.toNat<65):W5 b=c↔b=c:=by
 rcases J9 b with⟨_,e⟩|⟨_,e⟩|⟨a,d,e⟩
 ·rw[e]
 ·rw[e]
 ·constructor
  ·intro h;rw[h] at e;omega
  ·intro h;subst h;omega
theorem Ai2(b:UInt8):K9 (W5 b)=K9 b:=by
 rw[s9,Eg,Eg,UK (by decide),UK (by decide),UK (by decide)];rcases J9 b with⟨_,e⟩|⟨_,e⟩|⟨a,c,e⟩
 ·rw[e]
 ·rw[e]
 ·constructor
  ·rintro(h|h|h|h)<;>first|omega|exact .inr (.inr (.inr h))
  ·rintro(h|h|h|h)<;>first|omega|exact .inr (.inr (.inr h))
theorem Ai4(s:By):S9 (B3 s)=S9 s:=by
 cases s with
 | nil=>rfl
 | cons b r=>
  show(P6 (W5 b)&&(r.map W5).all K9)=(P6 b&&r.all K9)
  rw[Aw7,List.all_map]
  congr 1
  apply List.all_congr rfl;intro b;exact Ai2 b
theorem WJ(r:By):∃t,R2 r=47::t:=by
 unfold R2;split
 ·rename_i h;cases r with
  | nil=>cases h
  | cons b t=>
   obtain rfl:=j6 h;exact⟨t,rfl⟩
 ·exact⟨r,rfl⟩
theorem Aj1{r:By}(h:Ke r):Ke (R2 r):=by
 unfold R2;split
 ·exact h
 ·intro b a;rcases p5.1 a with rfl|a
  ·decide
  ·exact h b a
theorem Bt7{j c a:By}(p:C8 j=true)(q:Ke a)(i:Db1 a)(o:Ke c)(f:∃r,c=47::r)(h:(G0 j c a).2=0):CU (G0 j c a).1:=by
 unfold G0 at h ⊢;by_cases n:0<=K5 64 a
 ·rw[if_pos n] at h ⊢;obtain⟨t,g,e,k,l,m⟩:=Ol h;rw[e];exact⟨λh=>(by rw[p] at h;cases h),λ_=>⟨λb d=>q b (ac4 d),λb d=>i b (ac4 d),k,l,m,f,o⟩⟩
 ·rw[if_neg n] at h ⊢;obtain⟨t,g,e,k,l,m⟩:=Ol h;rw[e];exact⟨λh=>(by rw[p] at h;cases h),λ_=>⟨λb d=>(by cases d),λb d=>(by cases d),k,l,m,f,o⟩⟩
theorem Ac2{s:By}(h:(B8 s).2=0):CU (B8 s).1:=by
 unfold B8 at h ⊢;cases f:s.any ctl with
 | true=>rw[f] at h;simp at h
 | false=>
  rw[f] at h;have j:=La.1 f;simp only[p4,if_false] at h ⊢;rcases Q1 58 s with c|⟨p,r,rfl,c⟩
  ·rw[Ju c] at h;simp at h
  ·rw[Q5 c] at h ⊢;have k:Ke p:=λb d=>j b (by simp[d])
   have g:Ke r:=λb d=>j b (by simp[d])
   cases a:S9 p with
   | false=>rw[a] at h;simp at h
   | true=>
    rw[a] at h;simp only[j4,ai3,p4,if_false] at h ⊢;cases e:C8 (B3 p) with
    | false=>
     simp only[p6,if_true];exact⟨λ_=>⟨by rw[Ai4];exact a,Ax0 p,rfl,rfl,rfl,g⟩,λh=>(by simp only at h;rw[e] at h;cases h)⟩
    | true=>
     rw[e] at h;simp only[j4,p4,if_false] at h ⊢;cases i:([47,47]:By).isPrefixOf r with
     | false=>rw[i] at h;simp at h
     | true=>
      rw[i] at h;simp only[j4,p4,if_false] at h ⊢;exact Bt7 e (λb d=>g b (x4 (ac4 d))) (A92 _) (Aj1 λb d=>g b (x4 (x4 d))) (WJ _) h
theorem A01{d b a:By}(h:(G0 d b a).2≠0):(G0 d b a).1=Z5:=by
 unfold G0 at h ⊢;split
 ·rename_i c;rw[if_pos c] at h;exact Lo h
 ·rename_i c;rw[if_neg c] at h;exact Lo h
theorem OF{s:By}(h:(B8 s).2≠0):(B8 s).1=Z5:=by
 unfold B8 at h ⊢;split
 ·rfl
 ·rename_i b;rw[if_neg b] at h;split
  ·rfl
  ·rename_i c;rw[if_neg c] at h;split
   ·rename_i a;rw[if_pos a] at h;exact absurd rfl h
   ·rename_i a;rw[if_neg a] at h;split
    ·rfl
    ·rename_i d;rw[if_neg d] at h;exact A01 h
theorem CW{s:By}(h:C8 s=true):S9 s=true/\B3 s=s/\(58:UInt8)∉s/\Ke s:=by
 rcases LX h with rfl|rfl|rfl|rfl
 ·exact⟨by decide,by decide,by decide,La.1 (by decide)⟩
 ·exact⟨by decide,by decide,by decide,La.1 (by decide)⟩
 ·exact⟨by decide,by decide,by decide,La.1 (by decide)⟩
 ·exact⟨by decide,by decide,by decide,La.1 (by decide)⟩
theorem KB{b:UInt8}(h:K9 b=true):b≠58/\ctl b=false:=by
 rw[Eg] at h;refine⟨λe=>?_,?_⟩
 ·subst e
  revert h
  decide
 ·rw[aa6,ne_eq,Uk];rcases h with h|h|h|rfl|rfl|rfl
  ·omega
  ·omega
  ·omega
  ·decide
  ·decide
  ·decide
theorem Bx8{s:By}(h:S9 s=true):(58:UInt8)∉s/\Ke s/\s≠[]:=by
 cases s with
 | nil=>cases h
 | cons b r=>
  simp only[S9,s7,List.all_eq_true] at h;have c:K9 b=true:=by unfold K9;rw[h.1];rfl
  have q:∀x∈b::r,K9 x=true:=λx a=>by
   rcases p5.1 a with rfl|a
   ·exact c
   ·exact h.2 x a
  exact⟨λd=>(KB (q 58 d)).1 rfl,λx a=>(KB (q x a)).2,by simp⟩
theorem Rc{p user c:By}{h:B2}{a:Int}(ok:Ap h)(o:K2 h=true)(w:a=-1\/(0<=a/\a<=65535/\a≠G7 p)) :
  M7 p user c (T2 h++(if a=-1 then [] else 58::Q6 a))=(⟨p,user,h,a,c⟩,0):=by
 have key:∀tail:By,(tail=[]\/tail.head? = some 58)->Eb (T2 h++tail)=some (T2 h,tail):=by
  intro tail i;unfold Eb;rcases NG ok o with⟨m,e,g⟩|⟨n,g⟩
  ·have k:(93:UInt8)∉91::m:=by
    intro d;rcases p5.1 d with d|d
    ·exact absurd d (by decide)
    ·rcases g 93 d with h|h
     ·exact absurd h (by decide)
     ·exact absurd h (by decide)
   have q:T2 h++tail=(91::m)++93::tail:=by rw[e];simp
   rw[if_pos (by rw[e];rfl),q,Vk tail k];simp only;have u:(91::m)++93::tail=T2 h++tail:=q.symm;have v:(91::m).length+1=(T2 h).length:=by rw[e];simp
   rw[u,v,ab0,af3]
  ·have f:(58:UInt8)∉T2 h:=by
    intro d;rcases g 58 d with h|h
    ·exact absurd h (by decide)
    ·exact absurd h (by decide)
   have l:(T2 h++tail).head?≠some 91:=by
    cases r:T2 h with
    | nil=>exact absurd r n
    | cons b t=>
     rw[r] at g;intro e;obtain rfl:=j6 e;rcases g 91 (by simp) with h|h
     ·exact absurd h (by decide)
     ·exact absurd h (by decide)
   rw[if_neg l];rcases i with rfl|i
   ·rw[ae7,NP f]
   ·cases tail with
    | nil=>cases i
    | cons b t=>
     obtain rfl:=j6 i;rw[Vk t f];simp only;rw[ab0,af3]
 unfold M7;by_cases j:a=-1
 ·subst j;rw[if_pos rfl,key [] (.inl rfl)];simp only;rw[if_neg (by simp),ID ok o];simp only[ne_eq,not_true_eq_false,if_false];have:Gv (-1) (List.drop 1 ([]:By))=some (-1):=by rfl
  rw[this];simp
 ·rw[if_neg j,key (58::Q6 a) (.inr rfl)];obtain⟨x,y,z⟩:=w.resolve_left j;simp only;rw[if_neg (by simp),ID ok o];simp only[ne_eq,not_true_eq_false,if_false,ac6,aa9];rw[Cb8 a x y];simp only;rw[if_neg z]
theorem Av6{p:Int}(a:0<=p){b:UInt8}(h:b∈Q6 p):48<=b.toNat/\b.toNat<=57:=by unfold Q6 at h;rw[F7] at h;exact Zg _ b h
theorem C96{b:UInt8}(h:48<=b.toNat/\b.toNat<=57):ctl b=false/\L5 b=false/\b≠64:=by
 refine⟨?_,?_,λe=>?_⟩
 ·rw[aa6,ne_eq,Uk];omega
 ·have a:b≠47:=λe=>by rw[e] at h;simp at h
  have c:b≠63:=λe=>by rw[e] at h;simp at h
  have d:b≠35:=λe=>by rw[e] at h;simp at h
  simp[L5,a,c,d]
 ·rw[e] at h;simp at h
theorem ZT{h:B2}{a:Int}{g:By}(ok:Ap h)(f:K2 h=true)(e:a=-1\/(0<=a/\a<=65535/\a≠G7 g)){b:UInt8}(c:b∈T2 h++(if a=-1 then [] else 58::Q6 a)):ctl b=false/\L5 b=false/\b≠64:=by
 rcases x7.1 c with c|c
 ·exact Bo3 ok f c
 ·by_cases d:a=-1
  ·rw[if_pos d] at c;cases c
  ·rw[if_neg d] at c;rcases p5.1 c with rfl|c
   ·decide
   ·exact C96 (Av6 (e.resolve_left d).1 c)
theorem XM{u:R7}(h:CU u):B8 (Cf u)=(u,0):=by
 obtain⟨e,user,d,a,n⟩:=u;obtain⟨j,l⟩:=h;simp only at j l;unfold Cf;simp only;cases k:C8 e with
 | false=>
  obtain⟨o,p,rfl,rfl,rfl,F⟩:=j k;obtain⟨w,x,D⟩:=Bx8 o;have z:(e++58::n).any ctl=false:=La.2 λb c=>by
   simp only[x7,p5] at c;rcases c with c|rfl|c
   ·exact x b c
   ·decide
   ·exact F b c
  simp only[p4,if_false];unfold B8;rw[z,Q5 w];simp only[p4,if_false];rw[o,p,k];simp
 | true=>
  obtain⟨o,p,q,t,v,⟨r,rfl⟩,G⟩:=l k;obtain⟨w,x,D,H⟩:=CW k;have y:=λb (c:b∈T2 d++(if a=-1 then [] else 58::Q6 a))=>ZT q t v c
  simp only[if_true];have g:∀b∈Na ⟨e,user,d,a,47::r⟩,ctl b=false/\L5 b=false:=by
   intro b c;unfold Na at c;simp only at c;rcases x7.1 c with c|c
   ·by_cases m:user=[]
    ·rw[if_pos m] at c;cases c
    ·rw[if_neg m] at c;rcases x7.1 c with c|c
     ·exact⟨o b c,p b c⟩
     ·simp only[ab6] at c;subst c
      decide
   ·exact⟨(y b c).1,(y b c).2.1⟩
  have A:G0 e (47::r) (Na ⟨e,user,d,a,47::r⟩)=(⟨e,user,d,a,47::r⟩,0):=by
   have i:(64:UInt8)∉T2 d++(if a=-1 then [] else 58::Q6 a):=λI=>(y 64 I).2.2 rfl
   unfold G0 Na;simp only;by_cases m:user=[]
   ·subst m;rw[if_pos rfl,ae9,Lt i,if_neg (by decide)];exact Rc q t v
   ·rw[if_neg m,List.append_assoc,List.singleton_append,Qd user i,P9,j8,ab0];have:List.drop (user.length+1) (user++64::(T2 d++(if a=-1 then [] else 58::Q6 a)))=T2 d++(if a=-1 then [] else 58::Q6 a):=by
     rw[show user++64::(T2 d++(if a=-1 then [] else 58::Q6 a))=(user++[64])++(T2 d++(if a=-1 then [] else 58::Q6 a)) by simp,ae8 (by simp)]
    rw[this];exact Rc q t v
  generalize Na ⟨e,user,d,a,47::r⟩=f at *;have z:(e++58::47::47::(f++47::r)).any ctl=false:=La.2 λb c=>by
   simp only[x7,p5] at c;rcases c with c|rfl|rfl|rfl|c|c
   ·exact H b c
   ·decide
   ·decide
   ·decide
   ·exact(g b c).1
   ·exact G b (by simpa using c)
  have C:I1 (f++47::r)=f.length:=AU (λb c=>(g b c).2) (λb c=>by obtain rfl:=j6 c;decide);unfold B8;rw[z,Q5 D];simp only[p4,if_false];rw[w,x,k];have Om:([47,47]:By).isPrefixOf (47::47::(f++47::r))=true:=by simp[x3]
  rw[Om];simp only[j4,ai3,p4,if_false,ac6,aa9];rw[C,ab0,af3];have B:R2 (47::r)=47::r:=if_pos rfl;rw[B];exact A
theorem Vj(c user b a:By):(M7 c user b a).1.sch.length<=c.length/\(M7 c user b a).1.user.length<=user.length/\(M7 c user b a).1.rest.length<=b.length:=by
 by_cases h:(M7 c user b a).2=0
 ·obtain⟨f,d,e,_⟩:=Ol h;rw[e];exact⟨ab9 _,ab9 _,ab9 _⟩
 ·rw[Lo h];exact⟨aa3 _,aa3 _,aa3 _⟩
theorem A02(c b a:By):(G0 c b a).1.sch.length<=c.length/\(G0 c b a).1.user.length<=a.length/\(G0 c b a).1.rest.length<=b.length:=by
 unfold G0;split
 ·obtain⟨d,e,f⟩:=Vj c (a.take (K5 64 a).toNat) b (a.drop ((K5 64 a).toNat+1));rw[j5] at e;exact⟨d,by omega,f⟩
 ·obtain⟨d,e,f⟩:=Vj c [] b a;simp only[x6] at e;exact⟨d,by omega,f⟩
theorem Aj2(r:By):(R2 r).length<=r.length+1:=by
 unfold R2;split
 ·omega
 ·simp
theorem Bt2(s:By):(B8 s).1.sch.length<=s.length/\(B8 s).1.user.length<=s.length/\(B8 s).1.rest.length<=s.length+1:=by
 have z:Z5.sch.length<=s.length/\Z5.user.length<=s.length/\Z5.rest.length<=s.length+1:=⟨aa3 _,aa3 _,aa3 _⟩
 unfold B8;split
 ·exact z
 ·rcases Q1 58 s with a|⟨p,r,rfl,a⟩
  ·rw[Ju a];exact z
  ·rw[Q5 a];have b:(p++58::r).length=p.length+r.length+1:=by rw[j2,j0];omega
   simp only;split
   ·exact z
   ·split
    ·simp only[Y7,x6];omega
    ·split
     ·exact z
     ·obtain⟨c,d,e⟩:=A02 (B3 p) (R2 ((r.drop 2).drop (I1 (r.drop 2)))) ((r.drop 2).take (I1 (r.drop 2)));have f:=Aj2 ((r.drop 2).drop (I1 (r.drop 2)));simp only[j5,j1,Y7] at c d e f;omega
structure XO (u:R7):Prop where
 host:Ap u.host
 port:-1<=u.port/\u.port<65536
theorem AG:Ap L0:=⟨by decide,Bm5,by decide⟩
theorem CU.ok{u:R7}(h:CU u):XO u:=by
 cases hs:C8 u.sch with
 | false=>
  obtain⟨_,_,_,a4,a5,_⟩:=h.ns hs;exact⟨by rw[a4];exact AG,by omega⟩
 | true=>
  obtain⟨_,_,a3,_,a5,_⟩:=h.sp hs;exact⟨a3,by omega⟩
theorem Ac3(s:By):XO (B8 s).1:=by
 by_cases h:(B8 s).2=0
 ·exact(Ac2 h).ok
 ·rw[OF h];exact⟨AG,by decide,by decide⟩
theorem B78(h:B2):eqH h h=true:=by simp[eqH]
theorem B79(u:R7):eqU u u=true:=by simp[eqU,B78]
theorem B21{u:R7}(h:CU u):Hs u=true:=by unfold Hs;rw[XM h,B79];rfl
theorem Cb4{m n j l:By}{h v4:Nat}{a b c d e f g i:Nat}{k:Int}(o:h<4):mkU m n (h:Int) j (v4:Int) (n8 a b c d e f g i) k l=⟨m,n,⟨h,j,v4,[a,b,c,d,e,f,g,i]⟩,k,l⟩:=by unfold mkU Cb2 n8;rw[if_pos (E2.2 ⟨by omega,by omega⟩)];simp only[j8]
theorem Bt1{s:By}(h:s.length<=2048):E1 s=B8 s:=F7
theorem OE(s:By):XO (E1 s).1:=by
 unfold E1;split
 ·exact⟨AG,by decide,by decide⟩
 ·exact Ac3 s
theorem Ay7{s:By}(h:(E1 s).2≠0):(E1 s).1=Z5:=by
 unfold E1 at h ⊢;split
 ·rfl
 ·rename_i c;rw[if_neg c] at h;exact OF h
theorem Qg{s:By}(h:(E1 s).2=0):CU (E1 s).1:=by
 unfold E1 at h ⊢;split
 ·rename_i c;rw[if_pos c] at h;cases h
 ·rename_i c;rw[if_neg c] at h;exact Ac2 h
theorem JG(s:By):(E1 s).1.sch.length<=s.length/\(E1 s).1.user.length<=s.length/\(E1 s).1.rest.length<=s.length+1:=by
 unfold E1;split
 ·exact⟨aa3 _,aa3 _,aa3 _⟩
 ·exact Bt2 s
theorem Jz{n:Int}:Dz n=true↔-9223372036854775808<=n/\n<9223372036854775808:=by unfold Dz;rw[E2];constructor<;>rintro⟨a,b⟩<;>constructor<;>omega
theorem Je(c:UInt8):∀s:By,k9 s c=match Gs c s with|some k=>(k:Int)|none=>-1
 | []=>rfl
 | b::r=>by
  have a:=Je c r;unfold k9 Gs;by_cases h:b=c
  ·rw[if_pos h,if_pos (by simpa using h)];rfl
  ·rw[if_neg h,if_neg (by simpa using h),a];cases Gs c r with
   | none=>rfl
   | some k=>
    have e:((k:Int)==-1)=false:=by rw[beq_eq_false_iff_ne];omega
    simp only[ab5,e,p4,if_false];rfl
theorem By4(b:UInt8):isl.contains b=L5 b:=by rw[s9];simp[isl,L5,or_assoc]
theorem Hm(b:UInt8)(r:By):I1 (b::r)=if L5 b then 0 else I1 r+1:=by unfold I1;rw[v8];cases h:L5 b<;>simp
theorem Xd:∀s:By,I1 s<=s.length
 | []=>ab9 _
 | b::r=>by
  have:=Xd r;rw[Hm,j0];split<;>omega
theorem Jd:∀s:By,ab1 s isl=if I1 s<s.length then (I1 s:Int) else -1
 | []=>rfl
 | b::r=>by
  have c:=Jd r;have d:=Xd r;rw[ab1,By4,Hm,j0,c];cases L5 b with
  | true=>simp
  | false=>
   simp only[p4,if_false];by_cases h:I1 r<r.length
   ·have e:((I1 r:Int)==-1)=false:=by rw[beq_eq_false_iff_ne];omega
    have a:I1 r+1<r.length+1:=by omega
    simp only[if_pos h,if_pos a,e,p4,if_false];rfl
   ·have a:¬I1 r+1<r.length+1:=by omega
    simp only[if_neg h,if_neg a];rfl
theorem C93(b:UInt8)(t:By)(g:128<=b.toNat):128<=(aa8 (b::t)).1/\(aa8 (b::t)).1<1114112/\1<=(aa8 (b::t)).2/\(aa8 (b::t)).2<=t.length+1/\∀i,i<(aa8 (b::t)).2->128<=((b::t).getD i 0).toNat:=by
 have d:=Lib.decodeL_le (b::t) (by simp);have l:=Lib.decodeL_width (b::t);have n:=Lib.decodeL_rune (b::t);rw[j0] at d;refine⟨?_,by omega,l,d,?_⟩;all_goals
  clear d l n;rw[Lib.decodeL_N];rcases Lib.decodeN_shape (b::t).length ((b::t).getD 0 0).toNat ((b::t).getD 1 0).toNat ((b::t).getD 2 0).toNat ((b::t).getD 3 0).toNat with⟨c,e⟩|⟨h,j,k,f,e⟩|⟨h,j,k,m,f,p,e⟩|⟨h,j,k,m,o,f,q,e⟩|e
  all_goals rw[e]
 ·exact absurd g (by simp at c;omega)
 ·exact f
 ·simp only;omega
 ·simp only;omega
 ·simp only;omega
 ·exact absurd g (by simp at c;omega)
 ·intro i a;have:i=0\/i=1:=by simp only at a;omega
  rcases this with rfl|rfl<;>omega
 ·intro i a;have:i=0\/i=1\/i=2:=by simp only at a;omega
  rcases this with rfl|rfl|rfl<;>omega
 ·intro i a;have:i=0\/i=1\/i=2\/i=3:=by simp only at a;omega
  rcases this with rfl|rfl|rfl|rfl<;>omega
 ·intro i a;have:i=0:=by simp only at a;omega
  subst this;exact g
theorem Ch5{b:UInt8}(h:128<=b.toNat):L5 b=false:=by
 unfold L5;have n:∀c:UInt8,c.toNat<128->(b==c)=false:=λc a=>by
  rw[beq_eq_false_iff_ne];rintro rfl;omega
 rw[n 47 (by decide),n 63 (by decide),n 35 (by decide)];rfl
theorem B96{r:Int}(h:128<=r):irn r=-1:=by unfold irn;rw[F7,F7,F7]
theorem Da5(b:UInt8):ltI (irn (b.toNat:Int)) 0 = !L5 b:=by
 have e:∀c:UInt8,((b.toNat:Int)=(c.toNat:Int))=(b=c):=λc=>propext ⟨λh=>x8.1 (by omega),λh=>by rw[h]⟩
 have g:((b.toNat:Int)=47)=(b=47):=e 47;have i:((b.toNat:Int)=63)=(b=63):=e 63;have j:((b.toNat:Int)=35)=(b=35):=e 35;unfold irn L5;simp only[g,i,j];by_cases a:b=47
 ·subst a;rfl
 ·by_cases d:b=63
  ·subst d;rfl
  ·by_cases f:b=35
   ·subst f;rfl
   ·have n:∀c,b≠c->(b==c)=false:=λc h=>by rwa [beq_eq_false_iff_ne]
    rw[if_neg a,if_neg d,if_neg f,n _ a,n _ d,n _ f];rfl
end
section
open Go Go.Proofs
set_option maxRecDepth 100000
theorem Ax4{R:Type}{b:By->Option R}(s p:By)(a:A2 s.length=true):Bi5 LF s p b=b (Gm s p):=by
 have:=L8 a;unfold Bi5 Gm;rw[a];cases h:p.isPrefixOf s with
 | false=>simp
 | true=>
  have:p.length<=s.length:=by rw[En] at h;simp at h;exact h.1
  simp (disch:=omega)
theorem Bz3{R:Type}{a:By->Option R}(s p:By)(b:A2 s.length=true):C11 LF s p a=a (Gm s p):=by unfold C11;rw[b];rfl
theorem Ba9{R:Type}{e:Int->Option R}(s:By):Bl3 LF s e=e (G7 s):=by unfold Bl3 G7 BH bWs Iw KX;generalize (s==([104,116,116,112]:List UInt8))=a;generalize (s==([119,115]:List UInt8))=b;generalize (s==([104,116,116,112,115]:List UInt8))=c;generalize (s==([119,115,115]:List UInt8))=d;cases a<;>cases b<;>cases c<;>cases d<;>rfl
theorem Bb4{R:Type}{a:Bool->Option R}(s:By):Bl4 LF s a=a (C8 s):=by unfold Bl4;rw[Sv,LA]
theorem C20(b q:By)(m:Int)(n:By)(v4 d e f g i j k l a:Int)(p:By) :
  ∃r H,C18 LF b q m n v4 d e f g i j k l a p (λo c=>rv (.s (.int .i64 o)) c)=rv r H/\r.stab [] H = .s (.int .i64 (prt b a)):=by
 unfold C18 prt;cases h:a==-1 with
 | true=>rw[show(a !=(-1:Int))=false by simp[bne,h]];exact⟨_,_,rfl,rfl⟩
 | false=>rw[show(a !=(-1:Int))=true by simp[bne,h]];exact⟨_,_,rfl,rfl⟩
def UP:By:=[48,49,50,51,52,53,54,55,56,57,43,45,46]
theorem Lp(c:UInt8):∀l:By,ltI (k9 l c) 0 = !l.contains c
 | []=>rfl
 | b::r=>by
  have f:=Lp c r;have g:=ag4 r c;unfold k9;by_cases h:b=c
  ·subst h;simp[E3]
  ·have e:(b==c)=false:=by simpa using h
   have d:(c==b)=false:=by simpa using ad3 h
   rw[af6,d,ah8,<-f,e];simp only[p4,if_false];by_cases a:k9 r c=-1
   ·rw[a];rfl
   ·have:(k9 r c==-1)=false:=by simpa using a
    rw[this,if_neg (by simp),A6,A6]
theorem Ai3:∀b:UInt8,K9 b=(P6 b||UP.contains b):=by
 have:∀n:Fin 256,K9 (y5 n.val)=(P6 (y5 n.val)||UP.contains (y5 n.val)):=by decide +kernel
 intro b;have h:=this ⟨b.toNat,b.toNat_lt⟩;simpa using h
theorem Ak7{R:Type}{c:Unit->Option R}{d:By->Int->Int->Bool->Option R}(s:By)(i:Nat)(b:UInt8)(l:Bool)(n:Int):Fk s (i:Int) (b.toNat:Int) l n c d=if l then d s n i false else if i=0 then c () else if UP.contains b then d s n i false else c ():=by
 unfold Fk;cases l with
 | true=>rfl
 | false=>
  rw[p6,cond_true,if_neg (by simp)];by_cases a:i=0
  ·subst a;rfl
  ·have f:=b.toNat_lt;rw[show((i:Int)==0)=false by simpa using a,cond_false,E9,cond_true,if_neg a];simp only[vl];rw[It];have e:=Lp b UP;rw[show([48,49,50,51,52,53,54,55,56,57,43,45,46]:List UInt8)=UP from rfl,e];cases UP.contains b<;>rfl
theorem KO{R:Type}{a:Unit->Option R}{c:By->Option R}(s:By)(r:s.length<=1000000000)(n i:Nat)(p:i<s.length) :
  N7 LF (n+1) s (s.length:Int) (i:Int) a c=if P6 (s.getD i 0) then N7 LF n s s.length ((i+1:Nat):Int) a c else if i=0 then a () else if UP.contains (s.getD i 0) then N7 LF n s s.length ((i+1:Nat):Int) a c else a ():=by
 have k:A1 ((i:Int)+1)=((i+1:Nat):Int):=by rw[A7];rfl
 rw[N7,A8,E9,D1];simp only[cond_true];generalize s.getD i 0=b;have go:∀l,Fk s (i:Int) (b.toNat:Int) l (s.length:Int) (λ_=>a ()) (λj g h m=>N7 LF n j g (A1 (h+(1:Int))) a c)=if l then N7 LF n s s.length ((i+1:Nat):Int) a c else if i=0 then a () else if UP.contains b then N7 LF n s s.length ((i+1:Nat):Int) a c else a ():=λl=>by
  rw[Ak7,k]
 have q:P6 b=((z7 97 b.toNat&&z7 b.toNat 122)||(z7 65 b.toNat&&z7 b.toNat 90)):=rfl;by_cases f:97<=b.toNat
 ·rw[A6,p6,cond_true];by_cases d:b.toNat<=122
  ·rw[A6,p6,cond_true,if_pos (U2.2 (.inl ⟨f,d⟩))];unfold EL;simp only[k]
  ·rw[A8,j4,cond_false,A6,p6,cond_true,A8,j4];have e:P6 b=false:=by
    rw[<-ag3,U2];omega
   rw[e];exact go false
 ·rw[A8,j4,cond_false];by_cases o:65<=b.toNat
  ·rw[A6,p6,cond_true];have e:P6 b = !ltI 90 (b.toNat:Int):=by
    rw[s9,U2,aa7,Kb];omega
   rw[e];exact go _
  ·rw[A8,j4,cond_false];have e:P6 b=false:=by
    rw[<-ag3,U2];omega
   rw[e];exact go false
theorem B01{R:Type}{k0:Unit->Option R}{k1:By->Option R}(s:By)(d:s.length<=1000000000):∀(r i n:Nat),i+r=s.length->r<n->0<i->
  N7 LF n s (s.length:Int) (i:Int) k0 k1=if (s.drop i).all K9 then k1 s else k0 ():=by
 intro r
 induction r with
 | zero=>
  intro i n b c a;obtain⟨n,rfl⟩:∃m,n=m+1:=⟨n-1,by omega⟩
  rw[N7];rw[A6,s8 (by omega)];rfl
 | succ r e=>
  intro i n b c a;obtain⟨n,rfl⟩:∃m,n=m+1:=⟨n-1,by omega⟩
  rw[KO s d n i (by omega),e (i+1) n (by omega) (by omega) (by omega),D2 s i (by omega),ai0,Ai3,if_neg (by omega:¬i=0)];cases P6 (s.getD i 0) with
  | true=>simp
  | false=>
   cases UP.contains (s.getD i 0)<;>simp
theorem B02{R:Type}{k0:Bool->Option R}(s:By)(f:A2 s.length=true):Cj8 LF s k0=k0 (S9 s):=by
 have c:=L8 f;have g:=C4;unfold Cj8;obtain⟨n,d⟩:∃m,LF=m+1:=⟨LF-1,by omega⟩
 cases s with
 | nil=>
  rw[show @N7 R LF LF = @N7 R LF (n+1) by rw[<-d]];rfl
 | cons b t=>
  rw[show @N7 R LF LF = @N7 R LF (n+1) by rw[<-d]];refine c9 (KO (b::t) c n 0 (by simp)) ?_;have e:=B01 (k0:=λ_=>k0 false) (k1:=λa=>k0 (not (a==([]:List UInt8)))) (b::t) c t.length 1 n (by simp;omega) (by simp at c;omega) (by omega);rw[y9];simp only[ac7,if_true];rw[show(((0+1:Nat):Int))=((1:Nat):Int) from rfl,e];rw[show(b::t).drop 1=t from rfl,show S9 (b::t)=(P6 b&&t.all K9) from rfl];cases P6 b with
  | false=>rfl
  | true=>cases t.all K9<;>rfl
theorem UQ:∀(s:By) (n:Int),DH.go n s=(Bh n s).getD 0
 | [],n=>rfl
 | b::r,n=>by
  unfold DH.go Bh;split
  ·exact UQ r _
  ·rfl
theorem Bz5{R:Type}{a:Unit->Option R}{c:Int->Option R}(s:By)(y:s.length<=1000000000):∀(r i n:Nat) (v:Int),i+r=s.length->r<n->-1<=v->v<=65536->
  Ms LF n s v (s.length:Int) (i:Int) a c=match Bh v (s.drop i) with|some m=>c m|none=>a ():=by
 intro r
 induction r with
 | zero=>
  intro i n v p q j k;obtain⟨n,rfl⟩:∃m,n=m+1:=⟨n-1,by omega⟩
  rw[Ms];rw[A6,s8 (by omega)];rfl
 | succ r t=>
  intro i n v p q j k;obtain⟨n,rfl⟩:∃m,n=m+1:=⟨n-1,by omega⟩
  have d:A1 ((i:Int)+1)=((i+1:Nat):Int):=by rw[A7];rfl
  rw[Ms];rw[A8,E9,D1,D2 s i (by omega),d];have x:=(s.getD i 0).toNat_lt;generalize s.getD i 0=b at *;unfold Bh;simp only[cond_true,vl];by_cases l:b.toNat<48
  ·rw[A8,cond_true,F7]
  ·rw[A6,cond_false];by_cases o:57<b.toNat
   ·rw[A8,cond_true,F7]
   ·rw[A6,cond_false,if_pos (show 48<=b.toNat/\b.toNat<=57 by omega)];have u:(if (0:Int) > v then (0:Int) else v)=max v 0:=by omega
    have e:A1 (10*max v 0)=10*max v 0:=A7;have f:wu8 ((b.toNat:Int)-48)=((b.toNat-48:Nat):Int):=by rw[M3];omega
    have g:A1 ((b.toNat-48:Nat):Int)=((b.toNat-48:Nat):Int):=A7;have h:A1 (10*max v 0+((b.toNat-48:Nat):Int))=10*max v 0+((b.toNat-48:Nat):Int):=A7;rw[u,e,f,g,h];have w:(if (65536:Int)<10*max v 0+((b.toNat-48:Nat):Int) then (65536:Int) else 10*max v 0+((b.toNat-48:Nat):Int))=min (10*max v 0+((b.toNat-48:Nat):Int)) 65536:=by omega
    rw[w];exact t (i+1) n _ (by omega) (by omega) (by omega) (by omega)
theorem Bz6{R:Type}{a:Int->Bool->Option R}(s:By)(b:A2 s.length=true):C14 LF s a=a (DH s) (Gv (-1) s).isSome:=by
 have d:=L8 b;have c:=C4;unfold C14;refine c9 (Bz5 s d s.length 0 LF (-1) (by omega) (by omega) (by omega) (by omega)) ?_;rw[aa9,DW,show DH s=DH.go (-1) s from rfl,UQ];cases Bh (-1) s with
 | none=>rfl
 | some m=>
  simp only[ag5,ae3];rw[Sv];by_cases h:m<65536
  ·rw[decide_eq_true h,if_pos h];rfl
  ·rw[decide_eq_false h,if_neg h];rfl
theorem Cb9{s:By}{p:Int}(h:Gv (-1) s=some p):DH s=p:=by
 rw[DW] at h;rw[show DH s=DH.go (-1) s from rfl,UQ];cases a:Bh (-1) s with
 | none=>rw[a] at h;cases h
 | some m=>
  rw[a] at h;simp only[ae3] at h;split at h
  ·exact j6 h
  ·cases h
def hpT(name tail b user a:By):R7 × Nat:=
 if (B9 name).2≠0 then (Z5,(B9 name).2)
 else match Gv (-1) (tail.drop 1) with
  | none=>(Z5,16)
  | some p=>(⟨b,user,(B9 name).1,if p=G7 b then -1 else p,a⟩,0)
def hpC(name tail b user a:By):R7 × Nat:=if tail≠[]/\tail.head?≠some 58 then (Z5,4) else hpT name tail b user a
theorem Vi(c user b a:By):M7 c user b a=match Eb a with|none=>(Z5,4)|some (name,tail)=>hpC name tail c user b:=by
 unfold M7;cases Eb a with
 | none=>rfl
 | some q=>
  obtain⟨name,tail⟩:=q;rfl
theorem Sq{t:By}(h:t=[]\/t.head? = some 58):Gm t [58]=t.drop 1:=by
 rcases h with rfl|h
 ·rfl
 ·cases t with
  | nil=>cases h
  | cons b r=>
   simp only[List.head?_cons,p7] at h;subst h;simp[Gm]
theorem Xm(name tail:By)(f:name.length<=1000000000)(j:tail.length<=1000000000)(h:tail=[]\/tail.head? = some 58)(d u:By)(v:Int)(y:By)(w n8 x k l m n o r:Int)(c:By) :
  ∃B H,∀(R:Type) (a:Int->Blk->By->By->Int->By->Int->Int->Int->Int->Int->Int->Int->Int->Int->Int->By->List Blk->Option R),V9 name tail d u v y w n8 x k l m n o r (-1) c a=(λq=>a (uE q) B (uS q) (uU q) (uK q) (uN q) (uV q) (uA q 0) (uA q 1) (uA q 2) (uA q 3) (uA q 4) (uA q 5) (uA q 6) (uA q 7) (uP q) (uR q) H) (hpT name tail d u c):=by
 have i:(tail.drop 1).length<=1000000000:=by rw[j1];omega
 by_cases b:(B9 name).2=0
 ·cases g:Gv (-1) (tail.drop 1) with
  | none=>
   apply p9;apply p9;intro R a;unfold V9 hpT;rw[D6 f,cond_true,Sq h,D6 j];simp only[vl,cond_true];rw[b,D6 i,g];rfl
  | some p=>
   have t:=Cb9 g;by_cases e:p=G7 d
   ·apply p9;apply p9;intro R a;unfold V9 hpT;rw[D6 f,cond_true,Sq h,D6 j];simp only[vl,cond_true];rw[b,D6 i,g,t,show(p !=G7 d)=false by simpa using e];simp only[e,if_true];rfl
   ·apply p9;apply p9;intro R a;unfold V9 hpT;rw[D6 f,cond_true,Sq h,D6 j];simp only[vl,cond_true];rw[b,D6 i,g,t,show(p !=G7 d)=true by simpa using e];simp only[e,if_false];rfl
 ·apply p9;apply p9;intro R a;unfold V9 hpT;rw[D6 f,cond_true];simp only[vl];rw[show(((B9 name).2:Int)!=0)=true by simpa using b,cond_true,if_pos b];rfl
theorem Mt(name tail:By)(w:name.length<=1000000000)(x:tail.length<=1000000000)(l m:By)(p:Int)(v:By)(t n8 u d f g i j k:Int)(a:By) :
  ∃B H,∀(R:Type) (c:Int->Blk->By->By->Int->By->Int->Int->Int->Int->Int->Int->Int->Int->Int->Int->By->List Blk->Option R),Q2 name tail l m p v t n8 u d f g i j k (-1) a c=(λq=>c (uE q) B (uS q) (uU q) (uK q) (uN q) (uV q) (uA q 0) (uA q 1) (uA q 2) (uA q 3) (uA q 4) (uA q 5) (uA q 6) (uA q 7) (uP q) (uR q) H) (hpC name tail l m a):=by
 cases tail with
 | nil=>
  obtain⟨B,H,e⟩:=Xm name [] w x (.inl rfl) l m p v t n8 u d f g i j k a;refine⟨B,H,λR c=>?_⟩;unfold Q2 hpC;exact e R c
 | cons b r=>
  by_cases n:b=58
  ·subst n;obtain⟨B,H,e⟩:=Xm name (58::r) w x (.inr rfl) l m p v t n8 u d f g i j k a;refine⟨B,H,λR c=>?_⟩;unfold Q2 hpC;rw[L9 (by omega) (by simp),if_neg (by simp)];exact e R c
  ·apply p9;apply p9;intro R c;unfold Q2 hpC;have o:(((b.toNat:Int))!=(58:Int))=true:=by
    rw[bne_iff_ne];intro h;have y:b.toNat=58:=by omega
    exact n (x8.1 y)
   rw[L9 (by omega) (by simp),if_pos (by simpa using n),Ag,y9,o];rfl
theorem Bh6{c:UInt8}{s:By}(h:Gs c s=none):k9 s c=-1:=by rw[Je,h]
theorem UB{c:UInt8}{s:By}{k:Nat}(h:Gs c s=some k):k9 s c=(k:Int)/\k<s.length:=by obtain⟨p,r,rfl,_,rfl⟩:=Qb h;exact⟨by rw[Je,h],by simp⟩
theorem Db9(c:UInt8)(s:By):([c]:By).isPrefixOf s=(s.head? == some c):=by
 cases s with
 | nil=>rfl
 | cons b r=>
  grind
abbrev KU(R:Type):=By->By->Int->By->Int->Int->Int->Int->Int->Int->Int->Int->Int->Int->By->Int->List Blk->Option R
abbrev HF{R:Type}(a:KU R)(q:R7 × Nat)(H:List Blk):Option R:=a (uS q) (uU q) (uK q) (uN q) (uV q) (uA q 0) (uA q 1) (uA q 2) (uA q 3) (uA q 4) (uA q 5) (uA q 6) (uA q 7) (uP q) (uR q) (uE q) H
theorem Ba7(u:By)(J:Int)(O:By)(v4 y z A C D F G I:Int)(t a:By)(h2:A2 a.length=true) :
  ∃H,∀(R:Type) (o:KU R),Ts LF u [] J O v4 y z A C D F G I (-1) t a o=HF o (G0 u t a) H:=by
 have ha:=L8 h2;have ge:=IJ 64 a;have key:∀(x b:By),b.length<=1000000000->∃H,∀(R:Type) (o:KU R),(cond (A2 (b8 b)) (cond (x3 (([91]:List UInt8)) b)
   (cond (A2 (b8 b))
    (vl (k9 b (u8n (93:Int))) λc=>
    cond (ltI c (0:Int))
     (o ([]:List UInt8) ([]:List UInt8) 0 ([]:List UInt8) 0 0 0 0 0 0 0 0 0 0 ([]:List UInt8) 4 [(bU u x J O v4 y z A C D F G I (-1) t),bU0])
     (cond (I7 (0:Int) (A1 (c+(1:Int))) (b8 b))
      (cond (I7 (A1 (c+(1:Int))) (↑(b8 b):Int) (b8 b))
       (Q2 (cut b (0:Int) (A1 (c+(1:Int)))) (cut b (A1 (c+(1:Int))) (↑(b8 b):Int)) u x J O v4 y z A C D F G I (-1) t (λn0 T P Q K S L M n8 N f g i j l m n q=>o P Q K S L M n8 N f g i j l m n n0 (T::((bU P Q K S L M n8 N f g i j l m n)::q))))
       (none))
      (none)))
    (none))
   (cond (A2 (b8 b))
    (vl (k9 b (u8n (58:Int))) λd=>
    cond (not (ltI d (0:Int)))
     (cond (I7 (0:Int) d (b8 b))
      (cond (I7 d (↑(b8 b):Int) (b8 b))
       (Q2 (cut b (0:Int) d) (cut b d (↑(b8 b):Int)) u x J O v4 y z A C D F G I (-1) t (λn0 T P Q K S L M n8 N f g i j l m n q=>o P Q K S L M n8 N f g i j l m n n0 (T::((bU P Q K S L M n8 N f g i j l m n)::q))))
      (none))
     (none))
     (Q2 b ([]:List UInt8) u x J O v4 y z A C D F G I (-1) t (λn0 T P Q K S L M n8 N f g i j l m n q=>o P Q K S L M n8 N f g i j l m n n0 (T::((bU P Q K S L M n8 N f g i j l m n)::q)))))
    (none))) none)=HF o (M7 u x t b) H:=by
  intro x b hb;rw[Vi];unfold Eb;have w:A2 b.length=true:=D6 hb;have W:u8n (93:Int)=93:=rfl;have U:u8n (58:Int)=58:=rfl;by_cases v:b.head? = some 91
  ·rw[if_pos v];have Z:([91]:By).isPrefixOf b=true:=by rw[Db9,v];rfl
   cases Y:Gs 93 b with
   | none=>
    apply p9;intro R o;rw[w,Z,W,Bh6 Y];rfl
   | some k=>
    obtain⟨e,hk⟩:=UB Y;have e1:A1 ((k:Int)+1)=((k+1:Nat):Int):=by rw[A7];rfl
    obtain⟨B,H,X⟩:=Mt (b.take (k+1)) (b.drop (k+1)) (by rw[j5];omega) (by rw[j1];omega) u x J O v4 y z A C D F G I t;apply p9;intro R o;rw[w,Z,W,e];simp only[vl,cond_true];rw[A6,cond_false,e1,I4,I4,cond_true,cond_true,K4,R0,j8,X]
  ·rw[if_neg v];have Z:([91]:By).isPrefixOf b=false:=by rw[Db9];simpa using v
   cases Y:Gs 58 b with
   | none=>
    obtain⟨B,H,X⟩:=Mt b [] hb (by simp) u x J O v4 y z A C D F G I t;apply p9;intro R o;rw[w,Z,U,Bh6 Y];simp only[vl,cond_true,cond_false];rw[A8,j4,cond_false,X]
   | some k=>
    obtain⟨e,hk⟩:=UB Y;obtain⟨B,H,X⟩:=Mt (b.take k) (b.drop k) (by rw[j5];omega) (by rw[j1];omega) u x J O v4 y z A C D F G I t;apply p9;intro R o;rw[w,Z,U,e];simp only[vl,cond_true,cond_false];rw[A6,p6,cond_true,I4,I4,cond_true,cond_true,K4,R0,j8,X]
 have V:u8n (64:Int)=64:=rfl;unfold G0;by_cases h:0<=K5 64 a
 ·obtain⟨p,r,rfl,_,hl⟩:=IL h;rw[if_pos h,hl,j8];rw[j2,j0] at ha;obtain⟨H,e⟩:=key ((p++64::r).take p.length) ((p++64::r).drop (p.length+1)) (by rw[j1,j2,j0];omega);refine⟨H,λR o=>?_⟩;refine c9 ?_ (e R o);have e1:A1 ((p.length:Int)+1)=((p.length+1:Nat):Int):=by rw[A7];rfl
  have ln:(p++64::r).length=p.length+r.length+1:=by rw[j2,j0];omega
  unfold Ts;rw[h2,V,hl];simp only[vl,cond_true];rw[A6,p6,cond_true,e1,I4,I4,cond_true,cond_true,K4,R0,j8,j8];rfl
 ·rw[if_neg h];obtain⟨H,e⟩:=key [] a ha;refine⟨H,λR o=>?_⟩;refine c9 ?_ (e R o);unfold Ts;rw[h2,V];simp only[vl,cond_true];rw[A8,j4,cond_false];rfl
def Tru(x:Option (PV × List Blk × Unit)):Prop:=∃H,x=some (.s (.bool true),H,())
theorem eq8{v6:List Nat}(h:v6.length=8):∃a b c d e f g i,v6=[a,b,c,d,e,f,g,i]:=by
 match v6,h with
 | [a,b,c,d,e,f,g,i],_=>exact⟨a,b,c,d,e,f,g,i,rfl⟩
theorem Cb3{h v4:Nat}{j:By}{a b c d e f g i:Nat}(k:h<4):mkH (h:Int) j (v4:Int) (n8 a b c d e f g i)=⟨h,j,v4,[a,b,c,d,e,f,g,i]⟩:=by unfold mkH n8;rw[if_pos (E2.2 ⟨by omega,by omega⟩)];simp only[j8]
theorem Bj3{a b c d e f g i:Nat}(h:∀x∈[a,b,c,d,e,f,g,i],x<65536):ok8 a b c d e f g i=true:=by
 have q:∀x∈[a,b,c,d,e,f,g,i],ltN (x:Int) 65536=true:=λx j=>E2.2 ⟨by omega,by have:=h x j;omega⟩
 simp[ok8,q a,q b,q c,q d,q e,q f,q g,q i]
theorem Iv{h:B2}(a:K2 h=true):h.name.length<=253:=by
 unfold K2 at a;split at a
 ·simp only[s7] at a;exact(Hr.1 a.1.1).le
 ·split at a
  ·simp only[s7,ae0] at a;rw[a.1];simp
  ·split at a
   ·simp only[s7,ae0] at a;rw[a.1];simp
   ·cases a
theorem Ux{h:B2}(ok:Ap h):(T2 h).length<=300:=by
 cases a:K2 h with
 | false=>rw[HW a];simp
 | true=>
  have d:=Iv a;have c:=Bb9 _ ok.v6.1 ok.v6.2;have b:=Ck2 _ ok.v4;unfold T2;rw[if_pos a];split
  ·omega
  ·split
   ·omega
   ·simp only[j0,j2,x6];omega
theorem TX{h0 b c d e f g i j a:Int}{h1:By}(k:ltN b 4294967296=true)(l:ok8 c d e f g i j a=true):Ap (mkH h0 h1 b (n8 c d e f g i j a)):=by
 have⟨m,n⟩:=E2.1 k;refine⟨by show b.toNat<_;omega,C76 l,?_⟩;show(if ltN h0 4 then h0.toNat else 0)<4;split
 ·rename_i h;have:=E2.1 h;omega
 ·omega
theorem Bz9(c z:By)(x:Int)(y:By)(v4 m n o p t u v w k:Int)(b a:By)(O:A2 c.length=true)(P:A2 b.length=true)(A:A2 a.length=true)(B:z.isEmpty=true)(C:(k==-1)=true) :
  ∃r H,Ts LF c z x y v4 m n o p t u v w k b a (λL M D N F G I J n8 K f g h i l j d=>rv (.tup [gU L M D N F G I J n8 K f g h i l,.s (.int .i64 j)]) d)=rv r H/\
   r.stab [0,0] H=(λq=>.tup [gU (uS q) (uU q) (uK q) (uN q) (uV q) (uA q 0) (uA q 1) (uA q 2) (uA q 3) (uA q 4) (uA q 5) (uA q 6) (uA q 7) (uP q) (uR q),.s (.int .i64 (uE q))]) (G0 c b a):=by
 obtain rfl:=ae0.1 B;obtain rfl:k=-1:=by simpa using C
 obtain⟨H,e⟩:=Ba7 c x y v4 m n o p t u v w b a A;exact⟨_,_,e _ _,rfl⟩
theorem Bg5(b:UInt8):ctl b=(!ltI 32 (b.toNat:Int)||((b.toNat:Int)==127)):=by rw[s9,Uk,ab4,aa7,Kb,beq_iff_eq];omega
theorem B00{R:Type}{a:List Blk->Option R}{b:By->Option R}(s:By)(g:s.length<=1000000000):∀(r i n:Nat),i+r=s.length->r<n->
  Iu LF n s (s.length:Int) (i:Int) a b=if (s.drop i).any ctl then a [] else b s:=by
 intro r
 induction r with
 | zero=>
  intro i n d e;obtain⟨n,rfl⟩:∃m,n=m+1:=⟨n-1,by omega⟩
  rw[Iu];rw[A6,s8 (by omega)];rfl
 | succ r f=>
  intro i n d e;obtain⟨n,rfl⟩:∃m,n=m+1:=⟨n-1,by omega⟩
  have c:A1 ((i:Int)+1)=((i+1:Nat):Int):=by rw[A7];rfl
  rw[Iu];rw[A8,E9,D1,D2 s i (by omega),c,List.any_cons,Bg5];simp only[cond_true];rw[f (i+1) n (by omega) (by omega)];cases ltI 32 ((s.getD i 0).toNat:Int) with
  | false=>rfl
  | true=>cases (((s.getD i 0).toNat:Int)==127)<;>rfl
theorem Cj7(s:By)(i:A2 s.length=true):∃H,∀(R:Type) (a:KU R),MA LF s a=HF a (B8 s) H:=by
 have y:=L8 i;have v:=C4;have L:∀{R:Type} (a:List Blk->Option R) (l:By->Option R),Iu LF LF s (s.length:Int) 0 a l=if s.any ctl then a [] else l s:=λa l=>B00 s y s.length 0 LF (by omega) (by omega)
 unfold B8;by_cases h:s.any ctl=true
 ·rw[if_pos h];apply p9;intro R a;unfold MA;rw[L,if_pos h];rfl
 rw[if_neg h];rcases Q1 58 s with b|⟨p,r,rfl,b⟩
 ·apply p9;intro R a;unfold MA;rw[L,if_neg h,i,Ju b];rfl
 have B:(p++58::r).length=p.length+r.length+1:=by rw[j2,j0];omega
 have sp:A2 p.length=true:=N6;have o:A2 r.length=true:=N6;rw[Q5 b];simp only[j4,ah8];cases c:S9 p with
 | false=>
  apply p9;intro R a;unfold MA;rw[L,if_neg h,i,Q5 b];simp only[vl,cond_true,j4,cond_false];rw[sp,c];rfl
 | true=>
 rw[if_neg (by simp)];cases f:C8 (B3 p) with
 | false=>
  apply p9;intro R a;unfold MA;rw[L,if_neg h,i,Q5 b];simp only[vl,cond_true,j4,cond_false];rw[sp,c,f];rfl
 | true=>
 rw[if_neg (by simp)];cases Om:([47,47]:By).isPrefixOf r with
 | false=>
  apply p9;intro R a;unfold MA;rw[L,if_neg h,i,Q5 b];simp only[vl,cond_true,j4,cond_false];rw[sp,c,f,o,Om];rfl
 | true=>
 rw[if_neg (by simp)];have j:Gm r [47,47]=r.drop 2:=by unfold Gm;rw[Om,if_pos rfl];rfl
 generalize m:r.drop 2=t;rw[m] at j;have lt:t.length<=r.length:=by rw[<-m,j1];omega
 have u:A2 t.length=true:=N6;have z:=Xd t;have sl:A2 (B3 p).length=true:=by rw[Y7];exact sp
 have tail:∀(R:Type) (a:KU R) (X d:By),X.length<=t.length->d.length<=t.length->
   (cond (A2 (b8 X))
    (cond (not (x3 (([47]:List UInt8)) X))
     (cond (J7 1 (b8 X))
     (cond (A2 (b8 (B3 p)))
      (cond (A2 (b8 (([47]:List UInt8)++X)))
       (cond (A2 (b8 d))
       (cond (((-1):Int)==((-1):Int))
        (HF a (G0 (B3 p) (([47]:List UInt8)++X) d) ((λq=>[bU (uS q) (uU q) (uK q) (uN q) (uV q) (uA q 0) (uA q 1) (uA q 2) (uA q 3) (uA q 4) (uA q 5) (uA q 6) (uA q 7) (uP q) (uR q),bU (B3 p) [] 0 [] 0 0 0 0 0 0 0 0 0 (-1) (([47]:List UInt8)++X)]) (G0 (B3 p) (([47]:List UInt8)++X) d)))
        (none))
       (none))
       (none))
      (none))
     (none))
     (cond (A2 (b8 (B3 p)))
     (cond (A2 (b8 X))
      (cond (A2 (b8 d))
      (cond (((-1):Int)==((-1):Int))
       (HF a (G0 (B3 p) X d) ((λq=>[bU (uS q) (uU q) (uK q) (uN q) (uV q) (uA q 0) (uA q 1) (uA q 2) (uA q 3) (uA q 4) (uA q 5) (uA q 6) (uA q 7) (uP q) (uR q),bU (B3 p) [] 0 [] 0 0 0 0 0 0 0 0 0 (-1) X]) (G0 (B3 p) X d)))
       (none))
      (none))
      (none))
     (none)))
    none)=HF a (G0 (B3 p) (R2 X) d) ((λq=>[bU (uS q) (uU q) (uK q) (uN q) (uV q) (uA q 0) (uA q 1) (uA q 2) (uA q 3) (uA q 4) (uA q 5) (uA q 6) (uA q 7) (uP q) (uR q),bU (B3 p) [] 0 [] 0 0 0 0 0 0 0 0 0 (-1) (R2 X)]) (G0 (B3 p) (R2 X) d)):=by
  intro R a X d A w;rw[N6,sl,Db9,D6 (n:=d.length) (by omega)];unfold R2;by_cases g:X.head? = some 47
  ·rw[if_pos g,g];rfl
  ·have e:(X.head? == some 47)=false:=by simpa using g
   rw[if_neg g,e,J8 (by omega),D6 (by simp;omega)];rfl
 refine⟨(λX=>(λq=>[bU (uS q) (uU q) (uK q) (uN q) (uV q) (uA q 0) (uA q 1) (uA q 2) (uA q 3) (uA q 4) (uA q 5) (uA q 6) (uA q 7) (uP q) (uR q),bU (B3 p) [] 0 [] 0 0 0 0 0 0 0 0 0 (-1) (R2 X)]) (G0 (B3 p) (R2 X) (t.take (I1 t)))) (t.drop (I1 t)),λR a=>?_⟩;refine c9 ?_ (tail R a (t.drop (I1 t)) (t.take (I1 t)) (by rw[j1];omega) (by rw[j5];omega));unfold MA;rw[L,if_neg h,i,Q5 b];simp only[vl,cond_true,j4,cond_false];rw[sp,c,f,o,Om,j,u];rw[show Zy ([47,63,35]:List UInt8)=true from rfl,show([47,63,35]:List UInt8)=isl from rfl,Jd];simp only[cond_true,j4,cond_false];by_cases k:I1 t<t.length
 ·rw[if_pos k,A6,p6,cond_true,K4,j8,j5,Nat.min_eq_left (by omega),I4,I4,R0,j8];rfl
 ·have x:I1 t=t.length:=by omega
  rw[if_neg k,A8,j4,cond_false,I4,R0,j8,x,List.take_length,u];rfl
abbrev rvU(n o:By)(h:Int)(p:By)(i j k l n8 m b c d e:Int)(g:By)(f:Int)(a:List Blk):=rv (.tup [gU n o h p i j k l n8 m b c d e g,.s (.int .i64 f)]) a
abbrev pvU(q:R7 × Nat):PV:=.tup [gU (uS q) (uU q) (uK q) (uN q) (uV q) (uA q 0) (uA q 1) (uA q 2) (uA q 3) (uA q 4) (uA q 5) (uA q 6) (uA q 7) (uP q) (uR q),.s (.int .i64 (uE q))]
theorem C17(s:By)(a:A2 s.length=true):∃r H,MA LF s rvU=rv r H/\r.stab [0,0] H=pvU (B8 s):=by obtain⟨H,e⟩:=Cj7 s a;exact⟨_,_,e _ _,rfl⟩
theorem Qc{p:Int}(h:Dz p=true):(Q6 p).length<=20:=by
 obtain⟨a,b⟩:=Jz.1 h;unfold Q6;split
 ·have:=Jv 19 (-p).toNat (by omega) (by omega);rw[j0];omega
 ·have:=Jv 19 p.toNat (by omega) (by omega);omega
theorem ZJ(b:Int)(c:By)(v4:Int)(a:List Nat):T2 (mkH b c v4 a)=T2 (Cb2 b c v4 a):=by
 unfold mkH Cb2;cases h:ltN b 4 with
 | true=>rfl
 | false=>
  rw[if_neg (by simp),if_neg (by simp),HW (by rfl),HW (by rfl)]
theorem WK{c d a b:By}(h:smU c d a b=true):c.length<=100000000/\d.length<=100000000/\a.length<=100000000/\b.length<=100000000:=by simp only[smU,s7,ae5,and_assoc] at h;exact h
theorem Bz0{l m:By}{kd:Int}{a:By}{v4 b c d e f g h i j:Int}{k:By}(h0:smU l m a k=true)(h1:ltN v4 4294967296=true)(n:ok8 b c d e f g h i=true)(o:Dz j=true) :
  (Cf (mkU l m kd a v4 (n8 b c d e f g h i) j k)).length<=400000000:=by
 obtain⟨r,t,u,v⟩:=WK h0;have p:=Ux (TX (h0:=kd) (h1:=a) h1 n);rw[ZJ] at p;have q:=Qc o;unfold Cf mkU Na;simp only;split
 ·split<;>split<;>simp only[j2,j0,x6]<;>omega
 ·simp only[j2,j0];omega
theorem Ck1(c n:By)(m:Int)(a:By)(v4 e f g h i j k l b:Int)(d:By)(h0:smU c n a d=true)(h1:ltN v4 4294967296=true)(t:ok8 e f g h i j k l=true)(x:Dz b=true) :
  ∃r H,Rj LF c n m a v4 e f g h i j k l b d (λu q=>rv (.s (.str u)) q)=rv r H/\r.stab [] H = .s (.str (Cf (mkU c n m a v4 (n8 e f g h i j k l) b d))):=by
 obtain⟨D,F,G,I⟩:=WK h0;have A:=Ux (TX (h0:=m) (h1:=a) h1 t);have C:=Qc x;have key:∀T:By,Rj LF c n m a v4 e f g h i j k l b d (λu q=>rv (.s (.str u)) q)=rv (.s (.str T)) [bU c n m a v4 e f g h i j k l b d]->T=Cf (mkU c n m a v4 (n8 e f g h i j k l) b d)->∃r H,Rj LF c n m a v4 e f g h i j k l b d (λu q=>rv (.s (.str u)) q)=rv r H/\r.stab [] H = .s (.str (Cf (mkU c n m a v4 (n8 e f g h i j k l) b d))):=λT y z=>⟨_,_,y,by rw[<-z];rfl⟩
 have w:A2 a.length=true:=N6;cases o:C8 c with
 | false=>
  refine key (c++[58]++d) ?_ ?_
  ·unfold Rj;rw[o,J8 (by omega)];simp only[vl,cond_true,p6];rw[J8 (by simp;omega)];rfl
  ·unfold Cf mkU;simp only[o];simp
 | true=>
  have B:=A;by_cases v:n=[]
  ·subst v;have e0:(([]:By)==([]:List UInt8))=true:=rfl;by_cases p:b=-1
   ·subst p;refine key (((c++[58,47,47])++T2 (mkH m a v4 (n8 e f g h i j k l)))++d) ?_ ?_
    ·unfold Rj;rw[o,w,h1,t,e0];simp only[vl,cond_true,cond_false,j4,show((-1:Int)!=-1)=false from rfl]
     repeat rw[J8 (by first|omega|(simp only[j2,j0,x6];omega))]
     rfl
    ·unfold Cf mkU Na;simp[o,ZJ]
   ·refine key (((c++[58,47,47])++T2 (mkH m a v4 (n8 e f g h i j k l)))++([58]++Q6 b)++d) ?_ ?_
    ·unfold Rj;rw[o,w,h1,t,x,e0];simp only[vl,cond_true,cond_false,j4,show(b !=-1)=true by simpa using p]
     repeat rw[J8 (by first|omega|(simp only[j2,j0,x6];omega))]
     rfl
    ·unfold Cf mkU Na;simp[o,ZJ,p]
  ·have e0:(n==([]:List UInt8))=false:=by simpa using v
   by_cases p:b=-1
   ·subst p;refine key (((c++[58,47,47])++(n++[64])++T2 (mkH m a v4 (n8 e f g h i j k l)))++d) ?_ ?_
    ·unfold Rj;rw[o,w,h1,t,e0];simp only[vl,cond_true,cond_false,j4,p6,show((-1:Int)!=-1)=false from rfl]
     repeat rw[J8 (by first|omega|(simp only[j2,j0,x6];omega))]
     rfl
    ·unfold Cf mkU Na;simp[o,ZJ,v]
   ·refine key (((c++[58,47,47])++(n++[64])++T2 (mkH m a v4 (n8 e f g h i j k l)))++([58]++Q6 b)++d) ?_ ?_
    ·unfold Rj;rw[o,w,h1,t,x,e0];simp only[vl,cond_true,cond_false,j4,p6,show(b !=-1)=true by simpa using p]
     repeat rw[J8 (by first|omega|(simp only[j2,j0,x6];omega))]
     rfl
    ·unfold Cf mkU Na;simp[o,ZJ,p,v]
theorem Cu0{a:Int}{k:Nat}(d:k<4):(a==(k:Int))=(k==(if ltN a 4 then a.toNat else 4)):=by
 rw[s9,beq_iff_eq,beq_iff_eq];cases h:ltN a 4 with
 | true=>
  obtain⟨b,c⟩:=E2.1 h;rw[if_pos rfl];omega
 | false=>
  rw[if_neg (by simp)];have:¬(0<=a/\a<4):=λq=>by
   have:=E2.2 q;rw[h] at this;cases this
  omega
theorem SO(a b:By):(a==b)=(b==a):=by rw[s9,beq_iff_eq,beq_iff_eq];exact eq_comm
theorem Ct8(a b:Int):(a==b)=(b==a):=by rw[s9,beq_iff_eq,beq_iff_eq];exact eq_comm
theorem Fa(a b:Nat):((a:Int)==(b:Int))=(b==a):=by rw[s9,beq_iff_eq,beq_iff_eq];omega
theorem Bn0{F G:By}{Q:Int}{B:By}{v4 a b c d f g h i C:Int}{D:By}{p:R7 × Nat}(R:ltN v4 4294967296=true)(S:ok8 a b c d f g h i=true)(V:XO p.1) :
  ((F==(uS p))&&((G==(uU p))&&((Q==(uK p))&&((B==(uN p))&&((v4==(uV p))&&((a==(uA p 0))&&((b==(uA p 1))&&((c==(uA p 2))&&((d==(uA p 3))&&((f==(uA p 4))&&((g==(uA p 5))&&((h==(uA p 6))&&((i==(uA p 7))&&((C==(uP p))&&((D==(uR p))&&true)))))))))))))))=eqU p.1 (mkU F G Q B v4 (n8 a b c d f g h i) C D):=by
 obtain⟨⟨s,u,⟨k,n,v,l⟩,q,t⟩,e⟩:=p;obtain⟨P,_⟩:=V;obtain⟨H,I,J,K,L,M,N,O,rfl⟩:=eq8 P.v6.1;obtain⟨j,m,o,r,x,y,z,A,rfl,rfl,rfl,rfl,rfl,rfl,rfl,rfl,_⟩:=Vz S;obtain⟨w,rfl⟩:=aa0 (E2.1 R).1;have T:k<4:=P.kd;have U:(([H,I,J,K,L,M,N,O]:List Nat)==[j,m,o,r,x,y,z,A])=((H==j)&&((I==m)&&((J==o)&&((K==r)&&((L==x)&&((M==y)&&((N==z)&&((O==A)&&true)))))))):=rfl;simp only[eqU,eqH,mkU,Cb2,n8,j8,U,y9,af4];rw[Cu0 T,SO F,SO G,SO B,SO D,Ct8 C,Fa w,Fa j,Fa m,Fa o,Fa r,Fa x,Fa y,Fa z,Fa A];simp only[Bool.and_assoc,Bool.and_true];rfl
theorem Bb6(m n:By)(kd:Int)(j:By)(v4 a b c d f g h i k:Int)(l:By)(u:smU m n j l=true)(o:ltN v4 4294967296=true)(q:ok8 a b c d f g h i=true)(v:Dz k=true) :
  ∃r H,EM LF m n kd j v4 a b c d f g h i k l (λz w=>rv (.s (.bool z)) w)=rv r H/\r.stab [] H = .s (.bool (Hs (mkU m n kd j v4 (n8 a b c d f g h i) k l))):=by
 have A:=Bz0 (kd:=kd) u o q v;unfold EM Hs;rw[u,o,q,v];simp only[vl,cond_true];rw[N6,cond_true];have x:=Ac3 (Cf (mkU m n kd j v4 (n8 a b c d f g h i) k l));rw[Bn0 o q x];generalize B8 (Cf (mkU m n kd j v4 (n8 a b c d f g h i) k l))=p;obtain⟨y,e⟩:=p;by_cases t:e=0
 ·subst t;exact⟨_,_,rfl,rfl⟩
 ·rw[show(uE (y,e)==(0:Int))=false by simpa using t,show(e==0)=false by simpa using t];exact⟨_,_,rfl,rfl⟩
end
section
open Go Go.Proofs Go.Sort
set_option maxRecDepth 100000
theorem XH:B0 a8 GX 73 Uc:=by
 refine B0.fix (pf:=GB) _ (J2 (fn:=Tryz.f73) (by kernel_rfl) (by kernel_rfl) (by kernel_rfl) ?_);intro args ret j h;unfold GB at h;split at h
 ·rename_i s c;obtain⟨l,h⟩:=C0 h;obtain⟨m,h⟩:=C0 h;obtain⟨rfl,rfl⟩:=J1 h;refine⟨rfl,rfl,λC o a p w k n d b=>?_⟩;obtain⟨U,V,rfl,f,g⟩:=b.arr2;obtain⟨i,rfl,rfl⟩:=f.inv_str;obtain rfl:=g.inv_int;refine(Any.strings_IndexByte Tryz.lays137 i c w).mono ?_;rintro e w' ⟨rfl,rfl⟩;exact⟨_,rfl,ag1 _ _,VP.mk_int _ _⟩
 ·cases h
theorem Bl9:B0 a8 GX 51 QK:=by
 refine B0.fix (pf:=EV) _ (J2 (fn:=Tryz.f51) (by kernel_rfl) (by kernel_rfl) (by kernel_rfl) ?_);intro args ret l h;unfold EV at h;split at h
 ·rename_i n;obtain⟨b,h⟩:=C0 h;obtain⟨rfl,rfl⟩:=J1 h;refine⟨rfl,rfl,λC o a p w m c i g=>?_⟩;obtain⟨U,rfl,j⟩:=g.arr1;obtain rfl:=j.inv_int;obtain⟨d,f⟩:=Jz.1 b;refine(Any.strconv_Itoa Tryz.laysM171 n (by omega) (by omega) w (B84 c a)).mono ?_;rintro e w' ⟨rfl,k,os,rfl⟩;refine⟨_,rfl,(Oc w k).trans (show RowKit.Below w.heap.size _ _ from GR (w.drewN k) os),?_⟩;have:Lib.itoa n=Q6 n:=by
   unfold Lib.itoa Q6;split
   ·rw[show n.natAbs=(-n).toNat by omega]
   ·rfl
  rw[this];exact VP.mk_str _
 ·cases h
theorem Cn4:B0 a8 GX 58 XV:=by
 refine B0.fix (pf:=Pq) _ (J2 (fn:=ah3) (by kernel_rfl) (by kernel_rfl) (by kernel_rfl) ?_);intro args ret A h;unfold Pq at h;split at h
 ·rename_i s p;obtain⟨i,h⟩:=C0 h;obtain⟨k,h⟩:=C0 h;obtain⟨l,h⟩:=C0 h;obtain⟨rfl,rfl⟩:=J1 h;refine⟨rfl,rfl,λC G m I w B F r q=>?_⟩;obtain⟨U,V,rfl,y,z⟩:=q.arr2;obtain⟨g,rfl,rfl⟩:=y.inv_str;obtain⟨d,rfl,a⟩:=z.inv_str;have H:=L8 i;have c:p=isl:=by simpa[Zy] using k
  have D:=ac3 l;have f:=zero_of_info (P:=a8) (t:=Tryz.lays153_ren.t 116) (v:=.agg (Array.replicate 256 (.bool false))) (n:=256) (by kernel_rfl);subst c;have u:d.size=3:=by have:=ag7 d;rw[a] at this;exact this
  have x:=ag7 g;refine(Any.strings_IndexAny_long Tryz.lays153 f.1 f.2 g d w (by omega) (by omega) (by omega) (by omega) ?_).mono ?_
  ·rw[a];intro j b o;have:b∈isl:=List.mem_of_getElem? o
   revert b
   simp only[isl,p5,ae2,or_false];rintro b _ (rfl|rfl|rfl)<;>decide
  ·rintro e w' ⟨rfl,rfl⟩;rw[a];exact⟨_,rfl,((ag1 _ _).alloc (ab9 _) _).alloc (by simp) _,VP.mk_int _ _⟩
 ·cases h
end
section
open Go Go.Proofs
set_option maxRecDepth 100000
theorem WM{R:Type}{a:Bool->Option R}(n:Int):WL LF n a=a (ltI 8 n):=rfl
theorem Ak8{R:Type}{a:Bool->Option R}(r:Int):KP LF r a=a (KQ r):=by
 have b:ltN r 55296=(!ltI r 0&&ltI r 55296):=by
  rw[s9,E2,s7,aa7,Kb,Lu];omega
 have c:(ltI 57343 r&&ltN r 1114112)=(ltI 57343 r&&!ltI 1114111 r):=by
  rw[s9,s7,s7,E2,aa7,Kb,Lu];omega
 unfold KP Kv KQ;rw[b,c];cases ltI r 0<;>cases ltI r 55296<;>cases ltI 57343 r<;>cases ltI 1114111 r<;>rfl
theorem Da4(b:UInt8):k9 isl b=irn (b.toNat:Int):=by
 by_cases a:b=47
 ·subst a;rfl
 ·by_cases d:b=63
  ·subst d;rfl
  ·by_cases f:b=35
   ·subst f;rfl
   ·have n:∀c:UInt8,b≠c->(c==b)=false:=λc h=>by rw[beq_eq_false_iff_ne];exact ad3 h
    have e:∀c:UInt8,b≠c->¬(b.toNat:Int)=(c.toNat:Int):=λc h q=>h (x8.1 (by omega))
    have g:¬(b.toNat:Int)=47:=e 47 a;have i:¬(b.toNat:Int)=63:=e 63 d;have j:¬(b.toNat:Int)=35:=e 35 f;unfold irn;rw[if_neg g,if_neg i,if_neg j];simp[isl,k9,n _ a,n _ d,n _ f]
theorem Di7{l:By}{x:UInt8}(h:∀b∈l,b.toNat<128)(d:128<=x.toNat):k9 l x=-1:=by
 have e:=Lp x l;have c:l.contains x=false:=by
  rw[aa6];intro a;have:=h x (by simpa using a);omega
 rw[c,p6,Lu] at e;have:=ag4 l x;omega
theorem B77{r:Int}(g:KQ r=true)(h:128<=r):2<=(ac0 r).data.toList.length/\(ac0 r).data.toList.length<=4/\128<=((ac0 r).data.toList.getD ((ac0 r).data.toList.length-1) 0).toNat:=by
 have a:Utf8.valid r=true:=by
  rw[validRune_eq];unfold validRune;simp only[KQ,ab4,s7,E2,Lu] at g;exact decide_eq_true (by omega)
 obtain⟨b,c,d⟩:=encode_facts r a h;have f:=ag7 (ac0 r);rw[<-f];refine⟨b,c,?_⟩;have e:=d (by omega);rw[List.getD_eq_getElem?_getD,ad6 (by omega),ag5];exact e
theorem By3(r:Int)(h:ltN r 1114112=true):∃v H,KI LF r (λk=>rv (.s (.int .i64 k)) []) (λk I=>rv (.s (.int .i64 k)) [.iter [47,63,35] I])=rv v H/\v.stab [] H = .s (.int .i64 (irn r)):=by
 obtain⟨A,M⟩:=E2.1 h;have B:=C4;unfold KI;rw[A6,p6,cond_true];unfold Kp;by_cases p:r<128
 ·obtain⟨n,rfl⟩:=aa0 A;have e:wu8 (n:Int)=(n:Int):=M3;have f:u8n (n:Int)=y5 n:=by unfold u8n;simp
  have g:(((y5 n).toNat:Nat):Int)=(n:Int):=by simp;omega
  rw[A8,cond_true,e,E9,f];have o:=Da4 (y5 n);rw[g] at o;rw[<-o];exact⟨_,_,rfl,rfl⟩
 ·rw[A6,cond_false,B96 (by omega)];by_cases t:r=65533
  ·subst t;obtain⟨m,i⟩:∃m,LF=m+1+1+1+1:=⟨LF-4,by omega⟩
   have w:x5 ⟨w9 ([47,63,35]:List UInt8)⟩ 0=(47,1):=rfl;have x:x5 ⟨w9 ([47,63,35]:List UInt8)⟩ 1=(63,1):=rfl;have y:x5 ⟨w9 ([47,63,35]:List UInt8)⟩ 2=(35,1):=rfl;have go:∀(R:Type) (c:Int->Nat->Option R) (a:Nat->Option R),Z3 LF LF 0 c a=a 3:=λR c a=>by
    have L:Z3 LF (m+1) 3 c a=a 3:=by rw[Eh];rfl
    have K:Z3 LF (m+1+1) 2 c a=a 3:=by rw[Eh];unfold Dk;rw[y];exact L
    have J:Z3 LF (m+1+1+1) 1 c a=a 3:=by rw[Eh];unfold Dk;rw[x];exact K
    have d:Z3 LF (m+1+1+1+1) 0 c a=a 3:=by rw[Eh];unfold Dk;rw[w];exact J
    rw[<-i] at d;exact d
   rw[go];exact⟨_,_,rfl,rfl⟩
  ·rw[show(r==(65533:Int))=false by simpa using t,cond_false];cases F:KQ r with
   | false=>exact⟨_,_,rfl,rfl⟩
   | true=>
    obtain⟨O,P,G⟩:=B77 F (by omega);simp only[vl,j4,cond_false];generalize (ac0 r).data.toList=l at *;obtain⟨m,i⟩:∃m,LF=m+1:=⟨LF-1,by omega⟩
    have z:A1 ((l.length:Int)-1)=((l.length-1:Nat):Int):=by rw[A7];omega
    have go:∀(R:Type) (c:Int->Option R) (a:Unit->Option R),a ()=c (-1)->Ga LF LF l ((l.length-1:Nat):Int) c a=c (-1):=λR c a C=>by
     have d:Ga LF (m+1) l ((l.length-1:Nat):Int) c a=c (-1):=by
      rw[CY];unfold Mp;by_cases N:l.length=4
      ·rw[A6];exact C
      ·rw[A8,E9,E9,D1,D1];simp only[vl,cond_true];have D:(([47,63,35]:List UInt8).getD (l.length-1) 0).toNat<128:=by
        have:l.length=2\/l.length=3:=by omega
        rcases this with q|q<;>rw[q]<;>decide
       have j:((((([47,63,35]:List UInt8).getD (l.length-1) 0).toNat:Nat):Int)!=(((l.getD (l.length-1) 0).toNat:Nat):Int))=true:=by
        rw[bne_iff_ne];omega
       have f:A1 (((l.length-1:Nat):Int)+1)=((l.length:Nat):Int):=by rw[A7];omega
       have g:cut ([47,63,35]:List UInt8) ((l.length:Nat):Int) 3=([47,63,35]:List UInt8).drop l.length:=by
        rw[show(3:Int)=((3:Nat):Int) from rfl,Hy];rfl
       have u:=(l.getD (l.length-1) 0).toNat_lt;rw[j,cond_true,f,I4,cond_true,g,D6 (by simp;omega),cond_true,E9,cond_true,It,Di7 (λb u=>?_) G]
       ·rfl
       ·have:=x4 u;simp only[p5,ae2,or_false] at this;rcases this with rfl|rfl|rfl<;>decide
     rw[<-i] at d;exact d
    rw[z,go _ _ _ rfl];exact⟨_,_,rfl,rfl⟩
theorem B18:B0 a8 GX 76 Yj:=by
 refine B0.fix (pf:=Rt) _ (I6 [] (C₀:=Zc LF) (M4.ok (l:=[]) rfl trivial) (I3 rfl (by kernel_rfl)) follows ?_);intro args ret a h;unfold Rt at h;split at h
 ·rename_i n;obtain⟨rfl,rfl⟩:=J1 h;have e:=(A97 LF noY () 0 n).trans (WM n);exact⟨rfl,rfl,rfl,1,_,_,e,rfl⟩
 ·cases h
theorem Co2:B0 a8 GX 101 GI:=by
 refine B0.fix (pf:=Yp) _ (I6 [] (C₀:=Br LF) (M4.ok (l:=[]) rfl trivial) (I3 rfl (by kernel_rfl)) follows ?_);intro args ret a h;unfold Yp at h;split at h
 ·rename_i n;obtain⟨rfl,rfl⟩:=J1 h;have e:=(B04 LF noY () 0 n).trans (Ak8 n);exact⟨rfl,rfl,rfl,1,_,_,e,rfl⟩
 ·cases h
theorem Cn7:B0 a8 GX 77 Nv:=λargs ret a h=>by
 have:L7 (Nv args)=none:=by unfold Nv MH;split<;>rfl
 rw[this] at h;cases h
theorem Cn6:B0 a8 GX 75 GC:=by
 refine B0.fix (pf:=Yi) _ (I6 [] (C₀:=L4 LF) (M4.ok (l:=[(73,Uc),(101,GI)]) rfl ⟨XH,Co2,trivial⟩) (I3 rfl (by kernel_rfl)) follows ?_);intro args ret f h;unfold Yi at h;split at h
 ·rename_i p r;obtain⟨a,h⟩:=C0 h;obtain⟨b,h⟩:=C0 h;obtain⟨rfl,rfl⟩:=J1 h;obtain rfl:p=isl:=by simpa[Zy] using a
  obtain⟨d,H,e,c⟩:=By3 r b;exact⟨rfl,rfl,rfl,1,d,H,(By2 LF noY () 0 r).trans e,c⟩
 ·cases h
theorem KK:∀(w:Nat) (l:By),w<=l.length->(∀i,i<w->L5 (l.getD i 0)=false)->I1 l=w+I1 (l.drop w)
 | 0,l,_,_=>by simp
 | w+1,[],h,_=>by simp at h
 | w+1,b::l,h,hb=>by
  have a:=hb 0 (by omega);rw[y9] at a;have d:=KK w l (by simpa using h) (λi c=>by have:=hb (i+1) (by omega);rwa [af4] at this);rw[Hm,a,ac6];simp only[p4,if_false];omega
theorem Ai9(s:By)(O:s.length<=8):∀(f m n:Nat),s.length-m<=f->m<=s.length->f<n->∃H t,∀(R:Type) (j:Int->List Blk->Option R) (k:By->Nat->Option R),
  Ko LF n s m j k=if I1 (s.drop m)<(s.drop m).length then j ((m+I1 (s.drop m):Nat):Int) H else k s t:=by
 intro f
 induction f with
 | zero=>
  intro m n G K L;obtain⟨n,rfl⟩:∃q,n=q+1:=⟨n-1,by omega⟩
  refine⟨[],m,λR j k=>?_⟩;rw[Bj];unfold Y1;rw[decide_eq_false (by omega),cond_false,s8 (by omega),if_neg (by simp)]
 | succ f z=>
  intro m n G K L;obtain⟨n,rfl⟩:∃q,n=q+1:=⟨n-1,by omega⟩
  by_cases a:m<s.length
  ·have F:=Lib.decodeL_drop ⟨s.toArray⟩ m;have h:x5 ⟨w9 s⟩ m=aa8 (s.drop m):=by rw[<-F]
   have p:=D2 s m a;have N:(s.drop m).length=s.length-m:=j1;generalize M:s.getD m 0=b at p;by_cases o:b.toNat<128
   ·have y:aa8 (s.drop m)=(b.toNat,1):=by rw[p];exact Lib.decodeL_ascii b _ o
    have l:=Da5 b;cases g:L5 b with
    | true=>
     rw[g,j4] at l;have u:I1 (s.drop m)=0:=by rw[p,Hm,g];rfl
     refine⟨[Blk.iter s (m+1)],m,λR j k=>?_⟩;rw[Bj];unfold Y1;rw[decide_eq_true a,h,y,u,P9];simp only[vl,cond_true];rw[show Zy ([47,63,35]:List UInt8)=true from rfl,cond_true,E2.2 ⟨by omega,by omega⟩,cond_true,l];rfl
    | false=>
     rw[g,p6] at l;have u:I1 (s.drop m)=I1 (s.drop (m+1))+1:=by rw[p,Hm,g];rfl
     have v:(s.drop (m+1)).length=s.length-(m+1):=j1;obtain⟨H,t,e⟩:=z (m+1) n (by omega) (by omega) (by omega);refine⟨H,t,λR j k=>?_⟩;rw[Bj];unfold Y1;rw[decide_eq_true a,h,y];simp only[vl,cond_true];rw[show Zy ([47,63,35]:List UInt8)=true from rfl,cond_true,E2.2 ⟨by omega,by omega⟩,cond_true,l,j4,cond_false,e,u];by_cases q:I1 (s.drop (m+1))<(s.drop (m+1)).length
     ·rw[if_pos q,P9,show m+1+I1 (s.drop (m+1))=m+(I1 (s.drop (m+1))+1) by omega]
     ·rw[if_neg q,F7]
   ·obtain⟨A,B,C,D,x⟩:=C93 b (s.drop (m+1)) (by omega);rw[<-p] at A B C D x;have v:(s.drop (m+1)).length=s.length-(m+1):=j1;generalize aa8 (s.drop m)=d at *;obtain⟨c,w⟩:=d;simp only at A B C D x;have r:=KK w (s.drop m) (by omega) (λi I=>Ch5 (x i I));rw[List.drop_drop] at r;have J:(s.drop (m+w)).length=s.length-(m+w):=j1;have l:ltI (irn (c:Int)) 0=true:=by rw[B96 (by omega)];rfl
    obtain⟨H,t,e⟩:=z (m+w) n (by omega) (by omega) (by omega);refine⟨H,t,λR j k=>?_⟩;rw[Bj];unfold Y1;rw[decide_eq_true a,h];simp only[vl,cond_true];rw[show Zy ([47,63,35]:List UInt8)=true from rfl,cond_true,E2.2 ⟨by omega,by omega⟩,cond_true,l,j4,cond_false,e,r];by_cases q:I1 (s.drop (m+w))<(s.drop (m+w)).length
    ·rw[if_pos q,P9,show m+w+I1 (s.drop (m+w))=m+(w+I1 (s.drop (m+w))) by omega]
    ·rw[if_neg q,F7]
  ·refine⟨[],m,λR j k=>?_⟩;rw[Bj];unfold Y1;rw[decide_eq_false a,cond_false,s8 (by omega),if_neg (by simp)]
theorem By0(s:By)(h:s.length<=8):∃r H,WE LF s (λc a=>rv (.s (.int .i64 c)) a)=rv r H/\r.stab [] H = .s (.int .i64 (ab1 s isl)):=by
 have b:=C4;obtain⟨H,d,e⟩:=Ai9 s h s.length 0 LF (by omega) (by omega) (by omega);unfold WE;rw[A6,cond_false,e,Jd,aa9,ac7];by_cases q:I1 s<s.length
 ·rw[if_pos q,if_pos q];exact⟨_,_,rfl,rfl⟩
 ·rw[if_neg q,if_neg q];exact⟨_,_,rfl,rfl⟩
theorem Cn5:B0 a8 GX 58 XW:=by
 refine B0.fix (pf:=Pr) _ (I6 [] (C₀:=Gh LF) (M4.ok (l:=[(75,GC),(76,Yj),(77,Nv)]) rfl ⟨Cn6,B18,Cn7,trivial⟩) (I3 rfl (by kernel_rfl)) follows ?_);intro args ret f h;unfold Pr at h;split at h
 ·rename_i s p;obtain⟨a,h⟩:=C0 h;obtain⟨b,h⟩:=C0 h;obtain⟨rfl,rfl⟩:=J1 h;obtain rfl:p=isl:=by simpa[Zy] using a
  obtain⟨d,H,e,c⟩:=By0 s (ac3 b);exact⟨rfl,rfl,rfl,1,d,H,(Bx9 LF noY () 0 s).trans e,c⟩
 ·cases h
theorem Ks{c:Bool}{t:Tr}(h:c=true):L7 (.need c t)=L7 t:=by subst h;rfl
theorem C52:B0 a8 GX 58 RT:=λargs ret c h=>by
 have a:=Cn4 args ret c;have b:=Cn5 args ret c;unfold RT at h;unfold XV at a;unfold XW at b;generalize C5 [[0],[0]] args=l at h a b;unfold XU at h;split at h
 ·rename_i s p;obtain⟨e,h⟩:=C0 h;obtain⟨d,h⟩:=C0 h;by_cases f:s.length<=8
  ·refine b ?_;unfold Pr;rw[Ks d,Ks (af1 f)];exact h
  ·refine a ?_;unfold Pq;rw[Ks e,Ks d,Ks (af1 (by omega))];exact h
 ·cases h
section
theorem C38:B0 a8 GX 112 Bd9:=xf [] (TB LF) FD rfl ⟨Bc6,trivial⟩ rfl (by kernel_rfl) follows λargs=>by
 unfold FD;split
 ·rename_i s p;exact λa=>⟨rfl,rfl,rfl,_,_,(Ca8 LF noY () 0 s p).trans (Ax4 s p a),rfl⟩
 ·trivial
theorem Dg2:B0 a8 GX 83 B42:=xf [] (Ar8 LF) RX rfl ⟨C38,trivial⟩ rfl (by kernel_rfl) follows λargs=>by
 unfold RX;split
 ·rename_i s p;exact λa=>⟨rfl,rfl,rfl,_,_,(C12 LF noY () 0 s p).trans (Bz3 s p a),rfl⟩
 ·trivial
theorem XI:B0 a8 GX 44 DO:=xf [] (TL LF) GF rfl trivial rfl (by kernel_rfl) follows λargs=>by
 unfold GF;split
 ·rename_i s;exact⟨rfl,rfl,rfl,_,_,(Cj6 LF noY () 0 s).trans (Ba9 s ),rfl⟩
 ·trivial
theorem Xq:B0 a8 GX 22 Ps:=xf [] (TM LF) GG rfl ⟨XI,trivial⟩ rfl (by kernel_rfl) follows λargs=>by
 unfold GG;split
 ·rename_i s;exact⟨rfl,rfl,rfl,_,_,(Cj9 LF noY () 0 s).trans (Bb4 s ),rfl⟩
 ·trivial
theorem Co0:B0 a8 GX 26 Ao5:=xf [] (Ar9 LF) SC rfl ⟨XI,trivial⟩ rfl (by kernel_rfl) follows λargs=>by
 unfold SC;split
 ·rename_i n o j k v4 a b c d f g h i l m;exact(let⟨r,H,e,q⟩:=C20 n o j k v4 a b c d f g h i l m ; ⟨rfl,rfl,rfl,r,H,(C19 LF noY () 0 n o j k v4 a b c d f g h i l m).trans e,q⟩)
 ·trivial
theorem Dg5:B0 a8 GX 55 B46:=xf [] (Ac LF) SD rfl ⟨XH,trivial⟩ rfl (by kernel_rfl) follows λargs=>by
 unfold SD;split
 ·rename_i s;exact λa=>⟨rfl,rfl,rfl,_,_,(C22 LF noY () 0 s).trans (B02 s a),rfl⟩
 ·trivial
theorem Dg3:B0 a8 GX 82 B44:=xf [0,0] (So LF) RY rfl trivial rfl (by kernel_rfl) follows λargs=>by
 unfold RY;split
 ·rename_i s;exact λa=>⟨rfl,rfl,rfl,_,_,(C15 LF noY () 0 s).trans (Bz6 s a),rfl⟩
 ·trivial
theorem Cn9:B0 a8 GX 60 XY:=xf [0,0] (X4 LF) Ym rfl ⟨Bm0,XG,XH,Cl7,Dg2,Dg3,XI,trivial⟩ rfl (by kernel_rfl) follows λargs=>by
 unfold Ym;split
 ·rename_i o p k l v4 b c d f g h i j m n a;exact λt=>λu=>λv=>λw=>λx=>(let⟨r,H,e,q⟩:=Bz9 o p k l v4 b c d f g h i j m n a t u v w x;⟨rfl,rfl,rfl,r,H,(Bz8 LF noY () 0 o p k l v4 b c d f g h i j m n a).trans e,q⟩)
 ·trivial
theorem Dg4:B0 a8 GX 40 B45:=xf [0,0] (Sp LF) RZ rfl ⟨Cn3,Dg5,Cm1,Xq,Cl3,C52,XG,Cn9,trivial⟩ rfl (by kernel_rfl) follows λargs=>by
 unfold RZ;split
 ·rename_i s;exact λa=>(let⟨r,H,e,q⟩:=C17 s a;⟨rfl,rfl,rfl,r,H,(C16 LF noY () 0 s).trans e,q⟩)
 ·trivial
theorem C54:B0 a8 GX 42 Bf4:=xf [] (TN LF) GH rfl ⟨Xq,Cl6,Bl9,trivial⟩ rfl (by kernel_rfl) follows λargs=>by
 unfold GH;split
 ·rename_i n o j k v4 a b c d f g h i l m;exact λp=>λt=>λu=>λv=>(let⟨r,H,e,q⟩:=Ck1 n o j k v4 a b c d f g h i l m p t u v;⟨rfl,rfl,rfl,r,H,(Ck0 LF noY () 0 n o j k v4 a b c d f g h i l m).trans e,q⟩)
 ·trivial
theorem PM:B0 a8 GX 16 Yo:=xf [] (Ze LF) Rv rfl ⟨C54,Dg4,trivial⟩ rfl (by kernel_rfl) follows λargs=>by
 unfold Rv;split
 ·rename_i n o j k v4 a b c d f g h i l m;exact λp=>λt=>λu=>λv=>(let⟨r,H,e,q⟩:=Bb6 n o j k v4 a b c d f g h i l m p t u v;⟨rfl,rfl,rfl,r,H,(Bb5 LF noY () 0 n o j k v4 a b c d f g h i l m).trans e,q⟩)
 ·trivial
end
theorem Wb{p:R7 × Nat}(h:XO p.1):ltN (uV p) 4294967296=true/\okQ p=true/\Dz (uP p)=true/\∀c b,mkQ c p b=⟨c,p.1.user,p.1.host,b,p.1.rest⟩:=by obtain⟨⟨s,u,⟨k,n,v,l⟩,q,t⟩,e⟩:=p;obtain⟨a,d⟩:=h;obtain⟨g,i,j,m,o,r,w,x,rfl⟩:=eq8 a.v6.1;have f:=a.v4;simp only at f d;refine⟨E2.2 ⟨by show(0:Int)<=(v:Int);omega,by show(v:Int)<_;omega⟩,Bj3 a.v6.2,Jz.2 ⟨by show _<=q;omega,by show q<_;omega⟩,λc b=>Cb4 a.kd⟩
theorem Ac1(s:By):(E1 s).1.host.name.length<=253:=by
 by_cases h:(E1 s).2=0
 ·have b:=Qg h;cases c:C8 (E1 s).1.sch with
  | false=>
   obtain⟨_,_,_,a,_,_⟩:=b.ns c;rw[a]
   decide
  | true=>
   obtain⟨_,_,_,a,_,_⟩:=b.sp c;exact Iv a
 ·rw[Ay7 h]
  decide
theorem Cd0{s:By}(h:s.length<=10000000)(a:By)(b:a.length<=10000000):smU a (uU (E1 s)) (uN (E1 s)) (uR (E1 s))=true:=by obtain⟨c,d,e⟩:=JG s;have f:=Ac1 s;simp only[smU,uU,uN,uR,s7,ae5];refine⟨⟨⟨by omega,by omega⟩,by omega⟩,by omega⟩
end
section
open Go
abbrev hK(p:B2 × Nat):Int:=(p.1.kind:Int)
abbrev hN(p:B2 × Nat):By:=p.1.name
abbrev hV(p:B2 × Nat):Int:=(p.1.v4:Int)
abbrev hA(p:B2 × Nat)(i:Nat):Int:=(p.1.v6.getD i 0:Int)
abbrev e0:By:=[]
end
section
open Go Go.Proofs
set_option maxRecDepth 100000
section
variable {Z R : Type} (L : Nat) (Q : G1) (Y : Yh Z) (s : Z) (k : Out -> St Z -> Option R)
noncomputable def GZ(L:Nat):Cfg:=B6 L [23] (A3 []) [] (A3 [(1,[2]),(0,[0])]) [] (A3 []) (some [2]) [] [] []
noncomputable def WA{R:Type}(L:Nat)(b:By)(a:Bool->Option R):Option R:=cond (b==[104,116,116,112]) (a true) (cond (b==[104,116,116,112,115]) (a true) (cond (b==[119,115]) (a true) (a (b==[119,115,115]))))
theorem Bx3(d:Nat)(s0):evC (GZ L) (d+1) Z Y 23 [pS s0] [] s=WA L s0 (λa=>some (pB a,[],s)):=by refine(evE (fn:=Tryz.f23) (by kernel_rfl)).trans ?_;generalize evC (GZ L) d=Q;unfold WA;kernel_rfl
noncomputable def TJ(L:Nat):Cfg:=B6 L [45] (A3 []) [] (A3 [(8,[2]),(4,[2]),(7,[2]),(6,[7]),(5,[3,3]),(3,[3,0]),(2,[3,0]),(1,[3]),(0,[0])]) [] (A3 [(0,[])]) (some [2]) [] [] []
noncomputable def Bk8{R:Type}(L:Nat)(b:By)(a:Int->Option R):Option R:=cond (b==[104,116,116,112]) (cond (b==[104,116,116,112]) (a 80) (cond (b==[104,116,116,112,115]) (cond (b==[104,116,116,112,115]) (a 443) (a (-1))) (cond (b==[119,115,115]) (a 443) (a (-1))))) (cond (b==[119,115]) (a 80) (cond (b==[104,116,116,112,115]) (cond (b==[104,116,116,112,115]) (a 443) (a (-1))) (cond (b==[119,115,115]) (a 443) (a (-1)))))
theorem Cg9(d:Nat)(s0):evC (TJ L) (d+1) Z Y 45 [pS s0] [] s=Bk8 L s0 (λa=>some (pI a,[],s)):=by refine(evE (fn:=Tryz.f45) (by kernel_rfl)).trans ?_;generalize evC (TJ L) d=Q;unfold Bk8;kernel_rfl
noncomputable abbrev Uf:Code:=C6 aj3
noncomputable def Ak(L:Nat):Cfg:=B6 L [62] (A3 [(5,[0,0,2,0,0]),(2,[0,0,2,0])]) [] (A3 [(9,[4]),(3,[0,0,3]),(6,[0,0,3,0]),(8,[4]),(7,[0,0,3,0,18]),(5,[0,0,3,0,9]),(4,[0,0,3,0]),(2,[0,0,3,4]),(1,[0,0,3]),(0,[0,0])]) [] (A3 [(0,[0]),(1,[0,0,3]),(2,[0,0,3]),(3,[0,0,3,0])]) (some [4]) [] [] []
noncomputable def Hb{R:Type}(L n:Nat)(d a:By)(c b:Int)(e:Int->Option R)(f:By->By->Int->Option R):Option R:=match n with|0=>none|n+1=>cond (ltI b (a.length:Int)) (cond (inR c d.length) (cond (inR b a.length) (cond ((bAt d c)==(bAt a b)) (e c) (Hb L n d a c (A1 (b+1)) e f)) none) none) (f d a c)
theorem Af8(n c a b kk3):D0 0 ((Ak L).keep 5) (bd (Ak L) Q Y (cd [1,0,1,0,0,1,0,0,1,0,0] Uf)) n ⟨gp [(0,pS c),(0,pS a),(3,pI b),(0,pI kk3)] 22,[],s⟩ k =
 Hb L n c a b kk3 (λn0=>k .ret ⟨gp [(4,pI n0)] 24,[],s⟩) (λc a b=>k (.exit 2) ⟨gp [(0,pS c),(0,pS a),(3,pI b)] 23,[],s⟩):=by
 induction n generalizing c a b kk3 with
 | zero=>rfl
 | succ n d=>rw[Hb];simp only[<-d];kernel_rfl
noncomputable def Hd{R:Type}(L n:Nat)(e b:By)(f:Int)(g:Int->Option R)(h:By->Option R):Option R:=match n with|0=>none|n+1=>cond (ltI f (e.length:Int)) (Hb L L e b f 0 g (λd a c=>Hd L n d a (A1 (c+1)) g h)) (h e)
theorem Af9(n b set1 i2):D0 0 ((Ak L).keep 2) (bd (Ak L) Q Y (cd [1,0,1,0,0] Uf)) n ⟨gp [(0,pS b),(0,pS set1),(3,pI i2)] 23,[],s⟩ k =
 Hd L n b set1 i2 (λn0=>k .ret ⟨gp [(4,pI n0)] 24,[],s⟩) (λb=>k (.exit 0) ⟨gp [(0,pS b)] 28,[],s⟩):=by
 induction n generalizing b set1 i2 with
 | zero=>rfl
 | succ n e=>rw[Hd];exact(c9 (by kernel_rfl) (A0 ((Af8 L Q Y s (E6 2 (E6 1 (E5 (Ak L) Q Y (cd [1,0,1,0,0,1,1] Uf) (lpK 0 ((Ak L).keep 2) (bd (Ak L) Q Y (cd [1,0,1,0,0] Uf)) n k)))) L b set1 i2 0).trans (congr (congr rfl (by kernel_rfl)) (fx3 λd a c=>(c9 (by kernel_rfl) (e d a (A1 (c+1))))))) rfl))
noncomputable def Cg1{R:Type}(L:Nat)(e a:By)(d:Int->Option R):Option R:=Hd L L e a 0 d (λc=>vl (c.length:Int) λb=>d b)
theorem Cg2(d:Nat)(s0 set1):evC (Ak L) (d+1) Z Y 62 [pS s0,pS set1] [] s=Cg1 L s0 set1 (λa=>some (pI a,[],s)):=by refine(evE (fn:=aj3) (by kernel_rfl)).trans ?_;generalize evC (Ak L) d=Q;unfold Cg1;exact(c9 (by kernel_rfl) ((Af9 L Q Y s (E6 0 (E5 (Ak L) Q Y (cd [1,1] Uf) (F5 (Ak L) aj3))) L s0 set1 0).trans (by kernel_rfl)))
noncomputable abbrev N3:Code:=C6 ah5
noncomputable def L3(L:Nat):Cfg:=B6 L [61] (A3 [(2,[0,1,0,0,0])]) [(17,An9)] (A3 [(11,[2,0,0]),(3,[0,4]),(10,[2,0,0]),(9,[0,4,67]),(8,[0,4,1,0]),(7,[0,4,0,0]),(6,[2,0,0]),(5,[0,4,0,16]),(4,[0,4,0]),(2,[0,4,6]),(1,[0,4]),(0,[0])]) [17] (A3 [(0,[]),(1,[0,4])]) (some [2,0,0]) [] [] []
noncomputable def Kk{R:Type}(a:By)(b f:Int)(e:Bool)(g:By->By->Option R)(h:By->Int->Int->Bool->Option R):Option R:=cond e (cond (I7 0 b a.length) (cond (A2 (b8 (cut a 0 b))) (vl (B3 (cut a 0 b)) λc=>cond (I7 (A1 (b+1)) (a.length:Int) a.length) (vl (cut a (A1 (b+1)) (a.length:Int)) λd=>g c d) none) none) none) (h a b f e)
abbrev Tl(b:Code):Prop:=∀(k:Out->St Z->Option R) a e c d,A9 (L3 L) Q Y b ⟨gp [(0,pS a),(4,pI e),(0,p8 c),(16,pB d)] 50,[],s⟩ k=Kk a e c d (λa f=>k .ret ⟨gp [(2,pS a),(0,pS f),(0,pB true)] 69,[],s⟩) (λa e c d=>k .normal ⟨gp [(0,pS a),(4,pI e),(0,p8 c),(16,pB d)] 50,[],s⟩)
theorem Ah1:Tl (R:=R) L Q Y s (cd [1,0,1,0,0,1,0,0,1,0,1] N3):=by intro k d c a b;unfold Kk;kernel_rfl
noncomputable def Kl{R:Type}(c:By)(a:Int)(b:By->Int->Option R):Option R:=b c a
abbrev Tm(b:Code):Prop:=∀(k:Out->St Z->Option R) c a,A9 (L3 L) Q Y b ⟨gp [(0,pS c),(4,pI a),(1,pB true),(0,pB true)] 65,[],s⟩ k=Kl c a (λc a=>k .normal ⟨gp [(0,pS c),(4,pI a),(67,pB false)] 0,[],s⟩)
theorem CS:Tm (R:=R) L Q Y s (cd [1,0,1,0,0,1,0,0,1,1,1,1] N3):=by intro k b a;unfold Kl;kernel_rfl
noncomputable def Hh{R:Type}(c:By)(a:Int)(b:By->Int->Option R):Option R:=b c a
abbrev Tn(b:Code):Prop:=∀(k:Out->St Z->Option R) c a other2,A9 (L3 L) Q Y b ⟨gp [(0,pS c),(4,pI a),(1,pB true),(0,pB other2)] 65,[],s⟩ k=Hh c a (λc a=>k .normal ⟨gp [(0,pS c),(4,pI a),(67,pB false)] 0,[],s⟩)
theorem CT:Tn (R:=R) L Q Y s (cd [1,0,1,0,0,1,0,0,1,1,1,1] N3):=by intro k c b a;unfold Hh;kernel_rfl
noncomputable def Wv{R:Type}(c:By)(a d:Int)(b:By->Int->Option R):Option R:=cond (not (ltI d 48)) (cond (not (ltI 57 d)) (Kl c a b) (cond (d==43) (Kl c a b) (cond (d==45) (Kl c a b) (Hh c a b)))) (cond (d==43) (Hh c a b) (cond (d==45) (Hh c a b) (Hh c a b)))
abbrev To(b:Code):Prop:=∀(k:Out->St Z->Option R) c a b2,A9 (L3 L) Q Y b ⟨gp [(0,pS c),(4,pI a),(0,p8 b2),(0,pB true)] 66,[],s⟩ k=Wv c a b2 (λc a=>k .normal ⟨gp [(0,pS c),(4,pI a),(67,pB false)] 0,[],s⟩)
theorem Ah2(a:Code)(c:Tm (R:=R) L Q Y s a)(b:Tn (R:=R) L Q Y s a):To (R:=R) L Q Y s (cd [1,0,1,0,0,1,0,0,1,1,1] (G3 [1,0,1,0,0,1,0,0,1,1,1,1] a N3)):=by intro k e d f;unfold Wv;exact(c9 (by kernel_rfl) (A0 (A0 ((c k e d).trans (by kernel_rfl)) (A0 ((c k e d).trans (by kernel_rfl)) (A0 ((c k e d).trans (by kernel_rfl)) ((b k e d (f==46)).trans (by kernel_rfl))))) (A0 ((b k e d true).trans (by kernel_rfl)) (A0 ((b k e d true).trans (by kernel_rfl)) ((b k e d (f==46)).trans (by kernel_rfl))))))
theorem Ah3:To (R:=R) L Q Y s (cd [1,0,1,0,0,1,0,0,1,1,1] N3):=by intro k c b a;exact c9 (by kernel_rfl) (Ah2 L Q Y s (cd [1,0,1,0,0,1,0,0,1,1,1,1] N3) (CS L Q Y s) (CT L Q Y s) k c b a)
noncomputable def Km{R:Type}(d:By)(b:Int)(a:Bool)(e:Unit->Option R)(c:By->Int->Bool->Option R):Option R:=cond (not a) (cond (b==0) (e ()) (c d b (b==0))) (c d b false)
abbrev JZ(b:Code):Prop:=∀(k:Out->St Z->Option R) c a letter2,A9 (L3 L) Q Y b ⟨gp [(0,pS c),(4,pI a),(1,pB letter2),(0,pB true)] 65,[],s⟩ k=Km c a letter2 (λ_=>k .ret ⟨gp [(2,pS e0),(0,pS e0),(0,pB false)] 69,[],s⟩) (λc a d=>k .normal ⟨gp [(0,pS c),(4,pI a),(67,pB d)] 0,[],s⟩)
theorem Ah4:JZ (R:=R) L Q Y s (cd [1,0,1,0,0,1,0,0,1,1,1,1] N3):=by intro k c b a;unfold Km;kernel_rfl
noncomputable def Hi{R:Type}(f:By)(c:Int)(a b:Bool)(d:Unit->Option R)(e:By->Int->Bool->Option R):Option R:=cond (not a) (cond (not b) (d ()) (cond (c==0) (d ()) (e f c (c==0)))) (e f c false)
abbrev KA(b:Code):Prop:=∀(k:Out->St Z->Option R) c a letter2 other3,A9 (L3 L) Q Y b ⟨gp [(0,pS c),(4,pI a),(1,pB letter2),(0,pB other3)] 65,[],s⟩ k=Hi c a letter2 other3 (λ_=>k .ret ⟨gp [(2,pS e0),(0,pS e0),(0,pB false)] 69,[],s⟩) (λc a d=>k .normal ⟨gp [(0,pS c),(4,pI a),(67,pB d)] 0,[],s⟩)
theorem Ah5:KA (R:=R) L Q Y s (cd [1,0,1,0,0,1,0,0,1,1,1,1] N3):=by intro k d c a b;unfold Hi;kernel_rfl
noncomputable def Hj{R:Type}(f:By)(c b:Int)(a:Bool)(d:Unit->Option R)(e:By->Int->Bool->Option R):Option R:=cond (not (ltI b 48)) (cond (not (ltI 57 b)) (Km f c a (λ_=>d ()) e) (cond (b==43) (Km f c a (λ_=>d ()) e) (cond (b==45) (Km f c a (λ_=>d ()) e) (Hi f c a (b==46) (λ_=>d ()) e)))) (cond (b==43) (Hi f c a true (λ_=>d ()) e) (cond (b==45) (Hi f c a true (λ_=>d ()) e) (Hi f c a (b==46) (λ_=>d ()) e)))
abbrev Tp(b:Code):Prop:=∀(k:Out->St Z->Option R) d c a letter3,A9 (L3 L) Q Y b ⟨gp [(0,pS d),(4,pI c),(0,p8 a),(0,pB letter3)] 66,[],s⟩ k=Hj d c a letter3 (λ_=>k .ret ⟨gp [(2,pS e0),(0,pS e0),(0,pB false)] 69,[],s⟩) (λd c a=>k .normal ⟨gp [(0,pS d),(4,pI c),(67,pB a)] 0,[],s⟩)
theorem Ah6(a:Code)(d:Tm (R:=R) L Q Y s a)(e:Tn (R:=R) L Q Y s a)(b:JZ (R:=R) L Q Y s a)(c:KA (R:=R) L Q Y s a):Tp (R:=R) L Q Y s (cd [1,0,1,0,0,1,0,0,1,1,1] (G3 [1,0,1,0,0,1,0,0,1,1,1,1] a N3)):=by intro k i h g f;unfold Hj;simp only[<-b k,<-c k];kernel_rfl
theorem Ah7:Tp (R:=R) L Q Y s (cd [1,0,1,0,0,1,0,0,1,1,1] N3):=by intro k d c b a;exact c9 (by kernel_rfl) (Ah6 L Q Y s (cd [1,0,1,0,0,1,0,0,1,1,1,1] N3) (CS L Q Y s) (CT L Q Y s) (Ah4 L Q Y s) (Ah5 L Q Y s) k d c b a)
noncomputable def Aj{R:Type}(f:By)(c a:Int)(d:By->Int->Bool->Option R)(g:Unit->Option R):Option R:=cond (not (ltI a 97)) (cond (not (ltI 122 a)) (Wv f c a (λe b=>d e b false)) (cond (not (ltI a 65)) (Hj f c a (not (ltI 90 a)) (λ_=>g ()) d) (Hj f c a false (λ_=>g ()) d))) (cond (not (ltI a 65)) (Hj f c a (not (ltI 90 a)) (λ_=>g ()) d) (Hj f c a false (λ_=>g ()) d))
abbrev Mi(b:Code):Prop:=∀(k:Out->St Z->Option R) d c a b3,A9 (L3 L) Q Y b ⟨gp [(0,pS d),(4,pI c),(0,p8 a),(16,pB b3)] 50,[],s⟩ k=Aj d c a (λd c a=>k .normal ⟨gp [(0,pS d),(4,pI c),(67,pB a)] 0,[],s⟩) (λ_=>k .ret ⟨gp [(2,pS e0),(0,pS e0),(0,pB false)] 69,[],s⟩)
theorem Ah8(a:Code)(b:To (R:=R) L Q Y s a)(c:Tp (R:=R) L Q Y s a):Mi (R:=R) L Q Y s (cd [1,0,1,0,0,1,0,0,1,1] (G3 [1,0,1,0,0,1,0,0,1,1,1] a N3)):=by intro k g f d e;unfold Aj;simp only[<-b k,<-c k];kernel_rfl
theorem Ah9:Mi (R:=R) L Q Y s (cd [1,0,1,0,0,1,0,0,1,1] N3):=by intro k d c a b;exact c9 (by kernel_rfl) (Ah8 L Q Y s (cd [1,0,1,0,0,1,0,0,1,1,1] N3) (Ah3 L Q Y s) (Ah7 L Q Y s) k d c a b)
noncomputable def O4{R:Type}(L n:Nat)(b:By)(a:Int)(c:By->By->Bool->Option R)(t:Unit->Option R):Option R:=match n with|0=>none|n+1=>cond (ltI a (b.length:Int)) (cond (inR a b.length) (cond ((bAt b a)==58) (Kk b a (bAt b a) (ltI 0 a) (λu v=>c u v true) (λw r q A=>Aj w r q (λj e x=>vl (A1 (e+1)) λh=>O4 L n j h c t) (λ_=>c e0 e0 false))) (Kk b a (bAt b a) false (λl m=>c l m true) (λo f d y=>Aj o f d (λp g z=>vl (A1 (g+1)) λi=>O4 L n p i c t) (λ_=>c e0 e0 false)))) none) (t ())
theorem Ai0(b:Code)(c:Tl (R:=R) L Q Y s b)(a:Code)(d:Mi (R:=R) L Q Y s a)(n:Nat)(e:By)(f:Int):D0 0 ((L3 L).keep 2) (bd (L3 L) Q Y (cd [1,0,1,0,0] (G3 [1,0,1,0,0,1,0,0,1,1] a (G3 [1,0,1,0,0,1,0,0,1,0,1] b N3)))) n ⟨gp [(0,pS e),(4,pI f)] 68,[],s⟩ k =
 O4 L n e f (λe D C=>k .ret ⟨gp [(2,pS e),(0,pS D),(0,pB C)] 69,[],s⟩) (λ_=>k (.exit 0) ⟨gp [] 74,[],s⟩):=by
 induction n generalizing e f with
 | zero=>rfl
 | succ n B=>rw[O4];exact let q:=(E6 1 (E5 (L3 L) Q Y (cd [1,0,1,0,0,1,1] N3) (lpK 0 ((L3 L).keep 2) (bd (L3 L) Q Y (cd [1,0,1,0,0] (G3 [1,0,1,0,0,1,0,0,1,1] a (G3 [1,0,1,0,0,1,0,0,1,0,1] b N3)))) n k)));let w:=(E5 (L3 L) Q Y a q);(c9 (by kernel_rfl) (A0 (A0 (A0 ((c w e f (bAt e f) (ltI 0 f)).trans (congr (congr rfl (by kernel_rfl)) (fx4 λv u r t=>(c9 (by kernel_rfl) ((d q v u r t).trans (congr (congr rfl (fx3 λm z x=>(c9 (by kernel_rfl) (A4 λj=>(B m j))))) (by kernel_rfl))))))) ((c w e f (bAt e f) false).trans (congr (congr rfl (by kernel_rfl)) (fx4 λo i g h=>(c9 (by kernel_rfl) ((d q o i g h).trans (congr (congr rfl (fx3 λp A y=>(c9 (by kernel_rfl) (A4 λl=>(B p l))))) (by kernel_rfl)))))))) rfl) rfl))
noncomputable def Ah0{R:Type}(L:Nat)(b:By)(a:By->By->Bool->Option R):Option R:=O4 L L b 0 a (λ_=>a e0 e0 false)
theorem Cg7(a:Code)(c:Tl (R:=PV × List Blk × Z) L Q Y s a)(b:Code)(d:Mi (R:=PV × List Blk × Z) L Q Y s b)(e:By):A9 (L3 L) Q Y (cd [] (G3 [1,0,1,0,0,1,0,0,1,1] b (G3 [1,0,1,0,0,1,0,0,1,0,1] a N3))) ⟨[pS e]++tps 73,[],s⟩ (F5 (L3 L) ah5)=Ah0 L e (λf g h=>some (.tup [pS f,pS g,pB h],[],s)):=by unfold Ah0;exact(c9 (by kernel_rfl) ((Ai0 L Q Y s (E6 0 (E5 (L3 L) Q Y (cd [1,1] N3) (F5 (L3 L) ah5))) a c b d L e 0).trans (by kernel_rfl)))
theorem Cg8(d:Nat)(s0):evC (L3 L) (d+1) Z Y 61 [pS s0] [] s=Ah0 L s0 (λa b c=>some (.tup [pS a,pS b,pB c],[],s)):=
 (evE (fn:=ah5) (by kernel_rfl)).trans (c9 (by kernel_rfl) (Cg7 L (evC (L3 L) d) Y s (cd [1,0,1,0,0,1,0,0,1,0,1] N3) (Ah1 L (evC (L3 L) d) Y s) (cd [1,0,1,0,0,1,0,0,1,1] N3) (Ah9 L (evC (L3 L) d) Y s) s0))
noncomputable abbrev L2:Code:=C6 ah1
noncomputable def I9(L:Nat):Cfg:=B6 L [41] (A3 [(36,[2,0,1,3,0,4,0]),(20,[2,0,1,3,0,0]),(2,[0,1,0,0])]) [(61,Bf1),(23,Ub),(62,Be9),(63,MG),(45,Bf2)] (A3 [(46,[2,0]),(45,[2,7]),(44,[2,7,173]),(43,[2,2,4]),(42,[2,0]),(41,[2,2,4,4,160]),(37,[2,2,3,0,4,0]),(40,[2,2,3,0,4,0]),(39,[2,0]),(38,[2,2,3,0,4,0,147]),(36,[2,2,3,0,4,0,135]),(35,[2,2,3,0,4,0]),(34,[2,2,3,0,1,2]),(33,[2,2,3,0,1,133]),(32,[2,2,3,0,1]),(31,[2,0]),(30,[2,2,3,0,1,0,0,122]),(29,[2,2,3,0,1,0,0]),(28,[2,0]),(27,[2,2,3,0,1,114]),(26,[2,2,3,0,1]),(25,[2,2,3,0,1,95]),(24,[2,2,3,0,1]),(21,[2,2,3,0,0]),(23,[2,2,3,0]),(22,[2,2,3,0,0,79]),(20,[2,2,3,0,0,73]),(19,[2,2,3,0,0]),(18,[2,2,3,0]),(17,[2,2,0,2,0,66]),(16,[2,2,0,2,0]),(15,[2,2,0,2]),(14,[2,2,0,1]),(13,[2,2,0]),(12,[2,0]),(11,[2,2,0,49]),(10,[2,0]),(9,[2,2,0,38]),(8,[2,0]),(7,[2,2,0,34]),(6,[2,2,0,0]),(3,[0,1,1]),(5,[2,0]),(4,[0,1,1,27]),(2,[0,1,1,15]),(1,[0,1,1]),(0,[0,1])]) [61,23,62,45] (A3 [(4,[2,2,4,4]),(5,[2,2,3,0,4,0]),(2,[2,2,3,0]),(3,[2,2,3,0,0]),(0,[0,1]),(1,[0,1,1])]) (some [2,0]) [] [] []
noncomputable def Ee{R:Type}(L n:Nat)(a:By)(b:Int)(c:(List Blk)->Option R)(d:By->Option R):Option R:=match n with|0=>none|n+1=>cond (ltI b (a.length:Int)) (cond (inR b a.length) (cond (not (ltI 32 (bAt a b))) (c []) (cond (inR b a.length) (cond ((bAt a b)==127) (c []) (Ee L n a (A1 (b+1)) c d)) none)) none) (d a)
theorem Ag6(n a i1):D0 1 ((I9 L).keep 2) (bd (I9 L) Q Y (cd [1,0,1,0,0] L2)) n ⟨gp [(0,pS a),(1,.ptr 0 0 0),(1,pI i1)] 182,[bU0],s⟩ k =
 Ee L n a i1 (λb=>k .ret ⟨gp [(2,.ptr 0 0 0),(0,pI (4:Int))] 183,(bU0::b),s⟩) (λa=>k (.exit 0) ⟨gp [(0,pS a),(1,.ptr 0 0 0)] 184,[bU0],s⟩):=by
 induction n generalizing a i1 with
 | zero=>rfl
 | succ n c=>rw[Ee];simp only[<-c];kernel_rfl
noncomputable def Y0{R:Type}(L n:Nat)(b a:By)(c:Int)(g:By)(f:By->By->By->By->Option R):Option R:=match n with|0=>none|n+1=>cond (not (ltI c 0)) (cond (inR c a.length) (cond ((bAt a c)==64) (cond (I7 0 c a.length) (vl (cut a 0 c) λd=>cond (I7 (A1 (c+1)) (a.length:Int) a.length) (vl (cut a (A1 (c+1)) (a.length:Int)) λe=>f b e d g) none) none) (Y0 L n b a (A1 (c-1)) g f)) none) (f b a e0 g)
theorem CP(n b a i2 c):D0 2 ((I9 L).keep 20) (bd (I9 L) Q Y (cd [1,1,1,1,1,1,1,1,1,1,1,0,1,0,0] L2)) n ⟨gp [(2,.ptr 0 0 0),(2,pS b),(3,pS a),(0,.ptr 1 0 0),(0,pI i2)] 175,[bU0,(bU b [] 0 [] 0 0 0 0 0 0 0 0 0 (-1) c)],s⟩ k =
 Y0 L n b a i2 c (λb a e c=>k (.exit 2) ⟨gp [(2,.ptr 0 0 0),(2,pS b),(3,pS a),(0,.ptr 1 0 0)] 176,[bU0,(bU b e 0 [] 0 0 0 0 0 0 0 0 0 (-1) c)],s⟩):=by
 induction n generalizing b a i2 c with
 | zero=>rfl
 | succ n d=>rw[Y0];simp only[<-d];kernel_rfl
noncomputable def Cd{R:Type}(c a:By)(d:Int)(h:Bool)(f g:By)(i:(List Blk)->Option R)(j:By->By->Int->Bool->By->By->Option R)(l:By->By->Int->Bool->By->By->Option R):Option R:=cond h (cond (A2 a.length) (vl (↑(R1 a ([93]:List UInt8)):Int) λe=>vl (A1 (e+1)) λb=>cond (ltI (a.length:Int) b) (i [(bU c f 0 [] 0 0 0 0 0 0 0 0 0 (-1) g)]) (cond (ltI b (a.length:Int)) (cond (inR b a.length) (cond ((bAt a b)!=58) (i [(bU c f 0 [] 0 0 0 0 0 0 0 0 0 (-1) g)]) (j c a b ((bAt a b)!=58) f g)) none) (j c a b false f g))) none) (l c a d h f g)
abbrev Tg(b:Code):Prop:=∀(k:Out->St Z->Option R) c a d e f g,A9 (I9 L) Q Y b ⟨gp [(2,.ptr 0 0 0),(2,pS c),(3,pS a),(0,.ptr 1 0 0),(1,pI d),(95,pB e)] 78,[bU0,(bU c f 0 [] 0 0 0 0 0 0 0 0 0 (-1) g)],s⟩ k=Cd c a d e f g (λh=>k .ret ⟨gp [(2,.ptr 0 0 0),(0,pI (4:Int))] 183,(bU0::h),s⟩) (λc a d e f g=>k .normal ⟨gp [(2,.ptr 0 0 0),(2,pS c),(3,pS a),(0,.ptr 1 0 0),(1,pI d),(114,pB e)] 59,[bU0,(bU c f 0 [] 0 0 0 0 0 0 0 0 0 (-1) g)],s⟩) (λc a d e f g=>k .normal ⟨gp [(2,.ptr 0 0 0),(2,pS c),(3,pS a),(0,.ptr 1 0 0),(1,pI d),(95,pB e)] 78,[bU0,(bU c f 0 [] 0 0 0 0 0 0 0 0 0 (-1) g)],s⟩)
theorem CM:Tg (R:=R) L Q Y s (cd [1,1,1,1,1,1,1,1,1,1,1,1,1,0,1] L2):=by intro k b a c d e f;unfold Cd;kernel_rfl
noncomputable def Ef{R:Type}(L n:Nat)(b a:By)(x j:Int)(u:By)(m:Int)(q:By)(o n8 p c d e f g h:Int)(i:By)(v:(List Blk)->Option R)(w:By->Int->By->Int->By->Int->Int->Int->Int->Int->Int->Int->Int->Int->By->Option R):Option R:=match n with|0=>none|n+1=>cond (ltI j (a.length:Int)) (cond (inR j a.length) (cond (ltI (bAt a j) (48:Int)) (v [(bU b u m q o n8 p c d e f g h (-1) i),(bH m q o n8 p c d e f g h)]) (cond (inR j a.length) (cond (ltI 57 (bAt a j)) (v [(bU b u m q o n8 p c d e f g h (-1) i),(bH m q o n8 p c d e f g h)]) (cond (inR j a.length) (vl (wu8 ((bAt a j)-48)) λr=>vl (A1 ((A1 (x*10))+(A1 r))) λl=>vl (if ((1048576:Int)<l) then (1048576:Int) else l) λt=>Ef L n b a t (A1 (j+1)) u m q o n8 p c d e f g h i v w) none)) none)) none) (w b x u m q o n8 p c d e f g h i)
theorem CQ(n a authority1 n2 i3 i f s6 g n8 h b c d e n14 n15 s16):D0 3 ((I9 L).keep 36) (bd (I9 L) Q Y (cd [1,1,1,1,1,1,1,1,1,1,1,1,1,1,1,1,1,0,1,0,1,0,1,0,0] L2)) n ⟨gp [(2,.ptr 0 0 0),(2,pS a),(3,pS authority1),(0,.ptr 1 0 0),(4,pI n2),(0,pI i3)] 170,[bU0,(bU a i f s6 g n8 h b c d e n14 n15 (-1) s16),(bH f s6 g n8 h b c d e n14 n15)],s⟩ k =
 Ef L n a authority1 n2 i3 i f s6 g n8 h b c d e n14 n15 s16 (λo=>k .ret ⟨gp [(2,.ptr 0 0 0),(0,pI (16:Int))] 183,(bU0::o),s⟩) (λa q r l i f m g n8 h b c d e j=>k (.exit 4) ⟨gp [(2,.ptr 0 0 0),(2,pS a),(4,.ptr 1 0 0),(4,pI q)] 171,[bU0,(bU a r l i f m g n8 h b c d e (-1) j),(bH l i f m g n8 h b c d e)],s⟩):=by
 induction n generalizing a authority1 n2 i3 i f s6 g n8 h b c d e n14 n15 s16 with
 | zero=>rfl
 | succ n p=>rw[Ef];simp only[<-p];kernel_rfl
noncomputable def S8{R:Type}(L:Nat)(d b:By)(t:Int)(x y:By)(w:Int->By->By->Int->By->Int->Int->Int->Int->Int->Int->Int->Int->Int->Int->By->(List Blk)->Option R):Option R:=cond (I7 0 t b.length) (vl (cut b 0 t) λv=>cond (A2 v.length) (vl (B9 v) λa=>cond ((↑(a).2:Int)!=0) (w (↑(a).2:Int) e0 e0 0 e0 0 0 0 0 0 0 0 0 0 0 e0 [(bU d x 0 [] 0 0 0 0 0 0 0 0 0 (-1) y),(bH (hK a) (hN a) (hV a) (hA a 0) (hA a 1) (hA a 2) (hA a 3) (hA a 4) (hA a 5) (hA a 6) (hA a 7))]) (vl (A1 (t+1)) λA=>cond (ltI A (b.length:Int)) (vl (A1 (t+1)) λB=>Ef L L d b 0 B x (hK a) (hN a) (hV a) (hA a 0) (hA a 1) (hA a 2) (hA a 3) (hA a 4) (hA a 5) (hA a 6) (hA a 7) y (λz=>w 16 e0 e0 0 e0 0 0 0 0 0 0 0 0 0 0 e0 z) (λc u q e p f g h i j l m n o r=>cond (ltI 65535 u) (w 16 e0 e0 0 e0 0 0 0 0 0 0 0 0 0 0 e0 [(bU c q e p f g h i j l m n o (-1) r),(bH e p f g h i j l m n o)]) (cond (u==(G7 c)) (w 0 c q e p f g h i j l m n o (-1) r [(bU c q e p f g h i j l m n o (-1) r),(bH e p f g h i j l m n o)]) (w 0 c q e p f g h i j l m n o u r [(bU c q e p f g h i j l m n o u r),(bH e p f g h i j l m n o)])))) (cond (((-1):Int)==(G7 d)) (w 0 d x (hK a) (hN a) (hV a) (hA a 0) (hA a 1) (hA a 2) (hA a 3) (hA a 4) (hA a 5) (hA a 6) (hA a 7) (-1) y [(bU d x (hK a) (hN a) (hV a) (hA a 0) (hA a 1) (hA a 2) (hA a 3) (hA a 4) (hA a 5) (hA a 6) (hA a 7) (-1) y),(bH (hK a) (hN a) (hV a) (hA a 0) (hA a 1) (hA a 2) (hA a 3) (hA a 4) (hA a 5) (hA a 6) (hA a 7))]) (w 0 d x (hK a) (hN a) (hV a) (hA a 0) (hA a 1) (hA a 2) (hA a 3) (hA a 4) (hA a 5) (hA a 6) (hA a 7) (-1) y [(bU d x (hK a) (hN a) (hV a) (hA a 0) (hA a 1) (hA a 2) (hA a 3) (hA a 4) (hA a 5) (hA a 6) (hA a 7) (-1) y),(bH (hK a) (hN a) (hV a) (hA a 0) (hA a 1) (hA a 2) (hA a 3) (hA a 4) (hA a 5) (hA a 6) (hA a 7))])))) none) none
abbrev Th(b:Code):Prop:=∀(k:Out->St Z->Option R) name0 authority1 end2 b3 a s5,A9 (I9 L) Q Y b ⟨gp [(2,.ptr 0 0 0),(2,pS name0),(3,pS authority1),(0,.ptr 1 0 0),(1,pI end2),(114,pB b3)] 59,[bU0,(bU name0 a 0 [] 0 0 0 0 0 0 0 0 0 (-1) s5)],s⟩ k=S8 L name0 authority1 end2 a s5 (λn0 p q j a l m n n8 o d e f g h i c=>k .ret ⟨gp [(2,.ptr 0 0 0),(0,pI n0)] 183,((bU p q j a l m n n8 o d e f g h i)::c),s⟩)
theorem CN:Th (R:=R) L Q Y s (cd [1,1,1,1,1,1,1,1,1,1,1,1,1,1] L2):=by intro k c b e j h i;unfold S8;exact(c9 (by kernel_rfl) (A0 (A4 λg=>(A0 (A4 λa=>(A0 rfl (A4 λf=>(A0 (A4 λd=>((CQ L Q Y s (E6 4 (E5 (I9 L) Q Y (cd [1,1,1,1,1,1,1,1,1,1,1,1,1,1,1,1,1,0,1,0,1,1] L2) (E5 (I9 L) Q Y (cd [1,1,1,1,1,1,1,1,1,1,1,1,1,1,1,1,1,1] L2) k))) L c b 0 d h (hK a) (hN a) (hV a) (hA a 0) (hA a 1) (hA a 2) (hA a 3) (hA a 4) (hA a 5) (hA a 6) (hA a 7) i).trans (by kernel_rfl))) (A0 rfl rfl))))) rfl)) rfl))
noncomputable def Kj{R:Type}(L:Nat)(p c:By)(u:Int)(A B:By)(x:Int->By->By->Int->By->Int->Int->Int->Int->Int->Int->Int->Int->Int->Int->By->(List Blk)->Option R):Option R:=cond (I7 0 u c.length) (vl (cut c 0 u) λv=>cond (A2 v.length) (vl (B9 v) λa=>cond ((↑(a).2:Int)!=0) (x (↑(a).2:Int) e0 e0 0 e0 0 0 0 0 0 0 0 0 0 0 e0 [(bU p A 0 [] 0 0 0 0 0 0 0 0 0 (-1) B),(bH (hK a) (hN a) (hV a) (hA a 0) (hA a 1) (hA a 2) (hA a 3) (hA a 4) (hA a 5) (hA a 6) (hA a 7))]) (vl (A1 (u+1)) λy=>cond (ltI y (c.length:Int)) (vl (A1 (u+1)) λz=>Ef L L p c 0 z A (hK a) (hN a) (hV a) (hA a 0) (hA a 1) (hA a 2) (hA a 3) (hA a 4) (hA a 5) (hA a 6) (hA a 7) B (λw=>x 16 e0 e0 0 e0 0 0 0 0 0 0 0 0 0 0 e0 w) (λb t q d o e f g h i j l m n r=>cond (ltI 65535 t) (x 16 e0 e0 0 e0 0 0 0 0 0 0 0 0 0 0 e0 [(bU b q d o e f g h i j l m n (-1) r),(bH d o e f g h i j l m n)]) (cond (t==(G7 b)) (x 0 b q d o e f g h i j l m n (-1) r [(bU b q d o e f g h i j l m n (-1) r),(bH d o e f g h i j l m n)]) (x 0 b q d o e f g h i j l m n t r [(bU b q d o e f g h i j l m n t r),(bH d o e f g h i j l m n)])))) (cond (((-1):Int)==(G7 p)) (x 0 p A (hK a) (hN a) (hV a) (hA a 0) (hA a 1) (hA a 2) (hA a 3) (hA a 4) (hA a 5) (hA a 6) (hA a 7) (-1) B [(bU p A (hK a) (hN a) (hV a) (hA a 0) (hA a 1) (hA a 2) (hA a 3) (hA a 4) (hA a 5) (hA a 6) (hA a 7) (-1) B),(bH (hK a) (hN a) (hV a) (hA a 0) (hA a 1) (hA a 2) (hA a 3) (hA a 4) (hA a 5) (hA a 6) (hA a 7))]) (x 0 p A (hK a) (hN a) (hV a) (hA a 0) (hA a 1) (hA a 2) (hA a 3) (hA a 4) (hA a 5) (hA a 6) (hA a 7) (-1) B [(bU p A (hK a) (hN a) (hV a) (hA a 0) (hA a 1) (hA a 2) (hA a 3) (hA a 4) (hA a 5) (hA a 6) (hA a 7) (-1) B),(bH (hK a) (hN a) (hV a) (hA a 0) (hA a 1) (hA a 2) (hA a 3) (hA a 4) (hA a 5) (hA a 6) (hA a 7))])))) none) none
abbrev Ti(b:Code):Prop:=∀(k:Out->St Z->Option R) name0 authority1 end2 b3 a s5,A9 (I9 L) Q Y b ⟨gp [(2,.ptr 0 0 0),(2,pS name0),(3,pS authority1),(0,.ptr 1 0 0),(1,pI end2),(95,pB b3)] 78,[bU0,(bU name0 a 0 [] 0 0 0 0 0 0 0 0 0 (-1) s5)],s⟩ k=Kj L name0 authority1 end2 a s5 (λn0 p q j a l m n n8 o d e f g h i c=>k .ret ⟨gp [(2,.ptr 0 0 0),(0,pI n0)] 183,((bU p q j a l m n n8 o d e f g h i)::c),s⟩)
theorem CO:Ti (R:=R) L Q Y s (cd [1,1,1,1,1,1,1,1,1,1,1,1,1,1] L2):=by intro k d b f j h i;unfold Kj;exact(c9 (by kernel_rfl) (A0 (A4 λg=>(A0 (A4 λa=>(A0 rfl (A4 λe=>(A0 (A4 λc=>((CQ L Q Y s (E6 4 (E5 (I9 L) Q Y (cd [1,1,1,1,1,1,1,1,1,1,1,1,1,1,1,1,1,0,1,0,1,1] L2) (E5 (I9 L) Q Y (cd [1,1,1,1,1,1,1,1,1,1,1,1,1,1,1,1,1,1] L2) k))) L d b 0 c h (hK a) (hN a) (hV a) (hA a 0) (hA a 1) (hA a 2) (hA a 3) (hA a 4) (hA a 5) (hA a 6) (hA a 7) i).trans (by kernel_rfl))) (A0 rfl rfl))))) rfl)) rfl))
noncomputable def Hg{R:Type}(L:Nat)(v b O:By)(A:Int->By->By->Int->By->Int->Int->Int->Int->Int->Int->Int->Int->Int->Int->By->(List Blk)->Option R):Option R:=vl (A1 ((b.length:Int)-1)) λC=>Y0 L L v b C O (λg a r t=>cond (A2 a.length) (vl (↑(R1 a ([58]:List UInt8)):Int) λq=>cond (not (a==e0)) (cond (inR 0 a.length) (vl (bAt a (0:Int)) λD=>Cd g a q (D==91) r t (λB=>A 4 e0 e0 0 e0 0 0 0 0 0 0 0 0 0 0 e0 B) (λm e o M F G=>S8 L m e o F G A) (λn f p N H I=>Kj L n f p H I A)) none) (Cd g a q false r t (λu=>A 4 e0 e0 0 e0 0 0 0 0 0 0 0 0 0 0 e0 u) (λh c j J w x=>S8 L h c j w x A) (λi d l K y z=>Kj L i d l y z A))) none)
abbrev Tj(b:Code):Prop:=∀(k:Out->St Z->Option R) name0 authority1 a,A9 (I9 L) Q Y b ⟨gp [(2,.ptr 0 0 0),(2,pS name0),(3,pS authority1),(0,.ptr 1 0 0)] 176,[bU0,(bU name0 [] 0 [] 0 0 0 0 0 0 0 0 0 (-1) a)],s⟩ k=Hg L name0 authority1 a (λn0 p a j q l m n n8 o d e f g h i c=>k .ret ⟨gp [(2,.ptr 0 0 0),(0,pI n0)] 183,((bU p a j q l m n n8 o d e f g h i)::c),s⟩)
theorem Ag1(b:Code)(d:Tg (R:=R) L Q Y s b)(a:Code)(e:Th (R:=R) L Q Y s a)(f:Ti (R:=R) L Q Y s a):Tj (R:=R) L Q Y s (cd [1,1,1,1,1,1,1,1,1,1,1] (G3 [1,1,1,1,1,1,1,1,1,1,1,1,1,1] a (G3 [1,1,1,1,1,1,1,1,1,1,1,1,1,0,1] b L2))):=by intro k B l T;unfold Hg;exact let S:=(E5 (I9 L) Q Y a k);(c9 (by kernel_rfl) (A4 λJ=>((CP L Q Y s (E6 2 (E5 (I9 L) Q Y (cd [1,1,1,1,1,1,1,1,1,1,1,1] (G3 [1,1,1,1,1,1,1,1,1,1,1,1,1,1] a (G3 [1,1,1,1,1,1,1,1,1,1,1,1,1,0,1] b L2))) k)) L B l J T).trans (congr rfl (fx4 λm c x y=>(c9 (by kernel_rfl) (A0 (A4 λw=>(A0 (A0 (A4 λK=>((d S m c w (K==91) x y).trans (congr (congr (congr rfl (by kernel_rfl)) (fx6 λr i u H M N=>(c9 (by kernel_rfl) ((e k r i u H M N).trans (by kernel_rfl))))) (fx6 λt j v I O P=>(c9 (by kernel_rfl) ((f k t j v I O P).trans (by kernel_rfl))))))) rfl) ((d S m c w false x y).trans (congr (congr (congr rfl (by kernel_rfl)) (fx6 λn g p z C D=>(c9 (by kernel_rfl) ((e k n g p z C D).trans (by kernel_rfl))))) (fx6 λo h q A F G=>(c9 (by kernel_rfl) ((f k o h q A F G).trans (by kernel_rfl)))))))) rfl)))))))
theorem Ag2:Tj (R:=R) L Q Y s (cd [1,1,1,1,1,1,1,1,1,1,1] L2):=by intro k b a c;exact c9 (by kernel_rfl) (Ag1 L Q Y s (cd [1,1,1,1,1,1,1,1,1,1,1,1,1,0,1] L2) (CM L Q Y s) (cd [1,1,1,1,1,1,1,1,1,1,1,1,1,1] L2) (CN L Q Y s) (CO L Q Y s) k b a c)
noncomputable def JY{R:Type}(L:Nat)(y z b:By)(J:Int->By->By->Int->By->Int->Int->Int->Int->Int->Int->Int->Int->Int->Int->By->(List Blk)->Option R):Option R:=vl (A1 ((b.length:Int)-1)) λw=>Y0 L L y b w z (λg a r t=>cond (A2 a.length) (vl (↑(R1 a ([58]:List UInt8)):Int) λq=>cond (not (a==e0)) (cond (inR 0 a.length) (vl (bAt a (0:Int)) λx=>Cd g a q (x==91) r t (λu=>J 4 e0 e0 0 e0 0 0 0 0 0 0 0 0 0 0 e0 u) (λh c m K A B=>S8 L h c m A B J) (λi d n M C D=>Kj L i d n C D J)) none) (Cd g a q false r t (λv=>J 4 e0 e0 0 e0 0 0 0 0 0 0 0 0 0 0 e0 v) (λj e o N F G=>S8 L j e o F G J) (λl f p O H I=>Kj L l f p H I J))) none)
abbrev Tk(b:Code):Prop:=∀(k:Out->St Z->Option R) name0 rest1 authority2 b3,A9 (I9 L) Q Y b ⟨gp [(2,.ptr 0 0 0),(2,pS name0),(0,pS rest1),(2,pS authority2),(0,.ptr 1 0 0),(66,pB b3)] 109,[bU0,(bU name0 [] 0 [] 0 0 0 0 0 0 0 0 0 (-1) rest1)],s⟩ k=JY L name0 rest1 authority2 (λn0 o p i q j l m n8 n c d e f g h a=>k .ret ⟨gp [(2,.ptr 0 0 0),(0,pI n0)] 183,((bU o p i q j l m n8 n c d e f g h)::a),s⟩)
theorem Ag4(b:Code)(d:Tg (R:=R) L Q Y s b)(a:Code)(e:Th (R:=R) L Q Y s a)(f:Ti (R:=R) L Q Y s a):Tk (R:=R) L Q Y s (cd [1,1,1,1,1,1,1,1,1,1,1] (G3 [1,1,1,1,1,1,1,1,1,1,1,1,1,1] a (G3 [1,1,1,1,1,1,1,1,1,1,1,1,1,0,1] b L2))):=by intro k G H m U;unfold JY;exact let T:=(E5 (I9 L) Q Y a k);(c9 (by kernel_rfl) (A4 λD=>((CP L Q Y s (E6 2 (E5 (I9 L) Q Y (cd [1,1,1,1,1,1,1,1,1,1,1,1] (G3 [1,1,1,1,1,1,1,1,1,1,1,1,1,1] a (G3 [1,1,1,1,1,1,1,1,1,1,1,1,1,0,1] b L2))) k)) L G m D H).trans (congr rfl (fx4 λl c x y=>(c9 (by kernel_rfl) (A0 (A4 λw=>(A0 (A0 (A4 λF=>((d T l c w (F==91) x y).trans (congr (congr (congr rfl (by kernel_rfl)) (fx6 λn g r z I J=>(c9 (by kernel_rfl) ((e k n g r z I J).trans (by kernel_rfl))))) (fx6 λo h t A K M=>(c9 (by kernel_rfl) ((f k o h t A K M).trans (by kernel_rfl))))))) rfl) ((d T l c w false x y).trans (congr (congr (congr rfl (by kernel_rfl)) (fx6 λp i u B N O=>(c9 (by kernel_rfl) ((e k p i u B N O).trans (by kernel_rfl))))) (fx6 λq j v C P S=>(c9 (by kernel_rfl) ((f k q j v C P S).trans (by kernel_rfl)))))))) rfl)))))))
theorem Ag5:Tk (R:=R) L Q Y s (cd [1,1,1,1,1,1,1,1,1,1,1] L2):=by intro k b c a d;exact c9 (by kernel_rfl) (Ag4 L Q Y s (cd [1,1,1,1,1,1,1,1,1,1,1,1,1,0,1] L2) (CM L Q Y s) (cd [1,1,1,1,1,1,1,1,1,1,1,1,1,1] L2) (CN L Q Y s) (CO L Q Y s) k b c a d)
noncomputable def Pb{R:Type}(L:Nat)(s0:By)(k0:By->By->Int->By->Int->Int->Int->Int->Int->Int->Int->Int->Int->Int->By->Int->(List Blk)->Option R):Option R:=Ee L L s0 0 (λb4=>k0 e0 e0 0 e0 0 0 0 0 0 0 0 0 0 0 e0 4 (bU0::b4)) (λa=>cond (A2 a.length) (cond (not (((Di a)).2).2) (k0 e0 e0 0 e0 0 0 0 0 0 0 0 0 0 0 e0 15 [bU0]) (cond (not (C8 ((Di a)).1)) (k0 ((Di a)).1 e0 0 e0 0 0 0 0 0 0 0 0 0 (-1) (((Di a)).2).1 0 [(bU (((Di a)).1) e0 (0:Int) e0 (0:Int) (0:Int) (0:Int) (0:Int) (0:Int) (0:Int) (0:Int) (0:Int) (0:Int) ((-1):Int) ((((Di a)).2).1))]) (cond (ltI (↑(b8 (((Di a)).2).1):Int) (2:Int)) (k0 e0 e0 0 e0 0 0 0 0 0 0 0 0 0 0 e0 4 [bU0]) (cond (I7 0 (2:Int) (b8 (((Di a)).2).1)) (vl (cut (((Di a)).2).1 (0:Int) (2:Int)) λb5=>cond (not (b5==[47,47])) (k0 e0 e0 0 e0 0 0 0 0 0 0 0 0 0 0 e0 4 [bU0]) (cond (I7 2 (↑(b8 (((Di a)).2).1):Int) (b8 (((Di a)).2).1)) (vl (cut (((Di a)).2).1 (2:Int) (↑(b8 (((Di a)).2).1):Int)) λb=>cond (A2 b.length) (vl (↑(R1 b ([47,63,35]:List UInt8)):Int) λd=>cond (I7 0 d b.length) (cond (I7 d (b.length:Int) b.length) (vl (cut b d (b.length:Int)) λc=>cond (c==e0) (cond (J7 1 c.length) (vl (([47]:List UInt8)++c) λb2=>Hg L ((Di a)).1 (cut b 0 d) b2 (λa9 P S e T f g h i j l m n o p U a5=>k0 P S e T f g h i j l m n o p U a9 ((bU P S e T f g h i j l m n o p U)::a5))) none) (cond (inR 0 c.length) (cond ((bAt c (0:Int))!=47) (cond (J7 1 c.length) (vl (([47]:List UInt8)++c) λb3=>Hg L ((Di a)).1 (cut b 0 d) b3 (λb0 V W q X r t u v w x y z A B a0 a6=>k0 V W q X r t u v w x y z A B a0 b0 ((bU V W q X r t u v w x y z A B a0)::a6))) none) (JY L ((Di a)).1 c (cut b 0 d) (λb1 a1 a2 C a3 D F G H I J K M N O a4 a7=>k0 a1 a2 C a3 D F G H I J K M N O a4 b1 ((bU a1 a2 C a3 D F G H I J K M N O a4)::a7)))) none)) none) none) none) none)) none)))) none)
theorem Cg4(a:Code)(b:Tj (R:=PV × List Blk × Z) L Q Y s a)(c:Tk (R:=PV × List Blk × Z) L Q Y s a)(t:By):A9 (I9 L) Q Y (cd [] (G3 [1,1,1,1,1,1,1,1,1,1,1] a L2)) ⟨[pS t]++tps 186,[],s⟩ (F5 (I9 L) ah1)=Pb L t (λu v w x y z A B r8 C m n o p q r l=>some (.tup [(gU u v w x y z A B r8 C m n o p q),pI r],l,s)):=by unfold Pb;exact let j:=(F5 (I9 L) ah1);(c9 (by kernel_rfl) ((Ag6 L Q Y s (E6 0 (E5 (I9 L) Q Y (cd [1,1] (G3 [1,1,1,1,1,1,1,1,1,1,1] a L2)) j)) L t 0).trans (congr (congr rfl (by kernel_rfl)) (fx1 λe=>(c9 (by kernel_rfl) (A0 (A0 rfl (A0 rfl (A0 rfl (A0 (A4 λD=>(A0 rfl (A0 (A4 λf=>(A0 (A4 λd=>(A0 (A0 (A4 λi=>(A0 (A0 (A4 λg=>((b j ((Di e)).1 (cut f 0 d) g).trans (by kernel_rfl))) rfl) (A0 (A0 (A0 (A4 λh=>((b j ((Di e)).1 (cut f 0 d) h).trans (by kernel_rfl))) rfl) ((c j ((Di e)).1 i (cut f 0 d) ((bAt i (0:Int))!=47)).trans (by kernel_rfl))) rfl))) rfl) rfl)) rfl)) rfl))) rfl)))) rfl))))))
theorem Cg5(d:Nat)(s0):evC (I9 L) (d+1) Z Y 41 [pS s0] [] s=Pb L s0 (λi j l m n o p q r8 r b c e f g h a=>some (.tup [(gU i j l m n o p q r8 r b c e f g),pI h],a,s)):=
 (evE (fn:=ah1) (by kernel_rfl)).trans (c9 (by kernel_rfl) (Cg4 L (evC (I9 L) d) Y s (cd [1,1,1,1,1,1,1,1,1,1,1] L2) (Ag2 L (evC (I9 L) d) Y s) (Ag5 L (evC (I9 L) d) Y s) s0))
noncomputable def Zb(L:Nat):Cfg:=B6 L [14] (A3 []) [(41,Bf0)] (A3 [(3,[2,0]),(2,[2,0]),(1,[0,1,3]),(0,[0,1])]) [] (A3 []) (some [2,0]) [] [] []
noncomputable def EI{R:Type}(L:Nat)(b:By)(c:By->By->Int->By->Int->Int->Int->Int->Int->Int->Int->Int->Int->Int->By->Int->(List Blk)->Option R):Option R:=cond (ltI 2048 (b.length:Int)) (c e0 e0 0 e0 0 0 0 0 0 0 0 0 0 0 e0 3 [bU0]) (cond (A2 b.length) (vl (B8 b) λa=>c (uS a) (uU a) (uK a) (uN a) (uV a) (uA a 0) (uA a 1) (uA a 2) (uA a 3) (uA a 4) (uA a 5) (uA a 6) (uA a 7) (uP a) (uR a) (uE a) [(bQ a)]) none)
theorem A78(d:Nat)(s0):evC (Zb L) (d+1) Z Y 14 [pS s0] [] s=EI L s0 (λi j l m n o p q r8 r b c e f g h a=>some (.tup [(gU i j l m n o p q r8 r b c e f g),pI h],a,s)):=by refine(evE (fn:=Tryz.f14) (by kernel_rfl)).trans ?_;generalize evC (Zb L) d=Q;unfold EI;kernel_rfl
end
theorem Ai1{R:Type}{e:Bool->Option R}(s:By):WA LF s e=e (C8 s):=by unfold WA C8 BH bWs Iw KX;generalize (s==([104,116,116,112]:List UInt8))=a;generalize (s==([119,115]:List UInt8))=b;generalize (s==([104,116,116,112,115]:List UInt8))=c;generalize (s==([119,115,115]:List UInt8))=d;cases a<;>cases b<;>cases c<;>cases d<;>rfl
theorem A83{R:Type}{e:Int->Option R}(s:By):Bk8 LF s e=e (G7 s):=by unfold Bk8 G7 BH bWs Iw KX;generalize (s==([104,116,116,112]:List UInt8))=a;generalize (s==([119,115]:List UInt8))=b;generalize (s==([104,116,116,112,115]:List UInt8))=c;generalize (s==([119,115,115]:List UInt8))=d;cases a<;>cases b<;>cases c<;>cases d<;>rfl
theorem Kd(a b:UInt8):((a.toNat:Int)==(b.toNat:Int))=(a==b):=by rw[s9,beq_iff_eq,beq_iff_eq];exact⟨λh=>x8.1 (by omega),λh=>by rw[h]⟩
theorem Cg3{R:Type}{a:Int->Option R}{b:By->By->Int->Option R}(s t:By)(i:Nat)(h:s.length<=1000000000)(k:t.length<=1000000000)(g:i<s.length):∀(r j n:Nat),j+r=t.length->r<n->
  Hb LF n s t (i:Int) (j:Int) a b=if (t.drop j).contains (s.getD i 0)=true then a (i:Int) else b s t (i:Int):=by
 intro r
 induction r with
 | zero=>
  intro j n d e;obtain⟨n,rfl⟩:∃m,n=m+1:=⟨n-1,by omega⟩
  rw[Hb];rw[A6,s8 (by omega)];rfl
 | succ r f=>
  intro j n d e;obtain⟨n,rfl⟩:∃m,n=m+1:=⟨n-1,by omega⟩
  have c:A1 ((j:Int)+1)=((j+1:Nat):Int):=by rw[A7];rfl
  rw[Hb];rw[A8,E9,E9,D1,D1,Kd,D2 t j (by omega),af6,c];simp only[cond_true];rw[f (j+1) n (by omega) (by omega)];cases (s.getD i 0==t.getD j 0)<;>rfl
theorem Bx1{R:Type}{a:Int->Option R}{c:By->Option R}(s t:By)(j:s.length<=1000000000)(k:t.length<=1000000000):∀(r i n:Nat),i+r=s.length->r<n->
  Hd LF n s t (i:Int) a c=if R1 (s.drop i) t<r then a ((i+R1 (s.drop i) t:Nat):Int) else c s:=by
 have e:=C4;intro r
 induction r with
 | zero=>
  intro i n f g;obtain⟨n,rfl⟩:∃m,n=m+1:=⟨n-1,by omega⟩
  rw[Hd];rw[A6,F7];rfl
 | succ r l=>
  intro i n f g;obtain⟨n,rfl⟩:∃m,n=m+1:=⟨n-1,by omega⟩
  have d:A1 ((i:Int)+1)=((i+1:Nat):Int):=by rw[A7];rfl
  rw[Hd];rw[A8,cond_true];refine c9 (Cg3 s t i j k (by omega) t.length 0 LF (by omega) (by omega)) ?_;rw[aa9,d,l (i+1) n (by omega) (by omega),D2 s i (by omega)];unfold R1;cases h:t.contains (s.getD i 0) with
  | true=>
   rw[if_pos rfl,v8,h];rfl
  | false=>
   rw[if_neg (by simp),v8,h];simp only[p6,if_true,j0,ad7];rw[show i+1+(ah0 (λb=>!t.contains b) (s.drop (i+1))).length=i+((ah0 (λb=>!t.contains b) (s.drop (i+1))).length+1) by omega]
theorem At8(s t:By):R1 s t<=s.length:=ai6 (List.takeWhile_sublist _)
theorem A76{R:Type}{a:Int->Option R}(s t:By)(b:A2 s.length=true)(c:A2 t.length=true):Cg1 LF s t a=a (R1 s t:Int):=by
 have e:=L8 b;have f:=L8 c;have d:=C4;have g:=At8 s t;refine(Bx1 s t e f s.length 0 LF (by omega) (by omega)).trans ?_;rw[aa9,ac7];split
 ·rfl
 ·rw[show R1 s t=s.length by omega]
set_option maxHeartbeats 4000000 in theorem CV{R:Type}(s:By)(i:Nat)(b:UInt8)(f:By->Int->Option R)(g:Unit->Option R) :
  Aj s (i:Int) (b.toNat:Int) (λs i _=>f s i) g=if P6 b=true\/(i≠0/\K9 b=true) then f s i else g ():=by
 have a:(b=43)=(b.toNat=43):=by rw[eq_iff_iff,<-x8];rfl
 have d:(b=45)=(b.toNat=45):=by rw[eq_iff_iff,<-x8];rfl
 have e:(b=46)=(b.toNat=46):=by rw[eq_iff_iff,<-x8];rfl
 simp only[U2,Eg,a,d,e];unfold Aj Hj Wv Km Hi Kl Hh;generalize b.toNat=c;simp only[cond_eq_ite,aa7,Kb,beq_iff_eq,Bool.not_eq_false',Lu,beq_eq_false_iff_ne,j4,p6,p4,Bool.true_eq_false,if_true,if_false,ne_eq]
 repeat' split
 all_goals first|rfl|(exfalso;omega)
theorem WU{c:UInt8}:∀{p:By},c∉p->p.takeWhile (λb=>b !=c)=p
 | [],_=>rfl
 | b::p,h=>by
  simp only[p5,not_or] at h;rw[v8,if_pos (by simpa using ad3 h.1),WU h.2]
theorem Cj1{c:UInt8}{p:By}(r:By)(h:c∉p):(p++c::r).takeWhile (λb=>b !=c)=p:=by
 rw[ac5 (λx a=>by
  rw[bne_iff_ne];intro e;subst e;exact h a),v8,if_neg (by simp),ae7]
theorem Dk0{c b:UInt8}(r:By)(h:b≠c):(b::r).takeWhile (λb=>b !=c)=b::r.takeWhile λb=>b !=c:=by rw[v8,if_pos (by simpa using h)]
theorem B62(b:UInt8):((b.toNat:Int)==58)=(b==58):=Kd b 58
theorem A81{R:Type}{c:By->By->Bool->Option R}(s:By)(q:s.length<=1000000000):∀(r i n:Nat),1<=i->i+r=s.length->r<n->
  O4 LF n s (i:Int) c (λ_=>c [] [] false)=if ((s.drop i).takeWhile λb=>b !=58).all K9=true/\((s.drop i).takeWhile λb=>b !=58).length<r then c (B3 (s.take (i+((s.drop i).takeWhile λb=>b !=58).length))) (s.drop (i+((s.drop i).takeWhile λb=>b !=58).length+1)) true else c [] [] false:=by
 intro r
 induction r with
 | zero=>
  intro i n k l o;obtain⟨n,rfl⟩:∃m,n=m+1:=⟨n-1,by omega⟩
  rw[O4];rw[A6,F7];rfl
 | succ r p=>
  intro i n k l o;obtain⟨n,rfl⟩:∃m,n=m+1:=⟨n-1,by omega⟩
  have g:A1 ((i:Int)+1)=((i+1:Nat):Int):=by rw[A7];rfl
  rw[O4];unfold Kk;rw[A8,E9,D1,D2 s i (by omega),B62,A8];simp only[cond_true,cond_false];by_cases a:s.getD i 0=58
  ·rw[a,show((58:UInt8)==58)=true from rfl,cond_true,show((58:UInt8)::s.drop (i+1)).takeWhile (λb=>b !=58)=[] from rfl,if_pos ⟨rfl,by simp⟩];simp only[vl];rw[I4,K4,j8,D6 (by rw[j5];omega),g,I4,R0,j8];rfl
  ·rw[show(s.getD i 0==58)=false by simpa using a,cond_false,Dk0 _ a];simp only[vl];refine(CV s i (s.getD i 0) (λf e=>O4 LF n f (A1 (e+1)) c λ_=>c [] [] false) (λ_=>c [] [] false)).trans ?_;rw[g,p (i+1) n (by omega) (by omega) (by omega),ai0,j0];have j:(P6 (s.getD i 0)=true\/i≠0/\K9 (s.getD i 0)=true)↔K9 (s.getD i 0)=true:=by
    refine⟨λh=>?_,λh=>.inr ⟨by omega,h⟩⟩;rcases h with h|⟨_,h⟩
    ·rw[Eg];rw[U2] at h;exact h.elim .inl λh=>.inr (.inl h)
    ·exact h
   by_cases d:K9 (s.getD i 0)=true
   ·rw[if_pos (j.2 d)];simp only[d,ah9,ad7];rw[show i+1+((s.drop (i+1)).takeWhile λb=>b !=58).length=i+(((s.drop (i+1)).takeWhile λb=>b !=58).length+1) by omega]
   ·rw[if_neg (λh=>d (j.1 h)),if_neg (λh=>d (by have:=h.1;rw[s7] at this;exact this.1))]
theorem A82{R:Type}{a:By->By->Bool->Option R}(s:By)(n:A2 s.length=true):Ah0 LF s a=a (Di s).1 (Di s).2.1 (Di s).2.2:=by
 have u:=L8 n;have o:=C4;obtain⟨N,hN⟩:∃m,LF=m+1:=⟨LF-1,by omega⟩
 unfold Ah0;rw[show O4 LF LF = @O4 R LF (N+1) by rw[<-hN],O4];unfold Kk;cases s with
 | nil=>
  rfl
 | cons b r=>
  rw[j0] at u;rw[B5 (by simp only[j0];omega),L9 (by omega) (by simp),Ag,y9,B62,A6];simp only[cond_true,cond_false,vl];have l:A1 (((0:Nat):Int)+1)=((1:Nat):Int):=rfl;have go:Aj (b::r) ((0:Nat):Int) (b.toNat:Int) (λe d _=>O4 LF N e (A1 (d+1)) a λ_=>a [] [] false) (λ_=>a [] [] false)=if P6 b=true/\(r.takeWhile λb=>b !=58).all K9=true/\(r.takeWhile λb=>b !=58).length<r.length then a (B3 ((b::r).take (1+(r.takeWhile λb=>b !=58).length))) ((b::r).drop (1+(r.takeWhile λb=>b !=58).length+1)) true else a [] [] false:=by
   refine(CV (b::r) 0 b (λe d=>O4 LF N e (A1 (d+1)) a λ_=>a [] [] false) (λ_=>a [] [] false)).trans ?_;rw[l,A81 (b::r) (by simp;omega) r.length 1 N (by omega) (by simp;omega) (by omega)];by_cases j:P6 b=true
   ·rw[if_pos (.inl j)];simp only[j,true_and];rfl
   ·rw[if_neg (by simp[j]),if_neg (λh=>j h.1)]
  have k:∀c,(bif c then Aj (b::r) 0 (b.toNat:Int) (λe d _=>O4 LF N e (A1 (d+1)) a λ_=>a [] [] false) (λ_=>a [] [] false) else Aj (b::r) 0 (b.toNat:Int) (λe d _=>O4 LF N e (A1 (d+1)) a λ_=>a [] [] false) (λ_=>a [] [] false))=Aj (b::r) ((0:Nat):Int) (b.toNat:Int) (λe d _=>O4 LF N e (A1 (d+1)) a λ_=>a [] [] false) (λ_=>a [] [] false):=λc=>by cases c<;>rfl
  refine(k _).trans (go.trans ?_);unfold Di;rcases Q1 58 r with f|⟨p,t,rfl,f⟩
  ·rw[WU f,F7];by_cases i:b=58
   ·subst i;rw[show w6 (58::r) [58]=([],r,true) from Q5 (p:=[]) (by simp)];rfl
   ·rw[Ju (by simp only[p5,not_or];exact⟨ad3 i,f⟩)];rfl
  ·rw[Cj1 t f];by_cases i:b=58
   ·subst i;rw[show w6 (58::(p++58::t)) [58]=([],p++58::t,true) from Q5 (p:=[]) (by simp),if_neg (λh=>by cases h.1)];rfl
   ·rw[show w6 (b::(p++58::t)) [58]=(b::p,t,true) from Q5 (p:=b::p) (by simp only[p5,not_or];exact⟨ad3 i,f⟩)];simp only[ah9];have q:S9 (b::p)=(P6 b&&p.all K9):=rfl;rw[q];by_cases g:P6 b=true/\p.all K9=true
    ·rw[if_pos ⟨g.1,g.2,by simp⟩,g.1,g.2,show(b::(p++58::t))=(b::p)++58::t from rfl,show 1+p.length=(b::p).length by rw[j0];omega,ab0,show(b::p)++58::t=((b::p)++[58])++t by simp,ae8 (by simp)];rfl
    ·rw[if_neg (λh=>g ⟨h.1,h.2.1⟩),if_neg (by simpa using g)]
end
end Go.Proofs.YtcfingekgbbclaaGreatDoor.E
