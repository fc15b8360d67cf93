/-
  Parts of the proof, merged by a program of the prover's own; no condition.
-/
import Derived.Test.YtcfingekgbbclaaGreatDoorKOT4
import Derived.BigQuiet
import Derived.Deep.QuietTactic
import Derived.LaidMore
import Derived.LaidSub
import Derived.Laws.Runes
import Derived.Lay
import Derived.Lib.IndexAny
import Derived.Lib.MapLaws
import Derived.OpenShut
import Derived.ProofKit
import Derived.Shelf.Abstract
import Derived.Shelf.Vars
import Derived.Test.YtcfingekgbbclaaGreatDoorChecked
import Derived.Test.YtcfingekgbbclaaGreatDoorProg
import Derived.Test.YtcfingekgbbclaaGreatDoorRows
import Derived.WalkKit
import Derived.WideMake
open Go.Proofs.Tryz renaming prog->a8,underlying52->ac2,underlying9->ac4,checked->ag9,underlying29->ah0,f101->ah5,func25->ah7,f55->ai4,f58->ai5,f60->ai6,f75->ai7,ntmps25->aj9,f40->ak1,f82->ak2
open List renaming length->b8,getD->b9,length_drop->c9,length_cons->j0,length_append->j1,length_take->j5,length_singleton->j7,mem_cons->p9,size_toArray->s8,drop_of_length_le->v7,getElem?_append_right->v8,toArray->w6,isPrefixOf->w8,mem_of_mem_drop->x3,length_nil->x5,mem_append->x6,getElem?_take_of_lt->y7,getElem?_cons_zero->z7,getElem?_take->aa2,getElem?_toArray->aa3,getElem?_append_left->aa7,getD_cons_zero->aa8,mem_singleton->ab2,getElem?_cons_succ->ab4,take_left->ac0,mem_of_mem_take->ac5,drop_succ_cons->ac7,takeWhile_cons->ac8,drop_zero->ad3,getElem?_eq_some_iff->ad5,getElem?_eq_getElem->ad9,cons_append->ae1,isEmpty_iff->ae2,length_eq_zero_iff->ae3,not_mem_nil->ae4,take_of_length_le->ae6,nil_append->af1,getElem?_eq_none->af2,drop_left->af5,getD_cons_succ->af8,getElem?_range->af9,getElem?_drop->ag1,getElem?_map->ag5,append_nil->ah9,drop_left'->ai0,map_map->aj6
open Bool renaming not_true->j2,false_eq_true->k9,not_false->p7,and_eq_true->s7,eq_iff_iff->s9,eq_false_iff->aa4,or_eq_true->ab0,not_eq_true'->ab7,not_eq_true->ah2,false_or->ai9,or_self->aj3
open Option.some renaming inj->j4,injEq->p4
open Go.Value renaming int->j6
open Go.Lib renaming indexByte->j8,cut->w9,decodeL->aa5,indexAny->aa6,tabData->ab3,VarReads->ab8,decDigits->ad8,acceptData->af4,deBruijn64tab->ag4,indexByte_ge->ah3,size_eq->ah6,firstTab->aj4,pow10Tab->aj5
open Int renaming toNat_natCast->j9,eq_ofNat_of_zero_le->y9
open Exists renaming intro->p5
open Eq renaming trans->p6
open Go.Utf8 renaming decode->x4,encode->ab5
open Array renaming length_toList->x7,getElem?_eq_none->ab6,getElem?_append_left->ad1,getElem?_eq_some_iff->ad2,getElem?_eq_getElem->ad4,size_append->ag2,toList_push->ag3,toList_inj->ah1,size_push->ah8
open Nat renaming eq_of_beq_eq_true->x8,le_refl->x9,ble->y8,mul_one->aa0,zero_le->aa1,le_of_ble_eq_true->ac3,ble_eq->ae7,zero_add->ae8,ble_eq_true_of_le->af3,sub_self->ag6,strongRecOn->ai1,add_zero->aj7,beq->aj8
open UInt8 renaming ofNat->y5,toNat_inj->ac6
open Go.World renaming laidAll->aa9,cell?->ad7,frozen?->ae0,shape?->ae9
open Option renaming map_some->ab1,bind_some->ae5,getD_some->ah4,isSome->aj1
open Go.Lib.laidMet renaming reads->ab9
open Go.MapKept renaming run_getObj_map->ac1,run_findKey->ac9,run_checkKey->af6,IsKey->aj0
open Go.Instr renaming lookup->ad0,mapUpdate->af0,findNow->ag0,checkKey->ai3
open Go.MakeChecks renaming laidMetH_plain->ad6
open Go.Result renaming andThen->af7
open Ne renaming symm->ag7
open Go.RowKit.Below renaming refl->ag8
open Go.DataW renaming trod->ai2
open Prod.mk renaming injEq->aj2
namespace Go.Proofs.YtcfingekgbbclaaGreatDoor.E
set_option linter.all false
section
open Go Go.ChangeAt Go.ChangeShapes Go.Proofs Go.RowKit Go.WideShapes
set_option maxRecDepth 100000
theorem own:ownKnob a8.godebug=none:=by kernel_rfl
theorem Ct8:laidOutB a8=true:=by kernel_rfl
noncomputable def gTy(g:Nat):Nat:=match a8.globals[g]? with|some x=>x.type|none=>0
noncomputable def dbT:Nat:=gTy 5
noncomputable def Cx2:Nat:=gTy 1
noncomputable def RY:Nat:=gTy 3
noncomputable def Cq7:Nat:=gTy 2
noncomputable def RX:Nat:=match a8.underlying RY with|some (.array _ e)=>e|_=>0
noncomputable def Yq:Array Field:=match a8.underlying RX with|some (.struct a)=>a|_=>#[]
noncomputable def ME:Field:=match Yq.toList with|a::_=>a|_=>default
noncomputable def MF:Field:=match Yq.toList with|_::a::_=>a|_=>default
theorem C85:Yq[0]? = some ME:=by unfold ME Yq RX RY gTy;kernel_rfl
theorem C86:Yq[1]? = some MF:=by unfold MF Yq RX RY gTy;kernel_rfl
def Et:List (String × DataW Unit):=[("math/bits.deBruijn32tab", Rows.laid_math_bits_deBruijn32tab), ("math/bits.deBruijn64tab", Rows.laid_math_bits_deBruijn64tab), ("internal/strconv.uint64pow10", Rows.laid_internal_strconv_uint64pow10), ("unicode/utf8.acceptRanges", Rows.laid_unicode_utf8_acceptRanges), ("unicode/utf8.first", Rows.laid_unicode_utf8_first)]
theorem PB{W:World}{n:String}{g:Nat}{a:Array Value}(b:a8.globalNamed n=some g)(h:W.var? a8 n=some a):∃e x,W.heap[g]? = some (.cells a e x):=by
 unfold World.var? at h;rw[b,ae5] at h;split at h
 ·rename_i c e x d;simp only[p4] at h;subst h;exact⟨e,x,d⟩
 ·cases h
theorem AX{W:World}{n:String}{g t e m:Nat}{k:IntKind}{f:List Int}(l:a8.globalNamed n=some g)(d:(a8.globals[g]?).map (·.type)=some t)(w:a8.underlying t=some (.array m e))(v:a8.underlying e=some (.int k))(a:a8.cellsOf e=1)(c:a8.cellsOf t=m)
  (h:ab8 a8 W n (ab3 k f)):∃e x,W.heap[g]? = some (.cells (f.map λz=>j6 k z).toArray e x):=by
 obtain⟨y,A,o,i,p,q,r,j,u⟩:=h;obtain rfl:=j4 (l.symm.trans q);obtain rfl:=j4 (d.symm.trans r);have b:=Lib.cells_of_tab w v a c u;have:o=(f.map λz=>j6 k z).toArray:=by rw[<-b]
 rw[this] at j;exact PB l j
theorem KJ{H:Type}{enc:TypeId × Value->H}{P:Program}{w:World}{base:Nat}{sp:Nat->Bool}{held:Bool}{a:Nat}{t e:TypeId}{n:Nat}{b:List Value}{d:DataW H}{p:List MemPlace}(f:P.underlying t=some (.array n e))
  (h:ai2 enc P w base sp held a t b=some (d,p)):b.length=P.cellsOf t:=by
 cases a with
 | zero=>simp[ai2] at h
 | succ a=>
  simp only[ai2,f] at h;split at h
  ·rename_i c;simpa using c
  ·cases h
theorem Bm4{W:World}(C : a8.globalNamed "unicode/utf8.acceptRanges" = some 3)(h:ab8 a8 W "unicode/utf8.acceptRanges" af4) :
  ∃e x,W.heap[3]? = some (.cells (Gf.map λz=>j6 .u8 z).toArray e x):=by
 obtain⟨M,t,v,w,p,H,a,y,A⟩:=h;obtain rfl:=j4 (C.symm.trans H);have n:(a8.globals[3]?).map (·.type)=some RY:=by unfold RY;kernel_rfl
 obtain rfl:=j4 (n.symm.trans a);have F:a8.underlying RY=some (.array 16 RX):=by unfold RY RX;kernel_rfl
 have N:=KJ F A;have I:a8.cellsOf RY=32:=by unfold RY;kernel_rfl
 have b:a8.cellsOf RX=2:=by unfold RX;kernel_rfl
 have K:∃j,a8.underlying RX=some (.struct j)/\j.size=2/\∀(i:Nat) (f:Field),j[i]? = some f->a8.underlying f.type=some (.int .u8)/\f.offset=i/\a8.cellsOf f.type=1:=by
  refine⟨Yq,by unfold RX Yq;kernel_rfl,by unfold Yq;kernel_rfl,λi f m=>?_⟩;have:i<2:=by
   have:=(ad2.1 m).1;rwa [show Yq.size=2 by unfold Yq;kernel_rfl] at this
  match i,this with
  | 0,_=>
   obtain rfl:=j4 (m.symm.trans (show Yq[0]? = some ME from C85));exact⟨by unfold ME;kernel_rfl,by unfold ME;kernel_rfl,by unfold ME;kernel_rfl⟩
  | 1,_=>
   obtain rfl:=j4 (m.symm.trans (show Yq[1]? = some MF from C86));exact⟨by unfold MF;kernel_rfl,by unfold MF;kernel_rfl,by unfold MF;kernel_rfl⟩
 obtain⟨j,o,r,u⟩:=K;have l:v.toList=Gf.map λz=>j6 .u8 z:=by
  have D:(Gf.map λz=>j6 .u8 z).length=32:=by rw[List.length_map];rfl
  apply List.ext_getElem?;intro q;by_cases J:q<32
  ·obtain⟨k,d,O,c,B⟩:=Lib.array_elem F A (q / 2) (by omega);simp only[ag5,af9 (show q / 2<16 by omega),ab1,p4] at c;subst c;rw[b] at B;have L:=Lib.ints_of_struct o u (by rw[b,r]) B;have e0:=congrArg (·[q % 2]?) L;simp only[aa2,ag1] at e0;rw[P9,show q / 2*2+q % 2=q by omega] at e0;rw[e0];unfold Gf;have G:∀g:Nat->Value,(List.map g (List.range 32))[q]? = some (g q):=λg=>by
    rw[ag5,af9 J];rfl
   rw[aj6,G];rcases Nat.mod_two_eq_zero_or_one q with a|a
   ·simp[a]
   ·simp[a]
  ·rw[af2 (by omega),af2 (by omega)]
 have:v=(Gf.map λz=>j6 .u8 z).toArray:=by rw[<-l]
 rw[this] at y;exact PB C y
theorem Au3{C:Cfg}(r:C.G=GX){W:World}(b:laidMet a8 Et W)(p:W.ShapedOpen a8):GOK C (· < W.heap.size) W:=by
 have lt:∀{g:Nat} {o:Obj},W.heap[g]? = some o->g<W.heap.size:=λh=>(ad2.1 h).1
 have I:ab8 a8 W "math/bits.deBruijn64tab" (ab3 .u8 (ag4.map λn:Nat=>(n:Int))):=ab9 b (by rw [show (ab3 .u8 (ag4.map λn:Nat=>(n:Int)):DataW Unit)=Rows.laid_math_bits_deBruijn64tab by kernel_rfl];simp [Et])
 have J:ab8 a8 W "internal/strconv.uint64pow10" (ab3 .u64 aj5):=ab9 b (by rw [show (ab3 .u64 aj5:DataW Unit)=Rows.laid_internal_strconv_uint64pow10 by kernel_rfl];simp [Et])
 have K:ab8 a8 W "unicode/utf8.acceptRanges" af4:=ab9 b (by rw [show af4=Rows.laid_unicode_utf8_acceptRanges by kernel_rfl];simp [Et])
 have L:ab8 a8 W "unicode/utf8.first" (ab3 .u8 aj4):=ab9 b (by rw [show (ab3 .u8 aj4:DataW Unit)=Rows.laid_unicode_utf8_first by kernel_rfl];simp [Et])
 have y:=AX (g:=5) (t:=dbT) (e:=5) (m:=64) (by kernel_rfl) (by unfold dbT;kernel_rfl) (by unfold dbT;kernel_rfl) (by kernel_rfl) (by kernel_rfl) (by unfold dbT;kernel_rfl) I;have A:=AX (g:=1) (t:=Cx2) (e:=112) (m:=20) (by kernel_rfl) (by unfold Cx2;kernel_rfl) (by unfold Cx2;kernel_rfl) (by kernel_rfl) (by kernel_rfl) (by unfold Cx2;kernel_rfl) J;have B:=Bm4 (by kernel_rfl) K;have D:=AX (g:=2) (t:=Cq7) (e:=5) (m:=256) (by kernel_rfl) (by unfold Cq7;kernel_rfl) (by unfold Cq7;kernel_rfl) (by kernel_rfl) (by kernel_rfl) (by unfold Cq7;kernel_rfl) L;have F:=cell_of_shapedOpen_int (k:=.i64) (g:=0) (t:=3) (zero:=#[.int .i64 0]) p (of_decide_eq_true (by kernel_rfl)) (by kernel_rfl) rfl (by kernel_rfl) (by kernel_rfl) (by kernel_rfl);refine⟨λg k w h=>?_,λg h=>?_⟩
 ·rw[r] at h;simp only[GX] at h;have key:∀{q:Nat} {v:IntKind} {a:List Int},(∃e x,W.heap[q]? = some (.cells (a.map λz=>j6 v z).toArray e x))->g=q->(v,a)=(k,w)->g<W.heap.size/\∃e x,W.heap[g]? = some (.cells (w.map λz=>j6 k z).toArray e x):=λc G H=>by
   subst G;cases H;obtain⟨e,x,c⟩:=c;exact⟨lt c,e,x,c⟩
  cases d:aj8 g 2 with
  | true=>rw[d,cond_true] at h;exact key D (x8 d) (j4 h)
  | false=>
   rw[d,cond_false] at h;cases f:aj8 g 3 with
   | true=>rw[f,cond_true] at h;exact key B (x8 f) (j4 h)
   | false=>
    rw[f,cond_false] at h;cases i:aj8 g 1 with
    | true=>rw[i,cond_true] at h;exact key A (x8 i) (j4 h)
    | false=>
     rw[i,cond_false] at h;cases j:aj8 g 5 with
     | true=>rw[j,cond_true] at h;exact key y (x8 j) (j4 h)
     | false=>rw[j,cond_false] at h;cases h
 ·rw[r] at h;have e:=x8 h;subst e;obtain⟨m,u⟩:=F;refine⟨?_,m,u⟩;apply Classical.byContradiction;intro l;simp[ad7,ab6 (Nat.le_of_not_lt l)] at u
theorem AE(os:Os)(args:Array Value):((aa9 a8 os Et).forCall (λ_ _=>0) ⟨#[],args,[]⟩).Shaped a8:=
 World.shaped_of_ZipB (by kernel_rfl) (by kernel_rfl)
theorem KX(os:Os)(args:Array Value):laidMetH a8 Et ((aa9 a8 os Et).forCall (λ_ _=>0) ⟨#[],args,[]⟩).memory:=by rw[ad6 _ _ _ (by kernel_rfl)];exact laidMet_laidAll _ (by kernel_rfl) (by kernel_rfl)
theorem Av6{H:Type}{enc:TypeId × Value->H}{os:Os}(j:os.Started){C:Cfg}(u:C.P=a8)(r:C.G=GX)(Z:XOK C)(W:Nk C){f tb:Nat}{fn:Func}{c:Code}{s:ChangeSpec}{g:List PathCond}{apart fresh handsOn again:Bool}(l:a8.inits.idxOf? f=none)(x:a8.funcs[f]? = some fn)(hb:fn.body=some c)(n:(fn.name == "runtime.NumGoroutine")=false)
  (F:∀t∈fn.params.toList,(a8.readableRec t=true/\t<a8.types.size)/\(Kq a8 20 t).isSome=true) (z:fn.resultTypes = #[tb]) (m:a8.underlying tb=some .bool) (q:s.vars=[])
  (p:∀ds:List (DataW H),ds.length=fn.params.toList.length->s.fn H ds = { results:=[.lit (.bool true)],args:=ds })
  (a:Array Value) (h:Nat) (o:Input.okWideB a8 ((aa9 a8 os Et).forCall (λ_ _=>0) ⟨#[],a,[]⟩) f ⟨#[],a,[]⟩=true)
  (Ok:s.preB enc a8 fn g apart ((aa9 a8 os Et).forCall (λ_ _=>0) ⟨#[],a,[]⟩).memory a h=true)
  (J:s.sizedB enc a8 fn apart ((aa9 a8 os Et).forCall (λ_ _=>0) ⟨#[],a,[]⟩).memory a h=true)
  (D:∀args,Kt a8 fn.params.toList args->∃d T,evC C d Unit noY f args [] ()=some (.s (.bool true),T,())) :
  ReturnsInHanded {} ag9 os f .any (λw args=>(s.pre enc a8 fn g apart w args/\laidMetH a8 Et w)/\sizedMet enc a8 fn (OpenSpec.ofChange s) apart w args) (s.post enc a8 fn apart fresh handsOn again):=by
 obtain⟨P,G,X,R,a0,lf,Q,M,xp,L,N,Y,S,nt,a1⟩:=C;simp only at u r;subst u;refine returnsInHanded_of_calls (C:=ag9) own j l
  (ChangeSpec.witness_shaped (enc:=enc) (C:=ag9) (os:=os) (X:=λw _=>laidMetH a8 Et w) false (aa9 a8 os Et) a h (World.laidAll_os _ _ _) (AE os a) o Ok J (KX os a)) ?_
 intro w b i _ I _ o Ok A;obtain⟨_,_,_,B,y,_,_,_,_,Ni⟩:=o;have e:B=fn:=j4 (y.symm.trans x);subst e;obtain⟨⟨⟨ds,U,k,hw,hc⟩,O⟩,hz⟩:=Ok;have K:=DataW.Whole.of_heap (w':=w.forCall b i) (by rfl) hw;have V:laidMet a8 Et (w.forCall b i):=by
  rw[ad6 _ _ _ (by kernel_rfl)] at O;exact laidMet.of_heap (w':=w.forCall b i) (by rfl) O
 refine(B64 (apart:=apart) (fresh:=fresh) (handsOn:=handsOn) (again:=again) Z W follows Ct8 x hb n F z m q p D (w.forCall b i) (Au3 r V I) w.heap.size i.args ds U k Ni K).mono λe W' ⟨v,he,F⟩=>?_
 subst he;exact ChangeSpec.post_blind F
end
section
open Go Go.Proofs
set_option maxRecDepth 100000
section
theorem PC:B0 a8 GX 165 Jm:=λargs ret a h=>by
 have:L6 (Jm args)=none:=by unfold Jm EO;split<;>rfl
 rw[this] at h;cases h
theorem Bb9:B0 a8 GX 79 QH:=xf [] (Aq5 LF) QI rfl trivial rfl (by kernel_rfl) follows λargs=>by
 unfold QI;split
 ·rename_i s p;exact λa=>⟨rfl,rfl,rfl,_,_,(Cu8 LF noY () 0 s p).trans (Bq9 s p a),rfl⟩
 ·trivial
theorem XA:B0 a8 GX 59 ES:=xf [] (Aq2 LF) PW rfl ⟨Bb9,trivial⟩ rfl (by kernel_rfl) follows λargs=>by
 unfold PW;split
 ·rename_i s p;exact λa=>⟨rfl,rfl,rfl,_,_,(Cs8 LF noY () 0 s p).trans (Bp0 s p a),rfl⟩
 ·trivial
theorem Cm0:B0 a8 GX 93 Am4:=xf [] (Aq6 LF) QK rfl trivial rfl (by kernel_rfl) follows λargs=>by
 unfold QK;split
 ·rename_i s p;exact λa=>⟨rfl,rfl,rfl,_,_,(Cv0 LF noY () 0 s p).trans (Br0 s p a),rfl⟩
 ·trivial
theorem Df3:B0 a8 GX 65 B25:=xf [] (Aq3 LF) PX rfl ⟨Cm0,trivial⟩ rfl (by kernel_rfl) follows λargs=>by
 unfold PX;split
 ·rename_i s p;exact λa=>⟨rfl,rfl,rfl,_,_,(Ct0 LF noY () 0 s p).trans (Bp1 s p a),rfl⟩
 ·trivial
theorem C39:B0 a8 GX 137 Bd3:=xf [] (SX LF) FD rfl ⟨Cm0,trivial⟩ rfl (by kernel_rfl) follows λargs=>by
 unfold FD;split
 ·rename_i s p;exact λa=>⟨rfl,rfl,rfl,_,_,(Ca5 LF noY () 0 s p).trans (Aw9 s p a),rfl⟩
 ·trivial
theorem C55:B0 a8 GX 107 Be9:=xf [] (TG LF) GC rfl ⟨C39,trivial⟩ rfl (by kernel_rfl) follows λargs=>by
 unfold GC;split
 ·rename_i s p;exact λa=>⟨rfl,rfl,rfl,_,_,(Ci8 LF noY () 0 s p).trans (A95 s p a),rfl⟩
 ·trivial
theorem C35:B0 a8 GX 74 Bd0:=xf [0,0] (ST LF) EX rfl ⟨Bb9,trivial⟩ rfl (by kernel_rfl) follows λargs=>by
 unfold EX;split
 ·rename_i s p;exact λa=>⟨rfl,rfl,rfl,_,_,(B99 LF noY () 0 s p).trans (Av8 s p a),rfl⟩
 ·trivial
theorem Cl2:B0 a8 GX 57 Al7:=xf [0,0] (Ap7 LF) PI rfl ⟨C35,trivial⟩ rfl (by kernel_rfl) follows λargs=>by
 unfold PI;split
 ·rename_i s p;exact λa=>⟨rfl,rfl,rfl,_,_,(Cp4 LF noY () 0 s p).trans (Bm9 s p a),rfl⟩
 ·trivial
theorem Cl3:B0 a8 GX 138 XL:=xf [1] (Dy LF) Xv rfl ⟨PC,Cm8,Bc1,trivial⟩ rfl (by kernel_rfl) follows λargs=>by
 unfold Xv;split
 ·rename_i s p v n;exact λa=>λb=>λc=>λd=>(let⟨r,H,e,q⟩:=ZL s p v n a b c d;⟨rfl,rfl,rfl,r,H,(NG LF noY () 0 s p v n).trans e,q⟩)
 ·trivial
theorem KP:B0 a8 GX 109 Uf:=xf [1] (GY LF) Yk rfl ⟨Cl3,trivial⟩ rfl (by kernel_rfl) follows λargs=>by
 unfold Yk;split
 ·rename_i s p;exact λa=>λb=>⟨rfl,rfl,rfl,_,_,(By2 LF noY () 0 s p).trans (Aj1 s p a b),rfl⟩
 ·trivial
theorem Cl9:B0 a8 GX 56 Am3:=xf [] (Sf LF) QG rfl trivial rfl (by kernel_rfl) follows λargs=>by
 unfold QG;split
 ·rename_i s;exact λa=>⟨rfl,rfl,rfl,_,_,(Cu6 LF noY () 0 s).trans (Bq7 s a),rfl⟩
 ·trivial
theorem Cl4:B0 a8 GX 122 Al9:=xf [] (Aq0 LF) PT rfl ⟨XA,trivial⟩ rfl (by kernel_rfl) follows λargs=>by
 unfold PT;split
 ·rename_i s;exact λa=>⟨rfl,rfl,rfl,_,_,(Cs4 LF noY () 0 s).trans (Bo7 s a),rfl⟩
 ·trivial
theorem Bb6:B0 a8 GX 124 PJ:=xf [0,0] (W3 LF) PK rfl trivial rfl (by kernel_rfl) follows λargs=>by
 unfold PK;split
 ·rename_i s base;exact λa=>λb=>⟨rfl,rfl,rfl,_,_,(Cq3 LF noY () 0 s base).trans (Bn4 s base a b),rfl⟩
 ·trivial
theorem C82:B0 a8 GX 123 B28:=xf [0,0] (B59 LF) Am5 rfl ⟨Cl4,Bb6,trivial⟩ rfl (by kernel_rfl) follows λargs=>by
 unfold Am5;split
 ·rename_i s;exact λa=>⟨rfl,rfl,rfl,_,_,(Db3 LF noY () 0 s).trans (Cb6 s a),rfl⟩
 ·trivial
theorem Bl8:B0 a8 GX 121 QP:=xf [1] (SZ LF) FF rfl ⟨KP,trivial⟩ rfl (by kernel_rfl) follows λargs=>by
 unfold FF;split
 ·rename_i s;exact λa=>⟨rfl,rfl,rfl,_,_,(Cc6 LF noY () 0 s).trans (Ay4 s a),rfl⟩
 ·trivial
theorem PD:B0 a8 GX 90 Pn:=xf [] (Yz LF) Rm rfl ⟨Bl8,Cl4,C82,Bb6,trivial⟩ rfl (by kernel_rfl) follows λargs=>by
 unfold Rm;split
 ·rename_i s;exact λa=>⟨rfl,rfl,rfl,_,_,(Ax6 LF noY () 0 s).trans (UO s a),rfl⟩
 ·trivial
theorem Df8:B0 a8 GX 108 B31:=xf [0,0] (Si LF) QT rfl ⟨Bl8,C82,trivial⟩ rfl (by kernel_rfl) follows λargs=>by
 unfold QT;split
 ·rename_i s;exact λa=>⟨rfl,rfl,rfl,_,_,(Cx1 LF noY () 0 s).trans (Bt1 s a),rfl⟩
 ·trivial
theorem Dl2:B0 a8 GX 180 C64:=xf [0,0] (HA LF) Ao1 rfl ⟨KP,Bb6,Cl8,trivial⟩ rfl (by kernel_rfl) follows λargs=>by
 unfold Ao1;split
 ·rename_i s;exact λa=>⟨rfl,rfl,rfl,_,_,(Dd7 LF noY () 0 s).trans (Ck4 s a),rfl⟩
 ·trivial
theorem Dl1:B0 a8 GX 67 C63:=xf [] (GZ LF) Ao0 rfl ⟨Cl8,trivial⟩ rfl (by kernel_rfl) follows λargs=>by
 unfold Ao0;split
 ·rename_i v;exact λa=>⟨rfl,rfl,rfl,_,_,(Dd6 LF noY () 0 v).trans (Ck2 v a),rfl⟩
 ·trivial
theorem B11:B0 a8 GX 117 LZ:=xf [] (Ct LF) Rn rfl trivial rfl (by kernel_rfl) follows λargs=>by
 unfold Rn;split
 ·rename_i s;exact λa=>⟨rfl,rfl,rfl,_,_,(A10 LF noY () 0 s).trans (VE s a),rfl⟩
 ·trivial
theorem Cm5:B0 a8 GX 17 An3:=xf [] (Sk LF) RC rfl trivial rfl (by kernel_rfl) follows λargs=>by
 unfold RC;split
 ·rename_i s;exact λa=>⟨rfl,rfl,rfl,_,_,(Cy9 LF noY () 0 s).trans (Bv2 s a),rfl⟩
 ·trivial
theorem Xq:B0 a8 GX 88 Nr:=xf [1] (Gi LF) Yf rfl trivial rfl (by kernel_rfl) follows λargs=>by
 unfold Yf;split
 ·rename_i s c;exact λa=>λb=>(let⟨r,H,e,q⟩:=Ae6 s c a b;⟨rfl,rfl,rfl,r,H,(Bw2 LF noY () 0 s c).trans e,q⟩)
 ·trivial
theorem Dg1:B0 a8 GX 147 B33:=xf [] (Ix LF) QY rfl trivial rfl (by kernel_rfl) follows λargs=>by
 unfold QY;split
 ·rename_i b;exact λa=>⟨rfl,rfl,rfl,_,_,(Cy0 LF noY () 0 b).trans (Bu1 b a),rfl⟩
 ·trivial
theorem Cm6:B0 a8 GX 118 An4:=xf [0,0] (P3 LF) RD rfl ⟨Dg1,trivial⟩ rfl (by kernel_rfl) follows λargs=>by
 unfold RD;split
 ·rename_i s;exact λa=>⟨rfl,rfl,rfl,_,_,(Cz1 LF noY () 0 s).trans (Bv3 s a),rfl⟩
 ·trivial
theorem Al2:B0 a8 GX 116 FO:=xf [1] (GU LF) Yd rfl ⟨Xq,trivial⟩ rfl (by kernel_rfl) follows λargs=>by
 unfold Yd;split
 ·rename_i s;exact λa=>⟨rfl,rfl,rfl,_,_,(Bv6 LF noY () 0 s).trans (Ad6 s a),rfl⟩
 ·trivial
theorem Bc0:B0 a8 GX 86 FN:=xf [] (Sl LF) Nq rfl ⟨Al2,B11,Cm6,trivial⟩ rfl (by kernel_rfl) follows λargs=>by
 unfold Nq;split
 ·rename_i s;exact λa=>⟨rfl,rfl,rfl,_,_,(Ad5 LF noY () 0 s).trans (LP s a),rfl⟩
 ·trivial
theorem C46:B0 a8 GX 87 Be0:=xf [0,0] (Le LF) FQ rfl ⟨Al2,Cm6,trivial⟩ rfl (by kernel_rfl) follows λargs=>by
 unfold FQ;split
 ·rename_i s;exact λa=>⟨rfl,rfl,rfl,_,_,(Cf3 LF noY () 0 s).trans (A55 s a),rfl⟩
 ·trivial
theorem Dg0:B0 a8 GX 173 B32:=xf [0,0] (Sj LF) QX rfl ⟨B09,trivial⟩ rfl (by kernel_rfl) follows λargs=>by
 unfold QX;split
 ·rename_i s;exact λa=>⟨rfl,rfl,rfl,_,_,(Cx8 LF noY () 0 s).trans (Bu0 s a),rfl⟩
 ·trivial
theorem Dg5:B0 a8 GX 145 B36:=xf [0,0] (Sm LF) RH rfl ⟨Xq,Dg0,trivial⟩ rfl (by kernel_rfl) follows λargs=>by
 unfold RH;split
 ·rename_i s;exact λa=>⟨rfl,rfl,rfl,_,_,(C00 LF noY () 0 s).trans (Bw8 s a),rfl⟩
 ·trivial
theorem B10:B0 a8 GX 138 Xw:=by
 refine B0.fix (pf:=Rl) _ (Ch (C₀:=Dy LF) (M0.ok (l:=[(165,Jm),(166,An6),(154,FY)]) rfl ⟨PC,Cm8,Bc1,trivial⟩) (I1 rfl (by kernel_rfl)) follows ?_);intro args ret f h;unfold Rl at h;split at h
 ·rename_i s p v n;obtain⟨a,h⟩:=C1 h;obtain⟨b,h⟩:=C1 h;obtain⟨c,h⟩:=C1 h;obtain⟨d,h⟩:=C1 h;obtain⟨rfl,rfl⟩:=I9 h;have e:=(NG LF noY () 0 s p v n).trans (HZ s p v n a b c d);exact⟨rfl,1,_,[],e,rfl,rfl⟩
 ·cases h
theorem B15:B0 a8 GX 109 MD:=by
 refine B0.fix (pf:=Rt) _ (Ch (C₀:=Zd LF) (M0.ok (l:=[(138,Xw)]) rfl ⟨B10,trivial⟩) (I1 rfl (by kernel_rfl)) follows ?_);intro args ret c h;unfold Rt at h;split at h
 ·rename_i s p;obtain⟨a,h⟩:=C1 h;obtain⟨b,h⟩:=C1 h;obtain⟨rfl,rfl⟩:=I9 h;have e:=(A92 LF noY () 0 s p).trans (WI s p a b);exact⟨rfl,1,_,[],e,rfl,rfl⟩
 ·cases h
end
section
theorem De9:B0 a8 GX 179 B21:=xf [0,0] (Z9 LF) PO rfl trivial rfl (by kernel_rfl) follows λargs=>by
 unfold PO;split
 ·rename_i s;exact λa=>⟨rfl,rfl,rfl,_,_,(Cr6 LF noY () 0 s).trans (Bo3 s a),rfl⟩
 ·trivial
theorem C31:B0 a8 GX 164 Bc8:=xf [1,0] (La LF) EQ rfl ⟨KP,De9,Dl2,trivial⟩ rfl (by kernel_rfl) follows λargs=>by
 unfold EQ;split
 ·rename_i s last;exact λa=>(let⟨r,H,e,q⟩:=Au2 s last a;⟨rfl,rfl,rfl,r,H,(B83 LF noY () 0 s last).trans e,q⟩)
 ·trivial
theorem Dl5:B0 a8 GX 135 C67:=xf [0,0] (BJ LF) Ao4 rfl ⟨Cm9,C31,trivial⟩ rfl (by kernel_rfl) follows λargs=>by
 unfold Ao4;split
 ·rename_i s;exact λa=>(let⟨r,H,e,q⟩:=De5 s a;⟨rfl,rfl,rfl,r,H,(De4 LF noY () 0 s).trans e,q⟩)
 ·trivial
theorem C57:B0 a8 GX 95 Bf1:=xf [0,0] (Y3 LF) GH rfl trivial rfl (by kernel_rfl) follows λargs=>by
 unfold GH;split
 ·rename_i a b c d e f g h;exact λi=>⟨rfl,rfl,rfl,_,_,(Co0 LF noY () 0 a b c d e f g h).trans (Bc6 a b c d e f g h i),rfl⟩
 ·trivial
theorem Dl4:B0 a8 GX 96 C66:=xf [] (HB LF) Ao3 rfl ⟨De8,Bm0,trivial⟩ rfl (by kernel_rfl) follows λargs=>by
 unfold Ao3;split
 ·rename_i b a l;exact λc=>λd=>(let⟨r,H,e,q⟩:=De2 b a l c d;⟨rfl,rfl,rfl,r,H,(De1 LF noY () 0 b a l).trans e,q⟩)
 ·trivial
theorem Dl3:B0 a8 GX 68 C65:=xf [] (B61 LF) Ao2 rfl ⟨C57,Dl4,trivial⟩ rfl (by kernel_rfl) follows λargs=>by
 unfold Ao2;split
 ·rename_i a b c d f g h i;exact λj=>(let⟨r,H,e,q⟩:=De0 a b c d f g h i j;⟨rfl,rfl,rfl,r,H,(Dd9 LF noY () 0 a b c d f g h i).trans e,q⟩)
 ·trivial
theorem Dg2:B0 a8 GX 146 B34:=xf [0,0] (Ab LF) RA rfl trivial rfl (by kernel_rfl) follows λargs=>by
 unfold RA;split
 ·rename_i s;exact λa=>⟨rfl,rfl,rfl,_,_,(Cy6 LF noY () 0 s).trans (Bu5 s a),rfl⟩
 ·trivial
theorem C41:B0 a8 GX 114 Bd5:=xf [1,0] (R6 LF) FJ rfl ⟨Xq,Dg5,Dg2,trivial⟩ rfl (by kernel_rfl) follows λargs=>by
 unfold FJ;split
 ·rename_i s last;exact λa=>(let⟨r,H,e,q⟩:=A30 s last a;⟨rfl,rfl,rfl,r,H,(Ce3 LF noY () 0 s last).trans e,q⟩)
 ·trivial
theorem B12:B0 a8 GX 113 MA:=xf [] (Cu LF) Ro rfl trivial rfl (by kernel_rfl) follows λargs=>by
 unfold Ro;split
 ·rename_i s;exact λa=>⟨rfl,rfl,rfl,_,_,(A11 LF noY () 0 s).trans (VG s a),rfl⟩
 ·trivial
theorem Dg6:B0 a8 GX 84 B37:=xf [0,0] (Ac LF) RJ rfl ⟨B12,C41,trivial⟩ rfl (by kernel_rfl) follows λargs=>by
 unfold RJ;split
 ·rename_i s;exact λa=>(let⟨r,H,e,q⟩:=C02 s a;⟨rfl,rfl,rfl,r,H,(C01 LF noY () 0 s).trans e,q⟩)
 ·trivial
theorem Al0:B0 a8 GX 168 Np:=xf [] (GS LF) Yb rfl trivial rfl (by kernel_rfl) follows λargs=>by
 unfold Yb;split
 ·rename_i n;exact⟨rfl,rfl,rfl,_,_,(Bt2 LF noY () 0 n).trans (Ab9 n ),rfl⟩
 ·trivial
theorem Ak9:B0 a8 GX 170 No:=xf [] (X1 LF) Ya rfl trivial rfl (by kernel_rfl) follows λargs=>by
 unfold Ya;split
 ·rename_i d c f;exact λa=>λb=>λe=>⟨rfl,rfl,rfl,_,_,(Br9 LF noY () 0 d c f).trans (Aa9 d c f a b e),rfl⟩
 ·trivial
theorem Df7:B0 a8 GX 183 Am8:=xf [] (Aq8 LF) QR rfl trivial rfl (by kernel_rfl) follows λargs=>by
 unfold QR;split
 ·rename_i d;exact λa=>⟨rfl,rfl,rfl,_,_,(Cw6 LF noY () 0 d).trans (Bs8 d a),rfl⟩
 ·trivial
theorem Df9:B0 a8 GX 189 An0:=xf [] (Iw LF) QW rfl trivial rfl (by kernel_rfl) follows λargs=>by
 unfold QW;split
 ·rename_i b;exact λa=>⟨rfl,rfl,rfl,_,_,(Cx6 LF noY () 0 b).trans (Bt5 b a),rfl⟩
 ·trivial
end
section
theorem Cm3:B0 a8 GX 182 FG:=by
 refine B0.fix (pf:=QU) _ (Ch (C₀:=Aq9 LF) (M0.ok (l:=[]) rfl trivial) (I1 rfl (by kernel_rfl)) follows ?_);intro args ret a h;unfold QU at h;split at h
 ·rename_i b;obtain⟨rfl,rfl⟩:=I9 h;have e:=(Cx3 LF noY () 0 b).trans (Bt3 b );exact⟨rfl,1,_,[],e,rfl,rfl⟩
 ·cases h
theorem Bm1:BF a8 GX 188 Pp:=by
 refine Fq (C₀:=TA LF) (M0.ok (l:=[]) rfl trivial) (I1 rfl (by kernel_rfl)) follows ?_;intro args H ret f h;unfold Pp at h;split at h
 ·rename_i k b;obtain⟨a,h⟩:=C1 h;obtain⟨c,h⟩:=C1 h;obtain⟨rfl,rfl⟩:=I9 h;refine⟨rfl,rfl,λZ d s=>?_⟩;have e:=(Cd1 LF d s 0 k b).trans (Az7 k b a c);exact⟨1,_,e,rfl⟩
 ·cases h
theorem Dh4:BF a8 GX 169 QO:=by
 refine Fq (C₀:=Za LF) (Tw (lx:=[(182,FG),(183,Am8)]) (ly:=[(188,Pp)]) (ls:=[]) rfl rfl rfl ⟨Cm3,Df7,trivial⟩ ⟨Bm1,trivial⟩ trivial) (I1 rfl (by kernel_rfl)) follows ?_;intro args H ret f h;unfold QO at h;split at h
 ·rename_i q b z l;obtain⟨a,h⟩:=C1 h;obtain⟨c,h⟩:=C1 h;obtain⟨d,h⟩:=C1 h;obtain⟨rfl,rfl⟩:=I9 h;obtain⟨g,i,e0⟩:=Bs1 q b z l a c d;exact⟨rfl,rfl,λZ e s=>⟨1,_,(Cw2 LF e s 0 q b z l).trans (e0 _ _),rfl⟩⟩
 ·cases h
theorem Cm2:B0 a8 GX 141 Am9:=by
 refine B0.fix (pf:=QS) _ (I5 [0,0] (C₀:=Q4 LF) (Tw (lx:=[(168,Np),(170,No)]) (ly:=[(169,QO)]) (ls:=[]) rfl rfl rfl ⟨Al0,Ak9,trivial⟩ ⟨Dh4,trivial⟩ trivial) (I1 rfl (by kernel_rfl)) follows ?_);intro args ret f h;unfold QS at h;split at h
 ·rename_i b a p;obtain⟨c,h⟩:=C1 h;obtain⟨rfl,rfl⟩:=I9 h;obtain⟨r,H,e,d⟩:=Cw8 b a p c;exact⟨rfl,rfl,rfl,1,r,H,(Cw7 LF noY () 0 b a p).trans e,d⟩
 ·cases h
end
section
theorem Dh3:BF a8 GX 186 PL:=by
 refine Fq (C₀:=Yx LF) (Tw (lx:=[(182,FG),(189,An0)]) (ly:=[(188,Pp)]) (ls:=[]) rfl rfl rfl ⟨Cm3,Df9,trivial⟩ ⟨Bm1,trivial⟩ trivial) (I1 rfl (by kernel_rfl)) follows ?_;intro args H ret j h;unfold PL at h;split at h
 ·rename_i a n i b c z l;obtain⟨d,h⟩:=C1 h;obtain⟨e,h⟩:=C1 h;obtain⟨f,h⟩:=C1 h;obtain⟨rfl,rfl⟩:=I9 h;obtain⟨k,e0⟩:=Bn6 a n i b c z l d e f;exact⟨rfl,rfl,λZ g s=>⟨1,_,(Cq4 LF g s 0 a n i b c z l).trans (e0 _ _),rfl⟩⟩
 ·cases h
theorem Cl7:B0 a8 GX 104 XN:=xf [] (Gh LF) Xy rfl trivial rfl (by kernel_rfl) follows λargs=>by
 unfold Xy;split
 ·rename_i s c;exact λa=>λb=>⟨rfl,rfl,rfl,_,_,(Bp5 LF noY () 0 s c).trans (ZT s c a b),rfl⟩
 ·trivial
theorem Bl7:B0 a8 GX 80 DK:=xf [] (SQ LF) EW rfl ⟨Cl7,trivial⟩ rfl (by kernel_rfl) follows λargs=>by
 unfold EW;split
 ·rename_i s c;exact λa=>λb=>⟨rfl,rfl,rfl,_,_,(B98 LF noY () 0 s c).trans (Av5 s c a b),rfl⟩
 ·trivial
end
end
section
open Go Go.Proofs Go.Sort
set_option maxRecDepth 100000
theorem KC{C:Cfg}{Z:Type}{I:Z->(Nat->Prop)->(Nat->Prop)->World->Prop}(J:HI I){f:Ctx}{u:Nat->Prop}{w w':World}{z v1:Bool}{E o r:Nat}{l l' m:LL}{s:Z}(g cap:Nat)(H:List Value)(i:Array Value)
  (P:Oh C E=false) (j:HR f [.arr z E 1 l,.arr v1 o r m] w) (K:I s f.St u w) (M:∀b g,f.nm b=some g->¬u g)
  (d:f.nm 0=some g\/g=w.heap.size) (O:g<w'.heap.size) (e:∀k,k<w.heap.size->f.nm 0≠some k->w'.heap[k]? = w.heap[k]?) (p:w.heap.size<=w'.heap.size) (R:w'.os=w.os) (S:w'.tape=w.tape) (T:w'.output=w.output)
  (n:w'.heap[g]? = some (.cells i E (0,0))) (X:Els f.St w' 1 l' H) (D:l'≠[]) (t:∀q,q<H.length->i[q]? = H[q]?) (Y:H.length<=i.size) (B:l'.length<=cap) (hm:cap<=maxLen) (L:i.size=cap) :
  Dw C I f [.arr z E 1 l,.arr v1 o r m] w u (.fl 0) [.arr z E 1 l',.arr v1 o r m] s (.slice (some ⟨g,0,none⟩) l'.length cap) w':=by
 have x:0<[Blk.arr z E 1 l,.arr v1 o r m].length:=by simp
 have G:(f.re 0 (some g)).nm 0=some g:=by simp[Ctx.re]
 have F:¬Li C (A5 [Blk.arr z E 1 l,.arr v1 o r m] 0):=by simp[A5,Blk.shp,Li,P]
 have a:([Blk.arr z E 1 l,.arr v1 o r m].map (Blk.kill 0)).set 0 (.arr z E 1 l')=[.arr z E 1 l',.arr v1 o r m]:=rfl;have N:¬f.St g:=by
  rcases d with h|h
  ·exact(j.lt 0 g h).2.2
  ·intro hs;have:=j.stlt g hs;omega
 obtain⟨U,V,q3⟩:=VI (C:=C) (y:=.arr z E 1 l') (ng:=some g) (w':=w') j x F (λk a=>by
   simp only[p4] at a;subst a;refine⟨O,N,λc t A=>?_⟩;rcases d with h|h
   ·exact t (j.inj c 0 _ A h)
   ·have:=(j.lt c _ A).2.1;omega)
  (λk a=>by
   simp only[p4] at a;subst a;rcases d with h|h
   ·exact .inl h
   ·exact .inr (by omega)) e p R S T
  (BR.els G n X (by rintro⟨_,h⟩;exact D h) t Y) rfl
 rw[a] at U V;refine⟨_,u,U.lift u,V,?_,λc t=>?_,?_,λb W v=>?_⟩
 ·refine .fl 0 g z E 1 l'.length cap rfl (λ_ h=>D (ae3.1 h)) G B hm ?_;simp only[ae9,n,L,aa0]
 ·simp only[PV.nms,ab2] at t;subst t;simp
 ·refine J.mono s f.St u w f.St w' K (λ_ h=>h) (λk a Q=>(J.foot _ _ _ _ K k Q).2 a) (λk a=>Nat.lt_of_lt_of_le (j.stlt k a) p) (λk a=>?_) p R S T;rcases a with a|a
  ·exact e k (j.stlt k a) (λh=>(j.lt 0 k h).2.2 a)
  ·exact e k (J.foot _ _ _ _ K k a).1 (λh=>M 0 k h a)
 ·simp only[Ctx.re] at v;split at v
  ·simp only[p4] at v;subst v;rcases d with h|h
   ·exact M 0 _ h
   ·intro Q;have:=(J.foot _ _ _ _ K _ Q).1;omega
  ·exact M b W v
theorem Cf{w:World}{g o e:Nat}{vs:List Value}{a:Array Value}(c:w.heap[g]? = some (.cells a e (0,0)))(f:o+vs.length<=a.size)(l:∀v∈vs,v.oneCell'=true) :
  (w.setCells g o vs).heap[g]? = some (.cells (F8 a.toList o vs).toArray e (0,0))/\(∀k,k≠g->(w.setCells g o vs).heap[k]? = w.heap[k]?)/\(w.setCells g o vs).heap.size=w.heap.size/\(w.setCells g o vs).os=w.os/\(w.setCells g o vs).tape=w.tape/\(w.setCells g o vs).output=w.output:=by
 obtain⟨w',i,m,n,p,q,t,u,_⟩:=N3 (P:=a8) (o:=o) c f l;have b:∀j,j<vs.length->∃v,w.cell? ⟨g,o+0+j,none⟩=some v:=λj d=>by
  refine⟨a[o+j]'(by omega),?_⟩;simp[ad7,c,ad4 (show o+j<a.size by omega)]
 have r:=run_storeCells_cells (P:=a8) g o vs 0 w (λj d=>by obtain⟨v,h⟩:=b j d;rw[h];rfl) (λj d=>by simp[ae0,c]) l;rw[r] at i;simp only[aj7,Result.ok.injEq,true_and] at i;rw[i];exact⟨m,n,p,q,t,u⟩
theorem IF{St:Nat->Prop}{w:World}{l:LL}{d:List Value}{i:Nat}{n:Int}(h:Els St w 1 l d)(q:i<=l.length):Els St w 1 (Ln l i n) (d.take i++j6 .i64 n::d.drop i):=by
 have c:=h.1;rw[aa0] at c;have m:Els St w 1 (l.take i) (d.take i):=by
  refine⟨by rw[j5,j5,c,aa0],λj f=>?_⟩;rw[j5] at f;rw[List.getElem_take];obtain⟨a,b⟩:=h.2 j (by omega);refine⟨a,λk g=>?_⟩;obtain⟨U,e,v⟩:=b k g;exact⟨U,by rw[y7 (by omega)];exact e,v⟩
 have o:Els St w 1 [[SV.int .i64 n]] [j6 .i64 n]:=by
  refine⟨rfl,λj f=>?_⟩;have:j=0:=by simpa using f
  subst this;refine⟨rfl,λk g=>?_⟩;have:k=0:=by simpa using g
  subst this;exact⟨_,rfl,.int _ _⟩
 have p:Els St w 1 (l.drop i) (d.drop i):=by
  refine⟨by rw[c9,c9,c,aa0],λj f=>?_⟩;rw[c9] at f;rw[List.getElem_drop];obtain⟨a,b⟩:=h.2 (i+j) (by omega);refine⟨a,λk g=>?_⟩;obtain⟨U,e,v⟩:=b k g;exact⟨U,by rw[ag1];rw[show i+(j*1+k)=(i+j)*1+k by omega];exact e,v⟩
 have:=(m.append o).append p;unfold Ln;simpa using this
theorem IG(l:LL)(i:Nat)(n:Int)(h:i<=l.length):(Ln l i n).length=l.length+1:=by unfold Ln;rw[j1,j0,j5,c9];omega
theorem UC(l:LL)(i:Nat)(n:Int):Ln l i n≠[]:=by unfold Ln;simp
theorem Dh5:BF a8 GX 187 RP:=by
 intro C hP hG Z I yh yv hI hy args H s ret Hc G Γ Φ w Vs g2 hH hg hi hd hc hn;unfold RP at G;split at G
 ·rename_i i z l d;obtain⟨h0,G⟩:=C1 G;obtain⟨h1,G⟩:=C1 G;obtain⟨rfl,rfl⟩:=I9 G;obtain⟨i0,i1⟩:=E3.1 h0;obtain⟨i,rfl⟩:=y9 i0;have hl:=ac3 h1;have X:i<=l.length:=by
   have:(i:Int)<((l.length+1:Nat):Int):=i1;omega
  obtain⟨S,X0,V,rfl,hs,hx,hv⟩:=hc.arr3;obtain rfl:=hx.inv_int;have c0:Oh C 3=false:=by
   unfold Oh Cfg.sh;rw[hP];kernel_rfl
  obtain⟨g1,d0,n1,n2,n3,n4,n5⟩:=hH.arr' (b:=1) rfl (by simp);have f5:∃cap,V = .slice (some ⟨g1,0,none⟩) 1 cap:=by
   cases hv with
   | flv _ e sz h=>simp[A5,Blk.shp] at h
   | fl _ g v e sz n cap h e8 y R hm e6=>
    rw[n1] at y;simp only[p4] at y;subst y;simp only[A5,ab4,z7,ab1,Blk.shp,p4,Shp.arr.injEq] at h;obtain⟨_,_,_,h4⟩:=h;subst h4;exact⟨cap,rfl⟩
  obtain⟨A,rfl⟩:=f5;obtain⟨V1,p1,p2⟩:=n5 0 (by simp) 0 (by simp);have p3:V1 = .int .i64 d:=by cases p2;rfl
  subst p3;have t:∀j v,[j6 .i64 d][j]? = some v->w.cell? ⟨g1,0+j,none⟩=some v:=by
   intro j v x;have:j=0:=by
    have:=(ad5.1 x).1;simpa using this
   subst this;simp only[z7,p4] at x;subst x;simpa[ad7,n2] using p1
  have M:∀v∈[j6 .i64 d],v.oneCell'=true:=by simp[Value.oneCell']
  rw[j9];refine Rh (fn:=Tryz.f187) (by kernel_rfl) (by kernel_rfl) (by kernel_rfl) ?_;have B:∀(base:Option Addr) (c:Nat) (f:List Value),l.length<=c->c<l.length+1->f.length=l.length->(base=none->l.length=0)->(∀a,base=some a->∀j v,f[j]? = some v->w.cell? (a.add j)=some v)->Els Γ.St w 1 l f->
    Calls a8 187 #[.slice base l.length c,.int .i64 (l.length:Int),.slice (some ⟨g1,0,none⟩) 1 A] w λe w'=>∃V,e = .returned V/\Dw C I Γ [.arr z 3 1 l,.arr false 3 1 [[SV.int .i64 d]]] w Φ (.fl 0) [.arr z 3 1 (Ln l l.length d),.arr false 3 1 [[SV.int .i64 d]]] s V w':=by
   intro base c f a1 a2 a3 a4 a5 a6;refine(Any2.slices_Insert_int_end_grow Tryz.lays2_21 base l.length c g1 0 1 A f [.int .i64 d] w (by omega) a1 a2 (by omega) a3 rfl a4 a5 t M).mono ?_;rintro e w' ⟨rfl,rfl⟩;refine⟨_,rfl,?_⟩;obtain⟨T,b7⟩:=Ic (w:=w) (need:=l.length+1) (cap:=c) (e:=3) (by omega);have hE:=IF (n:=d) a6 (x9 l.length);have d8:f.take l.length++j6 .i64 d::f.drop l.length=f++[j6 .i64 d]:=by
    rw[ae6 (by omega),v7 (by omega)]
   rw[d8] at hE;have r:=IG l l.length d (x9 _);obtain⟨r1,r2⟩:=Zr (olds:=f) (Vs:=[j6 .i64 d]) (z:=(j6 .i64 0).cells) (k:=grownCap w (l.length+1) c 3) (n:=l.length) (m:=1) (size:=1) rfl (by omega) rfl T;have c7:(f.toArray++[j6 .i64 d].toArray)=(f++[j6 .i64 d]).toArray:=by simp
   rw[c7] at r1 r2;have key:∀(row:Array Value) (O:Nat),row.size=O->(∀q,q<(f++[j6 .i64 d]).length->row[q]? = (f++[j6 .i64 d])[q]?)->l.length+1<=O->O<=maxLen->
     Dw C I Γ [.arr z 3 1 l,.arr false 3 1 [[SV.int .i64 d]]] w Φ (.fl 0) [.arr z 3 1 (Ln l l.length d),.arr false 3 1 [[SV.int .i64 d]]] s (.slice (some ⟨w.heap.size,0,none⟩) (l.length+1) O) (w.drew.alloc (.cells row 3)):=by
    intro row O b1 b2 b3 b4;have D:(w.drew.alloc (.cells row 3)).heap=w.heap.push (.cells row 3):=rfl;have:=KC (C:=C) (w':=w.drew.alloc (.cells row 3)) (l':=Ln l l.length d) hI w.heap.size O (f++[j6 .i64 d]) row c0 hH hi hd (.inr rfl) (by rw[D];simp) (λk N _=>H8 D N) (by rw[D];simp) rfl rfl rfl (H7 D) (hE.mono (λg hg=>H8 D (hH.stlt g hg)) (λ_ h=>h)) (UC _ _ _) b2 (by rw[b1,j1,j7];omega) (by rw[r];exact b3) b4 b1;rw[r] at this;exact this
   exact key _ _ (r1.trans (aa0 _)) r2 T b7
  have f9:∀(row:Array Value) (f:List Value),f.length=l.length->i<l.length->l.length+1<=row.size->(∀q,q<i->row[q]? = f[q]?)->
    ∀q,q<(f.take i++j6 .i64 d::f.drop i).length->(F8 (F8 row.toList i [j6 .i64 d]) (i+1) (f.drop i)).toArray[q]? = (f.take i++j6 .i64 d::f.drop i)[q]?:=by
   intro row f a1 a2 a3 a4 q hq;have f3:q<l.length+1:=by
    rw[j1,j0,j5,c9] at hq;omega
   have ht:(f.take i).length=i:=by rw[j5];omega
   have Y:row.toList.length=row.size:=x7;simp only[aa3];rw[N2 _ _ _ (by rw[D4,c9,Y];omega),N2 _ _ _ (by rw[j7,Y];omega)];by_cases h1:q<i
   ·rw[F5,F5,aa7 (by omega),y7 h1];simpa using a4 q h1
   ·by_cases h2:q=i
    ·subst h2;rw[F5,if_pos (by rw[j7];omega),v8 (by omega),ht,ag6];rfl
    ·rw[if_pos (by rw[c9];omega),v8 (by omega),ht,show q-i=(q-(i+1))+1 by omega,ab4]
  have P:∀(g c:Nat) (f:List Value),i<l.length->l.length<=c->c<l.length+1->f.length=l.length->(∀j v,f[j]? = some v->w.cell? ⟨g,0+j,none⟩=some v)->(∀v∈f,v.oneCell'=true)->Els Γ.St w 1 l f->
    Calls a8 187 #[.slice (some ⟨g,0,none⟩) l.length c,.int .i64 (i:Int),.slice (some ⟨g1,0,none⟩) 1 A] w λe w'=>∃V,e = .returned V/\Dw C I Γ [.arr z 3 1 l,.arr false 3 1 [[SV.int .i64 d]]] w Φ (.fl 0) [.arr z 3 1 (Ln l i d),.arr false 3 1 [[SV.int .i64 d]]] s V w':=by
   intro g c f W a1 a2 a3 a4 a5 a6;refine(Any2.slices_Insert_int_grow Tryz.lays2_21 g 0 l.length c i g1 0 1 A f [.int .i64 d] w W (by omega) a1 a2 (by omega) a3 rfl a4 t a5 M).mono ?_;rintro e w' ⟨rfl,rfl⟩;refine⟨_,rfl,?_⟩;obtain⟨T,b7⟩:=Ic (w:=w) (need:=l.length+1) (cap:=c) (e:=3) (by omega);have hE:=IF (n:=d) a6 X;have r:=IG l i d X;have key:∀(row:Array Value) (O:Nat),row.size=O->(∀q,q<i->row[q]? = f[q]?)->l.length+1<=O->O<=maxLen->
     Dw C I Γ [.arr z 3 1 l,.arr false 3 1 [[SV.int .i64 d]]] w Φ (.fl 0) [.arr z 3 1 (Ln l i d),.arr false 3 1 [[SV.int .i64 d]]] s (.slice (some ⟨w.heap.size,0,none⟩) (l.length+1) O) (((w.alloc (.cells row 3)).drew.setCells w.heap.size i [j6 .i64 d]).drew.setCells w.heap.size (i+1) (f.drop i)):=by
    intro row O b1 b2 b3 b4;have D:(w.alloc (.cells row 3)).drew.heap=w.heap.push (.cells row 3):=rfl;obtain⟨c1,c2,c3,c4,c5,c6⟩:=Cf (w:=(w.alloc (.cells row 3)).drew) (o:=i) (vs:=[j6 .i64 d]) (H7 D) (by rw[j7];omega) M;generalize f6:(w.alloc (.cells row 3)).drew.setCells w.heap.size i [j6 .i64 d]=w1 at *;have Q:(F8 row.toList i [j6 .i64 d]).toArray.size=O:=by rw[s8,D4];simpa using b1
    obtain⟨d1,d2,d3,d4,d5,d6⟩:=Cf (w:=w1.drew) (o:=i+1) (vs:=f.drop i) c1 (by rw[Q,c9];omega) (λv hv=>a5 v (x3 hv));have b0:∀k,k<w.heap.size->(w1.drew.setCells w.heap.size (i+1) (f.drop i)).heap[k]? = w.heap[k]?:=λk N=>by
     rw[d2 k (by omega)];exact(c2 k (by omega)).trans (H8 D N)
    have e7:(w1.drew.setCells w.heap.size (i+1) (f.drop i)).heap.size=w.heap.size+1:=by
     rw[d3];show w1.heap.size=_;rw[c3,D];simp
    have:=KC (C:=C) (w':=w1.drew.setCells w.heap.size (i+1) (f.drop i)) (l':=Ln l i d) hI w.heap.size O (f.take i++j6 .i64 d::f.drop i) _ c0 hH hi hd (.inr rfl) (by rw[e7];omega) (λk N _=>b0 k N) (by rw[e7];omega) (d4.trans c4) (d5.trans c5) (d6.trans c6) d1 (hE.mono (λg hg=>b0 g (hH.stlt g hg)) (λ_ h=>h)) (UC _ _ _) (f9 row f a3 W (by omega) b2) (by rw[s8,D4,j1,j0,j5,c9];simp only[s8,D4] at Q ⊢;omega) (by rw[r];exact b3) b4 (by rw[s8,D4];simpa using Q);rw[r] at this;exact this
   have f7:(j6 .i64 0).cells.size=1:=rfl;have ht:(f.take i).length=i:=by rw[j5];omega
   refine key _ _ ?_ (λq hq=>?_) T b7
   ·simp only[ag2,s8,size_zeroCells,f7,aa0,ht];have:l.length+1<=grownCap w (l.length+1) c 3:=T;show i+(l.length+1-i)+(grownCap w (l.length+1) c 3-(l.length+1))=grownCap w (l.length+1) c 3;omega
   ·rw[ad1 (by simp only[ag2,s8,ht];omega),ad1 (by simp only[s8,ht];omega),aa3,y7 hq]
  have e9:∀(row:Array Value) (f:List Value),f.length=l.length->i<l.length->l.length+1<=row.size->(∀q,q<i->row[q]? = f[q]?)->
    ∀q,q<(f.take i++j6 .i64 d::f.drop i).length->(F8 (F8 row.toList (i+1) (f.drop i)) i [j6 .i64 d]).toArray[q]? = (f.take i++j6 .i64 d::f.drop i)[q]?:=by
   intro row f a1 a2 a3 a4 q hq;have f3:q<l.length+1:=by
    rw[j1,j0,j5,c9] at hq;omega
   have ht:(f.take i).length=i:=by rw[j5];omega
   have Y:row.toList.length=row.size:=x7;simp only[aa3];rw[N2 _ _ _ (by rw[D4,j7,Y];omega),N2 _ _ _ (by rw[c9,Y];omega)];by_cases h1:q<i
   ·rw[F5,F5,aa7 (by omega),y7 h1];simpa using a4 q h1
   ·by_cases h2:q=i
    ·subst h2;rw[if_pos (by rw[j7];omega),v8 (by omega),ht,ag6];rfl
    ·rw[if_neg (by rw[j7];omega),if_pos (by rw[c9];omega),v8 (by omega),ht,show q-i=(q-(i+1))+1 by omega,ab4]
  cases hs with
  | flv _ e2 f8 h'=>
   simp only[A5,z7,ab1,Blk.shp,p4,Shp.arr.injEq] at h';obtain⟨q1,q2,q3,h4⟩:=h';obtain rfl:=ae3.1 h4;obtain rfl:i=0:=by simpa using X
   exact B none 0 [] (by simp) (by simp) rfl (λ_=>rfl) (λa h=>by cases h) ⟨rfl,λj x=>by simp at x⟩
  | fl _ g z' e2 f8 n' cap h' e8 y R hm e6=>
   simp only[A5,z7,ab1,Blk.shp,p4,Shp.arr.injEq] at h';obtain⟨rfl,rfl,rfl,rfl⟩:=h';have f2:¬(z=true/\l=[]):=by rintro⟨q1,q2⟩;exact e8 q1 (by rw[q2];rfl)
   obtain⟨g',p,e3,hh,c8,K,d9⟩:=hH.arr' (b:=0) rfl f2;obtain rfl:g=g':=by
    rw[y] at e3;exact j4 e3
   have d7:p.size=cap:=by
    have:=e6;simp only[ae9,hh,p4,aj2,true_and,aa0] at this;exact this
   rw[aa0] at c8;have hO:Els Γ.St w 1 l (p.toList.take l.length):=by
    refine⟨by rw[j5,x7 (xs:=p)];omega,λj x=>⟨K j x,λk N=>?_⟩⟩;obtain⟨U,e1,u⟩:=d9 j x k N;refine⟨U,?_,u⟩;have g0:k<1:=by rw[<-K j x];exact N
    rw[aa2,P9];simpa using e1
   have F:(p.toList.take l.length).length=l.length:=by rw[j5,x7 (xs:=p)];omega
   have J:∀j v,(p.toList.take l.length)[j]? = some v->w.cell? ⟨g,0+j,none⟩=some v:=by
    intro j v x;have a7:j<l.length:=by
     have:=(ad5.1 x).1;omega
    rw[aa2,if_pos a7] at x;simpa[ad7,hh] using x
   have b5:∀v∈p.toList.take l.length,v.oneCell'=true:=by
    intro v hv;obtain⟨j,x,rfl⟩:=List.getElem_of_mem hv;have a7:j<l.length:=by omega
    obtain⟨_,u⟩:=hO.2 j a7;obtain⟨U,e1,u2⟩:=u 0 (by rw[K j a7];exact Nat.one_pos);rw[aa0,aj7,ad9 x] at e1;cases e1;exact u2.oneCell
   have r:=IG l i d X;have hE:=IF (n:=d) hO X;have a0:∀j,j<cap->(w.cell? ⟨g,j,none⟩).isSome=true:=by
    intro j x;simp only[ad7,hh];rw[ad4 (by omega)];rfl
   have a9:∀j,w.frozen? ⟨g,j,none⟩=false:=λj=>by simp[ae0,hh]
   have e5:g1≠g:=λe=>by
    have:=hH.inj 1 0 g (by rw[<-e];exact n1) y;omega
   have e4:cap<=9223372036854775807:=by
    simp only[maxLen] at hm;omega
   by_cases L:l.length+1<=cap
   ·have key:∀(w':World) (row:List Value),w'.heap[g]? = some (.cells row.toArray 3 (0,0))->(∀k,k≠g->w'.heap[k]? = w.heap[k]?)->w'.heap.size=w.heap.size->w'.os=w.os->w'.tape=w.tape->w'.output=w.output->row.length=cap->
      (∀q,q<((p.toList.take l.length).take i++j6 .i64 d::(p.toList.take l.length).drop i).length->row.toArray[q]? = ((p.toList.take l.length).take i++j6 .i64 d::(p.toList.take l.length).drop i)[q]?)->
      Dw C I Γ [.arr z 3 1 l,.arr false 3 1 [[SV.int .i64 d]]] w Φ (.fl 0) [.arr z 3 1 (Ln l i d),.arr false 3 1 [[SV.int .i64 d]]] s (.slice (some ⟨g,0,none⟩) (l.length+1) cap) w':=by
     intro w' row k1 k2 k3 k4 k5 k6 k7 k8;have f0:¬ Γ.St g:=(hH.lt 0 g y).2.2;have:=KC (C:=C) (w':=w') (l':=Ln l i d) hI g cap ((p.toList.take l.length).take i++j6 .i64 d::(p.toList.take l.length).drop i) row.toArray c0 hH hi hd (.inl y) (by rw[k3];exact(hH.lt 0 g y).2.1) (λk N f1=>k2 k (λe=>f1 (e▸y))) (by omega) k4 k5 k6 k1
      (hE.mono (λk N=>k2 k (λe=>f0 (e▸N))) (λ_ h=>h)) (UC _ _ _) k8
      (by rw[s8,k7,j1,j0,j5,c9,F];omega) (by rw[r];exact L) hm (by rw[s8,k7])
     rw[r] at this;exact this
    by_cases b6:i=l.length
    ·subst b6;refine(Any2.slices_Insert_int_end_room Tryz.lays2_21 g 0 l.length cap g1 0 1 A [.int .i64 d] w (by omega) L e4 rfl (λj x=>a0 _ (by omega)) (λj x=>a9 _) t M).mono ?_;rintro e w' ⟨rfl,rfl⟩;refine⟨_,rfl,?_⟩;obtain⟨c1,c2,c3,c4,c5,c6⟩:=Cf (w:=w) (o:=0+l.length) (vs:=[j6 .i64 d]) hh (by rw[j7];omega) M;refine key _ _ c1 c2 c3 c4 c5 c6 (by rw[D4];simpa using d7) (λq hq=>?_);rw[ae6 (by omega),v7 (by omega)] at hq ⊢;rw[j1,F,j7] at hq;simp only[aa3];rw[N2 _ _ _ (by rw[j7,x7 (xs:=p)];omega)];by_cases f4:q<l.length
     ·rw[F5,aa7 (by omega),aa2,if_pos f4]
     ·obtain rfl:q=l.length:=by omega
      rw[if_pos (by rw[j7];omega),v8 (by omega),F];simp
    ·have W:i<l.length:=by omega
     refine(Any2.slices_Insert_int_shift Tryz.lays2_21 g 0 l.length cap i g1 0 1 A (p.toList.take l.length) [.int .i64 d] w W (by omega) L e4 e5 F rfl J (λj x=>a0 _ (by omega)) (λj x=>a9 _) t b5 M 3 3 d0.size p.size (by simp[ae9,n2]) (by simp[ae9,hh]) (by omega) (by simp[ae0,n2]) (by simp[ae0,n2])).mono ?_;rintro e w' ⟨rfl,rfl⟩;refine⟨_,rfl,?_⟩;obtain⟨c1,c2,c3,c4,c5,c6⟩:=Cf (w:=w.drew) (o:=0+(i+1)) (vs:=(p.toList.take l.length).drop i) hh (by rw[c9,F];omega) (λv hv=>b5 v (x3 hv));generalize f6:w.drew.setCells g (0+(i+1)) ((p.toList.take l.length).drop i)=w1 at *;have Q:(F8 p.toList (0+(i+1)) ((p.toList.take l.length).drop i)).toArray.size=cap:=by rw[s8,D4];simpa using d7
     obtain⟨d1,d2,d3,d4,d5,d6⟩:=Cf (w:=w1) (o:=0+i) (vs:=[j6 .i64 d]) c1 (by rw[Q,j7];omega) M;refine key _ _ d1 (λk N=>(d2 k N).trans (c2 k N)) (d3.trans c3) (d4.trans c4) (d5.trans c5) (d6.trans c6) (by rw[D4];simpa using Q) ?_;rw[ae8,ae8];exact e9 p _ F W (by omega) (λq hq=>by rw[aa2,P9];simp)
   ·by_cases b6:i=l.length
    ·subst b6;exact B (some ⟨g,0,none⟩) cap (p.toList.take l.length) R (by omega) F (λh=>by cases h) (λa h j v x=>by
      obtain rfl:=j4 h;rw[M6];exact J j v x) hO
    ·exact P g cap _ (by omega) R (by omega) F J b5 hO
 ·cases G
end
section
open Go Go.Proofs
set_option maxRecDepth 100000
section
theorem C58:BF a8 GX 175 DJ:=by
 refine Fq (C₀:=SM LF) (Tw (lx:=[(170,No),(168,Np)]) (ly:=[(186,PL),(187,RP)]) (ls:=[]) rfl rfl rfl ⟨Ak9,Al0,trivial⟩ ⟨Dh3,Dh5,trivial⟩ trivial) (I1 rfl (by kernel_rfl)) follows ?_;intro args H ret o h;unfold DJ at h;split at h
 ·rename_i a n i b c z l;obtain⟨d,h⟩:=C1 h;obtain⟨f,h⟩:=C1 h;obtain⟨g,h⟩:=C1 h;obtain⟨j,h⟩:=C1 h;obtain⟨k,h⟩:=C1 h;obtain⟨rfl,rfl⟩:=I9 h;refine⟨rfl,rfl,λZ m s=>?_⟩;have e:=(B70 LF m s 0 a n i b c z l).trans (As6 a n i b c z l d f g j k);exact⟨1,_,e,rfl⟩
 ·cases h
theorem Df6:B0 a8 GX 155 B30:=by
 refine B0.fix (pf:=QQ) _ (I5 [1,0] (C₀:=Aa LF) (Tw (lx:=[(80,DK)]) (ly:=[(175,DJ)]) (ls:=[]) rfl rfl rfl ⟨Bl7,trivial⟩ ⟨C58,trivial⟩ trivial) (I1 rfl (by kernel_rfl)) follows ?_);intro args ret c h;unfold QQ at h;split at h
 ·rename_i s;obtain⟨a,h⟩:=C1 h;obtain⟨rfl,rfl⟩:=I9 h;obtain⟨r,H,e,b⟩:=Cw4 s a;exact⟨rfl,rfl,rfl,1,r,H,(Cw3 LF noY () 0 s).trans e,b⟩
 ·cases h
end
end
section
open Go Go.Proofs Go.Sort
set_option maxRecDepth 100000
theorem Cn7:B0 a8 GX 139 XT:=by
 refine B0.fix (pf:=Yn) _ (I3 (fn:=Tryz.f139) (by kernel_rfl) (by kernel_rfl) (by kernel_rfl) ?_);intro args ret l h;unfold Yn at h;split at h
 ·rename_i s;obtain⟨b,h⟩:=C1 h;obtain⟨rfl,rfl⟩:=I9 h;refine⟨rfl,rfl,λC n a o w m c g f=>?_⟩;obtain⟨U,rfl,j⟩:=f.arr1;obtain⟨k,rfl,rfl⟩:=j.inv_str;have i:=M3 b;refine(Any.utf8_ValidString Tryz.lays196 k w (by simp at i;omega) (Cr3 c a)).mono ?_;rintro e w' ⟨rfl,d⟩;rw[<-Bb3];exact⟨_,rfl,d,VP.mk_bool _⟩
 ·cases h
theorem Cn4:B0 a8 GX 140 XR:=by
 refine B0.fix (pf:=Yl) _ (I3 (fn:=Tryz.f140) (by kernel_rfl) (by kernel_rfl) (by kernel_rfl) ?_);intro args ret j h;unfold Yl at h;split at h
 ·rename_i s;obtain⟨a,h⟩:=C1 h;obtain⟨rfl,rfl⟩:=I9 h;refine⟨rfl,rfl,λC m b n w k l d c=>?_⟩;obtain⟨U,rfl,g⟩:=c.arr1;obtain⟨i,rfl,rfl⟩:=g.inv_str;have f:=M3 a;refine(Any.utf8_RuneCountInString Tryz.lays195 i w (by simp at f;omega)).mono ?_;rintro e w' ⟨rfl,pos,rfl⟩;rw[Lib.runeCountL_eq];exact⟨_,rfl,Ap2 _ _ _,VP.mk_int _ _⟩
 ·cases h
theorem C29:B0 a8 GX 153 Tz:=λargs ret a h=>by
 have:L6 (Tz args)=none:=by unfold Tz XK;split<;>rfl
 rw[this] at h;cases h
theorem C59:Bc7 a8 GX 152 DM:=by
 refine Ah7 (C₀:=An LF) ((M0.ok (l:=[(153,Tz),(154,FY)]) rfl ⟨C29,Bc1,trivial⟩)) (I1 rfl (by kernel_rfl)) follows ?_;intro args H L h Z a s d c;unfold DM at h;split at h
 ·rename_i p t n;simp only[p4,aj2] at h;obtain⟨b,rfl⟩:=h;obtain⟨e,f⟩:=A90 (R:=PV × List Blk × Z) a p t n s d b c;exact⟨1,_,(Ch5 LF a 0 p t n s).trans (f _)⟩
 ·cases h
end
section
open Go Go.Proofs
set_option maxRecDepth 100000
section
theorem C36:B0 a8 GX 126 Bd1:=xf [] (Lb LF) EY rfl ⟨Df6,Cm2,trivial⟩ rfl (by kernel_rfl) follows λargs=>by
 unfold EY;split
 ·rename_i s;exact λa=>⟨rfl,rfl,rfl,_,_,(Ca1 LF noY () 0 s).trans (Aw6 s a),rfl⟩
 ·trivial
theorem Cm1:B0 a8 GX 92 QL:=xf [] (Sg LF) QM rfl ⟨Cl2,C36,trivial⟩ rfl (by kernel_rfl) follows λargs=>by
 unfold QM;split
 ·rename_i s;exact λa=>⟨rfl,rfl,rfl,_,_,(Cv2 LF noY () 0 s).trans (Br2 s a),rfl⟩
 ·trivial
theorem Df4:B0 a8 GX 110 B27:=xf [0,0] (Oc LF) QE rfl ⟨Cn7,Cn4,Cl9,Cm2,Cm1,trivial⟩ rfl (by kernel_rfl) follows λargs=>by
 unfold QE;split
 ·rename_i s;exact λa=>(let⟨r,H,e,q⟩:=Cu0 s a;⟨rfl,rfl,rfl,r,H,(Ct9 LF noY () 0 s).trans e,q⟩)
 ·trivial
theorem Df2:B0 a8 GX 136 B24:=xf [] (Iv LF) PS rfl trivial rfl (by kernel_rfl) follows λargs=>by
 unfold PS;split
 ·rename_i b;exact λa=>⟨rfl,rfl,rfl,_,_,(Cs2 LF noY () 0 b).trans (Bo6 b a),rfl⟩
 ·trivial
theorem Df1:B0 a8 GX 106 B23:=xf [0,0] (Se LF) PQ rfl ⟨Df2,trivial⟩ rfl (by kernel_rfl) follows λargs=>by
 unfold PQ;split
 ·rename_i s;exact λa=>(let⟨r,H,e,q⟩:=Cs0 s a;⟨rfl,rfl,rfl,r,H,(Cr9 LF noY () 0 s).trans e,q⟩)
 ·trivial
theorem C32:B0 a8 GX 105 Bc9:=xf [0,0] (SN LF) ER rfl ⟨Dl5,trivial⟩ rfl (by kernel_rfl) follows λargs=>by
 unfold ER;split
 ·rename_i s;exact λa=>λb=>(let⟨r,H,e,q⟩:=B85 s a b;⟨rfl,rfl,rfl,r,H,(B84 LF noY () 0 s).trans e,q⟩)
 ·trivial
theorem Cl6:B0 a8 GX 81 XM:=xf [0,0] (Gg LF) Xx rfl ⟨XA,C32,Df1,C55,PD,Df8,B15,Df4,Bm0,trivial⟩ rfl (by kernel_rfl) follows λargs=>by
 unfold Xx;split
 ·rename_i s;exact λa=>(let⟨r,H,e,q⟩:=Bo9 s a;⟨rfl,rfl,rfl,r,H,(Bo8 LF noY () 0 s).trans e,q⟩)
 ·trivial
theorem C37:B0 a8 GX 125 QJ:=by
 refine B0.fix (pf:=EZ) _ (Ch (C₀:=SU LF) (M0.ok (l:=[]) rfl trivial) (I1 rfl (by kernel_rfl)) follows ?_);intro args ret a h;unfold EZ at h;split at h
 ·rename_i t p n;obtain⟨rfl,rfl⟩:=I9 h;have e:=(Ca3 LF noY () 0 t p n).trans (Aw7 t p n );exact⟨rfl,1,_,[],e,rfl,rfl⟩
 ·cases h
theorem Dg8:B0 a8 GX 91 An8:=by
 refine B0.fix (pf:=RR) _ (Ch (C₀:=Ar1 LF) (M0.ok (l:=[(125,QJ)]) rfl ⟨C37,trivial⟩) (I1 rfl (by kernel_rfl)) follows ?_);intro args ret a h;unfold RR at h;split at h
 ·rename_i t p;obtain⟨rfl,rfl⟩:=I9 h;have e:=(C06 LF noY () 0 t p).trans (By1 t p );exact⟨rfl,1,_,[],e,rfl,rfl⟩
 ·cases h
theorem C81:B0 a8 GX 64 B26:=by
 refine B0.fix (pf:=Am1) _ (I5 [] (C₀:=Ob LF) (Tw (lx:=[(90,Pn),(91,An8),(92,QL)]) (ly:=[]) (ls:=[(152,DM)]) rfl rfl rfl ⟨PD,Dg8,Cm1,trivial⟩ trivial ⟨C59,trivial⟩) (I1 rfl (by kernel_rfl)) follows ?_);intro args ret c h;unfold Am1 at h;split at h
 ·rename_i s;obtain⟨a,h⟩:=C1 h;obtain⟨rfl,rfl⟩:=I9 h;obtain⟨r,H,e,b⟩:=Da3 s a;exact⟨rfl,rfl,rfl,1,r,H,(Da2 LF noY () 0 s).trans e,b⟩
 ·cases h
theorem Bb8:B0 a8 GX 46 PY:=xf [] (Aq4 LF) PZ rfl ⟨C81,trivial⟩ rfl (by kernel_rfl) follows λargs=>by
 unfold PZ;split
 ·rename_i j k v4 a b c d f g h i;exact λl=>λm=>λn=>(let⟨r,H,e,q⟩:=Ct2 j k v4 a b c d f g h i l m n;⟨rfl,rfl,rfl,r,H,(Ct1 LF noY () 0 j k v4 a b c d f g h i).trans e,q⟩)
 ·trivial
theorem Cl5:B0 a8 GX 50 Am0:=xf [] (Aq1 LF) PU rfl ⟨Bb8,Dl1,Dl3,trivial⟩ rfl (by kernel_rfl) follows λargs=>by
 unfold PU;split
 ·rename_i j k v4 a b c d f g h i;exact λl=>λm=>λn=>(let⟨r,H,e,q⟩:=Cs7 j k v4 a b c d f g h i l m n;⟨rfl,rfl,rfl,r,H,(Cs6 LF noY () 0 j k v4 a b c d f g h i).trans e,q⟩)
 ·trivial
theorem Df0:B0 a8 GX 47 B22:=xf [] (Ap9 LF) PP rfl ⟨C81,Df3,trivial⟩ rfl (by kernel_rfl) follows λargs=>by
 unfold PP;split
 ·rename_i p s;exact λa=>λb=>⟨rfl,rfl,rfl,_,_,(Cr8 LF noY () 0 p s).trans (Bo4 p s a b),rfl⟩
 ·trivial
end
end
section
open Go
structure S9 where
 sch:By
 user:By
 host:B2
 port:Int
 rest:By
def Z5:S9:=⟨[],[],K8,0,[]⟩
def Dx:By:=[104,116,116,112]
def Z7:By:=[104,116,116,112,115]
def bWs:By:=[119,115]
def Qs:By:=[119,115,115]
def L3(s:By):Int:=if s==Dx||s==bWs then 80 else if s==Z7||s==Qs then 443 else -1
def E7(s:By):Bool:=s==Dx||s==bWs||(s==Z7||s==Qs)
def Ak(s:By):Bool:=s==Dx||s==bWs
def ctl(b:UInt8):Bool:=y8 b.toNat 32||b==127
def P6(b:UInt8):Bool:=(y8 97 b.toNat&&y8 b.toNat 122)||(y8 65 b.toNat&&y8 b.toNat 90)
def K7(b:UInt8):Bool:=P6 b||(y8 48 b.toNat&&y8 b.toNat 57)||b==43||b==45||b==46
def S6:By->Bool
 | []=>false
 | b::r=>P6 b&&r.all K7
def L4(b:UInt8):Bool:=b==47||b==63||b==35
def I6(s:By):Nat:=(s.takeWhile λb=>!L4 b).length
def Gu(c:UInt8):By->Option Nat
 | []=>none
 | b::r=>if b=c then some 0 else (Gu c r).map (· + 1)
def Gx:Int->By->Option Int
 | n,[]=>if n<65536 then some n else none
 | n,b::r=>if 48<=b.toNat/\b.toNat<=57 then Gx (min (10*max n 0+((b.toNat-48:Nat):Int)) 65536) r else none
def Ee(a:By):Option (By × By):=
 if a.head? = some 91 then (match Gu 93 a with
  | some k=>some (a.take (k+1),a.drop (k+1))
  | none=>none)
 else match Gu 58 a with
  | some k=>some (a.take k,a.drop k)
  | none=>some (a,[])
def M7(c user b:By)(a:By):S9 × Nat:=
 match Ee a with
 | none=>(Z5,4)
 | some (name,tail)=>
  if tail≠[]/\tail.head?≠some 58 then (Z5,4)
  else if (B9 name).2≠0 then (Z5,(B9 name).2)
  else match Gx (-1) (tail.drop 1) with
   | none=>(Z5,16)
   | some p=>(⟨c,user,(B9 name).1,if p=L3 c then -1 else p,b⟩,0)
def F9(c b a:By):S9 × Nat:=
 if 0<=K3 64 a then M7 c (a.take (K3 64 a).toNat) b (a.drop ((K3 64 a).toNat+1)) else M7 c [] b a
def R0(r:By):By:=if r.head? = some 47 then r else 47::r
def C0(s:By):S9 × Nat:=
 if s.any ctl then (Z5,4)
 else if !(w9 s [58]).2.2||!S6 (w9 s [58]).1 then (Z5,15)
 else if !E7 (B3 (w9 s [58]).1) then (⟨B3 (w9 s [58]).1,[],K8,-1,(w9 s [58]).2.1⟩,0)
 else if !([47,47]:By).isPrefixOf (w9 s [58]).2.1 then (Z5,4)
 else F9 (B3 (w9 s [58]).1) (R0 (((w9 s [58]).2.1.drop 2).drop (I6 ((w9 s [58]).2.1.drop 2)))) (((w9 s [58]).2.1.drop 2).take (I6 ((w9 s [58]).2.1.drop 2)))
def B5(s:By):S9 × Nat:=if 2048<s.length then (Z5,3) else C0 s
def R1(p:Int):By:=if p<0 then 45::ad8 (-p).toNat else ad8 p.toNat
def Nv(u:S9):By:=(if u.user=[] then [] else u.user++[64])++(T5 u.host++(if u.port=-1 then [] else 58::R1 u.port))
def Cn(u:S9):By:=if E7 u.sch then u.sch++58::47::47::(Nv u++u.rest) else u.sch++58::u.rest
def upU(u:S9):S9:=if Ak u.sch then { u with sch:=if u.sch==Dx then Z7 else Qs,port:=if u.port=443 then -1 else u.port } else u
def Ca9(b:Int)(c:By)(v4:Int)(a:List Nat):B2:=⟨if ltN b 4 then b.toNat else 4,c,v4.toNat,a⟩
def mkU(f g:By)(b:Int)(c:By)(v4:Int)(a:List Nat)(d:Int)(e:By):S9:=⟨f,g,Ca9 b c v4 a,d,e⟩
def smU(c d a b:By):Bool:=y8 c.length 100000000&&y8 d.length 100000000&&y8 a.length 100000000&&y8 b.length 100000000
def eqH(a b:B2):Bool:=a.kind==b.kind&&a.name==b.name&&a.v4==b.v4&&a.v6==b.v6
def eqU(a b:S9):Bool:=a.sch==b.sch&&a.user==b.user&&eqH a.host b.host&&a.port==b.port&&a.rest==b.rest
def Dn(u:S9):Bool:=(C0 (Cn u)).2==0&&eqU (C0 (Cn u)).1 u
def prt(b:By)(a:Int):Int:=if a==-1 then L3 b else a
def upS(a:By):By:=if a==Dx then Z7 else if a==bWs then Qs else a
def upP(b:By)(a:Int):Int:=if Ak b&&a==443 then -1 else a
def DG:By->Int
 | s=>let rec go:Int->By->Int
   | n,[]=>n
   | n,b::r=>if 48<=b.toNat/\b.toNat<=57 then go (min (10*max n 0+((b.toNat-48:Nat):Int)) 65536) r else 0
  go (-1) s
def Q9(s t:By):Nat:=(s.takeWhile λb=>!t.contains b).length
def Dj(s:By):By × By × Bool:=if (w9 s [58]).2.2&&S6 (w9 s [58]).1 then (B3 (w9 s [58]).1,(w9 s [58]).2.1,true) else ([],[],false)
def isl:By:=[47,63,35]
def Zz(p:By):Bool:=p==isl
def KM(r:Int):Bool:=ltN r 55296||(ltI 57343 r&&ltN r 1114112)
def irn(r:Int):Int:=if r=47 then 0 else if r=63 then 1 else if r=35 then 2 else -1
def Er(n:Int):Bool:=ltN (n+9223372036854775808) 18446744073709551616
abbrev uS(p:S9 × Nat):By:=p.1.sch
abbrev uU(p:S9 × Nat):By:=p.1.user
abbrev uK(p:S9 × Nat):Int:=p.1.host.kind
abbrev uN(p:S9 × Nat):By:=p.1.host.name
abbrev uV(p:S9 × Nat):Int:=p.1.host.v4
abbrev uA(p:S9 × Nat)(i:Nat):Int:=(p.1.host.v6.getD i 0:Nat)
abbrev uP(p:S9 × Nat):Int:=p.1.port
abbrev uR(p:S9 × Nat):By:=p.1.rest
abbrev uE(p:S9 × Nat):Int:=p.2
theorem KV(s:By):decide (0<L3 s)=E7 s:=by
 unfold L3 E7;cases (s==Dx||s==bWs) with
 | true=>rfl
 | false=>cases (s==Z7||s==Qs)<;>rfl
theorem LS{s:By}(h:E7 s=true):s=Dx\/s=bWs\/s=Z7\/s=Qs:=by simp only[E7,ab0,beq_iff_eq] at h;rcases h with(h|h)|(h|h)<;>simp[h]
theorem NK{c:UInt8}:∀{s:By},c∉s->Gu c s=none
 | [],_=>rfl
 | b::r,h=>by
  simp only[p9,not_or] at h;rw[Gu,if_neg (ag7 h.1),NK h.2];rfl
theorem Vm{c:UInt8}:∀{p:By} (r:By),c∉p->Gu c (p++c::r)=some p.length
 | [],r,_=>by rw[af1,Gu,if_pos rfl];rfl
 | b::p,r,h=>by
  simp only[p9,not_or] at h;rw[ae1,Gu,if_neg (ag7 h.1),Vm r h.2];rfl
theorem Qb{c:UInt8}:∀{s:By} {k:Nat},Gu c s=some k->∃p r,s=p++c::r/\c∉p/\p.length=k
 | [],k,h=>by cases h
 | b::s,k,h=>by
  rw[Gu] at h;split at h
  ·rename_i a;obtain rfl:=j4 h;exact⟨[],s,by rw[a];rfl,by simp,rfl⟩
  ·rename_i a;cases d:Gu c s with
   | none=>rw[d] at h;cases h
   | some j=>
    rw[d] at h;obtain rfl:=j4 h;obtain⟨p,r,rfl,e,rfl⟩:=Qb d;exact⟨b::p,r,rfl,by simp only[p9,not_or];exact⟨ag7 a,e⟩,rfl⟩
theorem Lq{c:UInt8}:∀{s:By},c∉s->K3 c s=-1
 | [],_=>rfl
 | b::r,h=>by
  simp only[p9,not_or] at h;rw[K3,Lq h.2,if_pos (by decide),if_neg (ag7 h.1)]
theorem Qc{c:UInt8}:∀(p:By) {r:By},c∉r->K3 c (p++c::r)=(p.length:Int)
 | [],r,h=>by rw[af1,K3,Lq h,if_pos (by decide),if_pos rfl];rfl
 | b::p,r,h=>by
  rw[ae1,K3,Qc p h,F5,j0];omega
theorem AG{c:UInt8}:∀{s:By},c∈s->∃p r,s=p++c::r/\c∉r
 | [],h=>by cases h
 | b::s,h=>by
  by_cases a:c∈s
  ·obtain⟨p,r,rfl,d⟩:=AG a;exact⟨b::p,r,rfl,d⟩
  ·simp only[p9,a,or_false] at h;subst h;exact⟨[],s,rfl,a⟩
theorem IK{c:UInt8}{s:By}(h:0<=K3 c s):∃p r,s=p++c::r/\c∉r/\K3 c s=(p.length:Int):=by
 by_cases b:c∈s
 ·obtain⟨p,r,rfl,a⟩:=AG b;exact⟨p,r,rfl,a,Qc p a⟩
 ·rw[Lq b] at h;omega
theorem Bx9{p:By}{r:By}(h:∀b∈p,L4 b=false)(d:∀b,r.head? = some b->L4 b=true):I6 (p++r)=p.length:=by
 unfold I6;have a:r.takeWhile (λb=>!L4 b)=[]:=by
  cases r with
  | nil=>rfl
  | cons b t=>rw[ac8,d b rfl];rfl
 rw[List.takeWhile_append_of_pos (λb c=>by rw[h b c];rfl),a,ah9]
theorem A86(s:By):∀b∈s.take (I6 s),L4 b=false:=by
 intro b a;have h:s.take (I6 s)=s.takeWhile λb=>!L4 b:=by
  unfold I6;exact(List.prefix_iff_eq_take.1 (List.takeWhile_prefix _)).symm
 rw[h] at a;have:∀l:By,b∈l.takeWhile (λb=>!L4 b)->L4 b=false:=by
  intro l
  induction l with
  | nil=>intro h;cases h
  | cons x l d=>
   intro h;rw[ac8] at h;split at h
   ·rename_i c;rcases p9.1 h with rfl|h
    ·simpa using c
    ·exact d h
   ·cases h
 exact this s a
theorem U2{b:UInt8}:P6 b=true↔(97<=b.toNat/\b.toNat<=122)\/(65<=b.toNat/\b.toNat<=90):=by simp[P6,ae7]
theorem Un{b:UInt8}:ctl b=true↔b.toNat<=32\/b.toNat=127:=by
 unfold ctl;rw[ab0,ae7,beq_iff_eq];have:b=127↔b.toNat=127:=⟨λh=>by rw[h];rfl,λh=>ac6.1 h⟩
 rw[this]
theorem Ej{b:UInt8}:K7 b=true↔(97<=b.toNat/\b.toNat<=122)\/(65<=b.toNat/\b.toNat<=90)\/(48<=b.toNat/\b.toNat<=57)\/b=43\/b=45\/b=46:=by simp only[K7,ab0,U2,s7,ae7,beq_iff_eq,or_assoc]
abbrev clU(a b:By)(k:Int)(n:By)(v c d e f g h i j p:Int)(r:By):List PV:=[.s (.str a),.s (.str b),.s (.int .i64 k),.s (.str n),.s (.int .u32 v),.s (.int .u16 c),.s (.int .u16 d),.s (.int .u16 e),.s (.int .u16 f),.s (.int .u16 g),.s (.int .u16 h),.s (.int .u16 i),.s (.int .u16 j),.s (.int .i64 p),.s (.str r)]
abbrev clH(k:Int)(n:By)(v c d e f g h i j:Int):List PV:=[.s (.int .i64 k),.s (.str n),.s (.int .u32 v),.s (.int .u16 c),.s (.int .u16 d),.s (.int .u16 e),.s (.int .u16 f),.s (.int .u16 g),.s (.int .u16 h),.s (.int .u16 i),.s (.int .u16 j)]
abbrev bU(a b:By)(k:Int)(n:By)(v c d e f g h i j p:Int)(r:By):Blk:=.box (clU a b k n v c d e f g h i j p r)
abbrev gU(a b:By)(k:Int)(n:By)(v c d e f g h i j p:Int)(r:By):PV:=.agg (clU a b k n v c d e f g h i j p r)
abbrev bH(k:Int)(n:By)(v c d e f g h i j:Int):Blk:=.box (clH k n v c d e f g h i j)
abbrev gH(k:Int)(n:By)(v c d e f g h i j:Int):PV:=.agg (clH k n v c d e f g h i j)
abbrev clO(a:By)(k:Int)(n:By)(v c d e f g h i j p:Int):List PV:=[.s (.str a),.s (.int .i64 k),.s (.str n),.s (.int .u32 v),.s (.int .u16 c),.s (.int .u16 d),.s (.int .u16 e),.s (.int .u16 f),.s (.int .u16 g),.s (.int .u16 h),.s (.int .u16 i),.s (.int .u16 j),.s (.int .i64 p)]
abbrev bO(a:By)(k:Int)(n:By)(v c d e f g h i j p:Int):Blk:=.box (clO a k n v c d e f g h i j p)
abbrev gO(a:By)(k:Int)(n:By)(v c d e f g h i j p:Int):PV:=.agg (clO a k n v c d e f g h i j p)
abbrev bO0:Blk:=bO [] 0 [] 0 0 0 0 0 0 0 0 0 0
abbrev bU0:Blk:=bU [] [] 0 [] 0 0 0 0 0 0 0 0 0 0 []
abbrev bQ(p:S9 × Nat):Blk:=bU (uS p) (uU p) (uK p) (uN p) (uV p) (uA p 0) (uA p 1) (uA p 2) (uA p 3) (uA p 4) (uA p 5) (uA p 6) (uA p 7) (uP p) (uR p)
abbrev okQ(p:S9 × Nat):Bool:=ok8 (uA p 0) (uA p 1) (uA p 2) (uA p 3) (uA p 4) (uA p 5) (uA p 6) (uA p 7)
abbrev mkQ(b:By)(p:S9 × Nat)(a:Int):S9:=mkU b (uU p) (uK p) (uN p) (uV p) (n8 (uA p 0) (uA p 1) (uA p 2) (uA p 3) (uA p 4) (uA p 5) (uA p 6) (uA p 7)) a (uR p)
end
section
open Go Go.Proofs
set_option maxRecDepth 100000
section
def GD:List PV->Tr
 | [.s (.str s)]=>.ret (.s (.int .i64 (L3 s))) []
 | _=>.fail
def DN(args:List PV):Tr:=GD (C5 [[0]] args)
def GE:List PV->Tr
 | [.s (.str s)]=>.ret (.s (.bool (E7 s))) []
 | _=>.fail
def Ps(args:List PV):Tr:=GE (C5 [[0]] args)
def Dl6:List PV->Tr
 | [.agg [.s (.str a),.s (.str n),.s (.int .i64 j),.s (.str k),.s (.int .u32 v4),.s (.int .u16 b),.s (.int .u16 c),.s (.int .u16 d),.s (.int .u16 e),.s (.int .u16 f),.s (.int .u16 g),.s (.int .u16 h),.s (.int .u16 i),.s (.int .i64 l),.s (.str m)]]=>.ret (.s (.bool (Ak a))) []
 | _=>.fail
def RV:List PV->Tr
 | [.agg [.s (.str b),.s (.str n),.s (.int .i64 k),.s (.str l),.s (.int .u32 v4),.s (.int .u16 c),.s (.int .u16 d),.s (.int .u16 e),.s (.int .u16 f),.s (.int .u16 g),.s (.int .u16 h),.s (.int .u16 i),.s (.int .u16 j),.s (.int .i64 a),.s (.str m)]]=>.ret (.s (.int .i64 (prt b a))) []
 | _=>.fail
def An9(args:List PV):Tr:=RV (C5 [[0,0,0,0,0,0,0,0,0,0,0,0,0,0,0]] args)
def RW:List PV->Tr
 | [.s (.str s)]=>.need (A2 (b8 s)) (.ret (.s (.bool (S6 s))) [])
 | _=>.fail
def B43(args:List PV):Tr:=RW (C5 [[0]] args)
def RT:List PV->Tr
 | [.s (.str s)]=>.need (A2 (b8 s)) (.ret (.tup [.s (.int .i64 (DG s)),.s (.bool (aj1 (Gx ((-1):Int) s)))]) [])
 | _=>.fail
def B41(args:List PV):Tr:=RT (C5 [[0]] args)
def Ym:List PV->Tr
 | [.agg [.s (.str c),.s (.str e),.s (.int .i64 n),.s (.str o),.s (.int .u32 v4),.s (.int .u16 f),.s (.int .u16 g),.s (.int .u16 h),.s (.int .u16 i),.s (.int .u16 j),.s (.int .u16 k),.s (.int .u16 l),.s (.int .u16 m),.s (.int .i64 d),.s (.str b)],.s (.str a)]=>.need (A2 (b8 c)) (.need (A2 (b8 b)) (.need (A2 (b8 a)) (.need (List.isEmpty e) (.need (d==((-1):Int)) (.ret (.tup [.agg [.s (.str (uS (F9 c b a))),.s (.str (uU (F9 c b a))),.s (.int .i64 (uK (F9 c b a))),.s (.str (uN (F9 c b a))),.s (.int .u32 (uV (F9 c b a))),.s (.int .u16 (uA (F9 c b a) 0)),.s (.int .u16 (uA (F9 c b a) 1)),.s (.int .u16 (uA (F9 c b a) 2)),.s (.int .u16 (uA (F9 c b a) 3)),.s (.int .u16 (uA (F9 c b a) 4)),.s (.int .u16 (uA (F9 c b a) 5)),.s (.int .u16 (uA (F9 c b a) 6)),.s (.int .u16 (uA (F9 c b a) 7)),.s (.int .i64 (uP (F9 c b a))),.s (.str (uR (F9 c b a)))],.s (.int .i64 (uE (F9 c b a)))]) [])))))
 | _=>.fail
def XS(args:List PV):Tr:=Ym (C5 [[0,0,0,0,0,0,0,0,0,0,0,0,0,0,0],[0]] args)
def RU:List PV->Tr
 | [.s (.str s)]=>.need (A2 (b8 s)) (.ret (.tup [.agg [.s (.str (uS (C0 s))),.s (.str (uU (C0 s))),.s (.int .i64 (uK (C0 s))),.s (.str (uN (C0 s))),.s (.int .u32 (uV (C0 s))),.s (.int .u16 (uA (C0 s) 0)),.s (.int .u16 (uA (C0 s) 1)),.s (.int .u16 (uA (C0 s) 2)),.s (.int .u16 (uA (C0 s) 3)),.s (.int .u16 (uA (C0 s) 4)),.s (.int .u16 (uA (C0 s) 5)),.s (.int .u16 (uA (C0 s) 6)),.s (.int .u16 (uA (C0 s) 7)),.s (.int .i64 (uP (C0 s))),.s (.str (uR (C0 s)))],.s (.int .i64 (uE (C0 s)))]) [])
 | _=>.fail
def B42(args:List PV):Tr:=RU (C5 [[0]] args)
def GF:List PV->Tr
 | [.agg [.s (.str l),.s (.str m),.s (.int .i64 n),.s (.str i),.s (.int .u32 v4),.s (.int .u16 a),.s (.int .u16 b),.s (.int .u16 c),.s (.int .u16 d),.s (.int .u16 e),.s (.int .u16 f),.s (.int .u16 g),.s (.int .u16 h),.s (.int .i64 j),.s (.str k)]]=>.need (smU l m i k) (.need (ltN v4 4294967296) (.need (ok8 a b c d e f g h) (.need (Er j) (.ret (.s (.str (Cn (mkU l m n i v4 (n8 a b c d e f g h) j k)))) []))))
 | _=>.fail
def Bf0(args:List PV):Tr:=GF (C5 [[0,0,0,0,0,0,0,0,0,0,0,0,0,0,0]] args)
def Ru:List PV->Tr
 | [.agg [.s (.str l),.s (.str m),.s (.int .i64 n),.s (.str i),.s (.int .u32 v4),.s (.int .u16 a),.s (.int .u16 b),.s (.int .u16 c),.s (.int .u16 d),.s (.int .u16 e),.s (.int .u16 f),.s (.int .u16 g),.s (.int .u16 h),.s (.int .i64 j),.s (.str k)]]=>.need (smU l m i k) (.need (ltN v4 4294967296) (.need (ok8 a b c d e f g h) (.need (Er j) (.ret (.s (.bool (Dn (mkU l m n i v4 (n8 a b c d e f g h) j k)))) []))))
 | _=>.fail
def Yo(args:List PV):Tr:=Ru (C5 [[0,0,0,0,0,0,0,0,0,0,0,0,0,0,0]] args)
def Yg:List PV->Tr
 | [.s (.str s)]=>.ret (.s (.bool (E7 s))) []
 | _=>.fail
def Ub(args:List PV):Tr:=Yg (C5 [[0]] args)
def FX:List PV->Tr
 | [.s (.str s)]=>.ret (.s (.int .i64 (L3 s))) []
 | _=>.fail
def Be5(args:List PV):Tr:=FX (C5 [[0]] args)
def FS:List PV->Tr
 | [.s (.str s),.s (.str t)]=>.need (A2 (b8 s)) (.need (A2 (b8 t)) (.ret (.s (.int .i64 (↑(Q9 s t):Int))) []))
 | _=>.fail
def Be2(args:List PV):Tr:=FS (C5 [[0],[0]] args)
def FW:List PV->Tr
 | [.s (.str s)]=>.need (A2 (b8 s)) (.ret (.tup [.s (.str ((Dj s)).1),.s (.str (((Dj s)).2).1),.s (.bool (((Dj s)).2).2)]) [])
 | _=>.fail
def Be4(args:List PV):Tr:=FW (C5 [[0]] args)
def FU:List PV->Tr
 | [.s (.str s)]=>.need (A2 (b8 s)) (.ret (.tup [.agg [.s (.str (uS (C0 s))),.s (.str (uU (C0 s))),.s (.int .i64 (uK (C0 s))),.s (.str (uN (C0 s))),.s (.int .u32 (uV (C0 s))),.s (.int .u16 (uA (C0 s) 0)),.s (.int .u16 (uA (C0 s) 1)),.s (.int .u16 (uA (C0 s) 2)),.s (.int .u16 (uA (C0 s) 3)),.s (.int .u16 (uA (C0 s) 4)),.s (.int .u16 (uA (C0 s) 5)),.s (.int .u16 (uA (C0 s) 6)),.s (.int .u16 (uA (C0 s) 7)),.s (.int .i64 (uP (C0 s))),.s (.str (uR (C0 s)))],.s (.int .i64 (uE (C0 s)))]) [])
 | _=>.fail
def Be3(args:List PV):Tr:=FU (C5 [[0]] args)
def Rq:List PV->Tr
 | [.s (.str s)]=>.need (A2 (b8 s)) (.ret (.tup [.agg [.s (.str (uS (B5 s))),.s (.str (uU (B5 s))),.s (.int .i64 (uK (B5 s))),.s (.str (uN (B5 s))),.s (.int .u32 (uV (B5 s))),.s (.int .u16 (uA (B5 s) 0)),.s (.int .u16 (uA (B5 s) 1)),.s (.int .u16 (uA (B5 s) 2)),.s (.int .u16 (uA (B5 s) 3)),.s (.int .u16 (uA (B5 s) 4)),.s (.int .u16 (uA (B5 s) 5)),.s (.int .u16 (uA (B5 s) 6)),.s (.int .u16 (uA (B5 s) 7)),.s (.int .i64 (uP (B5 s))),.s (.str (uR (B5 s)))],.s (.int .i64 (uE (B5 s)))]) [])
 | _=>.fail
def Jn(args:List PV):Tr:=Rq (C5 [[0]] args)
def FT:List PV->Tr
 | [.agg [.s (.str a),.s (.str n),.s (.int .i64 j),.s (.str k),.s (.int .u32 v4),.s (.int .u16 b),.s (.int .u16 c),.s (.int .u16 d),.s (.int .u16 e),.s (.int .u16 f),.s (.int .u16 g),.s (.int .u16 h),.s (.int .u16 i),.s (.int .i64 l),.s (.str m)]]=>.ret (.s (.bool (Ak a))) []
 | _=>.fail
def DL(args:List PV):Tr:=FT (C5 [[0,0,0,0,0,0,0,0,0,0,0,0,0,0,0]] args)
def Be6:List PV->Tr
 | [.agg [.s (.str a),.s (.str n),.s (.int .i64 j),.s (.str k),.s (.int .u32 v4),.s (.int .u16 b),.s (.int .u16 c),.s (.int .u16 d),.s (.int .u16 e),.s (.int .u16 f),.s (.int .u16 g),.s (.int .u16 h),.s (.int .u16 i),.s (.int .i64 l),.s (.str m)]]=>.ret (.agg [.s (.str (upS a)),.s (.str n),.s (.int .i64 j),.s (.str k),.s (.int .u32 v4),.s (.int .u16 b),.s (.int .u16 c),.s (.int .u16 d),.s (.int .u16 e),.s (.int .u16 f),.s (.int .u16 g),.s (.int .u16 h),.s (.int .u16 i),.s (.int .i64 (upP a l)),.s (.str m)]) []
 | _=>.fail
def RG(args:List PV):Tr:=Be6 (C5 [[0,0,0,0,0,0,0,0,0,0,0,0,0,0,0]] args)
def C61:List PV->Tr
 | [.s (.int .i64 n)]=>.need (ltN n 9223372036854775808) (.ret (.s (.str (ad8 (Int.toNat n)))) [])
 | _=>.fail
def EV:List PV->Tr
 | [.s (.int .i64 n)]=>.need (Er n) (.ret (.s (.str (R1 n))) [])
 | _=>.fail
def QD(args:List PV):Tr:=EV (C5 [[0]] args)
def FZ:List PV->Tr
 | [.s (.str s),.s (.int .u8 c)]=>.need (A2 (b8 s)) (.need (inR c 256) (.ret (.s (.int .i64 (j8 s (u8n c)))) []))
 | _=>.fail
def Ue(args:List PV):Tr:=FZ (C5 [[0],[0]] args)
def FC:List PV->Tr
 | [.s (.str s),.s (.str p)]=>.need (A2 (b8 s)) (.ret (.s (.str (Gp s p))) [])
 | _=>.fail
def Bd2(args:List PV):Tr:=FC (C5 [[0],[0]] args)
def RS:List PV->Tr
 | [.s (.str s),.s (.str p)]=>.need (A2 (b8 s)) (.ret (.s (.str (Gp s p))) [])
 | _=>.fail
def B39(args:List PV):Tr:=RS (C5 [[0],[0]] args)
def XO:List PV->Tr
 | [.s (.str s),.s (.str p)]=>.need (A2 (b8 s)) (.need (Zz p) (.ret (.s (.int .i64 (aa6 s p))) []))
 | _=>.fail
def RO(args:List PV):Tr:=XO (C5 [[0],[0]] args)
def Uc:List PV->Tr
 | [.agg [.s (.str a),.s (.str n),.s (.int .i64 j),.s (.str k),.s (.int .u32 v4),.s (.int .u16 b),.s (.int .u16 c),.s (.int .u16 d),.s (.int .u16 e),.s (.int .u16 f),.s (.int .u16 g),.s (.int .u16 h),.s (.int .u16 i),.s (.int .i64 l),.s (.str m)]]=>.need (Ak a) (.ret (.agg [.s (.str (upS a)),.s (.str n),.s (.int .i64 j),.s (.str k),.s (.int .u32 v4),.s (.int .u16 b),.s (.int .u16 c),.s (.int .u16 d),.s (.int .u16 e),.s (.int .u16 f),.s (.int .u16 g),.s (.int .u16 h),.s (.int .u16 i),.s (.int .i64 (upP a l)),.s (.str m)]) [])
 | _=>.fail
def Be7(args:List PV):Tr:=Uc (C5 [[0,0,0,0,0,0,0,0,0,0,0,0,0,0,0]] args)
def Ud:List PV->Tr
 | [.agg [.s (.str a),.s (.str n),.s (.int .i64 j),.s (.str k),.s (.int .u32 v4),.s (.int .u16 b),.s (.int .u16 c),.s (.int .u16 d),.s (.int .u16 e),.s (.int .u16 f),.s (.int .u16 g),.s (.int .u16 h),.s (.int .u16 i),.s (.int .i64 l),.s (.str m)]]=>.need (not (Ak a)) (.ret (.agg [.s (.str a),.s (.str n),.s (.int .i64 j),.s (.str k),.s (.int .u32 v4),.s (.int .u16 b),.s (.int .u16 c),.s (.int .u16 d),.s (.int .u16 e),.s (.int .u16 f),.s (.int .u16 g),.s (.int .u16 h),.s (.int .u16 i),.s (.int .i64 l),.s (.str m)]) [])
 | _=>.fail
def Be8(args:List PV):Tr:=Ud (C5 [[0,0,0,0,0,0,0,0,0,0,0,0,0,0,0]] args)
def Pq:List PV->Tr
 | [.s (.str s),.s (.str p)]=>.need (A2 (b8 s)) (.need (Zz p) (.need (y8 9 (b8 s)) (.ret (.s (.int .i64 (aa6 s p))) [])))
 | _=>.fail
def XP(args:List PV):Tr:=Pq (C5 [[0],[0]] args)
def Pr:List PV->Tr
 | [.s (.str s),.s (.str p)]=>.need (Zz p) (.need (y8 (b8 s) 8) (.ret (.s (.int .i64 (aa6 s p))) []))
 | _=>.fail
def XQ(args:List PV):Tr:=Pr (C5 [[0],[0]] args)
def Rs:List PV->Tr
 | [.s (.int .i64 n)]=>.ret (.s (.bool (ltI (8:Int) n))) []
 | _=>.fail
def Yj(args:List PV):Tr:=Rs (C5 [[0]] args)
def Yi:List PV->Tr
 | [.s (.str p),.s (.int .i32 r)]=>.need (Zz p) (.need (ltN r 1114112) (.ret (.s (.int .i64 (irn r))) []))
 | _=>.fail
def GA(args:List PV):Tr:=Yi (C5 [[0],[0]] args)
def MC:List PV->Tr
 | [.s (.str s)]=>.fail
 | _=>.fail
def Ns(args:List PV):Tr:=MC (C5 [[0]] args)
def Yp:List PV->Tr
 | [.s (.int .i32 r)]=>.ret (.s (.bool (KM r))) []
 | _=>.fail
def GG(args:List PV):Tr:=Yp (C5 [[0]] args)
end
section
variable {Z R : Type} (L : Nat) (Q : G0) (Y : Yh Z) (s : Z) (k : Out -> St Z -> Option R)
noncomputable def SW(L:Nat):Cfg:=B6 L [112] (A3 []) [(79,QH)] (A3 [(3,[4]),(2,[4]),(1,[0,0,5]),(0,[0,0])]) [79] (A3 []) (some [4]) [] [] []
noncomputable def Bi1{R:Type}(L:Nat)(b a:By)(d:By->Option R):Option R:=cond (A2 b.length) (cond (w8 a b) (cond (I7 (a.length:Int) (b.length:Int) b.length) (vl (cut b (a.length:Int) (b.length:Int)) λc=>d c) none) (d b)) none
theorem Ca4(d:Nat)(s0 prefix1):evC (SW L) (d+1) Z Y 112 [pS s0,pS prefix1] [] s=Bi1 L s0 prefix1 (λa=>some (pS a,[],s)):=by refine(evE (fn:=Tryz.f112) (by kernel_rfl)).trans ?_;generalize evC (SW L) d=Q;unfold Bi1;kernel_rfl
noncomputable def Ar2(L:Nat):Cfg:=B6 L [83] (A3 []) [(112,Bd2)] (A3 [(1,[4]),(0,[0,0])]) [112] (A3 []) (some [4]) [] [] []
noncomputable def C10{R:Type}(L:Nat)(b a:By)(c:By->Option R):Option R:=cond (A2 b.length) (c (Gp b a)) none
theorem C11(d:Nat)(s0 prefix1):evC (Ar2 L) (d+1) Z Y 83 [pS s0,pS prefix1] [] s=C10 L s0 prefix1 (λa=>some (pS a,[],s)):=by refine(evE (fn:=Tryz.f83) (by kernel_rfl)).trans ?_;generalize evC (Ar2 L) d=Q;unfold C10;kernel_rfl
noncomputable def TH(L:Nat):Cfg:=B6 L [44] (A3 []) [] (A3 [(8,[2]),(4,[2]),(7,[2]),(6,[7]),(5,[3,3]),(3,[3,0]),(2,[3,0]),(1,[3]),(0,[0])]) [] (A3 [(0,[])]) (some [2]) [] [] []
noncomputable def Bl0{R:Type}(L:Nat)(a:By)(b:Int->Option R):Option R:=cond (a==[104,116,116,112]) (cond (a==[104,116,116,112]) (b 80) (cond (a==[104,116,116,112,115]) (cond (a==[104,116,116,112,115]) (b 443) (b (-1))) (cond (a==[119,115,115]) (b 443) (b (-1))))) (cond (a==[119,115]) (b 80) (cond (a==[104,116,116,112,115]) (cond (a==[104,116,116,112,115]) (b 443) (b (-1))) (cond (a==[119,115,115]) (b 443) (b (-1)))))
theorem Cj5(d:Nat)(scheme0):evC (TH L) (d+1) Z Y 44 [pS scheme0] [] s=Bl0 L scheme0 (λa=>some (pI a,[],s)):=by refine(evE (fn:=Tryz.f44) (by kernel_rfl)).trans ?_;generalize evC (TH L) d=Q;unfold Bl0;kernel_rfl
noncomputable def TJ(L:Nat):Cfg:=B6 L [22] (A3 []) [(44,DN)] (A3 [(1,[2]),(0,[0])]) [44] (A3 []) (some [2]) [] [] []
noncomputable def Bl1{R:Type}(L:Nat)(a:By)(b:Bool->Option R):Option R:=b (ltI 0 (L3 a))
theorem Cj8(d:Nat)(scheme0):evC (TJ L) (d+1) Z Y 22 [pS scheme0] [] s=Bl1 L scheme0 (λa=>some (pB a,[],s)):=by refine(evE (fn:=Tryz.f22) (by kernel_rfl)).trans ?_;generalize evC (TJ L) d=Q;unfold Bl1;kernel_rfl
noncomputable def Ar3(L:Nat):Cfg:=B6 L [26] (A3 []) [(44,DN)] (A3 [(3,[2]),(2,[2]),(1,[1,3]),(0,[1])]) [44] (A3 []) (some [2]) [] [] []
noncomputable def C18{R:Type}(L:Nat)(f h:By)(i:Int)(j:By)(l m n o u8 p b c d a:Int)(e:By)(g:Int->(List Blk)->Option R):Option R:=cond (a !=((-1):Int)) (g a [(bU f h i j l m n o u8 p b c d a e)]) (g (L3 f) [(bU f h i j l m n o u8 p b c d a e)])
theorem C19(d:Nat)(u0 u1 u2 u3 u4 u5 u6 u7 u8 u9 u10 u11 u12 u13 u14):evC (Ar3 L) (d+1) Z Y 26 [(gU u0 u1 u2 u3 u4 u5 u6 u7 u8 u9 u10 u11 u12 u13 u14)] [] s=C18 L u0 u1 u2 u3 u4 u5 u6 u7 u8 u9 u10 u11 u12 u13 u14 (λb a=>some (pI b,a,s)):=by refine(evE (fn:=Tryz.f26) (by kernel_rfl)).trans ?_;generalize evC (Ar3 L) d=Q;unfold C18;kernel_rfl
noncomputable abbrev Nz:Code:=C8 ai4
noncomputable def Ad(L:Nat):Cfg:=B6 L [55] (A3 [(2,[0,1,4,0])]) [(73,Ue)] (A3 [(9,[2]),(8,[0,6,0]),(7,[2]),(6,[0,6,0,29]),(5,[0,2,0,0,1,0]),(4,[0,2,0,2,0]),(3,[0,2,3,0]),(2,[0,6,0,0]),(1,[0,6,0]),(0,[0])]) [73] (A3 [(0,[0]),(1,[0,6,0])]) (some [2]) [] [] []
noncomputable def EL{R:Type}(d:By)(a c:Int)(b:By->Int->Int->Option R):Option R:=b d c a
abbrev BA(b:Code):Prop:=∀(k:Out->St Z->Option R) a i1 b2 n3,A9 (Ad L) Q Y b ⟨gp [(0,pS a),(2,pI i1),(0,p8 b2),(0,pB true),(1,pI n3),(0,pI i1)] 33,[],s⟩ k=EL a i1 n3 (λa c d=>k .normal ⟨gp [(0,pS a),(6,pI c),(0,pI d),(29,pB false)] 3,[],s⟩)
theorem Ba4:BA (R:=R) L Q Y s (cd [1,0,1,0,0,1,1,0,0,1,1,1] Nz):=by intro k d b a c;unfold EL;kernel_rfl
noncomputable def Fo{R:Type}(h:By)(c d:Int)(a:Bool)(g:Int)(e:Unit->Option R)(f:By->Int->Int->Bool->Option R):Option R:=cond (not a) (cond (c==0) (e ()) (cond (inR d 256) (vl (j8 ([48,49,50,51,52,53,54,55,56,57,43,45,46]:List UInt8) (u8n d)) λb=>cond (ltI b 0) (e ()) (f h g c (ltI b 0))) none)) (f h g c false)
abbrev BB(b:Code):Prop:=∀(k:Out->St Z->Option R) a i1 b2 letter3 n4,A9 (Ad L) Q Y b ⟨gp [(0,pS a),(2,pI i1),(0,p8 b2),(0,pB letter3),(1,pI n4),(0,pI i1)] 33,[],s⟩ k=Fo a i1 b2 letter3 n4 (λ_=>k .ret ⟨gp [(2,pB false)] 39,[],s⟩) (λa d e c=>k .normal ⟨gp [(0,pS a),(6,pI d),(0,pI e),(29,pB c)] 3,[],s⟩)
theorem Ba5:BB (R:=R) L Q Y s (cd [1,0,1,0,0,1,1,0,0,1,1,1] Nz):=by intro k e c b a d;unfold Fo;kernel_rfl
noncomputable def N7{R:Type}(L n:Nat)(b:By)(e a:Int)(c:Unit->Option R)(d:By->Option R):Option R:=match n with|0=>none|n+1=>cond (ltI a e) (cond (inR a b.length) (cond (not (ltI (bAt b a) (97:Int))) (cond (not (ltI 122 (bAt b a))) (EL b a e (λx r t=>N7 L n x r (A1 (t+1)) c d)) (cond (not (ltI (bAt b a) (65:Int))) (Fo b a (bAt b a) (not (ltI 90 (bAt b a))) e (λ_=>c ()) (λy u v D=>N7 L n y u (A1 (v+1)) c d)) (Fo b a (bAt b a) false e (λ_=>c ()) (λz w f A=>vl (A1 (f+1)) λg=>N7 L n z w g c d)))) (cond (not (ltI (bAt b a) (65:Int))) (Fo b a (bAt b a) (not (ltI 90 (bAt b a))) e (λ_=>c ()) (λp h i B=>vl (A1 (i+1)) λj=>N7 L n p h j c d)) (Fo b a (bAt b a) false e (λ_=>c ()) (λq l m C=>vl (A1 (m+1)) λo=>N7 L n q l o c d)))) none) (d b)
theorem Ba6(a:Code)(d:BA (R:=R) L Q Y s a)(b:BB (R:=R) L Q Y s a)(n:Nat)(c:By)(f e:Int):D0 0 ((Ad L).keep 2) (bd (Ad L) Q Y (cd [1,0,1,0,0] (G3 [1,0,1,0,0,1,1,0,0,1,1,1] a Nz))) n ⟨gp [(0,pS c),(6,pI f),(0,pI e)] 33,[],s⟩ k =
 N7 L n c f e (λ_=>k .ret ⟨gp [(2,pB false)] 39,[],s⟩) (λc=>k (.exit 0) ⟨gp [(0,pS c)] 41,[],s⟩):=by
 induction n generalizing c f e with
 | zero=>rfl
 | succ n h=>rw[N7];exact let g:=(E6 1 (E5 (Ad L) Q Y (cd [1,0,1,0,0,1,1,1] Nz) (lpK 0 ((Ad L).keep 2) (bd (Ad L) Q Y (cd [1,0,1,0,0] (G3 [1,0,1,0,0,1,1,0,0,1,1,1] a Nz))) n k)));(p6 (by kernel_rfl) (A0 (A0 (A0 (A0 ((d g c e (bAt c e) f).trans (congr rfl (fx3 λx r t=>(p6 (by kernel_rfl) (h x r (A1 (t+1))))))) (A0 ((b g c e (bAt c e) (not (ltI 90 (bAt c e))) f).trans (congr (congr rfl (by kernel_rfl)) (fx4 λy u v H=>(p6 (by kernel_rfl) (h y u (A1 (v+1))))))) ((b g c e (bAt c e) false f).trans (congr (congr rfl (by kernel_rfl)) (fx4 λz w D A=>(p6 (by kernel_rfl) (A4 λi=>(h z w i)))))))) (A0 ((b g c e (bAt c e) (not (ltI 90 (bAt c e))) f).trans (congr (congr rfl (by kernel_rfl)) (fx4 λp j F B=>(p6 (by kernel_rfl) (A4 λl=>(h p j l)))))) ((b g c e (bAt c e) false f).trans (congr (congr rfl (by kernel_rfl)) (fx4 λq m G C=>(p6 (by kernel_rfl) (A4 λo=>(h q m o)))))))) rfl) rfl))
noncomputable def Cj7{R:Type}(L:Nat)(c:By)(b:Bool->Option R):Option R:=N7 L L c (c.length:Int) 0 (λ_=>b false) (λa=>b (not (a==[])))
theorem C21(a:Code)(b:BA (R:=PV × List Blk × Z) L Q Y s a)(c:BB (R:=PV × List Blk × Z) L Q Y s a)(d:By):A9 (Ad L) Q Y (cd [] (G3 [1,0,1,0,0,1,1,0,0,1,1,1] a Nz)) ⟨[pS d]++tps 41,[],s⟩ (F7 (Ad L) ai4)=Cj7 L d (λe=>some (pB e,[],s)):=by unfold Cj7;exact(p6 (by kernel_rfl) ((Ba6 L Q Y s (E6 0 (E5 (Ad L) Q Y (cd [1,1] Nz) (F7 (Ad L) ai4))) a b c L d (d.length:Int) 0).trans (by kernel_rfl)))
theorem C22(d:Nat)(s0):evC (Ad L) (d+1) Z Y 55 [pS s0] [] s=Cj7 L s0 (λa=>some (pB a,[],s)):=
 (evE (fn:=ai4) (by kernel_rfl)).trans (p6 (by kernel_rfl) (C21 L (evC (Ad L) d) Y s (cd [1,0,1,0,0,1,1,0,0,1,1,1] Nz) (Ba4 L (evC (Ad L) d) Y s) (Ba5 L (evC (Ad L) d) Y s) s0))
noncomputable abbrev B53:Code:=C8 ak2
noncomputable def Sn(L:Nat):Cfg:=B6 L [82] (A3 [(3,[0,1,0,0,2,0])]) [] (A3 [(9,[2,0]),(8,[0,3,2,0]),(7,[0,3,2,0]),(6,[2,0]),(5,[0,3,0,1,0,11]),(4,[0,3,0,1,0]),(3,[0,3,2,0,0]),(2,[0,3,2,0]),(1,[0,3]),(0,[0])]) [] (A3 [(0,[4]),(1,[0,3,2,0])]) (some [2,0]) [] [] []
noncomputable def Mp{R:Type}(L n:Nat)(b:By)(h j a:Int)(d:Unit->Option R)(i:Int->Option R):Option R:=match n with|0=>none|n+1=>cond (ltI a j) (cond (inR a b.length) (cond (ltI (bAt b a) (48:Int)) (d ()) (cond (inR a b.length) (cond (ltI 57 (bAt b a)) (d ()) (vl (A1 ((10:Int)*(if ((0:Int) > h) then (0:Int) else h))) λe=>cond (inR a b.length) (vl (wu8 ((bAt b a)-48)) λf=>vl (A1 (e+(A1 f))) λc=>vl (if ((65536:Int)<c) then (65536:Int) else c) λg=>Mp L n b g j (A1 (a+1)) d i) none)) none)) none) (i h)
theorem A99(n s0 n1 n2 n3):D0 0 ((Sn L).keep 3) (bd (Sn L) Q Y (cd [1,1,0,1,0,0] B53)) n ⟨gp [(0,pS s0),(3,pI n1),(2,pI n2),(0,pI n3)] 26,[],s⟩ k =
 Mp L n s0 n1 n2 n3 (λ_=>k .ret ⟨gp [(2,pI (0:Int)),(0,pB false)] 31,[],s⟩) (λn0=>k (.exit 0) ⟨gp [(4,pI n0)] 30,[],s⟩):=by
 induction n generalizing s0 n1 n2 n3 with
 | zero=>rfl
 | succ n a=>rw[Mp];simp only[<-a];kernel_rfl
noncomputable def C13{R:Type}(L:Nat)(c:By)(b:Int->Bool->Option R):Option R:=Mp L L c (-1) (c.length:Int) 0 (λ_=>b 0 false) (λa=>b a (ltI a 65536))
theorem C14(d:Nat)(s0):evC (Sn L) (d+1) Z Y 82 [pS s0] [] s=C13 L s0 (λa b=>some (.tup [pI a,pB b],[],s)):=by refine(evE (fn:=ak2) (by kernel_rfl)).trans ?_;generalize evC (Sn L) d=Q;unfold C13;exact(p6 (by kernel_rfl) ((A99 L Q Y s (E6 0 (E5 (Sn L) Q Y (cd [1,1,1] B53) (F7 (Sn L) ak2))) L s0 (-1) (s0.length:Int) 0).trans (by kernel_rfl)))
noncomputable abbrev Br:Code:=C8 ai6
noncomputable def X3(L:Nat):Cfg:=B6 L [60] (A3 []) [(80,DK),(59,ES),(73,Ue),(81,XM),(83,B39),(82,B41),(44,DN)] (A3 [(24,[4,0]),(23,[2,1]),(22,[2,1,8,71]),(21,[2,1,8]),(20,[4,0]),(19,[2,1,6,1,63]),(18,[2,1,6,1,0]),(17,[4,0]),(16,[2,1,3,2,0,54]),(15,[2,1,3,2,0]),(14,[4,0]),(13,[2,1,2,0,50]),(9,[2,1,2,0]),(8,[4,0]),(7,[1,0,1,4,23]),(6,[1,0,1,4]),(12,[2,1,2,0]),(11,[1,0,1,2,0,1,35]),(10,[1,0,1,2,0,1]),(5,[1,0,1,2,0,20]),(4,[1,0,1,2,0]),(3,[1,0,1]),(2,[1,0,1,1,11]),(1,[1,0,1,1]),(0,[1,0,1])]) [80,59,73,83,82,44] (A3 []) (some [4,0]) [] [] []
noncomputable def V9{R:Type}(d e g h:By)(q:Int)(u:By)(r n8 t i j l m n o f:Int)(c:By)(p:Int->Blk->By->By->Int->By->Int->Int->Int->Int->Int->Int->Int->Int->Int->Int->By->(List Blk)->Option R):Option R:=cond (A2 d.length) (vl (B9 d) λa=>cond ((↑(a).2:Int)!=0) (p (↑(a).2:Int) (bU g h q u r n8 t i j l m n o f c) ([]:List UInt8) ([]:List UInt8) 0 ([]:List UInt8) 0 0 0 0 0 0 0 0 0 0 ([]:List UInt8) [(bH (↑(B2.kind (a).1):Int) (B2.name (a).1) (↑(B2.v4 (a).1):Int) (↑(b9 (B2.v6 (a).1) 0 0):Int) (↑(b9 (B2.v6 (a).1) 1 0):Int) (↑(b9 (B2.v6 (a).1) 2 0):Int) (↑(b9 (B2.v6 (a).1) 3 0):Int) (↑(b9 (B2.v6 (a).1) 4 0):Int) (↑(b9 (B2.v6 (a).1) 5 0):Int) (↑(b9 (B2.v6 (a).1) 6 0):Int) (↑(b9 (B2.v6 (a).1) 7 0):Int))]) (cond (A2 e.length) (vl (Gp e ([58]:List UInt8)) λb=>cond (A2 b.length) (cond (not (aj1 (Gx ((-1):Int) b))) (p 16 (bU g h q u r n8 t i j l m n o f c) ([]:List UInt8) ([]:List UInt8) 0 ([]:List UInt8) 0 0 0 0 0 0 0 0 0 0 ([]:List UInt8) [(bH (↑(B2.kind (a).1):Int) (B2.name (a).1) (↑(B2.v4 (a).1):Int) (↑(b9 (B2.v6 (a).1) 0 0):Int) (↑(b9 (B2.v6 (a).1) 1 0):Int) (↑(b9 (B2.v6 (a).1) 2 0):Int) (↑(b9 (B2.v6 (a).1) 3 0):Int) (↑(b9 (B2.v6 (a).1) 4 0):Int) (↑(b9 (B2.v6 (a).1) 5 0):Int) (↑(b9 (B2.v6 (a).1) 6 0):Int) (↑(b9 (B2.v6 (a).1) 7 0):Int))]) (cond ((DG b)!=(L3 g)) (p 0 (bU g h (↑(B2.kind (a).1):Int) (B2.name (a).1) (↑(B2.v4 (a).1):Int) (↑(b9 (B2.v6 (a).1) 0 0):Int) (↑(b9 (B2.v6 (a).1) 1 0):Int) (↑(b9 (B2.v6 (a).1) 2 0):Int) (↑(b9 (B2.v6 (a).1) 3 0):Int) (↑(b9 (B2.v6 (a).1) 4 0):Int) (↑(b9 (B2.v6 (a).1) 5 0):Int) (↑(b9 (B2.v6 (a).1) 6 0):Int) (↑(b9 (B2.v6 (a).1) 7 0):Int) (DG b) c) g h (↑(B2.kind (a).1):Int) (B2.name (a).1) (↑(B2.v4 (a).1):Int) (↑(b9 (B2.v6 (a).1) 0 0):Int) (↑(b9 (B2.v6 (a).1) 1 0):Int) (↑(b9 (B2.v6 (a).1) 2 0):Int) (↑(b9 (B2.v6 (a).1) 3 0):Int) (↑(b9 (B2.v6 (a).1) 4 0):Int) (↑(b9 (B2.v6 (a).1) 5 0):Int) (↑(b9 (B2.v6 (a).1) 6 0):Int) (↑(b9 (B2.v6 (a).1) 7 0):Int) (DG b) c [(bH (↑(B2.kind (a).1):Int) (B2.name (a).1) (↑(B2.v4 (a).1):Int) (↑(b9 (B2.v6 (a).1) 0 0):Int) (↑(b9 (B2.v6 (a).1) 1 0):Int) (↑(b9 (B2.v6 (a).1) 2 0):Int) (↑(b9 (B2.v6 (a).1) 3 0):Int) (↑(b9 (B2.v6 (a).1) 4 0):Int) (↑(b9 (B2.v6 (a).1) 5 0):Int) (↑(b9 (B2.v6 (a).1) 6 0):Int) (↑(b9 (B2.v6 (a).1) 7 0):Int))]) (p 0 (bU g h (↑(B2.kind (a).1):Int) (B2.name (a).1) (↑(B2.v4 (a).1):Int) (↑(b9 (B2.v6 (a).1) 0 0):Int) (↑(b9 (B2.v6 (a).1) 1 0):Int) (↑(b9 (B2.v6 (a).1) 2 0):Int) (↑(b9 (B2.v6 (a).1) 3 0):Int) (↑(b9 (B2.v6 (a).1) 4 0):Int) (↑(b9 (B2.v6 (a).1) 5 0):Int) (↑(b9 (B2.v6 (a).1) 6 0):Int) (↑(b9 (B2.v6 (a).1) 7 0):Int) f c) g h (↑(B2.kind (a).1):Int) (B2.name (a).1) (↑(B2.v4 (a).1):Int) (↑(b9 (B2.v6 (a).1) 0 0):Int) (↑(b9 (B2.v6 (a).1) 1 0):Int) (↑(b9 (B2.v6 (a).1) 2 0):Int) (↑(b9 (B2.v6 (a).1) 3 0):Int) (↑(b9 (B2.v6 (a).1) 4 0):Int) (↑(b9 (B2.v6 (a).1) 5 0):Int) (↑(b9 (B2.v6 (a).1) 6 0):Int) (↑(b9 (B2.v6 (a).1) 7 0):Int) f c [(bH (↑(B2.kind (a).1):Int) (B2.name (a).1) (↑(B2.v4 (a).1):Int) (↑(b9 (B2.v6 (a).1) 0 0):Int) (↑(b9 (B2.v6 (a).1) 1 0):Int) (↑(b9 (B2.v6 (a).1) 2 0):Int) (↑(b9 (B2.v6 (a).1) 3 0):Int) (↑(b9 (B2.v6 (a).1) 4 0):Int) (↑(b9 (B2.v6 (a).1) 5 0):Int) (↑(b9 (B2.v6 (a).1) 6 0):Int) (↑(b9 (B2.v6 (a).1) 7 0):Int))]))) none) none)) none
abbrev Pe(b:Code):Prop:=∀(k:Out->St Z->Option R) name0 tail1 b2 j s4 n5 s6 h n8 i a c d e f g n16 s17,A9 (X3 L) Q Y b ⟨gp [(2,.ptr 0 0 0),(1,.ptr 1 0 0),(2,pS name0),(0,pS tail1),(50,pB b2)] 29,[(bU j s4 n5 s6 h n8 i a c d e f g n16 s17),bU0],s⟩ k=V9 name0 tail1 j s4 n5 s6 h n8 i a c d e f g n16 s17 (λn0 n q j o r p h n8 i a c d e f g m l=>k .ret ⟨gp [(4,.ptr 1 0 0),(0,pI n0)] 83,(n::(bU q j o r p h n8 i a c d e f g m)::l),s⟩)
theorem Xm:Pe (R:=R) L Q Y s (cd [1,1,1,1,1] Br):=by intro k a b l p q m r n n8 o c d e f g h i j;unfold V9;kernel_rfl
noncomputable def Q2{R:Type}(b a s2 s3:By)(n4:Int)(s5:By)(n6 n7 n8 n9 c d e f g h:Int)(i:By)(k0:Int->Blk->By->By->Int->By->Int->Int->Int->Int->Int->Int->Int->Int->Int->Int->By->(List Blk)->Option R):Option R:=cond (not (a==[])) (cond (inR 0 a.length) (cond ((bAt a (0:Int))!=58) (k0 4 (bU s2 s3 n4 s5 n6 n7 n8 n9 c d e f g h i) ([]:List UInt8) ([]:List UInt8) 0 ([]:List UInt8) 0 0 0 0 0 0 0 0 0 0 ([]:List UInt8) []) (V9 b a s2 s3 n4 s5 n6 n7 n8 n9 c d e f g h i (λo j P S p T q r t u v w x y z A U m=>k0 o j P S p T q r t u v w x y z A U m))) none) (V9 b a s2 s3 n4 s5 n6 n7 n8 n9 c d e f g h i (λB l V W C X D F G H I J K M N O a0 n=>k0 B l V W C X D F G H I J K M N O a0 n))
abbrev Pf(b:Code):Prop:=∀(k:Out->St Z->Option R) name0 tail1 n o i p j l n8 m a c d e f g h,A9 (X3 L) Q Y b ⟨gp [(2,.ptr 0 0 0),(1,.ptr 1 0 0),(2,pS name0),(0,pS tail1)] 80,[(bU n o i p j l n8 m a c d e f g h),bU0],s⟩ k=Q2 name0 tail1 n o i p j l n8 m a c d e f g h (λn0 r n o i p j l n8 m a c d e f g h q=>k .ret ⟨gp [(4,.ptr 1 0 0),(0,pI n0)] 83,(r::(bU n o i p j l n8 m a c d e f g h)::q),s⟩)
theorem WR(b:Code)(a:Pe (R:=R) L Q Y s b):Pf (R:=R) L Q Y s (cd [1,1,1,1] (G3 [1,1,1,1,1] b Br)):=by intro k d c q r m t n o n8 p e f g h i j l;unfold Q2;exact(p6 (by kernel_rfl) (A0 (A0 (A0 rfl ((a k d c ((bAt c (0:Int))!=58) q r m t n o n8 p e f g h i j l).trans (by kernel_rfl))) rfl) ((a k d c false q r m t n o n8 p e f g h i j l).trans (by kernel_rfl))))
theorem WS:Pf (R:=R) L Q Y s (cd [1,1,1,1] Br):=by intro k a b o p j q l m n8 n c d e f g h i;exact p6 (by kernel_rfl) (WR L Q Y s (cd [1,1,1,1,1] Br) (Xm L Q Y s) k a b o p j q l m n8 n c d e f g h i)
noncomputable def Qr{R:Type}(a I J:By)(F:Int)(K:By)(G n8 H v w x y z A B:Int)(C:By)(D:Int->Blk->By->By->Int->By->Int->Int->Int->Int->Int->Int->Int->Int->Int->Int->By->(List Blk)->Option R):Option R:=V9 a ([]:List UInt8) I J F K G n8 H v w x y z A B C (λd b q r e t f g h i j l m n o p u c=>D d b q r e t f g h i j l m n o p u c)
abbrev Ph(b:Code):Prop:=∀(k:Out->St Z->Option R) authority0 kk1 b2 j s4 n5 s6 h n8 i a c d e f g n16 s17,A9 (X3 L) Q Y b ⟨gp [(1,pS authority0),(0,.ptr 0 0 0),(1,.ptr 1 0 0),(2,pS authority0),(0,pS ([]:List UInt8)),(1,pI kk1),(35,pB b2)] 42,[(bU j s4 n5 s6 h n8 i a c d e f g n16 s17),bU0],s⟩ k=Qr authority0 j s4 n5 s6 h n8 i a c d e f g n16 s17 (λn0 n q j o r p h n8 i a c d e f g m l=>k .ret ⟨gp [(4,.ptr 1 0 0),(0,pI n0)] 83,(n::(bU q j o r p h n8 i a c d e f g m)::l),s⟩)
theorem WT(c:Code)(a:Pe (R:=R) L Q Y s c):Ph (R:=R) L Q Y s (cd [1,1,1,1] (G3 [1,1,1,1,1] c Br)):=by intro k b m u q r n t o n8 p d e f g h i j l;unfold Qr;exact(p6 (by kernel_rfl) ((a k b ([]:List UInt8) false q r n t o n8 p d e f g h i j l).trans (by kernel_rfl)))
theorem WU:Ph (R:=R) L Q Y s (cd [1,1,1,1] Br):=by intro k a b l p q m r n n8 o c d e f g h i j;exact p6 (by kernel_rfl) (WT L Q Y s (cd [1,1,1,1,1] Br) (Xm L Q Y s) k a b l p q m r n n8 o c d e f g h i j)
noncomputable def Ts{R:Type}(L:Nat)(u0 u1:By)(u2:Int)(u3:By)(u4 u5 u6 u7 u8 u9 e f g h:Int)(i a:By)(k0:By->By->Int->By->Int->Int->Int->Int->Int->Int->Int->Int->Int->Int->By->Int->(List Blk)->Option R):Option R:=cond (A2 a.length) (vl (K3 (u8n (64:Int)) a) λc5=>cond (not (ltI c5 0)) (cond (I7 0 c5 a.length) (vl (cut a 0 c5) λe8=>cond (I7 (A1 (c5+1)) (a.length:Int) a.length) (vl (cut a (A1 (c5+1)) (a.length:Int)) λb=>cond (A2 b.length) (cond (w8 ([91]:List UInt8) b) (cond (A2 b.length) (vl (j8 b (u8n (93:Int))) λJ=>cond (ltI J 0) (k0 ([]:List UInt8) ([]:List UInt8) 0 ([]:List UInt8) 0 0 0 0 0 0 0 0 0 0 ([]:List UInt8) 4 [(bU u0 e8 u2 u3 u4 u5 u6 u7 u8 u9 e f g h i),bU0]) (vl (A1 (J+1)) λe9=>cond (I7 0 e9 b.length) (vl (A1 (J+1)) λf0=>cond (I7 f0 (b.length:Int) b.length) (vl (cut b f0 (b.length:Int)) λi6=>Q2 (cut b 0 e9) i6 u0 e8 u2 u3 u4 u5 u6 u7 u8 u9 e f g h i (λi5 i4 g4 g5 f3 g6 f4 f5 f6 f7 f8 f9 g0 g1 g2 g3 g7 h3=>k0 g4 g5 f3 g6 f4 f5 f6 f7 f8 f9 g0 g1 g2 g3 g7 i5 (i4::((bU g4 g5 f3 g6 f4 f5 f6 f7 f8 f9 g0 g1 g2 g3 g7)::h3)))) none) none)) none) (cond (A2 b.length) (vl (j8 b (u8n (58:Int))) λc=>cond (not (ltI c 0)) (cond (I7 0 c b.length) (cond (I7 c (b.length:Int) b.length) (vl (cut b c (b.length:Int)) λi7=>Q2 (cut b 0 c) i7 u0 e8 u2 u3 u4 u5 u6 u7 u8 u9 e f g h i (λh9 g8 c6 c7 j c8 l m n o p q r t u v d0 h4=>k0 c6 c7 j c8 l m n o p q r t u v d0 h9 (g8::((bU c6 c7 j c8 l m n o p q r t u v d0)::h4)))) none) none) (Qr b u0 e8 u2 u3 u4 u5 u6 u7 u8 u9 e f g h i (λi0 g9 d1 d2 w d3 x y z A B C D F G H d4 h5=>k0 d1 d2 w d3 x y z A B C D F G H d4 i0 (g9::((bU d1 d2 w d3 x y z A B C D F G H d4)::h5))))) none)) none) none) none) (cond (A2 a.length) (cond (w8 ([91]:List UInt8) a) (cond (A2 a.length) (vl (j8 a (u8n (93:Int))) λc4=>cond (ltI c4 0) (k0 ([]:List UInt8) ([]:List UInt8) 0 ([]:List UInt8) 0 0 0 0 0 0 0 0 0 0 ([]:List UInt8) 4 [(bU u0 u1 u2 u3 u4 u5 u6 u7 u8 u9 e f g h i),bU0]) (vl (A1 (c4+1)) λf1=>cond (I7 0 f1 a.length) (vl (cut a 0 f1) λi9=>vl (A1 (c4+1)) λf2=>cond (I7 f2 (a.length:Int) a.length) (vl (cut a f2 (a.length:Int)) λj3=>Q2 i9 j3 u0 u1 u2 u3 u4 u5 u6 u7 u8 u9 e f g h i (λi1 h0 d5 d6 I d7 K M N O P S T U V W d8 h6=>k0 d5 d6 I d7 K M N O P S T U V W d8 i1 (h0::((bU d5 d6 I d7 K M N O P S T U V W d8)::h6)))) none) none)) none) (cond (A2 a.length) (vl (j8 a (u8n (58:Int))) λd=>cond (not (ltI d 0)) (cond (I7 0 d a.length) (vl (cut a 0 d) λk1=>cond (I7 d (a.length:Int) a.length) (vl (cut a d (a.length:Int)) λk2=>Q2 k1 k2 u0 u1 u2 u3 u4 u5 u6 u7 u8 u9 e f g h i (λi2 h1 d9 e1 X e2 a0 a1 a2 a3 a4 a5 a6 a7 a9 b0 e3 h7=>k0 d9 e1 X e2 a0 a1 a2 a3 a4 a5 a6 a7 a9 b0 e3 i2 (h1::((bU d9 e1 X e2 a0 a1 a2 a3 a4 a5 a6 a7 a9 b0 e3)::h7)))) none) none) (Qr a u0 u1 u2 u3 u4 u5 u6 u7 u8 u9 e f g h i (λi3 h2 e4 e5 b1 e6 b2 b3 b4 b5 b6 b7 c0 c1 c2 c3 e7 h8=>k0 e4 e5 b1 e6 b2 b3 b4 b5 b6 b7 c0 c1 c2 c3 e7 i3 (h2::((bU e4 e5 b1 e6 b2 b3 b4 b5 b6 b7 c0 c1 c2 c3 e7)::h8))))) none)) none)) none
theorem Bz3(d:Code)(a:Pf (R:=PV × List Blk × Z) L Q Y s d)(c:Ph (R:=PV × List Blk × Z) L Q Y s d)(m G:By)(n:Int)(o:By)(p q r t u8 u e f g h:Int)(i b:By):A9 (X3 L) Q Y (cd [] (G3 [1,1,1,1] d Br)) ⟨[(gU m G n o p q r t u8 u e f g h i),pS b]++tps 87,[],s⟩ (F7 (X3 L) ai6)=Ts L m G n o p q r t u8 u e f g h i b (λX r1 r2 r3 r4 r5 r6 r7 r8 r9 I J K M N O H=>some (.tup [(gU X r1 r2 r3 r4 r5 r6 r7 r8 r9 I J K M N),pI O],H,s)):=by unfold Ts;exact let x:=(F7 (X3 L) ai6);(p6 (by kernel_rfl) (A0 (A4 λW=>(A0 (A0 (A4 λv=>(A0 (A4 λw=>(A0 (A0 (A0 (A4 λP=>(A0 rfl (A4 λy=>(A0 (A4 λS=>(A0 (A4 λz=>((a x (cut w 0 y) z m v n o p q r t u8 u e f g h i).trans (by kernel_rfl))) rfl)) rfl)))) rfl) (A0 (A4 λj=>(A0 (A0 (A0 (A4 λA=>((a x (cut w 0 j) A m v n o p q r t u8 u e f g h i).trans (by kernel_rfl))) rfl) rfl) ((c x w j (not (ltI j 0)) m v n o p q r t u8 u e f g h i).trans (by kernel_rfl)))) rfl)) rfl)) rfl)) rfl) (A0 (A0 (A0 (A4 λT=>(A0 rfl (A4 λU=>(A0 (A4 λB=>(A4 λV=>(A0 (A4 λC=>((a x B C m G n o p q r t u8 u e f g h i).trans (by kernel_rfl))) rfl))) rfl)))) rfl) (A0 (A4 λl=>(A0 (A0 (A4 λD=>(A0 (A4 λF=>((a x D F m G n o p q r t u8 u e f g h i).trans (by kernel_rfl))) rfl)) rfl) ((c x b l (not (ltI l 0)) m G n o p q r t u8 u e f g h i).trans (by kernel_rfl)))) rfl)) rfl))) rfl))
theorem Bz4(d:Nat)(u0 u1 u2 u3 u4 u5 u6 u7 u8 u9 u10 u11 u12 u13 u14 authority15):evC (X3 L) (d+1) Z Y 60 [(gU u0 u1 u2 u3 u4 u5 u6 u7 u8 u9 u10 u11 u12 u13 u14),pS authority15] [] s=Ts L u0 u1 u2 u3 u4 u5 u6 u7 u8 u9 u10 u11 u12 u13 u14 authority15 (λi j l m n o p q r8 r b c e f g h a=>some (.tup [(gU i j l m n o p q r8 r b c e f g),pI h],a,s)):=
 (evE (fn:=ai6) (by kernel_rfl)).trans (p6 (by kernel_rfl) (Bz3 L (evC (X3 L) d) Y s (cd [1,1,1,1] Br) (WS L (evC (X3 L) d) Y s) (WU L (evC (X3 L) d) Y s) u0 u1 u2 u3 u4 u5 u6 u7 u8 u9 u10 u11 u12 u13 u14 authority15))
noncomputable abbrev B54:Code:=C8 ak1
noncomputable def So(L:Nat):Cfg:=B6 L [40] (A3 [(2,[0,1,0,8,0])]) [(54,An7),(55,B43),(56,Am3),(22,Ps),(57,Al7),(58,RO),(59,ES),(60,XS)] (A3 [(23,[2,0]),(22,[2,5,0]),(21,[2,5,0,65]),(20,[2,5,0]),(19,[2,3,1,0]),(18,[2,3,1,0,0,52]),(17,[2,3,1,0,0]),(16,[2,3,1,0]),(15,[2,0]),(14,[2,3,1,48]),(13,[2,3,0,0]),(12,[2,0]),(11,[2,3,1,40]),(10,[2,3,1]),(9,[2,0]),(8,[2,2,0,33]),(7,[2,2,0,0]),(6,[0,1,9,0]),(5,[2,0]),(4,[0,1,9,0,11]),(3,[0,1,1,7,0]),(2,[0,1,9,0,0]),(1,[0,1,9,0]),(0,[0,1])]) [54,55,56,22,57,58,59] (A3 [(0,[0,1]),(1,[0,1,9,0])]) (some [2,0]) [] [] []
noncomputable def Iu{R:Type}(L n:Nat)(b:By)(e a:Int)(c:(List Blk)->Option R)(d:By->Option R):Option R:=match n with|0=>none|n+1=>cond (ltI a e) (cond (inR a b.length) (cond (not (ltI 32 (bAt b a))) (c []) (cond (inR a b.length) (cond ((bAt b a)==127) (c []) (Iu L n b e (A1 (a+1)) c d)) none)) none) (d b)
theorem Ba3(n a n1 n2):D0 1 ((So L).keep 2) (bd (So L) Q Y (cd [1,0,1,0,0] B54)) n ⟨gp [(0,pS a),(1,.ptr 0 0 0),(9,pI n1),(0,pI n2)] 71,[bU0],s⟩ k =
 Iu L n a n1 n2 (λb=>k .ret ⟨gp [(2,.ptr 0 0 0),(0,pI (4:Int))] 81,(bU0::b),s⟩) (λa=>k (.exit 0) ⟨gp [(0,pS a),(1,.ptr 0 0 0)] 82,[bU0],s⟩):=by
 induction n generalizing a n1 n2 with
 | zero=>rfl
 | succ n c=>rw[Iu];simp only[<-c];kernel_rfl
noncomputable def LV{R:Type}(L:Nat)(q:By)(n:By->By->Int->By->Int->Int->Int->Int->Int->Int->Int->Int->Int->Int->By->Int->(List Blk)->Option R):Option R:=Iu L L q (q.length:Int) 0 (λp=>n ([]:List UInt8) ([]:List UInt8) 0 ([]:List UInt8) 0 0 0 0 0 0 0 0 0 0 ([]:List UInt8) 4 (bU0::p)) (λo=>cond (A2 o.length) (vl ((w9 o ([58]:List UInt8))).1 λf=>vl (((w9 o ([58]:List UInt8))).2).1 λj=>cond (not (((w9 o ([58]:List UInt8))).2).2) (n ([]:List UInt8) ([]:List UInt8) 0 ([]:List UInt8) 0 0 0 0 0 0 0 0 0 0 ([]:List UInt8) 15 [bU0]) (cond (A2 f.length) (cond (not (S6 f)) (n ([]:List UInt8) ([]:List UInt8) 0 ([]:List UInt8) 0 0 0 0 0 0 0 0 0 0 ([]:List UInt8) 15 [bU0]) (cond (A2 f.length) (cond (not (E7 (B3 f))) (n (B3 f) ([]:List UInt8) 0 ([]:List UInt8) 0 0 0 0 0 0 0 0 0 (-1) j 0 [(bU (B3 f) ([]:List UInt8) (0:Int) ([]:List UInt8) (0:Int) (0:Int) (0:Int) (0:Int) (0:Int) (0:Int) (0:Int) (0:Int) (0:Int) ((-1):Int) j),(bU (B3 f) ([]:List UInt8) (0:Int) ([]:List UInt8) (0:Int) (0:Int) (0:Int) (0:Int) (0:Int) (0:Int) (0:Int) (0:Int) (0:Int) ((-1):Int) j)]) (cond (A2 j.length) (vl (Gp j ([47,47]:List UInt8)) λe=>cond (not (w8 ([47,47]:List UInt8) j)) (n ([]:List UInt8) ([]:List UInt8) 0 ([]:List UInt8) 0 0 0 0 0 0 0 0 0 0 ([]:List UInt8) 4 [bU0,(bU (B3 f) ([]:List UInt8) (0:Int) ([]:List UInt8) (0:Int) (0:Int) (0:Int) (0:Int) (0:Int) (0:Int) (0:Int) (0:Int) (0:Int) ((-1):Int) j)]) (cond (A2 e.length) (cond (Zz ([47,63,35]:List UInt8)) (vl (aa6 e ([47,63,35]:List UInt8)) λi=>cond (not (ltI i 0)) (cond (I7 0 i e.length) (cond (I7 (↑(b8 (cut e 0 i)):Int) (e.length:Int) e.length) (vl (cut e (↑(b8 (cut e 0 i)):Int) (e.length:Int)) λg=>cond (A2 g.length) (cond (not (w8 ([47]:List UInt8) g)) (cond (J6 1 g.length) (vl (([47]:List UInt8)++g) λl=>cond (A2 (b8 (B3 f))) (cond (A2 l.length) (cond (A2 (b8 (cut e 0 i))) (cond (((-1):Int)==((-1):Int)) (vl (F9 (B3 f) l (cut e 0 i)) λa=>n (uS a) (uU a) (uK a) (uN a) (uV a) (uA a 0) (uA a 1) (uA a 2) (uA a 3) (uA a 4) (uA a 5) (uA a 6) (uA a 7) (uP a) (uR a) (uE a) [(bQ a),(bU (B3 f) ([]:List UInt8) (0:Int) ([]:List UInt8) (0:Int) (0:Int) (0:Int) (0:Int) (0:Int) (0:Int) (0:Int) (0:Int) (0:Int) ((-1):Int) l)]) none) none) none) none) none) (cond (A2 (b8 (B3 f))) (cond (A2 g.length) (cond (A2 (b8 (cut e 0 i))) (cond (((-1):Int)==((-1):Int)) (vl (F9 (B3 f) g (cut e 0 i)) λb=>n (uS b) (uU b) (uK b) (uN b) (uV b) (uA b 0) (uA b 1) (uA b 2) (uA b 3) (uA b 4) (uA b 5) (uA b 6) (uA b 7) (uP b) (uR b) (uE b) [(bQ b),(bU (B3 f) ([]:List UInt8) (0:Int) ([]:List UInt8) (0:Int) (0:Int) (0:Int) (0:Int) (0:Int) (0:Int) (0:Int) (0:Int) (0:Int) ((-1):Int) g)]) none) none) none) none)) none) none) none) (cond (I7 (e.length:Int) (e.length:Int) e.length) (vl (cut e (e.length:Int) (e.length:Int)) λh=>cond (A2 h.length) (cond (not (w8 ([47]:List UInt8) h)) (cond (J6 1 h.length) (vl (([47]:List UInt8)++h) λm=>cond (A2 (b8 (B3 f))) (cond (A2 m.length) (cond (A2 e.length) (cond (((-1):Int)==((-1):Int)) (vl (F9 (B3 f) m e) λc=>n (uS c) (uU c) (uK c) (uN c) (uV c) (uA c 0) (uA c 1) (uA c 2) (uA c 3) (uA c 4) (uA c 5) (uA c 6) (uA c 7) (uP c) (uR c) (uE c) [(bQ c),(bU (B3 f) ([]:List UInt8) (0:Int) ([]:List UInt8) (0:Int) (0:Int) (0:Int) (0:Int) (0:Int) (0:Int) (0:Int) (0:Int) (0:Int) ((-1):Int) m)]) none) none) none) none) none) (cond (A2 (b8 (B3 f))) (cond (A2 h.length) (cond (A2 e.length) (cond (((-1):Int)==((-1):Int)) (vl (F9 (B3 f) h e) λd=>n (uS d) (uU d) (uK d) (uN d) (uV d) (uA d 0) (uA d 1) (uA d 2) (uA d 3) (uA d 4) (uA d 5) (uA d 6) (uA d 7) (uP d) (uR d) (uE d) [(bQ d),(bU (B3 f) ([]:List UInt8) (0:Int) ([]:List UInt8) (0:Int) (0:Int) (0:Int) (0:Int) (0:Int) (0:Int) (0:Int) (0:Int) (0:Int) ((-1):Int) h)]) none) none) none) none)) none) none)) none) none)) none)) none)) none)) none)
theorem C16(d:Nat)(s0):evC (So L) (d+1) Z Y 40 [pS s0] [] s=LV L s0 (λi j l m n o p q r8 r b c e f g h a=>some (.tup [(gU i j l m n o p q r8 r b c e f g),pI h],a,s)):=by refine(evE (fn:=ak1) (by kernel_rfl)).trans ?_;generalize evC (So L) d=Q;unfold LV;exact(p6 (by kernel_rfl) ((Ba3 L Q Y s (E6 0 (E5 (So L) Q Y (cd [1,1] B54) (F7 (So L) ak1))) L s0 (s0.length:Int) 0).trans (by kernel_rfl)))
noncomputable def TK(L:Nat):Cfg:=B6 L [42] (A3 []) [(22,Ps),(50,Am0),(51,QD)] (A3 [(9,[2]),(8,[1,1]),(7,[1,1,28]),(6,[1,1]),(5,[1,1]),(4,[1,1,15]),(3,[1,1]),(2,[2]),(1,[1,5]),(0,[1])]) [22,50,51] (A3 []) (some [2]) [] [] []
noncomputable def Ri{R:Type}(L:Nat)(l t:By)(u:Int)(m:By)(n o p q u8 r e f g b:Int)(a:By)(v:By->(List Blk)->Option R):Option R:=cond (not (E7 l)) (cond (J6 l.length 1) (vl (l++[58]) λw=>cond (J6 w.length a.length) (v (w++a) [(bU l t u m n o p q u8 r e f g b a)]) none) none) (cond (J6 l.length 3) (vl (l++[58,47,47]) λc=>cond (not (t==[])) (cond (J6 t.length 1) (vl (t++[64]) λh=>cond (J6 c.length h.length) (cond (A2 m.length) (cond (ltN n 4294967296) (cond (ok8 o p q u8 r e f g) (vl (T5 (mkH u m n (n8 o p q u8 r e f g))) λj=>cond (J6 (b8 (c++h)) j.length) (cond (b !=((-1):Int)) (cond (Er b) (cond (J6 1 (b8 (R1 b))) (vl (([58]:List UInt8)++(R1 b)) λz=>cond (J6 (b8 ((c++h)++j)) z.length) (vl (((c++h)++j)++z) λA=>cond (J6 A.length a.length) (v (A++a) [(bU l t u m n o p q u8 r e f g b a)]) none) none) none) none) (cond (J6 (b8 ((c++h)++j)) a.length) (vl (((c++h)++j)++a) λx=>v x [(bU l t u m n o p q u8 r e f g b a)]) none)) none) none) none) none) none) none) (cond (A2 m.length) (cond (ltN n 4294967296) (cond (ok8 o p q u8 r e f g) (vl (T5 (mkH u m n (n8 o p q u8 r e f g))) λd=>cond (J6 c.length d.length) (cond (b !=((-1):Int)) (cond (Er b) (cond (J6 1 (b8 (R1 b))) (vl (([58]:List UInt8)++(R1 b)) λi=>cond (J6 (b8 (c++d)) i.length) (cond (J6 (b8 ((c++d)++i)) a.length) (vl (((c++d)++i)++a) λy=>v y [(bU l t u m n o p q u8 r e f g b a)]) none) none) none) none) (cond (J6 (b8 (c++d)) a.length) (v ((c++d)++a) [(bU l t u m n o p q u8 r e f g b a)]) none)) none) none) none) none)) none)
theorem Cj9(d:Nat)(u0 u1 u2 u3 u4 u5 u6 u7 u8 u9 u10 u11 u12 u13 u14):evC (TK L) (d+1) Z Y 42 [(gU u0 u1 u2 u3 u4 u5 u6 u7 u8 u9 u10 u11 u12 u13 u14)] [] s=Ri L u0 u1 u2 u3 u4 u5 u6 u7 u8 u9 u10 u11 u12 u13 u14 (λb a=>some (pS b,a,s)):=by refine(evE (fn:=Tryz.f42) (by kernel_rfl)).trans ?_;generalize evC (TK L) d=Q;unfold Ri;kernel_rfl
noncomputable def Ze(L:Nat):Cfg:=B6 L [16] (A3 []) [(42,Bf0),(40,B42)] (A3 [(2,[2]),(1,[1,1,0]),(0,[1])]) [42] (A3 []) (some [2]) [] [] []
noncomputable def EM{R:Type}(L:Nat)(h i:By)(q:Int)(j:By)(l m n o u8 p b c d e:Int)(f:By)(r:Bool->(List Blk)->Option R):Option R:=cond (smU h i j f) (cond (ltN l 4294967296) (cond (ok8 m n o u8 p b c d) (cond (Er e) (vl (Cn (mkU h i q j l (n8 m n o u8 p b c d) e f)) λg=>cond (A2 g.length) (vl (C0 g) λa=>cond ((uE a)==0) (r ((h==(uS a))&&((i==(uU a))&&((q==(uK a))&&((j==(uN a))&&((l==(uV a))&&((m==(uA a 0))&&((n==(uA a 1))&&((o==(uA a 2))&&((u8==(uA a 3))&&((p==(uA a 4))&&((b==(uA a 5))&&((c==(uA a 6))&&((d==(uA a 7))&&((e==(uP a))&&((f==(uR a))&&true))))))))))))))) [(bU h i q j l m n o u8 p b c d e f),(bQ a)]) (r false [(bU h i q j l m n o u8 p b c d e f),(bQ a)])) none) none) none) none) none
theorem Ba8(d:Nat)(u0 u1 u2 u3 u4 u5 u6 u7 u8 u9 u10 u11 u12 u13 u14):evC (Ze L) (d+1) Z Y 16 [(gU u0 u1 u2 u3 u4 u5 u6 u7 u8 u9 u10 u11 u12 u13 u14)] [] s=EM L u0 u1 u2 u3 u4 u5 u6 u7 u8 u9 u10 u11 u12 u13 u14 (λb a=>some (pB b,a,s)):=by refine(evE (fn:=Tryz.f16) (by kernel_rfl)).trans ?_;generalize evC (Ze L) d=Q;unfold EM;kernel_rfl
end
section
variable {Z R : Type} (L : Nat) (Q : G0) (Y : Yh Z) (s : Z) (k : Out -> St Z -> Option R)
noncomputable def Zc(L:Nat):Cfg:=B6 L [76] (A3 []) [] (A3 [(1,[2]),(0,[0])]) [] (A3 []) (some [2]) [] [] []
noncomputable def WF{R:Type}(L:Nat)(a:Int)(b:Bool->Option R):Option R:=b (ltI (8:Int) a)
theorem A91(d:Nat)(a:Int):evC (Zc L) (d+1) Z Y 76 [.s (.int .i64 a)] [] s=WF L a (λb=>some (.s (.bool b),[],s)):=by refine(evE (fn:=Tryz.f76) (by kernel_rfl)).trans ?_;generalize evC (Zc L) d=Q;unfold WF;kernel_rfl
noncomputable abbrev Uk:Code:=C8 ah5
noncomputable def Bt(L:Nat):Cfg:=B6 L [101] (A3 []) [] (A3 [(5,[2]),(2,[2]),(4,[2]),(3,[10]),(1,[0,2]),(0,[0])]) [] (A3 [(0,[])]) (some [2]) [] [] []
noncomputable def Ks{R:Type}(a:Int)(d:Bool)(b:Unit->Option R)(c:Bool->Option R):Option R:=cond d (b ()) (cond (ltI (57343:Int) a) (cond (not (ltI (1114111:Int) a)) (b ()) (c (not (ltI (1114111:Int) a)))) (c false))
abbrev DA(b:Code):Prop:=∀(k:Out->St Z->Option R) (c:Int) (a:Bool),A9 (Bt L) Q Y b ⟨gp [(0,.s (.int .i32 c)),(2,.s (.bool a))] 13,[],s⟩ k=Ks c a (λ_=>k .ret ⟨gp [(2,.s (.bool true))] 14,[],s⟩) (λd=>k .normal ⟨gp [(10,.s (.bool d))] 6,[],s⟩)
theorem WW:DA (R:=R) L Q Y s (cd [1,0,0,1] Uk):=by intro k b a;unfold Ks;kernel_rfl
noncomputable def KL{R:Type}(L:Nat)(b:Int)(a:Bool->Option R):Option R:=cond (not (ltI b (0:Int))) (Ks b (ltI b (55296:Int)) (λ_=>a true) (λc=>a false)) (Ks b false (λ_=>a true) (λd=>a false))
theorem Bz9(b:Code)(a:DA (R:=PV × List Blk × Z) L Q Y s b)(c:Int):A9 (Bt L) Q Y (cd [] (G3 [1,0,0,1] b Uk)) ⟨[.s (.int .i32 c)]++tps 16,[],s⟩ (F7 (Bt L) ah5)=KL L c (λc=>some (.s (.bool c),[],s)):=by unfold KL;exact let d:=(E6 0 (E5 (Bt L) Q Y (cd [1,1] Uk) (F7 (Bt L) ah5)));(p6 (by kernel_rfl) (A0 ((a d c (ltI c (55296:Int))).trans (by kernel_rfl)) ((a d c false).trans (by kernel_rfl))))
theorem B00(d:Nat)(a:Int):evC (Bt L) (d+1) Z Y 101 [.s (.int .i32 a)] [] s=KL L a (λa=>some (.s (.bool a),[],s)):=
 (evE (fn:=ah5) (by kernel_rfl)).trans (p6 (by kernel_rfl) (Bz9 L (evC (Bt L) d) Y s (cd [1,0,0,1] Uk) (WW L (evC (Bt L) d) Y s) a))
noncomputable abbrev Ai:Code:=C8 ai7
noncomputable def L2(L:Nat):Cfg:=B6 L [75] (A3 [(38,[4,170]),(29,[0,3,2,0,0,4,0,0]),(25,[0,3,2,0,0,4,0]),(12,[0,3,2,0,0,2]),(5,[0,3,2,0,0])]) [(73,Ue),(101,GG)] (A3 [(35,[4]),(42,[4]),(41,[4]),(40,[5,169,5]),(39,[5,0,168]),(38,[175,0,0]),(37,[175]),(44,[4]),(33,[4]),(22,[4]),(21,[8,0,3,94]),(20,[8,0,3]),(26,[0,6,0,0,4,0]),(32,[4]),(30,[0,6,0,0,4,0,0]),(31,[0,6,0,0,4,0,0,139]),(29,[0,6,0,0,4,0,0,126]),(28,[0,6,0,0,4,0,0]),(27,[0,6,0,0,4,0,123]),(25,[0,6,0,0,4,0,108]),(24,[0,6,0,0,4,0]),(23,[0,6,0,0,4]),(19,[4]),(18,[0,6,0,0,88]),(17,[0,6,0,0,0]),(16,[0,6,0,0,0]),(15,[4]),(13,[0,6,0,0,2]),(14,[0,6,0,0,2,51]),(12,[0,6,0,0,2,38]),(11,[0,6,0,0,2]),(10,[0,6,0,0]),(9,[4]),(8,[0,6,0,0,1,31]),(7,[0,6,0,0,1]),(6,[0,6,0,0,23]),(5,[0,6,0,0,16]),(4,[0,6,0,0]),(3,[0,6,0,0]),(2,[0,6,0]),(1,[0,6]),(43,[0,0,181]),(36,[0,0,169]),(34,[0,0,158]),(0,[0,0])]) [73,101] (A3 [(0,[4]),(9,[]),(10,[175]),(5,[]),(6,[0,6,0,0,4,0]),(7,[8,0]),(8,[0,6,0,0,4,0,0]),(1,[]),(2,[0,6,0,0]),(3,[8,0]),(4,[0,6,0,0,2])]) (some [4]) [] [] []
noncomputable def Dl{R:Type}(L n:Nat)(self:Nat->Option R)(a:Nat)(c:Int->Nat->Option R)(d:Nat->Option R):Option R:=cond (decide (a<3)) (vl ((x4 ⟨w6 (([47,63,35]:List UInt8))⟩ a)).1 λb=>cond (b==(65533:Int)) (c (↑a:Int) (a+((x4 ⟨w6 (([47,63,35]:List UInt8))⟩ a)).2)) (self (a+((x4 ⟨w6 (([47,63,35]:List UInt8))⟩ a)).2))) (d a)
noncomputable def Z3{R:Type}(L n:Nat)(a:Nat)(b:Int->Nat->Option R)(c:Nat->Option R):Option R:=Cd7 (α:=Nat->Option R) (λ_=>none) (λn self a=>Dl L n self a b c) n a
theorem Ek{R:Type}(L n:Nat)(a:Nat)(b:Int->Nat->Option R)(c:Nat->Option R):Z3 L (n+1) a b c=Dl L n (λa=>Z3 L n a b c) a b c:=rfl
theorem WC(n:Nat)(a:Nat):D0 1 ((L2 L).keep 38) (bd (L2 L) Q Y (cd [1,0,1,1,1,0,0,1,0,0] Ai)) n ⟨gp [(175,.it 0)] 11,[.iter (([47,63,35]:List UInt8)) a],s⟩ k =
 Z3 L n a (λn0 c=>k .ret ⟨gp [(4,.s (.int .i64 n0))] 182,[.iter (([47,63,35]:List UInt8)) c],s⟩) (λa=>k (.exit 9) ⟨gp [] 187,[.iter (([47,63,35]:List UInt8)) a],s⟩):=by
 induction n generalizing a with
 | zero=>rfl
 | succ n b=>rw[Ek];unfold Dl;exact(p6 (by kernel_rfl) (A0 (A4 λd=>(A0 rfl (b (a+((x4 ⟨w6 (([47,63,35]:List UInt8))⟩ a)).2)))) rfl))
noncomputable def Tq{R:Type}(L n:Nat)(self:By->Int->Int->Int->Option R)(b:By)(a f c:Int)(g:Int->Int->Option R):Option R:=cond (ltI c (↑(b8 b):Int)) (cond (inR (A1 (f-c)) 3) (vl (bAt (([47,63,35]:List UInt8)) (A1 (f-c))) λd=>cond (inR (A1 (a-c)) (b8 b)) (vl (bAt b (A1 (a-c))) λe=>cond (d !=e) (none) (self b a f (A1 (c+(1:Int))))) (none)) (none)) (g a f)
noncomputable def Ko{R:Type}(L n:Nat)(b:By)(a c d:Int)(e:Int->Int->Option R):Option R:=Cd7 (α:=By->Int->Int->Int->Option R) (λ_ _ _ _=>none) (λn self b a c d=>Tq L n self b a c d e) n b a c d
theorem Ai1{R:Type}(L n:Nat)(b:By)(a c d:Int)(e:Int->Int->Option R):Ko L (n+1) b a c d e=Tq L n (λb a c d=>Ko L n b a c d e) b a c d e:=rfl
theorem Xb(n:Nat)(b:By)(a d e:Int):D0 0 ((L2 L).keep 12) (bd (L2 L) Q Y (cd [1,0,1,1,1,1,1,1,0,1,1,1,1,0,0,0,1,0,0,1,0,1,0,0] Ai)) n ⟨gp [(0,.s (.str (([47,63,35]:List UInt8)))),(6,.s (.str b)),(0,.s (.int .i64 a)),(0,.s (.int .i64 d)),(2,.s (.int .i64 e))] 174,[],s⟩ k =
 Ko L n b a d e (λc h=>k (.exit 3) ⟨gp [(8,.s (.int .i64 c)),(0,.s (.int .i64 h))] 177,[],s⟩):=by
 induction n generalizing b a d e with
 | zero=>rfl
 | succ n i=>rw[Ai1];unfold Tq;exact(p6 (by kernel_rfl) (A0 (A0 (A4 λf=>(A0 (A4 λg=>(A0 rfl (i b a d (A1 (e+(1:Int)))))) rfl)) rfl) rfl))
noncomputable def Ml{R:Type}(L n:Nat)(self:By->Int->Option R)(b:By)(a:Int)(m:Int->Option R)(o:Unit->Option R):Option R:=cond (ltI a (3:Int)) (cond (inR a 3) (vl (bAt (([47,63,35]:List UInt8)) a) λj=>cond (inR a (b8 b)) (cond (j !=(bAt b a)) (vl (A1 (a+(1:Int))) λe=>cond (I7 e (3:Int) 3) (vl (cut (([47,63,35]:List UInt8)) e (3:Int)) λg=>cond (inR a (b8 b)) (cond (A2 (b8 g)) (cond (inR (bAt b a) 256) (vl (j8 g (u8n (bAt b a))) λf=>cond (ltI f (0:Int)) (m (-1)) (vl (A1 (f+(1:Int))) λl=>Ko L L b a (A1 (a+l)) 1 (λc h=>m (A1 (h-c))))) (none)) (none)) (none)) (none)) (Ko L L b a a 1 (λd i=>m (A1 (i-d))))) (none)) (none)) (o ())
noncomputable def Gd{R:Type}(L n:Nat)(b:By)(a:Int)(c:Int->Option R)(d:Unit->Option R):Option R:=Cd7 (α:=By->Int->Option R) (λ_ _=>none) (λn self b a=>Ml L n self b a c d) n b a
theorem CW{R:Type}(L n:Nat)(b:By)(a:Int)(c:Int->Option R)(d:Unit->Option R):Gd L (n+1) b a c d=Ml L n (λb a=>Gd L n b a c d) b a c d:=rfl
theorem WD(n:Nat)(b:By)(a:Int):D0 0 ((L2 L).keep 5) (bd (L2 L) Q Y (cd [1,0,1,1,1,1,1,1,0,1,1,1,1,0,0,0] Ai)) n ⟨gp [(0,.s (.str (([47,63,35]:List UInt8)))),(6,.s (.str b)),(0,.s (.int .i64 a)),(0,.s (.int .i64 a))] 177,[],s⟩ k =
 Gd L n b a (λn0=>k .ret ⟨gp [(4,.s (.int .i64 n0))] 182,[],s⟩) (λ_=>k (.exit 1) ⟨gp [] 187,[],s⟩):=by
 induction n generalizing b a with
 | zero=>rfl
 | succ n i=>rw[CW];unfold Ml;exact let d:=(E6 3 (E5 (L2 L) Q Y (cd [1,0,1,1,1,1,1,1,0,1,1,1,1,0,0,0,1,0,0,1,1] Ai) (E6 2 (lpK 0 ((L2 L).keep 5) (bd (L2 L) Q Y (cd [1,0,1,1,1,1,1,1,0,1,1,1,1,0,0,0] Ai)) n k))));(p6 (by kernel_rfl) (A0 (A0 (A4 λe=>(A0 (A0 (A4 λf=>(A0 (A4 λh=>(A0 (A0 (A0 (A4 λg=>(A0 rfl (A4 λc=>((Xb L Q Y s d L b a (A1 (a+c)) 1).trans (by kernel_rfl))))) rfl) rfl) rfl)) rfl)) ((Xb L Q Y s d L b a a 1).trans (by kernel_rfl))) rfl)) rfl) rfl))
noncomputable def Kn{R:Type}(L:Nat)(b:Int)(l:Bool)(d:Int->Option R)(j:Int->Nat->Option R):Option R:=cond l (cond (inR (wu8 b) 256) (vl (j8 (([47,63,35]:List UInt8)) (u8n (wu8 b))) λg=>d g) (none)) (cond (b==(65533:Int)) (Z3 L L 0 (λi e=>j i e) (λf=>j (-1) f)) (cond (not (KM b)) (d (-1)) (vl (ab5 b).data.toList λc=>vl (A1 ((↑(b8 c):Int)-(1:Int))) λh=>Gd L L c h (λa=>d a) (λ_=>d (-1)))))
abbrev CV(b:Code):Prop:=∀(k:Out->St Z->Option R) (c:Int) (a:Bool),A9 (L2 L) Q Y b ⟨gp [(0,.s (.str (([47,63,35]:List UInt8)))),(0,.s (.int .i32 c)),(158,.s (.bool a))] 26,[],s⟩ k=Kn L c a (λn0=>k .ret ⟨gp [(4,.s (.int .i64 n0))] 182,[],s⟩) (λn0 d=>k .ret ⟨gp [(4,.s (.int .i64 n0))] 182,[.iter (([47,63,35]:List UInt8)) d],s⟩)
theorem WB:CV (R:=R) L Q Y s (cd [1,0,1] Ai):=by intro k e d;unfold Kn;exact(p6 (by kernel_rfl) (A0 (A0 (A4 λc=>rfl) rfl) (A0 ((WC L Q Y s (E6 9 (E5 (L2 L) Q Y (cd [1,0,1,1,1,0,1] Ai) k)) L 0).trans (by kernel_rfl)) (A0 rfl (A4 λb=>(A4 λa=>((WD L Q Y s (E6 1 (E5 (L2 L) Q Y (cd [1,0,1,1,1,1,1,1,0,1,1,1,1,1] Ai) k)) L b a).trans (by kernel_rfl))))))))
noncomputable def KD{R:Type}(L:Nat)(r:Int)(g:Int->Option R)(h:Int->Nat->Option R):Option R:=cond (not (ltI r (0:Int))) (Kn L r (ltI r (128:Int)) (λc=>g c) (λd a=>h d a)) (Kn L r false (λe=>g e) (λf b=>h f b))
theorem Bx5(b:Code)(a:CV (R:=PV × List Blk × Z) L Q Y s b)(r:Int):A9 (L2 L) Q Y (cd [] (G3 [1,0,1] b Ai)) ⟨[.s (.str (([47,63,35]:List UInt8))),.s (.int .i32 r)]++tps 185,[],s⟩ (F7 (L2 L) ai7)=KD L r (λc=>some (.s (.int .i64 c),[],s)) (λc e=>some (.s (.int .i64 c),[.iter (([47,63,35]:List UInt8)) e],s)):=by unfold KD;exact let d:=(E6 0 (F7 (L2 L) ai7));(p6 (by kernel_rfl) (A0 ((a d r (ltI r (128:Int))).trans (by kernel_rfl)) ((a d r false).trans (by kernel_rfl))))
theorem Bx6(d:Nat)(r:Int):evC (L2 L) (d+1) Z Y 75 [.s (.str (([47,63,35]:List UInt8))),.s (.int .i32 r)] [] s=KD L r (λa=>some (.s (.int .i64 a),[],s)) (λa b=>some (.s (.int .i64 a),[.iter (([47,63,35]:List UInt8)) b],s)):=
 (evE (fn:=ai7) (by kernel_rfl)).trans (p6 (by kernel_rfl) (Bx5 L (evC (L2 L) d) Y s (cd [1,0,1] Ai) (WB L (evC (L2 L) d) Y s) r))
noncomputable abbrev YB:Code:=C8 ai5
noncomputable def Gj(L:Nat):Cfg:=B6 L [58] (A3 [(18,[1,2,40]),(12,[0,3,1,1])]) [(75,GA),(76,Yj),(77,Ns)] (A3 [(22,[4]),(21,[4]),(20,[1,7,35,7]),(19,[1,7,0,34]),(18,[1,43,0,0]),(17,[1,43]),(16,[4]),(13,[0,5,1]),(15,[4]),(14,[0,5,1,33]),(12,[0,5,1,27]),(11,[0,5,1]),(10,[0,0,4,25]),(9,[0,0,4,0]),(8,[0,0,24]),(7,[4]),(6,[0,4]),(5,[0,4,14]),(4,[0,4]),(3,[0,0,13]),(2,[4]),(1,[0,0,10]),(0,[0,0])]) [75,76] (A3 [(2,[]),(3,[1,43]),(0,[]),(1,[0,5,1])]) (some [4]) [] [] []
noncomputable def Y0{R:Type}(L n:Nat)(self:By->Nat->Option R)(b:By)(a:Nat)(d:Int->(List Blk)->Option R)(e:By->Nat->Option R):Option R:=cond (decide (a<(b8 b))) (vl ((x4 ⟨w6 b⟩ a)).1 λc=>cond (Zz (([47,63,35]:List UInt8))) (cond (ltN c 1114112) (cond (not (ltI (irn c) (0:Int))) (d (↑a:Int) [(Blk.iter b (a+((x4 ⟨w6 b⟩ a)).2))]) (self b (a+((x4 ⟨w6 b⟩ a)).2))) (none)) (none)) (e b a)
noncomputable def Km{R:Type}(L n:Nat)(b:By)(a:Nat)(c:Int->(List Blk)->Option R)(d:By->Nat->Option R):Option R:=Cd7 (α:=By->Nat->Option R) (λ_ _=>none) (λn self b a=>Y0 L n self b a c d) n b a
theorem Bk{R:Type}(L n:Nat)(b:By)(a:Nat)(c:Int->(List Blk)->Option R)(d:By->Nat->Option R):Km L (n+1) b a c d=Y0 L n (λb a=>Km L n b a c d) b a c d:=rfl
theorem WA(n:Nat)(b:By)(a:Nat):D0 1 ((Gj L).keep 18) (bd (Gj L) Q Y (cd [1,1,1,1,0,1,0,0] YB)) n ⟨gp [(1,.s (.str (([47,63,35]:List UInt8)))),(43,.it 0)] 9,[.iter b a],s⟩ k =
 Km L n b a (λn0 c=>k .ret ⟨gp [(4,.s (.int .i64 n0))] 50,c,s⟩) (λb a=>k (.exit 2) ⟨gp [] 55,[.iter b a],s⟩):=by
 induction n generalizing b a with
 | zero=>rfl
 | succ n d=>rw[Bk];unfold Y0;exact(p6 (by kernel_rfl) (A0 (A4 λe=>(A0 (A0 (A0 rfl (d b (a+((x4 ⟨w6 b⟩ a)).2))) rfl) rfl)) rfl))
noncomputable def VZ{R:Type}(L:Nat)(t:By)(e:Int->(List Blk)->Option R):Option R:=cond (ltI (8:Int) (↑(b8 t):Int)) (none) (Km L L t 0 (λc a=>e c a) (λd b=>e (-1) [(Blk.iter d b)]))
theorem Bx3(d:Nat)(t:By):evC (Gj L) (d+1) Z Y 58 [.s (.str t),.s (.str (([47,63,35]:List UInt8)))] [] s=VZ L t (λb a=>some (.s (.int .i64 b),a,s)):=by refine(evE (fn:=ai5) (by kernel_rfl)).trans ?_;generalize evC (Gj L) d=Q;unfold VZ;exact(p6 (by kernel_rfl) (A0 rfl ((WA L Q Y s (E6 2 (E5 (Gj L) Q Y (cd [1,1,1,1,1] YB) (F7 (Gj L) ai5))) L t 0).trans (by kernel_rfl))))
end
end
section
open Go
theorem Jt{c:UInt8}{s:By}(h:c∉s):w9 s [c]=(s,[],false):=by unfold w9;rw[Sr h,if_neg (by decide)]
theorem T4{c:UInt8}{p r:By}(h:c∉p):w9 (p++c::r) [c]=(p,r,true):=by unfold w9;rw[Zy h,P9,j9,ac0,j7];rw[show p++c::r=(p++[c])++r by simp,ai0 (by simp)]
def Bi:Int->By->Option Int
 | n,[]=>some n
 | n,b::r=>if 48<=b.toNat/\b.toNat<=57 then Bi (min (10*max n 0+((b.toNat-48:Nat):Int)) 65536) r else none
theorem DV:∀(s:By) (n:Int),Gx n s=(Bi n s).bind λm=>if m<65536 then some m else none
 | [],n=>rfl
 | b::r,n=>by
  rw[Gx,Bi];split
  ·exact DV r _
  ·rfl
theorem NW:∀(a b:By) (n:Int),Bi n (a++b)=(Bi n a).bind λm=>Bi m b
 | [],b,n=>rfl
 | x::a,b,n=>by
  rw[ae1,Bi,Bi];split
  ·exact NW a b _
  ·rfl
theorem Br3:∀u:Nat,Bi (-1) (ad8 u)=some (min (u:Int) 65536):=by
 intro u
 induction u using ai1 with
 | _ u a=>
  by_cases h:u<10
  ·rw[Lib.decDigits_one h];have:(y5 (48+u)).toNat=48+u:=by simp;omega
   rw[Bi,this,P9,Bi]
   congr 1
   omega
  ·rw[V6 u h,NW,a (u / 10) (by omega)];have:(y5 (48+u % 10)).toNat=48+u % 10:=by simp;omega
   show Bi _ _=_;rw[Bi,this,P9,Bi]
   congr 1
   omega
theorem Cb4(p:Int)(a:0<=p)(b:p<=65535):Gx (-1) (R1 p)=some p:=by
 obtain⟨u,rfl⟩:=y9 a;unfold R1;rw[F5,j9,DV,Br3];show(if _ then _ else _)=_;rw[P9]
 congr 1
 omega
theorem IW:∀(s:By) (n p:Int),-1<=n->Gx n s=some p->-1<=p/\p<65536
 | [],n,p,a,h=>by
  rw[Gx] at h;split at h
  ·rename_i c;obtain rfl:=j4 h;exact⟨a,c⟩
  ·cases h
 | b::r,n,p,a,h=>by
  rw[Gx] at h;split at h
  ·exact IW r _ p (by omega) h
  ·cases h
theorem ZN{n:Nat}(h:n<16):K6 (Nh n)=true:=by
 rw[Bg];unfold Nh;split
 ·have:(y5 (48+n)).toNat=48+n:=by simp;omega
  omega
 ·have:(y5 (87+n)).toNat=87+n:=by simp;omega
  omega
theorem B88:∀x:Nat,∀b∈U7 x,K6 b=true:=by
 intro x
 induction x using ai1 with
 | _ x c=>
  intro b a;by_cases h:x<16
  ·rw[Bw h] at a;simp only[ab2] at a;subst a;exact ZN h
  ·rw[Bd h] at a;rcases x6.1 a with a|a
   ·exact c _ (by omega) b a
   ·simp only[ab2] at a;subst a;exact ZN (by omega)
theorem On{l:List Nat}{b:UInt8}(h:b∈N8 l):b=58\/K6 b=true:=by
 rcases Vv _ h with h|⟨x,c,a⟩
 ·exact .inl h
 ·obtain⟨n,_,rfl⟩:=List.mem_map.1 c;exact .inr (B88 n b a)
theorem Ck5{a:List Nat}{b:UInt8}(h:b∈Co a):b=58\/K6 b=true:=by
 unfold Co at h;split at h
 ·exact On h
 ·simp only[x6,p9] at h;rcases h with h|h|h|h
  ·exact On h
  ·exact .inl h
  ·exact .inl h
  ·exact On h
theorem Av7{b:UInt8}(h:48<=b.toNat/\b.toNat<=57):K6 b=true:=(Bg b).2 (.inr (.inl h))
theorem NB{h:B2}(ok:Cp h)(a:L7 h=true):(∃m,T5 h=91::(m++[93])/\∀b∈m,b=58\/K6 b=true)\/(T5 h≠[]/\∀b∈T5 h,b=46\/K6 b=true):=by
 obtain⟨i,k,v4,v6⟩:=h;unfold T5;rw[if_pos a];unfold L7 at a;simp only at a ⊢;by_cases d:i=1
 ·subst d;simp only[if_true,s7,beq_iff_eq] at a ⊢;have:=Ht.1 a.1.1;exact .inr ⟨this.ne,this.byt⟩
 rw[if_neg d] at a ⊢;by_cases f:i=2
 ·subst f;simp only[if_true] at a ⊢;refine .inr ⟨λe=>?_,λb c=>?_⟩
  ·have g:=Ab4 v4 ok.v4;rw[e] at g;have j:(B9 []).1.kind=2:=by rw[g]
   exact absurd j (by decide)
  ·rcases Ak1 c with h|h
   ·exact .inl h
   ·exact .inr (Av7 h)
 rw[if_neg f] at a ⊢;exact .inl ⟨_,rfl,λb c=>Ck5 c⟩
theorem Bo0{h:B2}(ok:Cp h)(i:L7 h=true){b:UInt8}(a:b∈T5 h):ctl b=false/\L4 b=false/\b≠64:=by
 have q:∀b:UInt8,(b=46\/b=58\/b=91\/b=93\/K6 b=true)->ctl b=false/\L4 b=false/\b≠64:=by
  intro b h;rcases h with rfl|rfl|rfl|rfl|h
  ·decide
  ·decide
  ·decide
  ·decide
  ·rw[Bg] at h;rcases h with h|h|rfl|rfl
   ·refine⟨?_,?_,λe=>?_⟩
    ·rw[aa4,ne_eq,Un];omega
    ·have d:b≠47:=λe=>by rw[e] at h;simp at h
     have f:b≠63:=λe=>by rw[e] at h;simp at h
     have g:b≠35:=λe=>by rw[e] at h;simp at h
     simp[L4,d,f,g]
    ·rw[e] at h;simp at h
   ·refine⟨?_,?_,λe=>?_⟩
    ·rw[aa4,ne_eq,Un];omega
    ·have d:b≠47:=λe=>by rw[e] at h;simp at h
     have f:b≠63:=λe=>by rw[e] at h;simp at h
     have g:b≠35:=λe=>by rw[e] at h;simp at h
     simp[L4,d,f,g]
    ·rw[e] at h;simp at h
   ·decide
   ·decide
 apply q;rcases NB ok i with⟨m,e,c⟩|⟨_,c⟩
 ·rw[e] at a;simp only[p9,x6,ae4,or_false] at a;rcases a with h|h|h
  ·simp[h]
  ·rcases c b h with h|h<;>simp[h]
  ·simp[h]
 ·rcases c b a with h|h<;>simp[h]
def Kc(s:By):Prop:=∀b∈s,ctl b=false
def Dj8(s:By):Prop:=∀b∈s,L4 b=false
structure CU (u:S9):Prop where
 ns:E7 u.sch=false->S6 u.sch=true/\B3 u.sch=u.sch/\u.user=[]/\u.host=K8/\u.port=-1/\Kc u.rest
 sp:E7 u.sch=true->Kc u.user/\Dj8 u.user/\Cp u.host/\L7 u.host=true/\(u.port=-1\/(0<=u.port/\u.port<=65535/\u.port≠L3 u.sch))/\(∃r,u.rest=47::r)/\Kc u.rest
theorem Kx{s:By}:s.any ctl=false↔Kc s:=by unfold Kc;rw[List.any_eq_false];exact⟨λh b a=>by simpa using h b a,λh b a=>by simp[h b a]⟩
theorem Oj{e user c a:By}(h:(M7 e user c a).2=0):∃f b,(M7 e user c a).1=⟨e,user,f,b,c⟩/\Cp f/\L7 f=true/\(b=-1\/(0<=b/\b<=65535/\b≠L3 e)):=by
 unfold M7 at h ⊢;cases i:Ee a with
 | none=>rw[i] at h;simp at h
 | some q=>
  obtain⟨name,tail⟩:=q;rw[i] at h;simp only at h ⊢;by_cases g:tail≠[]/\tail.head?≠some 58
  ·rw[if_pos g] at h;simp at h
  ·rw[if_neg g] at h ⊢;by_cases d:(B9 name).2≠0
   ·rw[if_pos d] at h;exact absurd h d
   ·rw[if_neg d] at h ⊢;cases j:Gx (-1) (tail.drop 1) with
    | none=>rw[j] at h;simp at h
    | some p=>
     have o:=IW _ _ _ (by omega) j;obtain⟨m,n⟩:=Bs2 name;refine⟨_,_,rfl,m,n (by simpa using d),?_⟩;split
     ·exact .inl rfl
     ·rename_i l;by_cases k:p=-1
      ·exact .inl k
      ·exact .inr ⟨by omega,by omega,l⟩
theorem Ll{c user b a:By}(h:(M7 c user b a).2≠0):(M7 c user b a).1=Z5:=by
 unfold M7 at h ⊢;split
 ·rfl
 ·rename_i name tail f;rw[f] at h;simp only at h ⊢;split
  ·rfl
  ·rename_i d;rw[if_neg d] at h;split
   ·rfl
   ·rename_i e;rw[if_neg e] at h;split
    ·rfl
    ·rename_i p g;rw[g] at h;exact absurd rfl h
theorem Aw4(s:By):B3 (B3 s)=B3 s:=by
 unfold B3;rw[aj6];apply List.map_congr_left;intro b _;show W5 (W5 b)=W5 b;rcases J8 b with⟨_,e⟩|⟨_,e⟩|⟨c,d,e⟩
 ·rw[e,e]
 ·rw[e,e]
 ·rcases J8 (W5 b) with⟨_,a⟩|⟨_,a⟩|⟨f,g,_⟩
  ·exact a
  ·exact a
  ·omega
theorem Aw1(b:UInt8):P6 (W5 b)=P6 b:=by
 rw[s9,U2,U2];rcases J8 b with⟨_,e⟩|⟨_,e⟩|⟨a,c,e⟩
 ·rw[e]
 ·rw[e]
 ·omega
theorem UF{b c:UInt8}(f:c.toNat<65):W5 b=c↔b=c:=by
 rcases J8 b with⟨_,e⟩|⟨_,e⟩|⟨a,d,e⟩
 ·rw[e]
 ·rw[e]
 ·constructor
  ·intro h;rw[h] at e;omega
  ·intro h;subst h;omega
theorem Ah2(b:UInt8):K7 (W5 b)=K7 b:=by
 rw[s9,Ej,Ej,UF (by decide),UF (by decide),UF (by decide)];rcases J8 b with⟨_,e⟩|⟨_,e⟩|⟨a,c,e⟩
 ·rw[e]
 ·rw[e]
 ·constructor
  ·rintro(h|h|h|h)<;>first|omega|exact .inr (.inr (.inr h))
  ·rintro(h|h|h|h)<;>first|omega|exact .inr (.inr (.inr h))
theorem Ah5(s:By):S6 (B3 s)=S6 s:=by
 cases s with
 | nil=>rfl
 | cons b r=>
  show(P6 (W5 b)&&(r.map W5).all K7)=(P6 b&&r.all K7)
  rw[Aw1,List.all_map]
  congr 1
  apply List.all_congr rfl;intro b;exact Ah2 b
theorem WE(r:By):∃t,R0 r=47::t:=by
 unfold R0;split
 ·rename_i h;cases r with
  | nil=>cases h
  | cons b t=>
   obtain rfl:=j4 h;exact⟨t,rfl⟩
 ·exact⟨r,rfl⟩
theorem Ai2{r:By}(h:Kc r):Kc (R0 r):=by
 unfold R0;split
 ·exact h
 ·intro b a;rcases p9.1 a with rfl|a
  ·decide
  ·exact h b a
theorem Bs9{j c a:By}(p:E7 j=true)(q:Kc a)(i:Dj8 a)(o:Kc c)(f:∃r,c=47::r)(h:(F9 j c a).2=0):CU (F9 j c a).1:=by
 unfold F9 at h ⊢;by_cases n:0<=K3 64 a
 ·rw[if_pos n] at h ⊢;obtain⟨t,g,e,k,l,m⟩:=Oj h;rw[e];exact⟨λh=>(by rw[p] at h;cases h),λ_=>⟨λb d=>q b (ac5 d),λb d=>i b (ac5 d),k,l,m,f,o⟩⟩
 ·rw[if_neg n] at h ⊢;obtain⟨t,g,e,k,l,m⟩:=Oj h;rw[e];exact⟨λh=>(by rw[p] at h;cases h),λ_=>⟨λb d=>(by cases d),λb d=>(by cases d),k,l,m,f,o⟩⟩
theorem Ab1{s:By}(h:(C0 s).2=0):CU (C0 s).1:=by
 unfold C0 at h ⊢;cases f:s.any ctl with
 | true=>rw[f] at h;simp at h
 | false=>
  rw[f] at h;have j:=Kx.1 f;simp only[k9,if_false] at h ⊢;rcases Q1 58 s with c|⟨p,r,rfl,c⟩
  ·rw[Jt c] at h;simp at h
  ·rw[T4 c] at h ⊢;have k:Kc p:=λb d=>j b (by simp[d])
   have g:Kc r:=λb d=>j b (by simp[d])
   cases a:S6 p with
   | false=>rw[a] at h;simp at h
   | true=>
    rw[a] at h;simp only[j2,aj3,k9,if_false] at h ⊢;cases e:E7 (B3 p) with
    | false=>
     simp only[p7,if_true];exact⟨λ_=>⟨by rw[Ah5];exact a,Aw4 p,rfl,rfl,rfl,g⟩,λh=>(by simp only at h;rw[e] at h;cases h)⟩
    | true=>
     rw[e] at h;simp only[j2,k9,if_false] at h ⊢;cases i:([47,47]:By).isPrefixOf r with
     | false=>rw[i] at h;simp at h
     | true=>
      rw[i] at h;simp only[j2,k9,if_false] at h ⊢;exact Bs9 e (λb d=>g b (x3 (ac5 d))) (A86 _) (Ai2 λb d=>g b (x3 (x3 d))) (WE _) h
theorem Az5{d b a:By}(h:(F9 d b a).2≠0):(F9 d b a).1=Z5:=by
 unfold F9 at h ⊢;split
 ·rename_i c;rw[if_pos c] at h;exact Ll h
 ·rename_i c;rw[if_neg c] at h;exact Ll h
theorem NZ{s:By}(h:(C0 s).2≠0):(C0 s).1=Z5:=by
 unfold C0 at h ⊢;split
 ·rfl
 ·rename_i b;rw[if_neg b] at h;split
  ·rfl
  ·rename_i c;rw[if_neg c] at h;split
   ·rename_i a;rw[if_pos a] at h;exact absurd rfl h
   ·rename_i a;rw[if_neg a] at h;split
    ·rfl
    ·rename_i d;rw[if_neg d] at h;exact Az5 h
theorem Ah4{s:By}(h:E7 s=true):S6 s=true/\B3 s=s/\(58:UInt8)∉s/\Kc s:=by
 rcases LS h with rfl|rfl|rfl|rfl
 ·exact⟨by decide,by decide,by decide,Kx.1 (by decide)⟩
 ·exact⟨by decide,by decide,by decide,Kx.1 (by decide)⟩
 ·exact⟨by decide,by decide,by decide,Kx.1 (by decide)⟩
 ·exact⟨by decide,by decide,by decide,Kx.1 (by decide)⟩
theorem JX{b:UInt8}(h:K7 b=true):b≠58/\ctl b=false:=by
 rw[Ej] at h;refine⟨λe=>?_,?_⟩
 ·subst e
  revert h
  decide
 ·rw[aa4,ne_eq,Un];rcases h with h|h|h|rfl|rfl|rfl
  ·omega
  ·omega
  ·omega
  ·decide
  ·decide
  ·decide
theorem Bx2{s:By}(h:S6 s=true):(58:UInt8)∉s/\Kc s/\s≠[]:=by
 cases s with
 | nil=>cases h
 | cons b r=>
  simp only[S6,s7,List.all_eq_true] at h;have c:K7 b=true:=by unfold K7;rw[h.1];rfl
  have q:∀x∈b::r,K7 x=true:=λx a=>by
   rcases p9.1 a with rfl|a
   ·exact c
   ·exact h.2 x a
  exact⟨λd=>(JX (q 58 d)).1 rfl,λx a=>(JX (q x a)).2,by simp⟩
theorem Ra{p user c:By}{h:B2}{a:Int}(ok:Cp h)(o:L7 h=true)(w:a=-1\/(0<=a/\a<=65535/\a≠L3 p)) :
  M7 p user c (T5 h++(if a=-1 then [] else 58::R1 a))=(⟨p,user,h,a,c⟩,0):=by
 have key:∀tail:By,(tail=[]\/tail.head? = some 58)->Ee (T5 h++tail)=some (T5 h,tail):=by
  intro tail i;unfold Ee;rcases NB ok o with⟨m,e,g⟩|⟨n,g⟩
  ·have k:(93:UInt8)∉91::m:=by
    intro d;rcases p9.1 d with d|d
    ·exact absurd d (by decide)
    ·rcases g 93 d with h|h
     ·exact absurd h (by decide)
     ·exact absurd h (by decide)
   have q:T5 h++tail=(91::m)++93::tail:=by rw[e];simp
   rw[if_pos (by rw[e];rfl),q,Vm tail k];simp only;have u:(91::m)++93::tail=T5 h++tail:=q.symm;have v:(91::m).length+1=(T5 h).length:=by rw[e];simp
   rw[u,v,ac0,af5]
  ·have f:(58:UInt8)∉T5 h:=by
    intro d;rcases g 58 d with h|h
    ·exact absurd h (by decide)
    ·exact absurd h (by decide)
   have l:(T5 h++tail).head?≠some 91:=by
    cases r:T5 h with
    | nil=>exact absurd r n
    | cons b t=>
     rw[r] at g;intro e;obtain rfl:=j4 e;rcases g 91 (by simp) with h|h
     ·exact absurd h (by decide)
     ·exact absurd h (by decide)
   rw[if_neg l];rcases i with rfl|i
   ·rw[ah9,NK f]
   ·cases tail with
    | nil=>cases i
    | cons b t=>
     obtain rfl:=j4 i;rw[Vm t f];simp only;rw[ac0,af5]
 unfold M7;by_cases j:a=-1
 ·subst j;rw[if_pos rfl,key [] (.inl rfl)];simp only;rw[if_neg (by simp),IC ok o];simp only[ne_eq,not_true_eq_false,if_false];have:Gx (-1) (List.drop 1 ([]:By))=some (-1):=by rfl
  rw[this];simp
 ·rw[if_neg j,key (58::R1 a) (.inr rfl)];obtain⟨x,y,z⟩:=w.resolve_left j;simp only;rw[if_neg (by simp),IC ok o];simp only[ne_eq,not_true_eq_false,if_false,ac7,ad3];rw[Cb4 a x y];simp only;rw[if_neg z]
theorem Av0{p:Int}(a:0<=p){b:UInt8}(h:b∈R1 p):48<=b.toNat/\b.toNat<=57:=by unfold R1 at h;rw[F5] at h;exact Zg _ b h
theorem C96{b:UInt8}(h:48<=b.toNat/\b.toNat<=57):ctl b=false/\L4 b=false/\b≠64:=by
 refine⟨?_,?_,λe=>?_⟩
 ·rw[aa4,ne_eq,Un];omega
 ·have a:b≠47:=λe=>by rw[e] at h;simp at h
  have c:b≠63:=λe=>by rw[e] at h;simp at h
  have d:b≠35:=λe=>by rw[e] at h;simp at h
  simp[L4,a,c,d]
 ·rw[e] at h;simp at h
theorem B89{h:B2}{a:Int}{g:By}(ok:Cp h)(f:L7 h=true)(e:a=-1\/(0<=a/\a<=65535/\a≠L3 g)){b:UInt8}(c:b∈T5 h++(if a=-1 then [] else 58::R1 a)):ctl b=false/\L4 b=false/\b≠64:=by
 rcases x6.1 c with c|c
 ·exact Bo0 ok f c
 ·by_cases d:a=-1
  ·rw[if_pos d] at c;cases c
  ·rw[if_neg d] at c;rcases p9.1 c with rfl|c
   ·decide
   ·exact C96 (Av0 (e.resolve_left d).1 c)
theorem B17{u:S9}(h:CU u):C0 (Cn u)=(u,0):=by
 obtain⟨e,user,d,a,n⟩:=u;obtain⟨j,l⟩:=h;simp only at j l;unfold Cn;simp only;cases k:E7 e with
 | false=>
  obtain⟨o,p,rfl,rfl,rfl,F⟩:=j k;obtain⟨w,x,D⟩:=Bx2 o;have z:(e++58::n).any ctl=false:=Kx.2 λb c=>by
   simp only[x6,p9] at c;rcases c with c|rfl|c
   ·exact x b c
   ·decide
   ·exact F b c
  simp only[k9,if_false];unfold C0;rw[z,T4 w];simp only[k9,if_false];rw[o,p,k];simp
 | true=>
  obtain⟨o,p,q,t,v,⟨r,rfl⟩,G⟩:=l k;obtain⟨w,x,D,H⟩:=Ah4 k;have y:=λb (c:b∈T5 d++(if a=-1 then [] else 58::R1 a))=>B89 q t v c
  simp only[if_true];have g:∀b∈Nv ⟨e,user,d,a,47::r⟩,ctl b=false/\L4 b=false:=by
   intro b c;unfold Nv at c;simp only at c;rcases x6.1 c with c|c
   ·by_cases m:user=[]
    ·rw[if_pos m] at c;cases c
    ·rw[if_neg m] at c;rcases x6.1 c with c|c
     ·exact⟨o b c,p b c⟩
     ·simp only[ab2] at c;subst c
      decide
   ·exact⟨(y b c).1,(y b c).2.1⟩
  have A:F9 e (47::r) (Nv ⟨e,user,d,a,47::r⟩)=(⟨e,user,d,a,47::r⟩,0):=by
   have i:(64:UInt8)∉T5 d++(if a=-1 then [] else 58::R1 a):=λI=>(y 64 I).2.2 rfl
   unfold F9 Nv;simp only;by_cases m:user=[]
   ·subst m;rw[if_pos rfl,af1,Lq i,if_neg (by decide)];exact Ra q t v
   ·rw[if_neg m,List.append_assoc,List.singleton_append,Qc user i,P9,j9,ac0];have:List.drop (user.length+1) (user++64::(T5 d++(if a=-1 then [] else 58::R1 a)))=T5 d++(if a=-1 then [] else 58::R1 a):=by
     rw[show user++64::(T5 d++(if a=-1 then [] else 58::R1 a))=(user++[64])++(T5 d++(if a=-1 then [] else 58::R1 a)) by simp,ai0 (by simp)]
    rw[this];exact Ra q t v
  generalize Nv ⟨e,user,d,a,47::r⟩=f at *;have z:(e++58::47::47::(f++47::r)).any ctl=false:=Kx.2 λb c=>by
   simp only[x6,p9] at c;rcases c with c|rfl|rfl|rfl|c|c
   ·exact H b c
   ·decide
   ·decide
   ·decide
   ·exact(g b c).1
   ·exact G b (by simpa using c)
  have C:I6 (f++47::r)=f.length:=Bx9 (λb c=>(g b c).2) (λb c=>by obtain rfl:=j4 c;decide);unfold C0;rw[z,T4 D];simp only[k9,if_false];rw[w,x,k];have Ok:([47,47]:By).isPrefixOf (47::47::(f++47::r))=true:=by simp[w8]
  rw[Ok];simp only[j2,aj3,k9,if_false,ac7,ad3];rw[C,ac0,af5];have B:R0 (47::r)=47::r:=if_pos rfl;rw[B];exact A
theorem Dk8{u:S9}(h:CU u):CU (upU u):=by
 unfold upU;by_cases a:Ak u.sch=true
 ·rw[if_pos a];have o:E7 u.sch=true:=by unfold E7;unfold Ak at a;rw[a];rfl
  obtain⟨e,f,g,i,j,k,l⟩:=h.sp o;have n:L3 (if u.sch==Dx then Z7 else Qs)=443:=by split<;>decide
  have d:E7 (if u.sch==Dx then Z7 else Qs)=true:=by split<;>decide
  refine⟨λh=>?_,λ_=>⟨e,f,g,i,?_,k,l⟩⟩
  ·simp only at h;rw[d] at h;cases h
  ·simp only;rw[n];by_cases b:u.port=443
   ·rw[if_pos b];exact .inl rfl
   ·rw[if_neg b];rcases j with c|⟨c,m,p⟩
    ·exact .inl c
    ·exact .inr ⟨c,m,b⟩
 ·rw[if_neg a];exact h
theorem Vl(c user b a:By):(M7 c user b a).1.sch.length<=c.length/\(M7 c user b a).1.user.length<=user.length/\(M7 c user b a).1.rest.length<=b.length:=by
 by_cases h:(M7 c user b a).2=0
 ·obtain⟨f,d,e,_⟩:=Oj h;rw[e];exact⟨x9 _,x9 _,x9 _⟩
 ·rw[Ll h];exact⟨aa1 _,aa1 _,aa1 _⟩
theorem Az6(c b a:By):(F9 c b a).1.sch.length<=c.length/\(F9 c b a).1.user.length<=a.length/\(F9 c b a).1.rest.length<=b.length:=by
 unfold F9;split
 ·obtain⟨d,e,f⟩:=Vl c (a.take (K3 64 a).toNat) b (a.drop ((K3 64 a).toNat+1));rw[j5] at e;exact⟨d,by omega,f⟩
 ·obtain⟨d,e,f⟩:=Vl c [] b a;simp only[x5] at e;exact⟨d,by omega,f⟩
theorem Ai3(r:By):(R0 r).length<=r.length+1:=by
 unfold R0;split
 ·omega
 ·simp
theorem Bs4(s:By):(C0 s).1.sch.length<=s.length/\(C0 s).1.user.length<=s.length/\(C0 s).1.rest.length<=s.length+1:=by
 have z:Z5.sch.length<=s.length/\Z5.user.length<=s.length/\Z5.rest.length<=s.length+1:=⟨aa1 _,aa1 _,aa1 _⟩
 unfold C0;split
 ·exact z
 ·rcases Q1 58 s with a|⟨p,r,rfl,a⟩
  ·rw[Jt a];exact z
  ·rw[T4 a];have b:(p++58::r).length=p.length+r.length+1:=by rw[j1,j0];omega
   simp only;split
   ·exact z
   ·split
    ·simp only[Y7,x5];omega
    ·split
     ·exact z
     ·obtain⟨c,d,e⟩:=Az6 (B3 p) (R0 ((r.drop 2).drop (I6 (r.drop 2)))) ((r.drop 2).take (I6 (r.drop 2)));have f:=Ai3 ((r.drop 2).drop (I6 (r.drop 2)));simp only[j5,c9,Y7] at c d e f;omega
structure XJ (u:S9):Prop where
 host:Cp u.host
 port:-1<=u.port/\u.port<65536
theorem AI:Cp K8:=⟨by decide,Bm2,by decide⟩
theorem CU.ok{u:S9}(h:CU u):XJ u:=by
 cases hs:E7 u.sch with
 | false=>
  obtain⟨_,_,_,a4,a5,_⟩:=h.ns hs;exact⟨by rw[a4];exact AI,by omega⟩
 | true=>
  obtain⟨_,_,a3,_,a5,_⟩:=h.sp hs;exact⟨a3,by omega⟩
theorem Ab2(s:By):XJ (C0 s).1:=by
 by_cases h:(C0 s).2=0
 ·exact(Ab1 h).ok
 ·rw[NZ h];exact⟨AI,by decide,by decide⟩
theorem B73(h:B2):eqH h h=true:=by simp[eqH]
theorem B74(u:S9):eqU u u=true:=by simp[eqU,B73]
theorem XH{u:S9}(h:CU u):Dn u=true:=by unfold Dn;rw[B17 h,B74];rfl
theorem Cb0{m n j l:By}{h v4:Nat}{a b c d e f g i:Nat}{k:Int}(o:h<4):mkU m n (h:Int) j (v4:Int) (n8 a b c d e f g i) k l=⟨m,n,⟨h,j,v4,[a,b,c,d,e,f,g,i]⟩,k,l⟩:=by unfold mkU Ca9 n8;rw[if_pos (E3.2 ⟨by omega,by omega⟩)];simp only[j9]
theorem Bs3(s:By):XJ (B5 s).1:=by
 unfold B5;split
 ·exact⟨AI,by decide,by decide⟩
 ·exact Ab2 s
theorem Ay1{s:By}(h:(B5 s).2≠0):(B5 s).1=Z5:=by
 unfold B5 at h ⊢;split
 ·rfl
 ·rename_i c;rw[if_neg c] at h;exact NZ h
theorem NY{s:By}(h:(B5 s).2=0):CU (B5 s).1:=by
 unfold B5 at h ⊢;split
 ·rename_i c;rw[if_pos c] at h;cases h
 ·rename_i c;rw[if_neg c] at h;exact Ab1 h
theorem JD(s:By):(B5 s).1.sch.length<=s.length/\(B5 s).1.user.length<=s.length/\(B5 s).1.rest.length<=s.length+1:=by
 unfold B5;split
 ·exact⟨aa1 _,aa1 _,aa1 _⟩
 ·exact Bs4 s
theorem Om{s:By}(h:Ak s=true):s=Dx\/s=bWs:=by simpa[Ak] using h
theorem Bk9{s:By}(h:Ak s=false)(a:Int):upS s=s/\upP s a=a:=by
 have e:(s==Dx)=false/\(s==bWs)=false:=by simpa[Ak] using h
 unfold upS upP;rw[e.1,e.2,h];simp
theorem Dd5(u:S9):upU u=⟨upS u.sch,u.user,u.host,upP u.sch u.port,u.rest⟩:=by
 obtain⟨b,user,f,a,g⟩:=u;cases h:Ak b with
 | false=>
  obtain⟨i,c⟩:=Bk9 h a;unfold upU;rw[if_neg (by simp[h])];simp only;rw[i,c]
 | true=>
  unfold upU;rw[if_pos h];have e:(if b==Dx then Z7 else Qs)=upS b:=by
   rcases Om h with rfl|rfl<;>decide
  have c:(if a=443 then (-1:Int) else a)=upP b a:=by
   unfold upP;rw[h];by_cases d:a=443
   ·subst d;rfl
   ·have:(a==443)=false:=by simpa using d
    rw[if_neg d,this];rfl
  simp only[e,c]
theorem Cj4{u:S9}(h:CU u):Dn ⟨upS u.sch,u.user,u.host,upP u.sch u.port,u.rest⟩=true:=by rw[<-Dd5];exact XH (Dk8 h)
theorem Ol{n:Int}:Er n=true↔-9223372036854775808<=n/\n<9223372036854775808:=by unfold Er;rw[E3];constructor<;>rintro⟨a,b⟩<;>constructor<;>omega
theorem Jc(c:UInt8):∀s:By,j8 s c=match Gu c s with|some k=>(k:Int)|none=>-1
 | []=>rfl
 | b::r=>by
  have a:=Jc c r;unfold j8 Gu;by_cases h:b=c
  ·rw[if_pos h,if_pos (by simpa using h)];rfl
  ·rw[if_neg h,if_neg (by simpa using h),a];cases Gu c r with
   | none=>rfl
   | some k=>
    have e:((k:Int)==-1)=false:=by rw[beq_eq_false_iff_ne];omega
    simp only[ab1,e,k9,if_false];rfl
theorem Bx8(b:UInt8):isl.contains b=L4 b:=by rw[s9];simp[isl,L4,or_assoc]
theorem Ho(b:UInt8)(r:By):I6 (b::r)=if L4 b then 0 else I6 r+1:=by unfold I6;rw[ac8];cases h:L4 b<;>simp
theorem Xe:∀s:By,I6 s<=s.length
 | []=>x9 _
 | b::r=>by
  have:=Xe r;rw[Ho,j0];split<;>omega
theorem Jb:∀s:By,aa6 s isl=if I6 s<s.length then (I6 s:Int) else -1
 | []=>rfl
 | b::r=>by
  have c:=Jb r;have d:=Xe r;rw[aa6,Bx8,Ho,j0,c];cases L4 b with
  | true=>simp
  | false=>
   simp only[k9,if_false];by_cases h:I6 r<r.length
   ·have e:((I6 r:Int)==-1)=false:=by rw[beq_eq_false_iff_ne];omega
    have a:I6 r+1<r.length+1:=by omega
    simp only[if_pos h,if_pos a,e,k9,if_false];rfl
   ·have a:¬I6 r+1<r.length+1:=by omega
    simp only[if_neg h,if_neg a];rfl
theorem C93(b:UInt8)(t:By)(g:128<=b.toNat):128<=(aa5 (b::t)).1/\(aa5 (b::t)).1<1114112/\1<=(aa5 (b::t)).2/\(aa5 (b::t)).2<=t.length+1/\∀i,i<(aa5 (b::t)).2->128<=((b::t).getD i 0).toNat:=by
 have d:=Lib.decodeL_le (b::t) (by simp);have l:=Lib.decodeL_width (b::t);have n:=Lib.decodeL_rune (b::t);rw[j0] at d;refine⟨?_,by omega,l,d,?_⟩;all_goals
  clear d l n;rw[Lib.decodeL_N];rcases Lib.decodeN_shape (b::t).length ((b::t).getD 0 0).toNat ((b::t).getD 1 0).toNat ((b::t).getD 2 0).toNat ((b::t).getD 3 0).toNat with⟨c,e⟩|⟨h,j,k,f,e⟩|⟨h,j,k,m,f,p,e⟩|⟨h,j,k,m,o,f,q,e⟩|e
  all_goals rw[e]
 ·exact absurd g (by simp at c;omega)
 ·exact f
 ·simp only;omega
 ·simp only;omega
 ·simp only;omega
 ·exact absurd g (by simp at c;omega)
 ·intro i a;have:i=0\/i=1:=by simp only at a;omega
  rcases this with rfl|rfl<;>omega
 ·intro i a;have:i=0\/i=1\/i=2:=by simp only at a;omega
  rcases this with rfl|rfl|rfl<;>omega
 ·intro i a;have:i=0\/i=1\/i=2\/i=3:=by simp only at a;omega
  rcases this with rfl|rfl|rfl|rfl<;>omega
 ·intro i a;have:i=0:=by simp only at a;omega
  subst this;exact g
theorem Ch3{b:UInt8}(h:128<=b.toNat):L4 b=false:=by
 unfold L4;have n:∀c:UInt8,c.toNat<128->(b==c)=false:=λc a=>by
  rw[beq_eq_false_iff_ne];rintro rfl;omega
 rw[n 47 (by decide),n 63 (by decide),n 35 (by decide)];rfl
theorem B92{r:Int}(h:128<=r):irn r=-1:=by unfold irn;rw[F5,F5,F5]
theorem Da6(b:UInt8):ltI (irn (b.toNat:Int)) 0 = !L4 b:=by
 have e:∀c:UInt8,((b.toNat:Int)=(c.toNat:Int))=(b=c):=λc=>propext ⟨λh=>ac6.1 (by omega),λh=>by rw[h]⟩
 have g:((b.toNat:Int)=47)=(b=47):=e 47;have i:((b.toNat:Int)=63)=(b=63):=e 63;have j:((b.toNat:Int)=35)=(b=35):=e 35;unfold irn L4;simp only[g,i,j];by_cases a:b=47
 ·subst a;rfl
 ·by_cases d:b=63
  ·subst d;rfl
  ·by_cases f:b=35
   ·subst f;rfl
   ·have n:∀c,b≠c->(b==c)=false:=λc h=>by rwa [beq_eq_false_iff_ne]
    rw[if_neg a,if_neg d,if_neg f,n _ a,n _ d,n _ f];rfl
end
section
open Go Go.Proofs
set_option maxRecDepth 100000
theorem Aw8{R:Type}{b:By->Option R}(s p:By)(a:A2 s.length=true):Bi1 LF s p b=b (Gp s p):=by
 have:=M3 a;unfold Bi1 Gp;rw[a];cases h:p.isPrefixOf s with
 | false=>simp
 | true=>
  have:p.length<=s.length:=by rw[Es] at h;simp at h;exact h.1
  simp (disch:=omega)
theorem By8{R:Type}{a:By->Option R}(s p:By)(b:A2 s.length=true):C10 LF s p a=a (Gp s p):=by unfold C10;rw[b];rfl
theorem Ba2{R:Type}{e:Int->Option R}(s:By):Bl0 LF s e=e (L3 s):=by unfold Bl0 L3 Dx bWs Z7 Qs;generalize (s==([104,116,116,112]:List UInt8))=a;generalize (s==([119,115]:List UInt8))=b;generalize (s==([104,116,116,112,115]:List UInt8))=c;generalize (s==([119,115,115]:List UInt8))=d;cases a<;>cases b<;>cases c<;>cases d<;>rfl
theorem Ba7{R:Type}{a:Bool->Option R}(s:By):Bl1 LF s a=a (E7 s):=by unfold Bl1;rw[Su,KV]
theorem C20(b q:By)(m:Int)(n:By)(v4 d e f g i j k l a:Int)(p:By) :
  ∃r H,C18 LF b q m n v4 d e f g i j k l a p (λo c=>rv (.s (.int .i64 o)) c)=rv r H/\r.stab [] H = .s (.int .i64 (prt b a)):=by
 unfold C18 prt;cases h:a==-1 with
 | true=>rw[show(a !=(-1:Int))=false by simp[bne,h]];exact⟨_,_,rfl,rfl⟩
 | false=>rw[show(a !=(-1:Int))=true by simp[bne,h]];exact⟨_,_,rfl,rfl⟩
def UK:By:=[48,49,50,51,52,53,54,55,56,57,43,45,46]
theorem Lm(c:UInt8):∀l:By,ltI (j8 l c) 0 = !l.contains c
 | []=>rfl
 | b::r=>by
  have f:=Lm c r;have g:=ah3 r c;unfold j8;by_cases h:b=c
  ·subst h;simp[E2]
  ·have e:(b==c)=false:=by simpa using h
   have d:(c==b)=false:=by simpa using ag7 h
   rw[List.contains_cons,d,ai9,<-f,e];simp only[k9,if_false];by_cases a:j8 r c=-1
   ·rw[a];rfl
   ·have:(j8 r c==-1)=false:=by simpa using a
    rw[this,if_neg (by simp),A6,A6]
theorem Ah3:∀b:UInt8,K7 b=(P6 b||UK.contains b):=by
 have:∀n:Fin 256,K7 (y5 n.val)=(P6 (y5 n.val)||UK.contains (y5 n.val)):=by decide +kernel
 intro b;have h:=this ⟨b.toNat,b.toNat_lt⟩;simpa using h
theorem Aj9{R:Type}{c:Unit->Option R}{d:By->Int->Int->Bool->Option R}(s:By)(i:Nat)(b:UInt8)(l:Bool)(n:Int):Fo s (i:Int) (b.toNat:Int) l n c d=if l then d s n i false else if i=0 then c () else if UK.contains b then d s n i false else c ():=by
 unfold Fo;cases l with
 | true=>rfl
 | false=>
  rw[p7,cond_true,if_neg (by simp)];by_cases a:i=0
  ·subst a;rfl
  ·have f:=b.toNat_lt;rw[show((i:Int)==0)=false by simpa using a,cond_false,E9,cond_true,if_neg a];simp only[vl];rw[It];have e:=Lm b UK;rw[show([48,49,50,51,52,53,54,55,56,57,43,45,46]:List UInt8)=UK from rfl,e];cases UK.contains b<;>rfl
theorem KK{R:Type}{a:Unit->Option R}{c:By->Option R}(s:By)(r:s.length<=1000000000)(n i:Nat)(p:i<s.length) :
  N7 LF (n+1) s (s.length:Int) (i:Int) a c=if P6 (s.getD i 0) then N7 LF n s s.length ((i+1:Nat):Int) a c else if i=0 then a () else if UK.contains (s.getD i 0) then N7 LF n s s.length ((i+1:Nat):Int) a c else a ():=by
 have k:A1 ((i:Int)+1)=((i+1:Nat):Int):=by rw[A7];rfl
 rw[N7,A8,E9,D1];simp only[cond_true];generalize s.getD i 0=b;have go:∀l,Fo s (i:Int) (b.toNat:Int) l (s.length:Int) (λ_=>a ()) (λj g h m=>N7 LF n j g (A1 (h+(1:Int))) a c)=if l then N7 LF n s s.length ((i+1:Nat):Int) a c else if i=0 then a () else if UK.contains b then N7 LF n s s.length ((i+1:Nat):Int) a c else a ():=λl=>by
  rw[Aj9,k]
 have q:P6 b=((y8 97 b.toNat&&y8 b.toNat 122)||(y8 65 b.toNat&&y8 b.toNat 90)):=rfl;by_cases f:97<=b.toNat
 ·rw[A6,p7,cond_true];by_cases d:b.toNat<=122
  ·rw[A6,p7,cond_true,if_pos (U2.2 (.inl ⟨f,d⟩))];unfold EL;simp only[k]
  ·rw[A8,j2,cond_false,A6,p7,cond_true,A8,j2];have e:P6 b=false:=by
    rw[<-ah2,U2];omega
   rw[e];exact go false
 ·rw[A8,j2,cond_false];by_cases o:65<=b.toNat
  ·rw[A6,p7,cond_true];have e:P6 b = !ltI 90 (b.toNat:Int):=by
    rw[s9,U2,ab7,Ov];omega
   rw[e];exact go _
  ·rw[A8,j2,cond_false];have e:P6 b=false:=by
    rw[<-ah2,U2];omega
   rw[e];exact go false
theorem Bz7{R:Type}{k0:Unit->Option R}{k1:By->Option R}(s:By)(d:s.length<=1000000000):∀(r i n:Nat),i+r=s.length->r<n->0<i->
  N7 LF n s (s.length:Int) (i:Int) k0 k1=if (s.drop i).all K7 then k1 s else k0 ():=by
 intro r
 induction r with
 | zero=>
  intro i n b c a;obtain⟨n,rfl⟩:∃m,n=m+1:=⟨n-1,by omega⟩
  rw[N7];rw[A6,v7 (by omega)];rfl
 | succ r e=>
  intro i n b c a;obtain⟨n,rfl⟩:∃m,n=m+1:=⟨n-1,by omega⟩
  rw[KK s d n i (by omega),e (i+1) n (by omega) (by omega) (by omega),D2 s i (by omega),List.all_cons,Ah3,if_neg (by omega:¬i=0)];cases P6 (s.getD i 0) with
  | true=>simp
  | false=>
   cases UK.contains (s.getD i 0)<;>simp
theorem Bz8{R:Type}{k0:Bool->Option R}(s:By)(f:A2 s.length=true):Cj7 LF s k0=k0 (S6 s):=by
 have c:=M3 f;have g:=C6;unfold Cj7;obtain⟨n,d⟩:∃m,LF=m+1:=⟨LF-1,by omega⟩
 cases s with
 | nil=>
  rw[show @N7 R LF LF = @N7 R LF (n+1) by rw[<-d]];rfl
 | cons b t=>
  rw[show @N7 R LF LF = @N7 R LF (n+1) by rw[<-d]];refine p6 (KK (b::t) c n 0 (by simp)) ?_;have e:=Bz7 (k0:=λ_=>k0 false) (k1:=λa=>k0 (not (a==([]:List UInt8)))) (b::t) c t.length 1 n (by simp;omega) (by simp at c;omega) (by omega);rw[aa8];simp only[ae8,if_true];rw[show(((0+1:Nat):Int))=((1:Nat):Int) from rfl,e];rw[show(b::t).drop 1=t from rfl,show S6 (b::t)=(P6 b&&t.all K7) from rfl];cases P6 b with
  | false=>rfl
  | true=>cases t.all K7<;>rfl
theorem UL:∀(s:By) (n:Int),DG.go n s=(Bi n s).getD 0
 | [],n=>rfl
 | b::r,n=>by
  unfold DG.go Bi;split
  ·exact UL r _
  ·rfl
theorem Bz0{R:Type}{a:Unit->Option R}{c:Int->Option R}(s:By)(y:s.length<=1000000000):∀(r i n:Nat) (v:Int),i+r=s.length->r<n->-1<=v->v<=65536->
  Mp LF n s v (s.length:Int) (i:Int) a c=match Bi v (s.drop i) with|some m=>c m|none=>a ():=by
 intro r
 induction r with
 | zero=>
  intro i n v p q j k;obtain⟨n,rfl⟩:∃m,n=m+1:=⟨n-1,by omega⟩
  rw[Mp];rw[A6,v7 (by omega)];rfl
 | succ r t=>
  intro i n v p q j k;obtain⟨n,rfl⟩:∃m,n=m+1:=⟨n-1,by omega⟩
  have d:A1 ((i:Int)+1)=((i+1:Nat):Int):=by rw[A7];rfl
  rw[Mp];rw[A8,E9,D1,D2 s i (by omega),d];have x:=(s.getD i 0).toNat_lt;generalize s.getD i 0=b at *;unfold Bi;simp only[cond_true,vl];by_cases l:b.toNat<48
  ·rw[A8,cond_true,F5]
  ·rw[A6,cond_false];by_cases o:57<b.toNat
   ·rw[A8,cond_true,F5]
   ·rw[A6,cond_false,if_pos (show 48<=b.toNat/\b.toNat<=57 by omega)];have u:(if (0:Int) > v then (0:Int) else v)=max v 0:=by omega
    have e:A1 (10*max v 0)=10*max v 0:=A7;have f:wu8 ((b.toNat:Int)-48)=((b.toNat-48:Nat):Int):=by rw[L9];omega
    have g:A1 ((b.toNat-48:Nat):Int)=((b.toNat-48:Nat):Int):=A7;have h:A1 (10*max v 0+((b.toNat-48:Nat):Int))=10*max v 0+((b.toNat-48:Nat):Int):=A7;rw[u,e,f,g,h];have w:(if (65536:Int)<10*max v 0+((b.toNat-48:Nat):Int) then (65536:Int) else 10*max v 0+((b.toNat-48:Nat):Int))=min (10*max v 0+((b.toNat-48:Nat):Int)) 65536:=by omega
    rw[w];exact t (i+1) n _ (by omega) (by omega) (by omega) (by omega)
theorem Bz1{R:Type}{a:Int->Bool->Option R}(s:By)(b:A2 s.length=true):C13 LF s a=a (DG s) (Gx (-1) s).isSome:=by
 have d:=M3 b;have c:=C6;unfold C13;refine p6 (Bz0 s d s.length 0 LF (-1) (by omega) (by omega) (by omega) (by omega)) ?_;rw[ad3,DV,show DG s=DG.go (-1) s from rfl,UL];cases Bi (-1) s with
 | none=>rfl
 | some m=>
  simp only[ah4,ae5];rw[Su];by_cases h:m<65536
  ·rw[decide_eq_true h,if_pos h];rfl
  ·rw[decide_eq_false h,if_neg h];rfl
theorem Cb5{s:By}{p:Int}(h:Gx (-1) s=some p):DG s=p:=by
 rw[DV] at h;rw[show DG s=DG.go (-1) s from rfl,UL];cases a:Bi (-1) s with
 | none=>rw[a] at h;cases h
 | some m=>
  rw[a] at h;simp only[ae5] at h;split at h
  ·exact j4 h
  ·cases h
def hpT(name tail b user a:By):S9 × Nat:=
 if (B9 name).2≠0 then (Z5,(B9 name).2)
 else match Gx (-1) (tail.drop 1) with
  | none=>(Z5,16)
  | some p=>(⟨b,user,(B9 name).1,if p=L3 b then -1 else p,a⟩,0)
def hpC(name tail b user a:By):S9 × Nat:=if tail≠[]/\tail.head?≠some 58 then (Z5,4) else hpT name tail b user a
theorem Vk(c user b a:By):M7 c user b a=match Ee a with|none=>(Z5,4)|some (name,tail)=>hpC name tail c user b:=by
 unfold M7;cases Ee a with
 | none=>rfl
 | some q=>
  obtain⟨name,tail⟩:=q;rfl
theorem Sp{t:By}(h:t=[]\/t.head? = some 58):Gp t [58]=t.drop 1:=by
 rcases h with rfl|h
 ·rfl
 ·cases t with
  | nil=>cases h
  | cons b r=>
   simp only[List.head?_cons,p4] at h;subst h;simp[Gp]
theorem Xn(name tail:By)(f:name.length<=1000000000)(j:tail.length<=1000000000)(h:tail=[]\/tail.head? = some 58)(d u:By)(v:Int)(y:By)(w n8 x k l m n o r:Int)(c:By) :
  ∃B H,∀(R:Type) (a:Int->Blk->By->By->Int->By->Int->Int->Int->Int->Int->Int->Int->Int->Int->Int->By->List Blk->Option R),V9 name tail d u v y w n8 x k l m n o r (-1) c a=(λq=>a (uE q) B (uS q) (uU q) (uK q) (uN q) (uV q) (uA q 0) (uA q 1) (uA q 2) (uA q 3) (uA q 4) (uA q 5) (uA q 6) (uA q 7) (uP q) (uR q) H) (hpT name tail d u c):=by
 have i:(tail.drop 1).length<=1000000000:=by rw[c9];omega
 by_cases b:(B9 name).2=0
 ·cases g:Gx (-1) (tail.drop 1) with
  | none=>
   apply p5;apply p5;intro R a;unfold V9 hpT;rw[E0 f,cond_true,Sp h,E0 j];simp only[vl,cond_true];rw[b,E0 i,g];rfl
  | some p=>
   have t:=Cb5 g;by_cases e:p=L3 d
   ·apply p5;apply p5;intro R a;unfold V9 hpT;rw[E0 f,cond_true,Sp h,E0 j];simp only[vl,cond_true];rw[b,E0 i,g,t,show(p !=L3 d)=false by simpa using e];simp only[e,if_true];rfl
   ·apply p5;apply p5;intro R a;unfold V9 hpT;rw[E0 f,cond_true,Sp h,E0 j];simp only[vl,cond_true];rw[b,E0 i,g,t,show(p !=L3 d)=true by simpa using e];simp only[e,if_false];rfl
 ·apply p5;apply p5;intro R a;unfold V9 hpT;rw[E0 f,cond_true];simp only[vl];rw[show(((B9 name).2:Int)!=0)=true by simpa using b,cond_true,if_pos b];rfl
theorem Mq(name tail:By)(w:name.length<=1000000000)(x:tail.length<=1000000000)(l m:By)(p:Int)(v:By)(t n8 u d f g i j k:Int)(a:By) :
  ∃B H,∀(R:Type) (c:Int->Blk->By->By->Int->By->Int->Int->Int->Int->Int->Int->Int->Int->Int->Int->By->List Blk->Option R),Q2 name tail l m p v t n8 u d f g i j k (-1) a c=(λq=>c (uE q) B (uS q) (uU q) (uK q) (uN q) (uV q) (uA q 0) (uA q 1) (uA q 2) (uA q 3) (uA q 4) (uA q 5) (uA q 6) (uA q 7) (uP q) (uR q) H) (hpC name tail l m a):=by
 cases tail with
 | nil=>
  obtain⟨B,H,e⟩:=Xn name [] w x (.inl rfl) l m p v t n8 u d f g i j k a;refine⟨B,H,λR c=>?_⟩;unfold Q2 hpC;exact e R c
 | cons b r=>
  by_cases n:b=58
  ·subst n;obtain⟨B,H,e⟩:=Xn name (58::r) w x (.inr rfl) l m p v t n8 u d f g i j k a;refine⟨B,H,λR c=>?_⟩;unfold Q2 hpC;rw[M8 (by omega) (by simp),if_neg (by simp)];exact e R c
  ·apply p5;apply p5;intro R c;unfold Q2 hpC;have o:(((b.toNat:Int))!=(58:Int))=true:=by
    rw[bne_iff_ne];intro h;have y:b.toNat=58:=by omega
    exact n (ac6.1 y)
   rw[M8 (by omega) (by simp),if_pos (by simpa using n),Ah,aa8,o];rfl
theorem Bh2{c:UInt8}{s:By}(h:Gu c s=none):j8 s c=-1:=by rw[Jc,h]
theorem TY{c:UInt8}{s:By}{k:Nat}(h:Gu c s=some k):j8 s c=(k:Int)/\k<s.length:=by obtain⟨p,r,rfl,_,rfl⟩:=Qb h;exact⟨by rw[Jc,h],by simp⟩
theorem Dc1(c:UInt8)(s:By):([c]:By).isPrefixOf s=(s.head? == some c):=by
 cases s with
 | nil=>rfl
 | cons b r=>
  grind
abbrev KU(R:Type):=By->By->Int->By->Int->Int->Int->Int->Int->Int->Int->Int->Int->Int->By->Int->List Blk->Option R
abbrev HD{R:Type}(a:KU R)(q:S9 × Nat)(H:List Blk):Option R:=a (uS q) (uU q) (uK q) (uN q) (uV q) (uA q 0) (uA q 1) (uA q 2) (uA q 3) (uA q 4) (uA q 5) (uA q 6) (uA q 7) (uP q) (uR q) (uE q) H
theorem Ba0(u:By)(J:Int)(O:By)(v4 y z A C D F G I:Int)(t a:By)(h2:A2 a.length=true) :
  ∃H,∀(R:Type) (o:KU R),Ts LF u [] J O v4 y z A C D F G I (-1) t a o=HD o (F9 u t a) H:=by
 have ha:=M3 h2;have ge:=II 64 a;have key:∀(x b:By),b.length<=1000000000->∃H,∀(R:Type) (o:KU R),(cond (A2 (b8 b)) (cond (w8 (([91]:List UInt8)) b)
   (cond (A2 (b8 b))
    (vl (j8 b (u8n (93:Int))) λc=>
    cond (ltI c (0:Int))
     (o ([]:List UInt8) ([]:List UInt8) 0 ([]:List UInt8) 0 0 0 0 0 0 0 0 0 0 ([]:List UInt8) 4 [(bU u x J O v4 y z A C D F G I (-1) t),bU0])
     (cond (I7 (0:Int) (A1 (c+(1:Int))) (b8 b))
      (cond (I7 (A1 (c+(1:Int))) (↑(b8 b):Int) (b8 b))
       (Q2 (cut b (0:Int) (A1 (c+(1:Int)))) (cut b (A1 (c+(1:Int))) (↑(b8 b):Int)) u x J O v4 y z A C D F G I (-1) t (λn0 T P Q K S L M n8 N f g i j l m n q=>o P Q K S L M n8 N f g i j l m n n0 (T::((bU P Q K S L M n8 N f g i j l m n)::q))))
       (none))
      (none)))
    (none))
   (cond (A2 (b8 b))
    (vl (j8 b (u8n (58:Int))) λd=>
    cond (not (ltI d (0:Int)))
     (cond (I7 (0:Int) d (b8 b))
      (cond (I7 d (↑(b8 b):Int) (b8 b))
       (Q2 (cut b (0:Int) d) (cut b d (↑(b8 b):Int)) u x J O v4 y z A C D F G I (-1) t (λn0 T P Q K S L M n8 N f g i j l m n q=>o P Q K S L M n8 N f g i j l m n n0 (T::((bU P Q K S L M n8 N f g i j l m n)::q))))
      (none))
     (none))
     (Q2 b ([]:List UInt8) u x J O v4 y z A C D F G I (-1) t (λn0 T P Q K S L M n8 N f g i j l m n q=>o P Q K S L M n8 N f g i j l m n n0 (T::((bU P Q K S L M n8 N f g i j l m n)::q)))))
    (none))) none)=HD o (M7 u x t b) H:=by
  intro x b hb;rw[Vk];unfold Ee;have w:A2 b.length=true:=E0 hb;have W:u8n (93:Int)=93:=rfl;have U:u8n (58:Int)=58:=rfl;by_cases v:b.head? = some 91
  ·rw[if_pos v];have Z:([91]:By).isPrefixOf b=true:=by rw[Dc1,v];rfl
   cases Y:Gu 93 b with
   | none=>
    apply p5;intro R o;rw[w,Z,W,Bh2 Y];rfl
   | some k=>
    obtain⟨e,hk⟩:=TY Y;have e1:A1 ((k:Int)+1)=((k+1:Nat):Int):=by rw[A7];rfl
    obtain⟨B,H,X⟩:=Mq (b.take (k+1)) (b.drop (k+1)) (by rw[j5];omega) (by rw[c9];omega) u x J O v4 y z A C D F G I t;apply p5;intro R o;rw[w,Z,W,e];simp only[vl,cond_true];rw[A6,cond_false,e1,I2,I2,cond_true,cond_true,K2,Q8,j9,X]
  ·rw[if_neg v];have Z:([91]:By).isPrefixOf b=false:=by rw[Dc1];simpa using v
   cases Y:Gu 58 b with
   | none=>
    obtain⟨B,H,X⟩:=Mq b [] hb (by simp) u x J O v4 y z A C D F G I t;apply p5;intro R o;rw[w,Z,U,Bh2 Y];simp only[vl,cond_true,cond_false];rw[A8,j2,cond_false,X]
   | some k=>
    obtain⟨e,hk⟩:=TY Y;obtain⟨B,H,X⟩:=Mq (b.take k) (b.drop k) (by rw[j5];omega) (by rw[c9];omega) u x J O v4 y z A C D F G I t;apply p5;intro R o;rw[w,Z,U,e];simp only[vl,cond_true,cond_false];rw[A6,p7,cond_true,I2,I2,cond_true,cond_true,K2,Q8,j9,X]
 have V:u8n (64:Int)=64:=rfl;unfold F9;by_cases h:0<=K3 64 a
 ·obtain⟨p,r,rfl,_,hl⟩:=IK h;rw[if_pos h,hl,j9];rw[j1,j0] at ha;obtain⟨H,e⟩:=key ((p++64::r).take p.length) ((p++64::r).drop (p.length+1)) (by rw[c9,j1,j0];omega);refine⟨H,λR o=>?_⟩;refine p6 ?_ (e R o);have e1:A1 ((p.length:Int)+1)=((p.length+1:Nat):Int):=by rw[A7];rfl
  have ln:(p++64::r).length=p.length+r.length+1:=by rw[j1,j0];omega
  unfold Ts;rw[h2,V,hl];simp only[vl,cond_true];rw[A6,p7,cond_true,e1,I2,I2,cond_true,cond_true,K2,Q8,j9,j9];rfl
 ·rw[if_neg h];obtain⟨H,e⟩:=key [] a ha;refine⟨H,λR o=>?_⟩;refine p6 ?_ (e R o);unfold Ts;rw[h2,V];simp only[vl,cond_true];rw[A8,j2,cond_false];rfl
def Tru(x:Option (PV × List Blk × Unit)):Prop:=∃H,x=some (.s (.bool true),H,())
theorem eq8{v6:List Nat}(h:v6.length=8):∃a b c d e f g i,v6=[a,b,c,d,e,f,g,i]:=by
 match v6,h with
 | [a,b,c,d,e,f,g,i],_=>exact⟨a,b,c,d,e,f,g,i,rfl⟩
theorem Cw0{a b c d e f g i:Nat}(h:∀x∈[a,b,c,d,e,f,g,i],x<65536):ok8 a b c d e f g i=true:=by
 have q:∀x∈[a,b,c,d,e,f,g,i],ltN (x:Int) 65536=true:=λx j=>E3.2 ⟨by omega,by have:=h x j;omega⟩
 simp[ok8,q a,q b,q c,q d,q e,q f,q g,q i]
theorem DD{h:B2}(a:L7 h=true):h.name.length<=253:=by
 unfold L7 at a;split at a
 ·simp only[s7] at a;exact(Ht.1 a.1.1).le
 ·split at a
  ·simp only[s7,ae2] at a;rw[a.1];simp
  ·split at a
   ·simp only[s7,ae2] at a;rw[a.1];simp
   ·cases a
theorem HV{h:B2}(ok:Cp h):(T5 h).length<=300:=by
 cases a:L7 h with
 | false=>rw[HU a];simp
 | true=>
  have d:=DD a;have c:=Bb2 _ ok.v6.1 ok.v6.2;have b:=Ck1 _ ok.v4;unfold T5;rw[if_pos a];split
  ·omega
  ·split
   ·omega
   ·simp only[j0,j1,x5];omega
theorem TU{h0 b c d e f g i j a:Int}{h1:By}(k:ltN b 4294967296=true)(l:ok8 c d e f g i j a=true):Cp (mkH h0 h1 b (n8 c d e f g i j a)):=by
 have⟨m,n⟩:=E3.1 k;refine⟨by show b.toNat<_;omega,C78 l,?_⟩;show(if ltN h0 4 then h0.toNat else 0)<4;split
 ·rename_i h;have:=E3.1 h;omega
 ·omega
theorem Bz5(c z:By)(x:Int)(y:By)(v4 m n o p t u v w k:Int)(b a:By)(O:A2 c.length=true)(P:A2 b.length=true)(A:A2 a.length=true)(B:z.isEmpty=true)(C:(k==-1)=true) :
  ∃r H,Ts LF c z x y v4 m n o p t u v w k b a (λL M D N F G I J n8 K f g h i l j d=>rv (.tup [gU L M D N F G I J n8 K f g h i l,.s (.int .i64 j)]) d)=rv r H/\
   r.stab [0,0] H=(λq=>.tup [gU (uS q) (uU q) (uK q) (uN q) (uV q) (uA q 0) (uA q 1) (uA q 2) (uA q 3) (uA q 4) (uA q 5) (uA q 6) (uA q 7) (uP q) (uR q),.s (.int .i64 (uE q))]) (F9 c b a):=by
 obtain rfl:=ae2.1 B;obtain rfl:k=-1:=by simpa using C
 obtain⟨H,e⟩:=Ba0 c x y v4 m n o p t u v w b a A;exact⟨_,_,e _ _,rfl⟩
theorem Bg1(b:UInt8):ctl b=(!ltI 32 (b.toNat:Int)||((b.toNat:Int)==127)):=by rw[s9,Un,ab0,ab7,Ov,beq_iff_eq];omega
theorem Bz6{R:Type}{a:List Blk->Option R}{b:By->Option R}(s:By)(g:s.length<=1000000000):∀(r i n:Nat),i+r=s.length->r<n->
  Iu LF n s (s.length:Int) (i:Int) a b=if (s.drop i).any ctl then a [] else b s:=by
 intro r
 induction r with
 | zero=>
  intro i n d e;obtain⟨n,rfl⟩:∃m,n=m+1:=⟨n-1,by omega⟩
  rw[Iu];rw[A6,v7 (by omega)];rfl
 | succ r f=>
  intro i n d e;obtain⟨n,rfl⟩:∃m,n=m+1:=⟨n-1,by omega⟩
  have c:A1 ((i:Int)+1)=((i+1:Nat):Int):=by rw[A7];rfl
  rw[Iu];rw[A8,E9,D1,D2 s i (by omega),c,List.any_cons,Bg1];simp only[cond_true];rw[f (i+1) n (by omega) (by omega)];cases ltI 32 ((s.getD i 0).toNat:Int) with
  | false=>rfl
  | true=>cases (((s.getD i 0).toNat:Int)==127)<;>rfl
theorem Cj6(s:By)(i:A2 s.length=true):∃H,∀(R:Type) (a:KU R),LV LF s a=HD a (C0 s) H:=by
 have y:=M3 i;have v:=C6;have L:∀{R:Type} (a:List Blk->Option R) (l:By->Option R),Iu LF LF s (s.length:Int) 0 a l=if s.any ctl then a [] else l s:=λa l=>Bz6 s y s.length 0 LF (by omega) (by omega)
 unfold C0;by_cases h:s.any ctl=true
 ·rw[if_pos h];apply p5;intro R a;unfold LV;rw[L,if_pos h];rfl
 rw[if_neg h];rcases Q1 58 s with b|⟨p,r,rfl,b⟩
 ·apply p5;intro R a;unfold LV;rw[L,if_neg h,i,Jt b];rfl
 have B:(p++58::r).length=p.length+r.length+1:=by rw[j1,j0];omega
 have sp:A2 p.length=true:=M5;have o:A2 r.length=true:=M5;rw[T4 b];simp only[j2,ai9];cases c:S6 p with
 | false=>
  apply p5;intro R a;unfold LV;rw[L,if_neg h,i,T4 b];simp only[vl,cond_true,j2,cond_false];rw[sp,c];rfl
 | true=>
 rw[if_neg (by simp)];cases f:E7 (B3 p) with
 | false=>
  apply p5;intro R a;unfold LV;rw[L,if_neg h,i,T4 b];simp only[vl,cond_true,j2,cond_false];rw[sp,c,f];rfl
 | true=>
 rw[if_neg (by simp)];cases Ok:([47,47]:By).isPrefixOf r with
 | false=>
  apply p5;intro R a;unfold LV;rw[L,if_neg h,i,T4 b];simp only[vl,cond_true,j2,cond_false];rw[sp,c,f,o,Ok];rfl
 | true=>
 rw[if_neg (by simp)];have j:Gp r [47,47]=r.drop 2:=by unfold Gp;rw[Ok,if_pos rfl];rfl
 generalize m:r.drop 2=t;rw[m] at j;have lt:t.length<=r.length:=by rw[<-m,c9];omega
 have u:A2 t.length=true:=M5;have z:=Xe t;have sl:A2 (B3 p).length=true:=by rw[Y7];exact sp
 have tail:∀(R:Type) (a:KU R) (X d:By),X.length<=t.length->d.length<=t.length->
   (cond (A2 (b8 X))
    (cond (not (w8 (([47]:List UInt8)) X))
     (cond (J6 1 (b8 X))
     (cond (A2 (b8 (B3 p)))
      (cond (A2 (b8 (([47]:List UInt8)++X)))
       (cond (A2 (b8 d))
       (cond (((-1):Int)==((-1):Int))
        (HD a (F9 (B3 p) (([47]:List UInt8)++X) d) ((λq=>[bU (uS q) (uU q) (uK q) (uN q) (uV q) (uA q 0) (uA q 1) (uA q 2) (uA q 3) (uA q 4) (uA q 5) (uA q 6) (uA q 7) (uP q) (uR q),bU (B3 p) [] 0 [] 0 0 0 0 0 0 0 0 0 (-1) (([47]:List UInt8)++X)]) (F9 (B3 p) (([47]:List UInt8)++X) d)))
        (none))
       (none))
       (none))
      (none))
     (none))
     (cond (A2 (b8 (B3 p)))
     (cond (A2 (b8 X))
      (cond (A2 (b8 d))
      (cond (((-1):Int)==((-1):Int))
       (HD a (F9 (B3 p) X d) ((λq=>[bU (uS q) (uU q) (uK q) (uN q) (uV q) (uA q 0) (uA q 1) (uA q 2) (uA q 3) (uA q 4) (uA q 5) (uA q 6) (uA q 7) (uP q) (uR q),bU (B3 p) [] 0 [] 0 0 0 0 0 0 0 0 0 (-1) X]) (F9 (B3 p) X d)))
       (none))
      (none))
      (none))
     (none)))
    none)=HD a (F9 (B3 p) (R0 X) d) ((λq=>[bU (uS q) (uU q) (uK q) (uN q) (uV q) (uA q 0) (uA q 1) (uA q 2) (uA q 3) (uA q 4) (uA q 5) (uA q 6) (uA q 7) (uP q) (uR q),bU (B3 p) [] 0 [] 0 0 0 0 0 0 0 0 0 (-1) (R0 X)]) (F9 (B3 p) (R0 X) d)):=by
  intro R a X d A w;rw[M5,sl,Dc1,E0 (n:=d.length) (by omega)];unfold R0;by_cases g:X.head? = some 47
  ·rw[if_pos g,g];rfl
  ·have e:(X.head? == some 47)=false:=by simpa using g
   rw[if_neg g,e,J7 (by omega),E0 (by simp;omega)];rfl
 refine⟨(λX=>(λq=>[bU (uS q) (uU q) (uK q) (uN q) (uV q) (uA q 0) (uA q 1) (uA q 2) (uA q 3) (uA q 4) (uA q 5) (uA q 6) (uA q 7) (uP q) (uR q),bU (B3 p) [] 0 [] 0 0 0 0 0 0 0 0 0 (-1) (R0 X)]) (F9 (B3 p) (R0 X) (t.take (I6 t)))) (t.drop (I6 t)),λR a=>?_⟩;refine p6 ?_ (tail R a (t.drop (I6 t)) (t.take (I6 t)) (by rw[c9];omega) (by rw[j5];omega));unfold LV;rw[L,if_neg h,i,T4 b];simp only[vl,cond_true,j2,cond_false];rw[sp,c,f,o,Ok,j,u];rw[show Zz ([47,63,35]:List UInt8)=true from rfl,show([47,63,35]:List UInt8)=isl from rfl,Jb];simp only[cond_true,j2,cond_false];by_cases k:I6 t<t.length
 ·rw[if_pos k,A6,p7,cond_true,K2,j9,j5,Nat.min_eq_left (by omega),I2,I2,Q8,j9];rfl
 ·have x:I6 t=t.length:=by omega
  rw[if_neg k,A8,j2,cond_false,I2,Q8,j9,x,List.take_length,u];rfl
abbrev rvU(n o:By)(h:Int)(p:By)(i j k l n8 m b c d e:Int)(g:By)(f:Int)(a:List Blk):=rv (.tup [gU n o h p i j k l n8 m b c d e g,.s (.int .i64 f)]) a
abbrev pvU(q:S9 × Nat):PV:=.tup [gU (uS q) (uU q) (uK q) (uN q) (uV q) (uA q 0) (uA q 1) (uA q 2) (uA q 3) (uA q 4) (uA q 5) (uA q 6) (uA q 7) (uP q) (uR q),.s (.int .i64 (uE q))]
theorem C17(s:By)(a:A2 s.length=true):∃r H,LV LF s rvU=rv r H/\r.stab [0,0] H=pvU (C0 s):=by obtain⟨H,e⟩:=Cj6 s a;exact⟨_,_,e _ _,rfl⟩
theorem AA{p:Int}(h:Er p=true):(R1 p).length<=20:=by
 obtain⟨a,b⟩:=Ol.1 h;unfold R1;split
 ·have:=Ju 19 (-p).toNat (by omega) (by omega);rw[j0];omega
 ·have:=Ju 19 p.toNat (by omega) (by omega);omega
theorem ZD(b:Int)(c:By)(v4:Int)(a:List Nat):T5 (mkH b c v4 a)=T5 (Ca9 b c v4 a):=by
 unfold mkH Ca9;cases h:ltN b 4 with
 | true=>rfl
 | false=>
  rw[if_neg (by simp),if_neg (by simp),HU (by rfl),HU (by rfl)]
theorem EI{c d a b:By}(h:smU c d a b=true):c.length<=100000000/\d.length<=100000000/\a.length<=100000000/\b.length<=100000000:=by simp only[smU,s7,ae7,and_assoc] at h;exact h
theorem By5{l m:By}{kd:Int}{a:By}{v4 b c d e f g h i j:Int}{k:By}(h0:smU l m a k=true)(h1:ltN v4 4294967296=true)(n:ok8 b c d e f g h i=true)(o:Er j=true) :
  (Cn (mkU l m kd a v4 (n8 b c d e f g h i) j k)).length<=400000000:=by
 obtain⟨r,t,u,v⟩:=EI h0;have p:=HV (TU (h0:=kd) (h1:=a) h1 n);rw[ZD] at p;have q:=AA o;unfold Cn mkU Nv;simp only;split
 ·split<;>split<;>simp only[j1,j0,x5]<;>omega
 ·simp only[j1,j0];omega
theorem Ck0(c n:By)(m:Int)(a:By)(v4 e f g h i j k l b:Int)(d:By)(h0:smU c n a d=true)(h1:ltN v4 4294967296=true)(t:ok8 e f g h i j k l=true)(x:Er b=true) :
  ∃r H,Ri LF c n m a v4 e f g h i j k l b d (λu q=>rv (.s (.str u)) q)=rv r H/\r.stab [] H = .s (.str (Cn (mkU c n m a v4 (n8 e f g h i j k l) b d))):=by
 obtain⟨D,F,G,I⟩:=EI h0;have A:=HV (TU (h0:=m) (h1:=a) h1 t);have C:=AA x;have key:∀T:By,Ri LF c n m a v4 e f g h i j k l b d (λu q=>rv (.s (.str u)) q)=rv (.s (.str T)) [bU c n m a v4 e f g h i j k l b d]->T=Cn (mkU c n m a v4 (n8 e f g h i j k l) b d)->∃r H,Ri LF c n m a v4 e f g h i j k l b d (λu q=>rv (.s (.str u)) q)=rv r H/\r.stab [] H = .s (.str (Cn (mkU c n m a v4 (n8 e f g h i j k l) b d))):=λT y z=>⟨_,_,y,by rw[<-z];rfl⟩
 have w:A2 a.length=true:=M5;cases o:E7 c with
 | false=>
  refine key (c++[58]++d) ?_ ?_
  ·unfold Ri;rw[o,J7 (by omega)];simp only[vl,cond_true,p7];rw[J7 (by simp;omega)];rfl
  ·unfold Cn mkU;simp only[o];simp
 | true=>
  have B:=A;by_cases v:n=[]
  ·subst v;have e0:(([]:By)==([]:List UInt8))=true:=rfl;by_cases p:b=-1
   ·subst p;refine key (((c++[58,47,47])++T5 (mkH m a v4 (n8 e f g h i j k l)))++d) ?_ ?_
    ·unfold Ri;rw[o,w,h1,t,e0];simp only[vl,cond_true,cond_false,j2,show((-1:Int)!=-1)=false from rfl]
     repeat rw[J7 (by first|omega|(simp only[j1,j0,x5];omega))]
     rfl
    ·unfold Cn mkU Nv;simp[o,ZD]
   ·refine key (((c++[58,47,47])++T5 (mkH m a v4 (n8 e f g h i j k l)))++([58]++R1 b)++d) ?_ ?_
    ·unfold Ri;rw[o,w,h1,t,x,e0];simp only[vl,cond_true,cond_false,j2,show(b !=-1)=true by simpa using p]
     repeat rw[J7 (by first|omega|(simp only[j1,j0,x5];omega))]
     rfl
    ·unfold Cn mkU Nv;simp[o,ZD,p]
  ·have e0:(n==([]:List UInt8))=false:=by simpa using v
   by_cases p:b=-1
   ·subst p;refine key (((c++[58,47,47])++(n++[64])++T5 (mkH m a v4 (n8 e f g h i j k l)))++d) ?_ ?_
    ·unfold Ri;rw[o,w,h1,t,e0];simp only[vl,cond_true,cond_false,j2,p7,show((-1:Int)!=-1)=false from rfl]
     repeat rw[J7 (by first|omega|(simp only[j1,j0,x5];omega))]
     rfl
    ·unfold Cn mkU Nv;simp[o,ZD,v]
   ·refine key (((c++[58,47,47])++(n++[64])++T5 (mkH m a v4 (n8 e f g h i j k l)))++([58]++R1 b)++d) ?_ ?_
    ·unfold Ri;rw[o,w,h1,t,x,e0];simp only[vl,cond_true,cond_false,j2,p7,show(b !=-1)=true by simpa using p]
     repeat rw[J7 (by first|omega|(simp only[j1,j0,x5];omega))]
     rfl
    ·unfold Cn mkU Nv;simp[o,ZD,p,v]
theorem Ct7{a:Int}{k:Nat}(d:k<4):(a==(k:Int))=(k==(if ltN a 4 then a.toNat else 4)):=by
 rw[s9,beq_iff_eq,beq_iff_eq];cases h:ltN a 4 with
 | true=>
  obtain⟨b,c⟩:=E3.1 h;rw[if_pos rfl];omega
 | false=>
  rw[if_neg (by simp)];have:¬(0<=a/\a<4):=λq=>by
   have:=E3.2 q;rw[h] at this;cases this
  omega
theorem SJ(a b:By):(a==b)=(b==a):=by rw[s9,beq_iff_eq,beq_iff_eq];exact eq_comm
theorem Ct5(a b:Int):(a==b)=(b==a):=by rw[s9,beq_iff_eq,beq_iff_eq];exact eq_comm
theorem Fd(a b:Nat):((a:Int)==(b:Int))=(b==a):=by rw[s9,beq_iff_eq,beq_iff_eq];omega
theorem Bm7{F G:By}{Q:Int}{B:By}{v4 a b c d f g h i C:Int}{D:By}{p:S9 × Nat}(R:ltN v4 4294967296=true)(S:ok8 a b c d f g h i=true)(V:XJ p.1) :
  ((F==(uS p))&&((G==(uU p))&&((Q==(uK p))&&((B==(uN p))&&((v4==(uV p))&&((a==(uA p 0))&&((b==(uA p 1))&&((c==(uA p 2))&&((d==(uA p 3))&&((f==(uA p 4))&&((g==(uA p 5))&&((h==(uA p 6))&&((i==(uA p 7))&&((C==(uP p))&&((D==(uR p))&&true)))))))))))))))=eqU p.1 (mkU F G Q B v4 (n8 a b c d f g h i) C D):=by
 obtain⟨⟨s,u,⟨k,n,v,l⟩,q,t⟩,e⟩:=p;obtain⟨P,_⟩:=V;obtain⟨H,I,J,K,L,M,N,O,rfl⟩:=eq8 P.v6.1;obtain⟨j,m,o,r,x,y,z,A,rfl,rfl,rfl,rfl,rfl,rfl,rfl,rfl,_⟩:=Wb S;obtain⟨w,rfl⟩:=y9 (E3.1 R).1;have T:k<4:=P.kd;have U:(([H,I,J,K,L,M,N,O]:List Nat)==[j,m,o,r,x,y,z,A])=((H==j)&&((I==m)&&((J==o)&&((K==r)&&((L==x)&&((M==y)&&((N==z)&&((O==A)&&true)))))))):=rfl;simp only[eqU,eqH,mkU,Ca9,n8,j9,U,aa8,af8];rw[Ct7 T,SJ F,SJ G,SJ B,SJ D,Ct5 C,Fd w,Fd j,Fd m,Fd o,Fd r,Fd x,Fd y,Fd z,Fd A];simp only[Bool.and_assoc,Bool.and_true];rfl
theorem Ba9(m n:By)(kd:Int)(j:By)(v4 a b c d f g h i k:Int)(l:By)(u:smU m n j l=true)(o:ltN v4 4294967296=true)(q:ok8 a b c d f g h i=true)(v:Er k=true) :
  ∃r H,EM LF m n kd j v4 a b c d f g h i k l (λz w=>rv (.s (.bool z)) w)=rv r H/\r.stab [] H = .s (.bool (Dn (mkU m n kd j v4 (n8 a b c d f g h i) k l))):=by
 have A:=By5 (kd:=kd) u o q v;unfold EM Dn;rw[u,o,q,v];simp only[vl,cond_true];rw[M5,cond_true];have x:=Ab2 (Cn (mkU m n kd j v4 (n8 a b c d f g h i) k l));rw[Bm7 o q x];generalize C0 (Cn (mkU m n kd j v4 (n8 a b c d f g h i) k l))=p;obtain⟨y,e⟩:=p;by_cases t:e=0
 ·subst t;exact⟨_,_,rfl,rfl⟩
 ·rw[show(uE (y,e)==(0:Int))=false by simpa using t,show(e==0)=false by simpa using t];exact⟨_,_,rfl,rfl⟩
end
section
open Go Go.Proofs Go.Sort
set_option maxRecDepth 100000
theorem XC:B0 a8 GX 73 Ue:=by
 refine B0.fix (pf:=FZ) _ (I3 (fn:=Tryz.f73) (by kernel_rfl) (by kernel_rfl) (by kernel_rfl) ?_);intro args ret j h;unfold FZ at h;split at h
 ·rename_i s c;obtain⟨l,h⟩:=C1 h;obtain⟨m,h⟩:=C1 h;obtain⟨rfl,rfl⟩:=I9 h;refine⟨rfl,rfl,λC o a p w k n d b=>?_⟩;obtain⟨U,V,rfl,f,g⟩:=b.arr2;obtain⟨i,rfl,rfl⟩:=f.inv_str;obtain rfl:=g.inv_int;refine(Any.strings_IndexByte Tryz.lays137 i c w).mono ?_;rintro e w' ⟨rfl,rfl⟩;exact⟨_,rfl,ag8 _ _,VP.mk_int _ _⟩
 ·cases h
theorem Bl6:B0 a8 GX 51 QD:=by
 refine B0.fix (pf:=EV) _ (I3 (fn:=Tryz.f51) (by kernel_rfl) (by kernel_rfl) (by kernel_rfl) ?_);intro args ret l h;unfold EV at h;split at h
 ·rename_i n;obtain⟨b,h⟩:=C1 h;obtain⟨rfl,rfl⟩:=I9 h;refine⟨rfl,rfl,λC o a p w m c i g=>?_⟩;obtain⟨U,rfl,j⟩:=g.arr1;obtain rfl:=j.inv_int;obtain⟨d,f⟩:=Ol.1 b;refine(Any.strconv_Itoa Tryz.laysM171 n (by omega) (by omega) w (B79 c a)).mono ?_;rintro e w' ⟨rfl,k,os,rfl⟩;refine⟨_,rfl,(Oa w k).trans (show RowKit.Below w.heap.size _ _ from GP (w.drewN k) os),?_⟩;have:Lib.itoa n=R1 n:=by
   unfold Lib.itoa R1;split
   ·rw[show n.natAbs=(-n).toNat by omega]
   ·rfl
  rw[this];exact VP.mk_str _
 ·cases h
theorem Cn0:B0 a8 GX 58 XP:=by
 refine B0.fix (pf:=Pq) _ (I3 (fn:=ai5) (by kernel_rfl) (by kernel_rfl) (by kernel_rfl) ?_);intro args ret A h;unfold Pq at h;split at h
 ·rename_i s p;obtain⟨i,h⟩:=C1 h;obtain⟨k,h⟩:=C1 h;obtain⟨l,h⟩:=C1 h;obtain⟨rfl,rfl⟩:=I9 h;refine⟨rfl,rfl,λC G m I w B F r q=>?_⟩;obtain⟨U,V,rfl,y,z⟩:=q.arr2;obtain⟨g,rfl,rfl⟩:=y.inv_str;obtain⟨d,rfl,a⟩:=z.inv_str;have H:=M3 i;have c:p=isl:=by simpa[Zz] using k
  have D:=ac3 l;have f:=zero_of_info (P:=a8) (t:=Tryz.lays153_ren.t 116) (v:=.agg (Array.replicate 256 (.bool false))) (n:=256) (by kernel_rfl);subst c;have u:d.size=3:=by have:=ah6 d;rw[a] at this;exact this
  have x:=ah6 g;refine(Any.strings_IndexAny_long Tryz.lays153 f.1 f.2 g d w (by omega) (by omega) (by omega) (by omega) ?_).mono ?_
  ·rw[a];intro j b o;have:b∈isl:=List.mem_of_getElem? o
   revert b
   simp only[isl,p9,ae4,or_false];rintro b _ (rfl|rfl|rfl)<;>decide
  ·rintro e w' ⟨rfl,rfl⟩;rw[a];exact⟨_,rfl,((ag8 _ _).alloc (x9 _) _).alloc (by simp) _,VP.mk_int _ _⟩
 ·cases h
end
section
open Go Go.Proofs
set_option maxRecDepth 100000
theorem WG{R:Type}{a:Bool->Option R}(n:Int):WF LF n a=a (ltI 8 n):=rfl
theorem Ak0{R:Type}{a:Bool->Option R}(r:Int):KL LF r a=a (KM r):=by
 have b:ltN r 55296=(!ltI r 0&&ltI r 55296):=by
  rw[s9,E3,s7,ab7,Ov,Lr];omega
 have c:(ltI 57343 r&&ltN r 1114112)=(ltI 57343 r&&!ltI 1114111 r):=by
  rw[s9,s7,s7,E3,ab7,Ov,Lr];omega
 unfold KL Ks KM;rw[b,c];cases ltI r 0<;>cases ltI r 55296<;>cases ltI 57343 r<;>cases ltI 1114111 r<;>rfl
theorem Da5(b:UInt8):j8 isl b=irn (b.toNat:Int):=by
 by_cases a:b=47
 ·subst a;rfl
 ·by_cases d:b=63
  ·subst d;rfl
  ·by_cases f:b=35
   ·subst f;rfl
   ·have n:∀c:UInt8,b≠c->(c==b)=false:=λc h=>by rw[beq_eq_false_iff_ne];exact ag7 h
    have e:∀c:UInt8,b≠c->¬(b.toNat:Int)=(c.toNat:Int):=λc h q=>h (ac6.1 (by omega))
    have g:¬(b.toNat:Int)=47:=e 47 a;have i:¬(b.toNat:Int)=63:=e 63 d;have j:¬(b.toNat:Int)=35:=e 35 f;unfold irn;rw[if_neg g,if_neg i,if_neg j];simp[isl,j8,n _ a,n _ d,n _ f]
theorem Dj3{l:By}{x:UInt8}(h:∀b∈l,b.toNat<128)(d:128<=x.toNat):j8 l x=-1:=by
 have e:=Lm x l;have c:l.contains x=false:=by
  rw[aa4];intro a;have:=h x (by simpa using a);omega
 rw[c,p7,Lr] at e;have:=ah3 l x;omega
theorem B72{r:Int}(g:KM r=true)(h:128<=r):2<=(ab5 r).data.toList.length/\(ab5 r).data.toList.length<=4/\128<=((ab5 r).data.toList.getD ((ab5 r).data.toList.length-1) 0).toNat:=by
 have a:Utf8.valid r=true:=by
  rw[validRune_eq];unfold validRune;simp only[KM,ab0,s7,E3,Lr] at g;exact decide_eq_true (by omega)
 obtain⟨b,c,d⟩:=encode_facts r a h;have f:=ah6 (ab5 r);rw[<-f];refine⟨b,c,?_⟩;have e:=d (by omega);rw[List.getD_eq_getElem?_getD,ad9 (by omega),ah4];exact e
theorem Bx7(r:Int)(h:ltN r 1114112=true):∃v H,KD LF r (λk=>rv (.s (.int .i64 k)) []) (λk I=>rv (.s (.int .i64 k)) [.iter [47,63,35] I])=rv v H/\v.stab [] H = .s (.int .i64 (irn r)):=by
 obtain⟨A,M⟩:=E3.1 h;have B:=C6;unfold KD;rw[A6,p7,cond_true];unfold Kn;by_cases p:r<128
 ·obtain⟨n,rfl⟩:=y9 A;have e:wu8 (n:Int)=(n:Int):=L9;have f:u8n (n:Int)=y5 n:=by unfold u8n;simp
  have g:(((y5 n).toNat:Nat):Int)=(n:Int):=by simp;omega
  rw[A8,cond_true,e,E9,f];have o:=Da5 (y5 n);rw[g] at o;rw[<-o];exact⟨_,_,rfl,rfl⟩
 ·rw[A6,cond_false,B92 (by omega)];by_cases t:r=65533
  ·subst t;obtain⟨m,i⟩:∃m,LF=m+1+1+1+1:=⟨LF-4,by omega⟩
   have w:x4 ⟨w6 ([47,63,35]:List UInt8)⟩ 0=(47,1):=rfl;have x:x4 ⟨w6 ([47,63,35]:List UInt8)⟩ 1=(63,1):=rfl;have y:x4 ⟨w6 ([47,63,35]:List UInt8)⟩ 2=(35,1):=rfl;have go:∀(R:Type) (c:Int->Nat->Option R) (a:Nat->Option R),Z3 LF LF 0 c a=a 3:=λR c a=>by
    have L:Z3 LF (m+1) 3 c a=a 3:=by rw[Ek];rfl
    have K:Z3 LF (m+1+1) 2 c a=a 3:=by rw[Ek];unfold Dl;rw[y];exact L
    have J:Z3 LF (m+1+1+1) 1 c a=a 3:=by rw[Ek];unfold Dl;rw[x];exact K
    have d:Z3 LF (m+1+1+1+1) 0 c a=a 3:=by rw[Ek];unfold Dl;rw[w];exact J
    rw[<-i] at d;exact d
   rw[go];exact⟨_,_,rfl,rfl⟩
  ·rw[show(r==(65533:Int))=false by simpa using t,cond_false];cases F:KM r with
   | false=>exact⟨_,_,rfl,rfl⟩
   | true=>
    obtain⟨O,P,G⟩:=B72 F (by omega);simp only[vl,j2,cond_false];generalize (ab5 r).data.toList=l at *;obtain⟨m,i⟩:∃m,LF=m+1:=⟨LF-1,by omega⟩
    have z:A1 ((l.length:Int)-1)=((l.length-1:Nat):Int):=by rw[A7];omega
    have go:∀(R:Type) (c:Int->Option R) (a:Unit->Option R),a ()=c (-1)->Gd LF LF l ((l.length-1:Nat):Int) c a=c (-1):=λR c a C=>by
     have d:Gd LF (m+1) l ((l.length-1:Nat):Int) c a=c (-1):=by
      rw[CW];unfold Ml;by_cases N:l.length=4
      ·rw[A6];exact C
      ·rw[A8,E9,E9,D1,D1];simp only[vl,cond_true];have D:(([47,63,35]:List UInt8).getD (l.length-1) 0).toNat<128:=by
        have:l.length=2\/l.length=3:=by omega
        rcases this with q|q<;>rw[q]<;>decide
       have j:((((([47,63,35]:List UInt8).getD (l.length-1) 0).toNat:Nat):Int)!=(((l.getD (l.length-1) 0).toNat:Nat):Int))=true:=by
        rw[bne_iff_ne];omega
       have f:A1 (((l.length-1:Nat):Int)+1)=((l.length:Nat):Int):=by rw[A7];omega
       have g:cut ([47,63,35]:List UInt8) ((l.length:Nat):Int) 3=([47,63,35]:List UInt8).drop l.length:=by
        rw[show(3:Int)=((3:Nat):Int) from rfl,Hy];rfl
       have u:=(l.getD (l.length-1) 0).toNat_lt;rw[j,cond_true,f,I2,cond_true,g,E0 (by simp;omega),cond_true,E9,cond_true,It,Dj3 (λb u=>?_) G]
       ·rfl
       ·have:=x3 u;simp only[p9,ae4,or_false] at this;rcases this with rfl|rfl|rfl<;>decide
     rw[<-i] at d;exact d
    rw[z,go _ _ _ rfl];exact⟨_,_,rfl,rfl⟩
theorem B14:B0 a8 GX 76 Yj:=by
 refine B0.fix (pf:=Rs) _ (I5 [] (C₀:=Zc LF) (M0.ok (l:=[]) rfl trivial) (I1 rfl (by kernel_rfl)) follows ?_);intro args ret a h;unfold Rs at h;split at h
 ·rename_i n;obtain⟨rfl,rfl⟩:=I9 h;have e:=(A91 LF noY () 0 n).trans (WG n);exact⟨rfl,rfl,rfl,1,_,_,e,rfl⟩
 ·cases h
theorem Cn8:B0 a8 GX 101 GG:=by
 refine B0.fix (pf:=Yp) _ (I5 [] (C₀:=Bt LF) (M0.ok (l:=[]) rfl trivial) (I1 rfl (by kernel_rfl)) follows ?_);intro args ret a h;unfold Yp at h;split at h
 ·rename_i n;obtain⟨rfl,rfl⟩:=I9 h;have e:=(B00 LF noY () 0 n).trans (Ak0 n);exact⟨rfl,rfl,rfl,1,_,_,e,rfl⟩
 ·cases h
theorem Cn3:B0 a8 GX 77 Ns:=λargs ret a h=>by
 have:L6 (Ns args)=none:=by unfold Ns MC;split<;>rfl
 rw[this] at h;cases h
theorem Cn2:B0 a8 GX 75 GA:=by
 refine B0.fix (pf:=Yi) _ (I5 [] (C₀:=L2 LF) (M0.ok (l:=[(73,Ue),(101,GG)]) rfl ⟨XC,Cn8,trivial⟩) (I1 rfl (by kernel_rfl)) follows ?_);intro args ret f h;unfold Yi at h;split at h
 ·rename_i p r;obtain⟨a,h⟩:=C1 h;obtain⟨b,h⟩:=C1 h;obtain⟨rfl,rfl⟩:=I9 h;obtain rfl:p=isl:=by simpa[Zz] using a
  obtain⟨d,H,e,c⟩:=Bx7 r b;exact⟨rfl,rfl,rfl,1,d,H,(Bx6 LF noY () 0 r).trans e,c⟩
 ·cases h
theorem KG:∀(w:Nat) (l:By),w<=l.length->(∀i,i<w->L4 (l.getD i 0)=false)->I6 l=w+I6 (l.drop w)
 | 0,l,_,_=>by simp
 | w+1,[],h,_=>by simp at h
 | w+1,b::l,h,hb=>by
  have a:=hb 0 (by omega);rw[aa8] at a;have d:=KG w l (by simpa using h) (λi c=>by have:=hb (i+1) (by omega);rwa [af8] at this);rw[Ho,a,ac7];simp only[k9,if_false];omega
theorem Ai0(s:By)(O:s.length<=8):∀(f m n:Nat),s.length-m<=f->m<=s.length->f<n->∃H t,∀(R:Type) (j:Int->List Blk->Option R) (k:By->Nat->Option R),
  Km LF n s m j k=if I6 (s.drop m)<(s.drop m).length then j ((m+I6 (s.drop m):Nat):Int) H else k s t:=by
 intro f
 induction f with
 | zero=>
  intro m n G K L;obtain⟨n,rfl⟩:∃q,n=q+1:=⟨n-1,by omega⟩
  refine⟨[],m,λR j k=>?_⟩;rw[Bk];unfold Y0;rw[decide_eq_false (by omega),cond_false,v7 (by omega),if_neg (by simp)]
 | succ f z=>
  intro m n G K L;obtain⟨n,rfl⟩:∃q,n=q+1:=⟨n-1,by omega⟩
  by_cases a:m<s.length
  ·have F:=Lib.decodeL_drop ⟨s.toArray⟩ m;have h:x4 ⟨w6 s⟩ m=aa5 (s.drop m):=by rw[<-F]
   have p:=D2 s m a;have N:(s.drop m).length=s.length-m:=c9;generalize M:s.getD m 0=b at p;by_cases o:b.toNat<128
   ·have y:aa5 (s.drop m)=(b.toNat,1):=by rw[p];exact Lib.decodeL_ascii b _ o
    have l:=Da6 b;cases g:L4 b with
    | true=>
     rw[g,j2] at l;have u:I6 (s.drop m)=0:=by rw[p,Ho,g];rfl
     refine⟨[Blk.iter s (m+1)],m,λR j k=>?_⟩;rw[Bk];unfold Y0;rw[decide_eq_true a,h,y,u,P9];simp only[vl,cond_true];rw[show Zz ([47,63,35]:List UInt8)=true from rfl,cond_true,E3.2 ⟨by omega,by omega⟩,cond_true,l];rfl
    | false=>
     rw[g,p7] at l;have u:I6 (s.drop m)=I6 (s.drop (m+1))+1:=by rw[p,Ho,g];rfl
     have v:(s.drop (m+1)).length=s.length-(m+1):=c9;obtain⟨H,t,e⟩:=z (m+1) n (by omega) (by omega) (by omega);refine⟨H,t,λR j k=>?_⟩;rw[Bk];unfold Y0;rw[decide_eq_true a,h,y];simp only[vl,cond_true];rw[show Zz ([47,63,35]:List UInt8)=true from rfl,cond_true,E3.2 ⟨by omega,by omega⟩,cond_true,l,j2,cond_false,e,u];by_cases q:I6 (s.drop (m+1))<(s.drop (m+1)).length
     ·rw[if_pos q,P9,show m+1+I6 (s.drop (m+1))=m+(I6 (s.drop (m+1))+1) by omega]
     ·rw[if_neg q,F5]
   ·obtain⟨A,B,C,D,x⟩:=C93 b (s.drop (m+1)) (by omega);rw[<-p] at A B C D x;have v:(s.drop (m+1)).length=s.length-(m+1):=c9;generalize aa5 (s.drop m)=d at *;obtain⟨c,w⟩:=d;simp only at A B C D x;have r:=KG w (s.drop m) (by omega) (λi I=>Ch3 (x i I));rw[List.drop_drop] at r;have J:(s.drop (m+w)).length=s.length-(m+w):=c9;have l:ltI (irn (c:Int)) 0=true:=by rw[B92 (by omega)];rfl
    obtain⟨H,t,e⟩:=z (m+w) n (by omega) (by omega) (by omega);refine⟨H,t,λR j k=>?_⟩;rw[Bk];unfold Y0;rw[decide_eq_true a,h];simp only[vl,cond_true];rw[show Zz ([47,63,35]:List UInt8)=true from rfl,cond_true,E3.2 ⟨by omega,by omega⟩,cond_true,l,j2,cond_false,e,r];by_cases q:I6 (s.drop (m+w))<(s.drop (m+w)).length
    ·rw[if_pos q,P9,show m+w+I6 (s.drop (m+w))=m+(w+I6 (s.drop (m+w))) by omega]
    ·rw[if_neg q,F5]
  ·refine⟨[],m,λR j k=>?_⟩;rw[Bk];unfold Y0;rw[decide_eq_false a,cond_false,v7 (by omega),if_neg (by simp)]
theorem Bx4(s:By)(h:s.length<=8):∃r H,VZ LF s (λc a=>rv (.s (.int .i64 c)) a)=rv r H/\r.stab [] H = .s (.int .i64 (aa6 s isl)):=by
 have b:=C6;obtain⟨H,d,e⟩:=Ai0 s h s.length 0 LF (by omega) (by omega) (by omega);unfold VZ;rw[A6,cond_false,e,Jb,ad3,ae8];by_cases q:I6 s<s.length
 ·rw[if_pos q,if_pos q];exact⟨_,_,rfl,rfl⟩
 ·rw[if_neg q,if_neg q];exact⟨_,_,rfl,rfl⟩
theorem Cn1:B0 a8 GX 58 XQ:=by
 refine B0.fix (pf:=Pr) _ (I5 [] (C₀:=Gj LF) (M0.ok (l:=[(75,GA),(76,Yj),(77,Ns)]) rfl ⟨Cn2,B14,Cn3,trivial⟩) (I1 rfl (by kernel_rfl)) follows ?_);intro args ret f h;unfold Pr at h;split at h
 ·rename_i s p;obtain⟨a,h⟩:=C1 h;obtain⟨b,h⟩:=C1 h;obtain⟨rfl,rfl⟩:=I9 h;obtain rfl:p=isl:=by simpa[Zz] using a
  obtain⟨d,H,e,c⟩:=Bx4 s (ac3 b);exact⟨rfl,rfl,rfl,1,d,H,(Bx3 LF noY () 0 s).trans e,c⟩
 ·cases h
theorem Dm{c:Bool}{t:Tr}(h:c=true):L6 (.need c t)=L6 t:=by subst h;rfl
theorem C54:B0 a8 GX 58 RO:=λargs ret c h=>by
 have a:=Cn0 args ret c;have b:=Cn1 args ret c;unfold RO at h;unfold XP at a;unfold XQ at b;generalize C5 [[0],[0]] args=l at h a b;unfold XO at h;split at h
 ·rename_i s p;obtain⟨e,h⟩:=C1 h;obtain⟨d,h⟩:=C1 h;by_cases f:s.length<=8
  ·refine b ?_;unfold Pr;rw[Dm d,Dm (af3 f)];exact h
  ·refine a ?_;unfold Pq;rw[Dm e,Dm d,Dm (af3 (by omega))];exact h
 ·cases h
section
theorem C38:B0 a8 GX 112 Bd2:=xf [] (SW LF) FC rfl ⟨Bb9,trivial⟩ rfl (by kernel_rfl) follows λargs=>by
 unfold FC;split
 ·rename_i s p;exact λa=>⟨rfl,rfl,rfl,_,_,(Ca4 LF noY () 0 s p).trans (Aw8 s p a),rfl⟩
 ·trivial
theorem Dg9:B0 a8 GX 83 B39:=xf [] (Ar2 LF) RS rfl ⟨C38,trivial⟩ rfl (by kernel_rfl) follows λargs=>by
 unfold RS;split
 ·rename_i s p;exact λa=>⟨rfl,rfl,rfl,_,_,(C11 LF noY () 0 s p).trans (By8 s p a),rfl⟩
 ·trivial
theorem XD:B0 a8 GX 44 DN:=xf [] (TH LF) GD rfl trivial rfl (by kernel_rfl) follows λargs=>by
 unfold GD;split
 ·rename_i s;exact⟨rfl,rfl,rfl,_,_,(Cj5 LF noY () 0 s).trans (Ba2 s ),rfl⟩
 ·trivial
theorem Xr:B0 a8 GX 22 Ps:=xf [] (TJ LF) GE rfl ⟨XD,trivial⟩ rfl (by kernel_rfl) follows λargs=>by
 unfold GE;split
 ·rename_i s;exact⟨rfl,rfl,rfl,_,_,(Cj8 LF noY () 0 s).trans (Ba7 s ),rfl⟩
 ·trivial
theorem Cn6:B0 a8 GX 26 An9:=xf [] (Ar3 LF) RV rfl ⟨XD,trivial⟩ rfl (by kernel_rfl) follows λargs=>by
 unfold RV;split
 ·rename_i n o j k v4 a b c d f g h i l m;exact(let⟨r,H,e,q⟩:=C20 n o j k v4 a b c d f g h i l m ; ⟨rfl,rfl,rfl,r,H,(C19 LF noY () 0 n o j k v4 a b c d f g h i l m).trans e,q⟩)
 ·trivial
theorem Dh2:B0 a8 GX 55 B43:=xf [] (Ad LF) RW rfl ⟨XC,trivial⟩ rfl (by kernel_rfl) follows λargs=>by
 unfold RW;split
 ·rename_i s;exact λa=>⟨rfl,rfl,rfl,_,_,(C22 LF noY () 0 s).trans (Bz8 s a),rfl⟩
 ·trivial
theorem Dh0:B0 a8 GX 82 B41:=xf [0,0] (Sn LF) RT rfl trivial rfl (by kernel_rfl) follows λargs=>by
 unfold RT;split
 ·rename_i s;exact λa=>⟨rfl,rfl,rfl,_,_,(C14 LF noY () 0 s).trans (Bz1 s a),rfl⟩
 ·trivial
theorem Cn5:B0 a8 GX 60 XS:=xf [0,0] (X3 LF) Ym rfl ⟨Bl7,XA,XC,Cl6,Dg9,Dh0,XD,trivial⟩ rfl (by kernel_rfl) follows λargs=>by
 unfold Ym;split
 ·rename_i o p k l v4 b c d f g h i j m n a;exact λt=>λu=>λv=>λw=>λx=>(let⟨r,H,e,q⟩:=Bz5 o p k l v4 b c d f g h i j m n a t u v w x;⟨rfl,rfl,rfl,r,H,(Bz4 LF noY () 0 o p k l v4 b c d f g h i j m n a).trans e,q⟩)
 ·trivial
theorem Dh1:B0 a8 GX 40 B42:=xf [0,0] (So LF) RU rfl ⟨Cm9,Dh2,Cl9,Xr,Cl2,C54,XA,Cn5,trivial⟩ rfl (by kernel_rfl) follows λargs=>by
 unfold RU;split
 ·rename_i s;exact λa=>(let⟨r,H,e,q⟩:=C17 s a;⟨rfl,rfl,rfl,r,H,(C16 LF noY () 0 s).trans e,q⟩)
 ·trivial
theorem C56:B0 a8 GX 42 Bf0:=xf [] (TK LF) GF rfl ⟨Xr,Cl5,Bl6,trivial⟩ rfl (by kernel_rfl) follows λargs=>by
 unfold GF;split
 ·rename_i n o j k v4 a b c d f g h i l m;exact λp=>λt=>λu=>λv=>(let⟨r,H,e,q⟩:=Ck0 n o j k v4 a b c d f g h i l m p t u v;⟨rfl,rfl,rfl,r,H,(Cj9 LF noY () 0 n o j k v4 a b c d f g h i l m).trans e,q⟩)
 ·trivial
theorem PG:B0 a8 GX 16 Yo:=xf [] (Ze LF) Ru rfl ⟨C56,Dh1,trivial⟩ rfl (by kernel_rfl) follows λargs=>by
 unfold Ru;split
 ·rename_i n o j k v4 a b c d f g h i l m;exact λp=>λt=>λu=>λv=>(let⟨r,H,e,q⟩:=Ba9 n o j k v4 a b c d f g h i l m p t u v;⟨rfl,rfl,rfl,r,H,(Ba8 LF noY () 0 n o j k v4 a b c d f g h i l m).trans e,q⟩)
 ·trivial
end
end
section
open Go Go.Proofs Go.RowKit
set_option maxRecDepth 100000
abbrev Jl(m n:ByteArray)(i:Int)(j:ByteArray)(v4 a b c d e f g h k:Int)(l:ByteArray):Array Value:=#[.string m,.string n,.int .i64 i,.string j,.int .u32 v4,.int .u16 a,.int .u16 b,.int .u16 c,.int .u16 d,.int .u16 e,.int .u16 f,.int .u16 g,.int .u16 h,.int .i64 k,.string l]
abbrev Rf:ByteArray:=⟨#[104,116,116,112]⟩
abbrev Tp:ByteArray:=⟨#[104,116,116,112,115]⟩
abbrev sWs:ByteArray:=⟨#[119,115]⟩
abbrev Bx1:ByteArray:=⟨#[119,115,115]⟩
abbrev Jv:MapEntry:={ key:=.string Rf,val:=.string Tp,born:=0 }
abbrev Zl:MapEntry:={ key:=.string sWs,val:=.string Bx1,born:=1 }
theorem Uh(w:World)(o:Obj):(w.alloc o).heap[w.heap.size]? = some o:=(MapKept.heap_alloc w o).1
theorem MH(w:World)(o p:Obj):({ (w.alloc o) with heap:=(w.alloc o).heap.setIfInBounds w.heap.size p }:World)=w.alloc p:=by
 have e:(w.heap.push o).setIfInBounds w.heap.size p=w.heap.push p:=by
  apply ah1.1;rw[Array.toList_setIfInBounds,ag3,ag3,<-x7,List.set_append_right _ _ (x9 _),ag6];rfl
 show({ w with heap:=(w.heap.push o).setIfInBounds w.heap.size p }:World) = { w with heap:=w.heap.push p }
 rw[e]
theorem Db1{P:Program}{t k e:TypeId}(b:P.underlying t=some (.map k e))(a:P.underlying k=some .string)(w:World):(af0 t (.map (some w.heap.size)) (.string Rf) (.string Tp)).run P (w.alloc (.map #[] 0)) = .ok () (w.alloc (.map #[Jv] 1)):=by rw[run_mapUpdate_first (w:=w.alloc (.map #[] 0)) t k e w.heap.size 0 Rf (.string Tp) b a (Uh w _),MH]
theorem Db2{P:Program}{t k e:TypeId}(f:P.underlying t=some (.map k e))(b:P.underlying k=some .string)(w:World):(af0 t (.map (some w.heap.size)) (.string sWs) (.string Bx1)).run P (w.alloc (.map #[Jv] 1)) = .ok () (w.alloc (.map #[Jv,Zl] 2)):=by have a:=Uh w (.map #[Jv] 1);have d:ag0 .string (.string sWs) (#[Jv]:Array MapEntry).toList 0=some none:=rfl;have c:(ai3 false 10000 k (.string sWs)).run P (w.alloc (.map #[Jv] 1)) = .ok () (w.alloc (.map #[Jv] 1)):=af6 (k:=.string sWs) b (by simp[aj0]) false 9999;simp only[af0,Sem.run_bind,run_underlying f,ac1 a,c,ac9 b d,MapKept.run_setObj_map _ a,af7];exact congrArg (Result.ok ()) (MH w (.map #[Jv] 1) (.map #[Jv,Zl] 2))
theorem Ca6{P:Program}{t k e:TypeId}(g:P.underlying t=some (.map k e))(c:P.underlying k=some .string)(w:World):(ad0 t (.map (some w.heap.size)) (.string Rf) false).run P (w.alloc (.map #[Jv,Zl] 2)) = .ok (.string Tp) (w.alloc (.map #[Jv,Zl] 2))/\(ad0 t (.map (some w.heap.size)) (.string sWs) false).run P (w.alloc (.map #[Jv,Zl] 2)) = .ok (.string Bx1) (w.alloc (.map #[Jv,Zl] 2)):=by
 have d:=Uh w (.map #[Jv,Zl] 2);have h:ag0 .string (.string Rf) (#[Jv,Zl]:Array MapEntry).toList 0=some (some (0,.string Tp)):=rfl;have a:ag0 .string (.string sWs) (#[Jv,Zl]:Array MapEntry).toList 0=some (some (1,.string Bx1)):=rfl;have f:∀s b,(ai3 b 10000 k (.string s)).run P (w.alloc (.map #[Jv,Zl] 2)) = .ok () (w.alloc (.map #[Jv,Zl] 2)):=λs b=>af6 (k:=.string s) c (by simp[aj0]) b 9999
 constructor
 ·simp[ad0,run_underlying g,ac1 d,f,ac9 c h,af7]
 ·simp[ad0,run_underlying g,ac1 d,f,ac9 c a,af7]
theorem size_alloc(w:World)(o:Obj):(w.alloc o).heap.size=w.heap.size+1:=ah8 ..
theorem ZM(w:World)(A B C D:Obj):((((w.alloc A).alloc B).alloc C).alloc D).heap[w.heap.size+1]? = some B:=by
 have e:∀(w:World) (o:Obj) (i:Nat),i<w.heap.size->(w.alloc o).heap[i]? = w.heap[i]?:=λw o i h=>by
  show(w.heap.push o)[i]? = w.heap[i]?;rw[Array.getElem?_push,if_neg (Nat.ne_of_lt h)]
 rw[e _ _ _ (by simp only[size_alloc];omega),e _ _ _ (by simp only[size_alloc];omega),<-size_alloc w A];exact Uh (w.alloc A) B
theorem Da4{Γ:Ctx}{sh:Nat->Option Shp}{w:World}{V:Value}{I J:By}{D:Int}{F:By}{v4 t u v x y z B C G:Int}{H:By}(h:VP Γ sh w (gU I J D F v4 t u v x y z B C G H) V) :
  ∃d e b c:ByteArray,I=d.data.toList/\J=e.data.toList/\F=b.data.toList/\H=c.data.toList/\V = .agg (Jl d e D b v4 t u v x y z B C G c):=by
 obtain⟨A,rfl,hA,a⟩:=h.inv_agg;have hs:A.size=15:=hA;obtain⟨_,e0,T⟩:=a 0 (show 0<15 by omega);obtain⟨_,K,U⟩:=a 1 (show 1<15 by omega);obtain⟨_,L,W⟩:=a 2 (show 2<15 by omega);obtain⟨_,M,X⟩:=a 3 (show 3<15 by omega);obtain⟨_,N,Y⟩:=a 4 (show 4<15 by omega);obtain⟨_,O,Z⟩:=a 5 (show 5<15 by omega);obtain⟨_,P,q6⟩:=a 6 (show 6<15 by omega);obtain⟨_,Q,q7⟩:=a 7 (show 7<15 by omega);obtain⟨_,R,q8⟩:=a 8 (show 8<15 by omega);obtain⟨_,S,q9⟩:=a 9 (show 9<15 by omega);obtain⟨_,f,m⟩:=a 10 (show 10<15 by omega);obtain⟨_,g,o⟩:=a 11 (show 11<15 by omega);obtain⟨_,j,p⟩:=a 12 (show 12<15 by omega);obtain⟨_,k,q⟩:=a 13 (show 13<15 by omega);obtain⟨_,l,r⟩:=a 14 (show 14<15 by omega);obtain⟨d,rfl,rfl⟩:=VP.inv_str T;obtain⟨e,rfl,rfl⟩:=VP.inv_str U;obtain rfl:=VP.inv_int W;obtain⟨b,rfl,rfl⟩:=VP.inv_str X;obtain rfl:=VP.inv_int Y;obtain rfl:=VP.inv_int Z;obtain rfl:=VP.inv_int q6;obtain rfl:=VP.inv_int q7;obtain rfl:=VP.inv_int q8;obtain rfl:=VP.inv_int q9;obtain rfl:=VP.inv_int m;obtain rfl:=VP.inv_int o;obtain rfl:=VP.inv_int p;obtain rfl:=VP.inv_int q;obtain⟨c,rfl,rfl⟩:=VP.inv_str r;refine⟨d,e,b,c,rfl,rfl,rfl,rfl,?_⟩
 congr 1
 apply Array.ext_getElem?;intro i
 match i with
 | 0=>exact e0
 | 1=>exact K
 | 2=>exact L
 | 3=>exact M
 | 4=>exact N
 | 5=>exact O
 | 6=>exact P
 | 7=>exact Q
 | 8=>exact R
 | 9=>exact S
 | 10=>exact f
 | 11=>exact g
 | 12=>exact j
 | 13=>exact k
 | 14=>exact l
 | n+15=>rw[ab6 (by omega),ab6 (by simp)]
theorem C77{t:Ctx}{sh:Nat->Option Shp}{w:World}(c d:ByteArray)(p:Int)(a:ByteArray)(v4 e f g i k l m o q:Int)(b:ByteArray) :
  VP t sh w (gU c.data.toList d.data.toList p a.data.toList v4 e f g i k l m o q b.data.toList) (.agg (Jl c d p a v4 e f g i k l m o q b)):=by
 refine VP.mk_agg rfl λj r=>?_
 match j,r with
 | 0,_=>exact⟨_,rfl,VP.mk_str c.data.toList⟩
 | 1,_=>exact⟨_,rfl,VP.mk_str d.data.toList⟩
 | 2,_=>exact⟨_,rfl,VP.mk_int _ _⟩
 | 3,_=>exact⟨_,rfl,VP.mk_str a.data.toList⟩
 | 4,_=>exact⟨_,rfl,VP.mk_int _ _⟩
 | 5,_=>exact⟨_,rfl,VP.mk_int _ _⟩
 | 6,_=>exact⟨_,rfl,VP.mk_int _ _⟩
 | 7,_=>exact⟨_,rfl,VP.mk_int _ _⟩
 | 8,_=>exact⟨_,rfl,VP.mk_int _ _⟩
 | 9,_=>exact⟨_,rfl,VP.mk_int _ _⟩
 | 10,_=>exact⟨_,rfl,VP.mk_int _ _⟩
 | 11,_=>exact⟨_,rfl,VP.mk_int _ _⟩
 | 12,_=>exact⟨_,rfl,VP.mk_int _ _⟩
 | 13,_=>exact⟨_,rfl,VP.mk_int _ _⟩
 | 14,_=>exact⟨_,rfl,VP.mk_str b.data.toList⟩
 | n+15,h=>exact absurd h (by simp)
theorem YF{s t:ByteArray}(h:s.data.toList=t.data.toList):s=t:=by
 cases s with
 | mk a=>cases t with
  | mk b=>congr 1;exact ah1.1 h
theorem Dd2{s:By}{a:Int}(h:Ak s=true):upP s a=if a=443 then -1 else a:=by
 unfold upP;rw[h,Bool.true_and];by_cases q:a=443
 ·rw[if_pos q,q];rfl
 ·rw[if_neg q,show(a==443)=false by simpa using q];rfl
end
section
open Go Go.Proofs
set_option maxRecDepth 100000
theorem Cc0{p:S9 × Nat}(h:XJ p.1):ltN (uV p) 4294967296=true/\okQ p=true/\Er (uP p)=true/\∀c b,mkQ c p b=⟨c,p.1.user,p.1.host,b,p.1.rest⟩:=by obtain⟨⟨s,u,⟨k,n,v,l⟩,q,t⟩,e⟩:=p;obtain⟨a,d⟩:=h;obtain⟨g,i,j,m,o,r,w,x,rfl⟩:=eq8 a.v6.1;have f:=a.v4;simp only at f d;refine⟨E3.2 ⟨by show(0:Int)<=(v:Int);omega,by show(v:Int)<_;omega⟩,Cw0 a.v6.2,Ol.2 ⟨by show _<=q;omega,by show q<_;omega⟩,λc b=>Cb0 a.kd⟩
theorem Ab0(s:By):(B5 s).1.host.name.length<=253:=by
 by_cases h:(B5 s).2=0
 ·have b:=NY h;cases c:E7 (B5 s).1.sch with
  | false=>
   obtain⟨_,_,_,a,_,_⟩:=b.ns c;rw[a]
   decide
  | true=>
   obtain⟨_,_,_,a,_,_⟩:=b.sp c;exact DD a
 ·rw[Ay1 h]
  decide
theorem Ab3{s:By}(h:s.length<=10000000)(a:By)(b:a.length<=10000000):smU a (uU (B5 s)) (uN (B5 s)) (uR (B5 s))=true:=by obtain⟨c,d,e⟩:=JD s;have f:=Ab0 s;simp only[smU,uU,uN,uR,s7,ae7];refine⟨⟨⟨by omega,by omega⟩,by omega⟩,by omega⟩
theorem C15(s:By):(upS s).length<=s.length+5:=by
 unfold upS;split
 ·show 5<=_;omega
 ·split
  ·show 3<=_;omega
  ·omega
theorem Dd3{s:By}{a:Int}(h:Er a=true):Er (upP s a)=true:=by
 unfold upP;split
 ·rfl
 ·exact h
section
variable {Z R : Type} (L : Nat) (Y : G0) (Q : Yh Z) (s : Z) (k : Out -> St Z -> Option R)
noncomputable def TF(L:Nat):Cfg:=B6 L [29] (A3 []) [(25,DL)] (A3 [(6,[2]),(5,[1,0]),(4,[1,0,12]),(3,[1,0]),(2,[2]),(1,[1,0,2]),(0,[1,0])]) [25] (A3 []) (some [2]) [] [] []
noncomputable def Bk5{R:Type}(L:Nat)(f g:By)(h:Int)(i:By)(j l m n u8 o a b c d:Int)(e:By)(p:By->By->Int->By->Int->Int->Int->Int->Int->Int->Int->Int->Int->Int->By->(List Blk)->Option R):Option R:=cond (not (Ak f)) (p f g h i j l m n u8 o a b c d e [(bU f g h i j l m n u8 o a b c d e),(bU f g h i j l m n u8 o a b c d e)]) none
theorem Cg6(d:Nat)(u0 u1 u2 u3 u4 u5 u6 u7 u8 u9 u10 u11 u12 u13 u14):evC (TF L) (d+1) Z Q 29 [(gU u0 u1 u2 u3 u4 u5 u6 u7 u8 u9 u10 u11 u12 u13 u14)] [] s=Bk5 L u0 u1 u2 u3 u4 u5 u6 u7 u8 u9 u10 u11 u12 u13 u14 (λh i j l m n o p r8 q b c e f g a=>some ((gU h i j l m n o p r8 q b c e f g),a,s)):=by refine(evE (fn:=Tryz.f29) (by kernel_rfl)).trans ?_;generalize evC (TF L) d=Y;unfold Bk5;kernel_rfl
end
end
section
open Go Go.Proofs Go.RowKit
set_option maxRecDepth 100000
theorem Bv0(n k m:ByteArray)(j v4 a b c d f g h i l:Int)(w:World):Calls a8 25 #[.agg (Jl Rf n j k v4 a b c d f g h i l m)] w λe w'=>e = .returned (.bool true)/\w'=w.alloc (.cells (Jl Rf n j k v4 a b c d f g h i l m) 29):=by
 go_enter ah7,aj9
 go_wp2
 go_ret
 exact⟨rfl,rfl⟩
theorem Cy7(n k m:ByteArray)(j v4 a b c d f g h i l:Int)(w:World):Calls a8 25 #[.agg (Jl sWs n j k v4 a b c d f g h i l m)] w λe w'=>e = .returned (.bool true)/\w'=w.alloc (.cells (Jl sWs n j k v4 a b c d f g h i l m) 29):=by
 go_enter ah7,aj9
 go_wp2
 go_ret
 exact⟨rfl,rfl⟩
theorem Af0(q d r o p:ByteArray)(n v4 f g h i j k l m a b:Int)(x:a=443->b=-1)(y:¬a=443->b=a)
  (c:∀w,Calls a8 25 #[.agg (Jl q r n o v4 f g h i j k l m a p)] w λe w'=>e = .returned (.bool true)/\w'=w.alloc (.cells (Jl q r n o v4 f g h i j k l m a p) 29))
  (u:∀w:World,(ad0 52 (.map (some w.heap.size)) (.string q) false).run a8 (w.alloc (.map #[Jv,Zl] 2)) = .ok (.string d) (w.alloc (.map #[Jv,Zl] 2))) (w:World) :
  Calls a8 29 #[.agg (Jl q r n o v4 f g h i j k l m a p)] w λe w'=>e = .returned (.agg (Jl d r n o v4 f g h i j k l m b p))/\Below w.heap.size w w':=by
 have v:∀args w,(callFunc 25 args).run a8 w = .ok (.enter 25 args) w:=enters_of ah7 (by kernel_rfl) rfl;have G:=@run_makeMap a8;have t:∀(w:World) A B C,(((w.alloc A).alloc B).alloc C).heap.size=w.heap.size+1+1+1:=λw A B C=>by simp only[World.alloc,ah8]
 have z:∀(w:World) A B C,_:=λw A B C=>t w A B C▸Db1 (P:=a8) ac2 ac4 (((w.alloc A).alloc B).alloc C)
 have D:∀(w:World) A B C,_:=λw A B C=>t w A B C▸Db2 (P:=a8) ac2 ac4 (((w.alloc A).alloc B).alloc C)
 have F:∀(w:World) A B C,_:=λw A B C=>t w A B C▸u (((w.alloc A).alloc B).alloc C)
 clear u
 go_enter Tryz.func29,Tryz.ntmps29
 go_wp2_with (go_at_fn 25;refine(c _).mono ?_;rintro e w' ⟨rfl,H⟩;rw[H])
 ·have e:=x (by simpa using ‹(a==443)=true›);subst e;refine bodyPost_ret (results_cell_row rfl _ _ (w.heap.size+1) 29 _ _ _ rfl (ZM _ _ _ _ _) ah0 rfl (by kernel_rfl)) rfl ⟨rfl,?_⟩;exact((((Below.refl _ _).alloc (x9 _) _).alloc (by simp only[size_alloc];omega) _).alloc (by simp only[size_alloc];omega) _).alloc (by simp only[size_alloc];omega) _
 ·have e:=y (by simpa using ‹(a==443)=false›);subst e;refine bodyPost_ret (results_cell_row rfl _ _ (w.heap.size+1) 29 _ _ _ rfl (ZM _ _ _ _ _) ah0 rfl (by kernel_rfl)) rfl ⟨rfl,?_⟩;exact((((Below.refl _ _).alloc (x9 _) _).alloc (by simp only[size_alloc];omega) _).alloc (by simp only[size_alloc];omega) _).alloc (by simp only[size_alloc];omega) _
theorem C52:B0 a8 GX 29 Be7:=by
 refine B0.fix (pf:=Uc) _ (I3 (fn:=Tryz.f29) (by kernel_rfl) (by kernel_rfl) (by kernel_rfl) ?_);intro args ret B h;unfold Uc at h;split at h
 ·rename_i J K p H v4 g i j k l m n o d I;obtain⟨v,h⟩:=C1 h;obtain⟨rfl,rfl⟩:=I9 h;refine⟨rfl,rfl,λC G x L w D F z y=>?_⟩;obtain⟨U,rfl,A⟩:=y.arr1;obtain⟨f,c,a,b,rfl,rfl,rfl,rfl,rfl⟩:=Da4 A;rw[Dd2 v];rcases Om v with u|u
  ·obtain rfl:f=Rf:=YF (t:=Rf) u;refine(Af0 Rf Tp c a b p v4 g i j k l m n o d (if d=443 then -1 else d) (λq=>if_pos q) (λq=>if_neg q) (Bv0 _ _ _ _ _ _ _ _ _ _ _ _ _ _) (λw=>(Ca6 ac2 ac4 w).1) w).mono ?_;rintro e w' ⟨rfl,r⟩;exact⟨_,rfl,r,C77 Tp c p a v4 g i j k l m n o _ b⟩
  ·obtain rfl:f=sWs:=YF (t:=sWs) u;refine(Af0 sWs Bx1 c a b p v4 g i j k l m n o d (if d=443 then -1 else d) (λq=>if_pos q) (λq=>if_neg q) (Cy7 _ _ _ _ _ _ _ _ _ _ _ _ _ _) (λw=>(Ca6 ac2 ac4 w).2) w).mono ?_;rintro e w' ⟨rfl,r⟩;exact⟨_,rfl,r,C77 Bx1 c p a v4 g i j k l m n o _ b⟩
 ·cases h
end
section
open Go
abbrev hK(p:B2 × Nat):Int:=(p.1.kind:Int)
abbrev hN(p:B2 × Nat):By:=p.1.name
abbrev hV(p:B2 × Nat):Int:=(p.1.v4:Int)
abbrev hA(p:B2 × Nat)(i:Nat):Int:=(p.1.v6.getD i 0:Int)
abbrev e0:By:=[]
end
end Go.Proofs.YtcfingekgbbclaaGreatDoor.E
