/-
  Parts of the proof, merged by a program of the prover's own; no condition.
-/
import Derived.Test.YteickfjoihhgkaaGreatDoorKCX2
import Derived.LaidMore
import Derived.LaidSub
import Derived.Lay
import Derived.Lib.IndexAny
import Derived.Lib.JoinLaws
import Derived.Lib.LastIndexLaws
import Derived.Lib.TrimAscii
import Derived.OpenShut
import Derived.ProofKit
import Derived.Shelf.Vars
import Derived.Test.YteickfjoihhgkaaGreatDoorChecked
import Derived.Test.YteickfjoihhgkaaGreatDoorRows
open List renaming length->c9,getD->j0,replicate->j5,flatten->j7,drop_of_length_le->o5,getD_eq_getElem?_getD->o6,getElem?_eq_getElem->p4,isPrefixOf->p7,take_of_length_le->v7,drop_zero->v8,isEmpty->w6,map->x4,nil_append->x5,getElem_cons_drop->x7,length_take->x9,take->y7,all->y8,getD_cons_zero->y9,mem_cons->aa0,mem_of_mem_drop->aa5,length_cons->aa6,length_drop->aa7,take_zero->aa8,drop_append_of_le_length->aa9,append_nil->ab0,getElem?_eq_none->ab1,length_singleton->ab2,append_assoc->ab3,isPrefixOf_iff_prefix->ab4,mem_of_mem_take->ab5,length_pos_iff->ab8,length_append->ac2,prefix_iff_eq_take->ac5,set->ac9,all_eq_true->ad4,cons_append->ad5,isSuffixOf->ad9,length_map->ae0,length_nil->ae1,replicate_succ->ae3,drop->ae5,count_eq_zero->ae7,getElem?_map->af0,suffix_iff_eq_drop->af2,map_append->af9,dropLast_eq_take->ag2,getD_cons_succ->ag7,getElem?_range->ag8,map_congr_left->ag9,map_drop->ah0,set_cons_zero->ah1,map_map->ah7,take_add_one->ah8,all_cons->aj6,map_take->aj7,mem_map->al6,map_id->am1
open Int renaming toNat->j4,toNat_natCast->j8,eq_ofNat_of_zero_le->s8,tdiv->aa2,tmod->aa4,natCast_mul->ai7
open Bool renaming not_true->j9,not_false->k9,false_eq_true->w8,and_eq_true->x6,and_true->ad7,eq_iff_iff->af7,or_eq_true->af8,eq_false_iff->ah4,not_eq_true'->ah5,true_and->aj4
open Option renaming isSome->o0,getD_some->p6,isSome_some->p9,map_some->ac1,isSome_none->ac3,bind_some->ai3
open Eq renaming trans->o7
open Go.Proofs.Tryz renaming prog->o8,f109->ag6,checked->ai0,f150->ai4,f183->ai5,f42->aj2,f112->aj9,f119->ak0,f130->ak1,f145->ak2,f146->ak3,f149->ak4,f162->ak5,f172->ak6,f173->ak7,f185->ak8,f195->ak9,f201->al0,f202->al1,f27->am3,f32->am4,f46->am5,f47->am6,f58->am7,f59->am8,f75->am9,f77->an0,f82->an1,f95->an2
open Go.Lib renaming decDigits->o9,cut->s9,index->x3,indexByte->ab9,tabData->ac4,VarReads->ac6,join->ac7,decDigits_one->ae9,indexAny->af4,acceptData->ag4,deBruijn64tab->ah6,occAt->ai1,index_spec->aj0,join_cons->aj5,firstTab->al2,index_ge->al3,join_one->al4,pow10Tab->al5
open Option.some renaming injEq->p5,inj->w9
open Nat renaming ble->x8,pow_succ->y5,eq_of_beq_eq_true->aa3,le_trans->ad0,ble_eq_true_of_le->ad1,le_of_ble_eq_true->ad2,mul_le_mul_right->ad8,min_eq_left->ae2,zero_add->ae4,or_lt_two_pow->af1,le_mul_of_pos_right->af3,add_zero->af5,ble_eq->af6,div_le_self->ag0,strongRecOn->ag1,one_mul->ag5,add_sub_cancel->ah2,mod_eq_of_lt->ai2,pow_pos->ai6,mul_le_mul->aj1,add_assoc->aj8,beq->al7,mul_comm->al8,sub_self->al9
open UInt8 renaming ofNat->aa1,le_iff_toNat_le->ad3,toNat_inj->ai8,toNat->an3
open Go.IntKind renaming bits->ab6,u16->ag3
open Classical renaming byContradiction->ab7
open Go.World renaming laidAll->ac0
open Go.Lib.laidMet renaming reads->ac8
open Go.Value renaming int->ad6
open Array renaming getElem?_eq_some_iff->ae6
open Go.MakeChecks renaming laidMetH_plain->ae8
open BEq renaming comm->ah3
open Ne renaming symm->ah9
open Go.DataW renaming trod->ai9
set_option maxRecDepth 100000
variable{R:Type}
namespace Go.Proofs.YteickfjoihhgkaaGreatDoor.E
set_option linter.all false
section
open Go
attribute [simp] C5 D8 E0 Ag8 B77 B76 Ag9 W7 G9 E8
attribute [simp] vl
@[simp] theorem D5{n:Nat}(h:n<=1000000000):A2 n=true:=TX.2 h
@[simp] theorem Uy{v:Int}{n:Nat}(h:0<=v)(a:v<n):ltN v n=true:=E9.2 ⟨h,a⟩
def M5{n:Nat}(h:n<=1000000000:=by omega):A2 n=true:=D5 h
def O0{v:Int}{n:Nat}(h:0<=v:=by omega)(g:v<n:=by omega):ltN v n=true:=Uy h g
@[simp] theorem I1{m n:Nat}(h:m+n<4611686018427387904):F7 m n=true:=by simp[F7,h]
abbrev rv(v:PV)(H:List Blk):Option (PV × List Blk × Unit):=some (v,H,())
def L4{n:Nat}(h:A2 n=true):n<=1000000000:=TX.1 h
def E6(s:By)(i:Nat)(h:i<s.length):s.drop i=s.getD i 0::s.drop (i+1):=by rw[o6,p4 h,p6,x7]
def UB(s:By)(i:Nat)(h:i<s.length):s.take (i+1)=s.take i++[s.getD i 0]:=by rw[ah8,o6,p4 h];rfl
def MT(s:By)(i:Nat)(h:i<s.length):(C6 (s.take (i+1))).map F4=(C6 (s.take i)).map F4++[F4 (Dl (s.getD i 0))]:=by unfold C6;rw[UB s i h,af9,af9];rfl
def X9(b:UInt8):(b.toNat<65/\Dl b=b)\/(90<b.toNat/\Dl b=b)\/(65<=b.toNat/\b.toNat<=90/\((Dl b).toNat=b.toNat+32)):=by
 unfold Dl;by_cases a:b.toNat<65
 ·refine .inl ⟨a,ae ?_⟩;intro h;have:=ad3.1 h.1;simp at this;omega
 ·by_cases c:90<b.toNat
  ·refine .inr (.inl ⟨c,ae ?_⟩);intro h;have:=ad3.1 h.2;simp at this;omega
  ·refine .inr (.inr ⟨by omega,by omega,?_⟩);rw[ac (by constructor<;>(rw[ad3];simp;omega)),UInt8.toNat_add];simp;omega
@[simp] theorem E1(s:By)(i:Nat):bAt s (i:Int)=((s.getD i 0).toNat:Int):=by simp[bAt]
@[simp] theorem Bk(s:By):bAt s 0=((s.getD 0 0).toNat:Int):=by simp[bAt]
@[simp] theorem Bx1(s:By):bAt s 1=((s.getD 1 0).toNat:Int):=by simp[bAt]
def Fj{c:Type}(s:List c)(a b:Nat):cut s (a:Int) (b:Int)=(s.take b).drop a:=by simp[cut]
@[simp] theorem R7{b:Type}(s:List b)(a:Int):cut s a (s.length:Int)=s.drop a.toNat:=by simp[cut]
@[simp] theorem M8{a:Type}(s:List a)(b:Int):cut s 0 b=s.take b.toNat:=by simp[cut]
@[simp] theorem A8(l:List By):(A9 l).length=l.length:=by simp[A9]
@[simp] theorem L9(l:List By)(i:Nat):gX (A9 l) i 0=l.getD i []:=by
 unfold gX gC A9;by_cases h:i<l.length
 ·simp[o6,p4 h,SV.gS]
 ·simp[o6,ab1 (show l.length<=i by omega),SV.gS]
@[simp] theorem K5{l:List By}{i:Nat}(h:i<l.length):okE Aa (A9 l) i 0=true:=by unfold okE A9;simp[o6,p4 h,h,Aa,okS,SV.has]
def Br(a b:List By):A9 (a++b)=A9 a++A9 b:=by simp[A9]
def Kf(b:UInt8):u8n (b.toNat:Int)=b:=by simp[u8n]
def Ag4(b:UInt8):inR (b.toNat:Int) 256=true:=by have:=b.toNat_lt;exact G2
def D34{a b:UInt8}:((a.toNat:Int)==(b.toNat:Int))=(a==b):=by
 rw[af7];simp only[beq_iff_eq];constructor
 ·intro h;exact ai8.1 (by omega)
 ·intro h;rw[h]
def T7(a:UInt8)(n:Nat)(h:n<256):((a.toNat:Int)==(n:Int))=(a==aa1 n):=by rw[<-D34];simp[ai2 h]
def Gi(p s:By):p.isPrefixOf s=(decide (p.length<=s.length)&&(s.take p.length==p)):=by
 rw[af7];simp only[ab4,x6,af,beq_iff_eq];constructor
 ·intro h;exact⟨h.length_le,(ac5.1 h).symm⟩
 ·rintro⟨_,h⟩;exact ac5.2 h.symm
def Py(p s:By):p.isSuffixOf s=(decide (p.length<=s.length)&&(s.drop (s.length-p.length)==p)):=by
 rw[af7];simp only[List.isSuffixOf_iff_suffix,x6,af,beq_iff_eq];constructor
 ·intro h;exact⟨h.length_le,(af2.1 h).symm⟩
 ·rintro⟨_,h⟩;exact af2.2 h.symm
end
section
open Go Go.ChangeAt Go.ChangeShapes Go.Proofs Go.RowKit Go.WideShapes
def own:ownKnob o8.godebug=none:=by kernel_rfl
def Dn4:laidOutB o8=true:=by kernel_rfl
noncomputable def gTy(g:Nat):Nat:=match o8.globals[g]? with|some x=>x.type|none=>0
noncomputable def dbT:Nat:=gTy 5
noncomputable def Dq6:Nat:=gTy 3
noncomputable def XN:Nat:=gTy 2
noncomputable def Dj9:Nat:=gTy 1
noncomputable def XM:Nat:=match o8.underlying XN with|some (.array _ e)=>e|_=>0
noncomputable def BT:Array Field:=match o8.underlying XM with|some (.struct a)=>a|_=>#[]
noncomputable def QM:Field:=match BT.toList with|a::_=>a|_=>default
noncomputable def QN:Field:=match BT.toList with|_::a::_=>a|_=>default
def D39:BT[0]? = some QM:=by unfold QM BT XM XN gTy;kernel_rfl
def D40:BT[1]? = some QN:=by unfold QN BT XM XN gTy;kernel_rfl
def Gl:List (String × DataW Unit):=[("math/bits.deBruijn32tab", Rows.laid_math_bits_deBruijn32tab), ("math/bits.deBruijn64tab", Rows.laid_math_bits_deBruijn64tab), ("internal/strconv.uint64pow10", Rows.laid_internal_strconv_uint64pow10), ("unicode/utf8.acceptRanges", Rows.laid_unicode_utf8_acceptRanges), ("unicode/utf8.first", Rows.laid_unicode_utf8_first)]
def UF{W:World}{n:String}{g:Nat}{cs:Array Value}(a:o8.globalNamed n=some g)(h:W.var? o8 n=some cs):∃e x,W.heap[g]? = some (.cells cs e x):=by
 unfold World.var? at h;rw[a,ai3] at h;split at h
 ·rename_i c e x b;simp only[p5] at h;subst h;exact⟨e,x,b⟩
 ·cases h
def EB{W:World}{n:String}{g t e m:Nat}{k:IntKind}{f:List Int}(l:o8.globalNamed n=some g)(d:(o8.globals[g]?).map (·.type)=some t)(v:o8.underlying t=some (.array m e))(u:o8.underlying e=some (.int k))(a:o8.cellsOf e=1)(c:o8.cellsOf t=m)
  (h:ac6 o8 W n (ac4 k f)):∃e x,W.heap[g]? = some (.cells (f.map λz=>ad6 k z).toArray e x):=by
 obtain⟨w,y,cs,i,p,o,q,j,r⟩:=h;obtain rfl:=w9 (l.symm.trans o);obtain rfl:=w9 (d.symm.trans q);have b:=Lib.cells_of_tab v u a c r;have:cs=(f.map λz=>ad6 k z).toArray:=by rw[<-b]
 rw[this] at j;exact UF l j
def OJ{H:Type}{enc:TypeId × Value->H}{P:Program}{w:World}{base:Nat}{sp:Nat->Bool}{held:Bool}{a:Nat}{t e:TypeId}{n:Nat}{cs:List Value}{d:DataW H}{p:List MemPlace}(c:P.underlying t=some (.array n e))
  (h:ai9 enc P w base sp held a t cs=some (d,p)):cs.length=P.cellsOf t:=by
 cases a with
 | zero=>simp[ai9] at h
 | succ a=>
  simp only[ai9,c] at h;split at h
  ·rename_i b;simpa using b
  ·cases h
def B91{W:World}(B : o8.globalNamed "unicode/utf8.acceptRanges" = some 2)(h:ac6 o8 W "unicode/utf8.acceptRanges" ag4) :
  ∃e x,W.heap[2]? = some (.cells (Ia.map λz=>ad6 .u8 z).toArray e x):=by
 obtain⟨L,t,cs,v,p,G,a,w,y⟩:=h;obtain rfl:=w9 (B.symm.trans G);have n:(o8.globals[2]?).map (·.type)=some XN:=by unfold XN;kernel_rfl
 obtain rfl:=w9 (n.symm.trans a);have D:o8.underlying XN=some (.array 16 XM):=by unfold XN XM;kernel_rfl
 have M:=OJ D y;have H:o8.cellsOf XN=32:=by unfold XN;kernel_rfl
 have b:o8.cellsOf XM=2:=by unfold XM;kernel_rfl
 have J:∃j,o8.underlying XM=some (.struct j)/\j.size=2/\∀(i:Nat) (f:Field),j[i]? = some f->o8.underlying f.type=some (.int .u8)/\f.offset=i/\o8.cellsOf f.type=1:=by
  refine⟨BT,by unfold XM BT;kernel_rfl,by unfold BT;kernel_rfl,λi f m=>?_⟩;have:i<2:=by
   have:=(ae6.1 m).1;rwa [show BT.size=2 by unfold BT;kernel_rfl] at this
  match i,this with
  | 0,_=>
   obtain rfl:=w9 (m.symm.trans (show BT[0]? = some QM from D39));exact⟨by unfold QM;kernel_rfl,by unfold QM;kernel_rfl,by unfold QM;kernel_rfl⟩
  | 1,_=>
   obtain rfl:=w9 (m.symm.trans (show BT[1]? = some QN from D40));exact⟨by unfold QN;kernel_rfl,by unfold QN;kernel_rfl,by unfold QN;kernel_rfl⟩
 obtain⟨j,o,r,u⟩:=J;have l:cs.toList=Ia.map λz=>ad6 .u8 z:=by
  have C:(Ia.map λz=>ad6 .u8 z).length=32:=by rw[ae0];rfl
  apply List.ext_getElem?;intro q;by_cases I:q<32
  ·obtain⟨k,d,N,c,A⟩:=Lib.array_elem D y (q / 2) (by omega);simp only[af0,ag8 (show q / 2<16 by omega),ac1,p5] at c;subst c;rw[b] at A;have K:=Lib.ints_of_struct o u (by rw[b,r]) A;have e0:=congrArg (·[q % 2]?) K;simp only[List.getElem?_take,List.getElem?_drop] at e0;rw[W4,show q / 2*2+q % 2=q by omega] at e0;rw[e0];unfold Ia;have F:∀g:Nat->Value,(x4 g (List.range 32))[q]? = some (g q):=λg=>by
    rw[af0,ag8 I];rfl
   rw[ah7,F];rcases Nat.mod_two_eq_zero_or_one q with a|a
   ·simp[a]
   ·simp[a]
  ·rw[ab1 (by omega),ab1 (by omega)]
 have:cs=(Ia.map λz=>ad6 .u8 z).toArray:=by rw[<-l]
 rw[this] at w;exact UF B w
def Bb0{C:Cfg}(r:C.G=GX){W:World}(b:laidMet o8 Gl W)(p:W.ShapedOpen o8):GOK C (· < W.heap.size) W:=by
 have lt:∀{g:Nat} {o:Obj},W.heap[g]? = some o->g<W.heap.size:=λh=>(ae6.1 h).1
 have I:ac6 o8 W "math/bits.deBruijn64tab" (ac4 .u8 (ah6.map λn:Nat=>(n:Int))):=ac8 b (by rw [show (ac4 .u8 (ah6.map λn:Nat=>(n:Int)):DataW Unit)=Rows.laid_math_bits_deBruijn64tab by kernel_rfl];simp [Gl])
 have J:ac6 o8 W "internal/strconv.uint64pow10" (ac4 .u64 al5):=ac8 b (by rw [show (ac4 .u64 al5:DataW Unit)=Rows.laid_internal_strconv_uint64pow10 by kernel_rfl];simp [Gl])
 have K:ac6 o8 W "unicode/utf8.acceptRanges" ag4:=ac8 b (by rw [show ag4=Rows.laid_unicode_utf8_acceptRanges by kernel_rfl];simp [Gl])
 have L:ac6 o8 W "unicode/utf8.first" (ac4 .u8 al2):=ac8 b (by rw [show (ac4 .u8 al2:DataW Unit)=Rows.laid_unicode_utf8_first by kernel_rfl];simp [Gl])
 have y:=EB (g:=5) (t:=dbT) (e:=5) (m:=64) (by kernel_rfl) (by unfold dbT;kernel_rfl) (by unfold dbT;kernel_rfl) (by kernel_rfl) (by kernel_rfl) (by unfold dbT;kernel_rfl) I;have A:=EB (g:=3) (t:=Dq6) (e:=96) (m:=20) (by kernel_rfl) (by unfold Dq6;kernel_rfl) (by unfold Dq6;kernel_rfl) (by kernel_rfl) (by kernel_rfl) (by unfold Dq6;kernel_rfl) J;have B:=B91 (by kernel_rfl) K;have D:=EB (g:=1) (t:=Dj9) (e:=5) (m:=256) (by kernel_rfl) (by unfold Dj9;kernel_rfl) (by unfold Dj9;kernel_rfl) (by kernel_rfl) (by kernel_rfl) (by unfold Dj9;kernel_rfl) L;have F:=cell_of_shapedOpen_int (k:=.i64) (g:=0) (t:=3) (zero:=#[.int .i64 0]) p (of_decide_eq_true (by kernel_rfl)) (by kernel_rfl) rfl (by kernel_rfl) (by kernel_rfl) (by kernel_rfl);refine⟨λg k w h=>?_,λg h=>?_⟩
 ·rw[r] at h;simp only[GX] at h;have key:∀{q:Nat} {v:IntKind} {a:List Int},(∃e x,W.heap[q]? = some (.cells (a.map λz=>ad6 v z).toArray e x))->g=q->(v,a)=(k,w)->g<W.heap.size/\∃e x,W.heap[g]? = some (.cells (w.map λz=>ad6 k z).toArray e x):=λc G H=>by
   subst G;cases H;obtain⟨e,x,c⟩:=c;exact⟨lt c,e,x,c⟩
  cases d:al7 g 1 with
  | true=>rw[d,aa] at h;exact key D (aa3 d) (w9 h)
  | false=>
   rw[d,ab] at h;cases f:al7 g 2 with
   | true=>rw[f,aa] at h;exact key B (aa3 f) (w9 h)
   | false=>
    rw[f,ab] at h;cases i:al7 g 3 with
    | true=>rw[i,aa] at h;exact key A (aa3 i) (w9 h)
    | false=>
     rw[i,ab] at h;cases j:al7 g 5 with
     | true=>rw[j,aa] at h;exact key y (aa3 j) (w9 h)
     | false=>rw[j,ab] at h;cases h
 ·rw[r] at h;have e:=aa3 h;subst e;obtain⟨m,u⟩:=F;refine⟨?_,m,u⟩;apply ab7;intro l;simp[World.cell?,Array.getElem?_eq_none (Nat.le_of_not_lt l)] at u
def DG(os:Os)(args:Array Value):((ac0 o8 os Gl).forCall (λ_ _=>0) ⟨#[],args,[]⟩).Shaped o8:=
 World.shaped_of_ZipB (by kernel_rfl) (by kernel_rfl)
def OZ(os:Os)(args:Array Value):laidMetH o8 Gl ((ac0 o8 os Gl).forCall (λ_ _=>0) ⟨#[],args,[]⟩).memory:=by rw[ae8 _ _ _ (by kernel_rfl)];exact laidMet_laidAll _ (by kernel_rfl) (by kernel_rfl)
def Bb9{H:Type}{enc:TypeId × Value->H}{os:Os}(j:os.Started){C:Cfg}(u:C.P=o8)(r:C.G=GX)(W:XOK C)(V:Lf C){f tb:Nat}{fn:Func}{c:Code}{s:ChangeSpec}{g:List PathCond}{apart fresh handsOn again:Bool}(l:o8.inits.idxOf? f=none)(x:o8.funcs[f]? = some fn)(Z:fn.body=some c)(n:(fn.name == "runtime.NumGoroutine")=false)
  (F:∀t∈fn.params.toList,(o8.readableRec t=true/\t<o8.types.size)/\(Nd o8 20 t).isSome=true) (z:fn.resultTypes = #[tb]) (m:o8.underlying tb=some .bool) (q:s.vars=[])
  (p:∀ds:List (DataW H),ds.length=fn.params.toList.length->s.fn H ds = { results:=[.lit (.bool true)],args:=ds })
  (a:Array Value) (h:Nat) (o:Input.okWideB o8 ((ac0 o8 os Gl).forCall (λ_ _=>0) ⟨#[],a,[]⟩) f ⟨#[],a,[]⟩=true)
  (Wg:s.preB enc o8 fn g apart ((ac0 o8 os Gl).forCall (λ_ _=>0) ⟨#[],a,[]⟩).memory a h=true)
  (J:s.sizedB enc o8 fn apart ((ac0 o8 os Gl).forCall (λ_ _=>0) ⟨#[],a,[]⟩).memory a h=true)
  (D:∀args,Ni o8 fn.params.toList args->∃d R,evC C d Unit noY f args [] ()=some (.s (.bool true),R,())) :
  ReturnsInHanded {} ai0 os f .any (λw args=>(s.pre enc o8 fn g apart w args/\laidMetH o8 Gl w)/\sizedMet enc o8 fn (OpenSpec.ofChange s) apart w args) (s.post enc o8 fn apart fresh handsOn again):=by
 obtain⟨P,G,X,lend,a0,lf,Q,M,xp,L,N,Y,S,nt,a1⟩:=C;simp only at u r;subst u;refine returnsInHanded_of_calls (C:=ai0) own j l
  (ChangeSpec.witness_shaped (enc:=enc) (C:=ai0) (os:=os) (X:=λw _=>laidMetH o8 Gl w) false (ac0 o8 os Gl) a h (World.laidAll_os _ _ _) (DG os a) o Wg J (OZ os a)) ?_
 intro w b i _ I _ o Wg A;obtain⟨_,_,_,B,y,_,_,_,_,Qf⟩:=o;have e:B=fn:=w9 (y.symm.trans x);subst e;obtain⟨⟨⟨ds,T,k,hw,hc⟩,O⟩,hz⟩:=Wg;have K:=DataW.Whole.of_heap (w':=w.forCall b i) (by rfl) hw;have U:laidMet o8 Gl (w.forCall b i):=by
  rw[ae8 _ _ _ (by kernel_rfl)] at O;exact laidMet.of_heap (w':=w.forCall b i) (by rfl) O
 refine(Cy2 (apart:=apart) (fresh:=fresh) (handsOn:=handsOn) (again:=again) W V follows Dn4 x Z n F z m q p D (w.forCall b i) (Bb0 r U I) w.heap.size i.args ds T k Qf K).mono λe W' ⟨v,he,F⟩=>?_
 subst he;exact ChangeSpec.post_blind F
end
section
open Go Go.Proofs
section
def Vi:List PV->Tr
 | [.s (.str s),.s (.str p),.s (.int .i64 v),.s (.int .i64 n)]=>.need (A2 (c9 s)) (.need ((c9 p)==1) (.need (v==(0:Int)) (.need (n==((-1):Int)) (.ret (.vw 0 0 (c9 (pcs (j0 p 0 0) s))) [.arr false 9 1 (A9 (pcs (j0 p 0 0) s))]))))
 | _=>.fail
def AR(args:List PV):Tr:=Vi (D1 [[0],[0],[0],[0]] args)
def Vr:List PV->Tr
 | [.s (.str s),.s (.str p)]=>.need (A2 (c9 s)) (.need ((c9 p)==1) (.ret (.vw 0 0 (c9 (pcs (j0 p 0 0) s))) [.arr false 9 1 (A9 (pcs (j0 p 0 0) s))]))
 | _=>.fail
def QK(args:List PV):Tr:=Vr (D1 [[0],[0]] args)
def VQ:List PV->Tr
 | [.s (.str s),.s (.str p)]=>.need (A2 (c9 s)) (.ret (.s (.bool (p7 p s))) [])
 | _=>.fail
def VO(args:List PV):Tr:=VQ (D1 [[0],[0]] args)
def VA:List PV->Tr
 | [.s (.str s),.s (.str p)]=>.need (A2 (c9 s)) (.ret (.s (.bool (p7 p s))) [])
 | _=>.fail
def IB(args:List PV):Tr:=VA (D1 [[0],[0]] args)
def VT:List PV->Tr
 | [.s (.str s),.s (.str p)]=>.need (A2 (c9 s)) (.ret (.s (.bool (ad9 p s))) [])
 | _=>.fail
def A57(args:List PV):Tr:=VT (D1 [[0],[0]] args)
def VB:List PV->Tr
 | [.s (.str s),.s (.str p)]=>.need (A2 (c9 s)) (.ret (.s (.bool (ad9 p s))) [])
 | _=>.fail
def Cr2(args:List PV):Tr:=VB (D1 [[0],[0]] args)
def IM:List PV->Tr
 | [.s (.str s),.s (.str p)]=>.need (A2 (c9 s)) (.ret (.s (.str (Ag1 s p))) [])
 | _=>.fail
def Bv1(args:List PV):Tr:=IM (D1 [[0],[0]] args)
def JW:List PV->Tr
 | [.s (.str s),.s (.str p)]=>.need (A2 (c9 s)) (.ret (.s (.str (Ag1 s p))) [])
 | _=>.fail
def Bw8(args:List PV):Tr:=JW (D1 [[0],[0]] args)
def IH:List PV->Tr
 | [.s (.str s),.s (.str p)]=>.need (A2 (c9 s)) (.ret (.tup [.s (.str (Ie s p)),.s (.bool (p7 p s))]) [])
 | _=>.fail
def Bu8(args:List PV):Tr:=IH (D1 [[0],[0]] args)
def UO:List PV->Tr
 | [.s (.str s),.s (.str p)]=>.need (A2 (c9 s)) (.ret (.tup [.s (.str (Ie s p)),.s (.bool (p7 p s))]) [])
 | _=>.fail
def A50(args:List PV):Tr:=UO (D1 [[0],[0]] args)
def XB:List PV->Tr
 | [.s (.str s),.s (.str p)]=>.need (A2 (c9 s)) (.ret (.s (.int .i64 (x3 s p))) [])
 | _=>.fail
def JP(args:List PV):Tr:=XB (D1 [[0],[0]] args)
def WZ:List PV->Tr
 | [.s (.str s),.s (.str p)]=>.need ((c9 p)==1) (.ret (.s (.int .i64 (↑(List.count (j0 p 0 0) s):Int))) [])
 | _=>.fail
def A67(args:List PV):Tr:=WZ (D1 [[0],[0]] args)
def HV:List PV->Tr
 | [.s (.str s),.s (.int .i64 n)]=>.fail
 | _=>.fail
def Lg(args:List PV):Tr:=HV (D1 [[0],[0]] args)
def AQ:List PV->Tr
 | [.s (.str s),.s (.str p),.s (.int .i64 v),.s (.int .i64 n)]=>.need (A2 (c9 s)) (.need ((c9 p)==1) (.need (v==(0:Int)) (.need (n==((-1):Int)) (.ret (.s (.sl false false 1 (A9 (pcs (j0 p 0 0) s)))) []))))
 | _=>.fail
def Ai3(args:List PV):Tr:=AQ (D1 [[0],[0],[0],[0]] args)
def BM:List PV->Tr
 | [.s (.str s),.s (.str p)]=>.need (A2 (c9 s)) (.need ((c9 p)==1) (.ret (.s (.sl false false 1 (A9 (pcs (j0 p 0 0) s)))) []))
 | _=>.fail
def Xo(args:List PV):Tr:=BM (D1 [[0],[0]] args)
def VH:List PV->Tr
 | [.s (.int .i64 n)]=>.need (ltN n 4294967296) (.ret (.s (.str (o9 (j4 n)))) [])
 | _=>.fail
def A54(args:List PV):Tr:=VH (D1 [[0]] args)
def VM:List PV->Tr
 | [.s (.str s)]=>.need (A2 (c9 s)) (.ret (.s (.str (C6 s))) [])
 | _=>.fail
def II(args:List PV):Tr:=VM (D1 [[0]] args)
def UY:List PV->Tr
 | [.s (.str s)]=>.need (A2 (c9 s)) (.ret (.s (.bool (Dj s))) [])
 | _=>.fail
def A52(args:List PV):Tr:=UY (D1 [[0]] args)
def UQ:List PV->Tr
 | [.s (.str s),.s (.int .i64 base)]=>.need (A2 (c9 s)) (.need (ltN base 17) (.ret (.tup [.s (.int .i64 (↑(O9 (G4 (j4 base) 0 s)):Int)),.s (.bool (o0 (G4 (j4 base) 0 s)))]) []))
 | _=>.fail
def UP(args:List PV):Tr:=UQ (D1 [[0],[0]] args)
def A58:List PV->Tr
 | [.s (.str s)]=>.need (A2 (c9 s)) (.ret (.tup [.s (.int .i64 (↑(O9 (Bo s)):Int)),.s (.bool (o0 (Bo s)))]) [])
 | _=>.fail
def Cr6(args:List PV):Tr:=A58 (D1 [[0]] args)
def IP:List PV->Tr
 | [.s (.str s)]=>.need (A2 (c9 s)) (.ret (.s (.sl false false 1 (A9 (E3 s)))) [])
 | _=>.fail
def VX(args:List PV):Tr:=IP (D1 [[0]] args)
def Vj:List PV->Tr
 | [.s (.str s)]=>.need (A2 (c9 s)) (.ret (.s (.bool (I7 s))) [])
 | _=>.fail
def Rz(args:List PV):Tr:=Vj (D1 [[0]] args)
def WB:List PV->Tr
 | [.s (.str s)]=>.need (A2 (c9 s)) (.ret (.tup [.s (.int .u32 (↑(O9 (pnB s)):Int)),.s (.bool (o0 (pnB s)))]) [])
 | _=>.fail
def Cr8(args:List PV):Tr:=WB (D1 [[0]] args)
def A71:List PV->Tr
 | [.s (.str s)]=>.need (A2 (c9 s)) (.ret (.tup [.s (.int .u32 (↑(O9 (v4B s)):Int)),.s (.bool (o0 (v4B s)))]) [])
 | _=>.fail
def D10(args:List PV):Tr:=A71 (D1 [[0]] args)
def A70:List PV->Tr
 | [.s (.int .u32 v)]=>.need (ltN v 4294967296) (.ret (.s (.str (Jj (j4 v)))) [])
 | _=>.fail
def D09(args:List PV):Tr:=A70 (D1 [[0]] args)
def Vk:List PV->Tr
 | [.s (.str s)]=>.need (A2 (c9 s)) (.ret (.s (.bool ((not (w6 s))&&(o0 (G4 10 0 s))))) [])
 | _=>.fail
def QD(args:List PV):Tr:=Vk (D1 [[0]] args)
def WM:List PV->Tr
 | [.s (.str s)]=>.need (A2 (c9 s)) (.ret (.s (.str (C6 s))) [])
 | _=>.fail
def JD(args:List PV):Tr:=WM (D1 [[0]] args)
def BG:List PV->Tr
 | [.s (.str s),.s (.int .u8 c)]=>.need (A2 (c9 s)) (.need (inR c 256) (.ret (.s (.sl false false 1 (A9 (pcs (u8n c) s)))) []))
 | _=>.fail
def Fp(args:List PV):Tr:=BG (D1 [[0],[0]] args)
def A51:List PV->Tr
 | [.s (.int .i64 n)]=>.need (ltN n 4294967296) (.ret (.s (.str (o9 (j4 n)))) [])
 | _=>.fail
def AP(args:List PV):Tr:=A51 (D1 [[0]] args)
def WG:List PV->Tr
 | [.s (.int .u8 b)]=>.need (inR b 256) (.ret (.s (.int .i64 (↑(dig (u8n b)):Int))) [])
 | _=>.fail
def Cs0(args:List PV):Tr:=WG (D1 [[0]] args)
def WO:List PV->Tr
 | [.s (.str s)]=>.need (A2 (c9 s)) (.ret (.tup [.s (.int .i64 (↑(O9 (Bo s)):Int)),.s (.bool (o0 (Bo s)))]) [])
 | _=>.fail
def A65(args:List PV):Tr:=WO (D1 [[0]] args)
def BE:List PV->Tr
 | [.s (.str s)]=>.need (A2 (c9 s)) (.ret (.s (.sl false false 1 (A9 (E3 s)))) [])
 | _=>.fail
def JF(args:List PV):Tr:=BE (D1 [[0]] args)
def Qp:List PV->Tr
 | [.s (.str s)]=>.need (A2 (c9 s)) (.ret (.s (.bool (I7 s))) [])
 | _=>.fail
def Vn(args:List PV):Tr:=Qp (D1 [[0]] args)
def JH:List PV->Tr
 | [.s (.str s)]=>.need (A2 (c9 s)) (.ret (.tup [.s (.int .u32 (↑(O9 (pnB s)):Int)),.s (.bool (o0 (pnB s)))]) [])
 | _=>.fail
def Bw2(args:List PV):Tr:=JH (D1 [[0]] args)
def WF:List PV->Tr
 | [.s (.str s)]=>.need (A2 (c9 s)) (.ret (.tup [.s (.int .i64 (↑(O9 (oct s)):Int)),.s (.bool (o0 (oct s)))]) [])
 | _=>.fail
def Cr9(args:List PV):Tr:=WF (D1 [[0]] args)
def WU:List PV->Tr
 | [.s (.str s)]=>.need (A2 (c9 s)) (.ret (.tup [.s (.int .u32 (↑(O9 (v4B s)):Int)),.s (.bool (o0 (v4B s)))]) [])
 | _=>.fail
def Cs4(args:List PV):Tr:=WU (D1 [[0]] args)
def WT:List PV->Tr
 | [.s (.int .u32 v)]=>.need (ltN v 4294967296) (.ret (.s (.str (Jj (j4 v)))) [])
 | _=>.fail
def Cs3(args:List PV):Tr:=WT (D1 [[0]] args)
def UU:List PV->Tr
 | [.s (.str s)]=>.need (A2 (c9 s)) (.ret (.tup [.s (.int .u16 (↑(O9 (grp s)):Int)),.s (.bool (o0 (grp s)))]) [])
 | _=>.fail
def Cq8(args:List PV):Tr:=UU (D1 [[0]] args)
def HY:List PV->Tr
 | [.s (.str s),.s (.bool last)]=>.need (A2 (c9 s)) (.ret (.tup [.s (.sl (w6 (gvs s last)) (w6 (gvs s last)) 1 (E7 (gvs s last))),.s (.bool (o0 (S9 s last)))]) [])
 | _=>.fail
def Bu4(args:List PV):Tr:=HY (D1 [[0],[0]] args)
def A74:List PV->Tr
 | [.s (.str s)]=>.need (A2 (c9 s)) (.ret (.tup [.agg [.s (.int .u16 (↑(v6c 0 s):Int)),.s (.int .u16 (↑(v6c 1 s):Int)),.s (.int .u16 (↑(v6c 2 s):Int)),.s (.int .u16 (↑(v6c 3 s):Int)),.s (.int .u16 (↑(v6c 4 s):Int)),.s (.int .u16 (↑(v6c 5 s):Int)),.s (.int .u16 (↑(v6c 6 s):Int)),.s (.int .u16 (↑(v6c 7 s):Int))],.s (.bool (o0 (v6B s)))]) [])
 | _=>.fail
def D13(args:List PV):Tr:=A74 (D1 [[0]] args)
def KD:List PV->Tr
 | [.agg [.s (.int .u16 a),.s (.int .u16 b),.s (.int .u16 c),.s (.int .u16 d),.s (.int .u16 e),.s (.int .u16 f),.s (.int .u16 g),.s (.int .u16 h)]]=>.need (ok8 a b c d e f g h) (.ret (.tup [.s (.int .i64 (↑((zGo (n8 a b c d e f g h) 0 0 0)).1:Int)),.s (.int .i64 (↑((zGo (n8 a b c d e f g h) 0 0 0)).2:Int))]) [])
 | _=>.fail
def Bx0(args:List PV):Tr:=KD (D1 [[0,0,0,0,0,0,0,0]] args)
def Cs9:List PV->Tr
 | [.s (.int .u64 x)]=>.need (x==(16:Int)) (.ret (.s (.int .i64 4)) [])
 | _=>.fail
def D38(args:List PV):Tr:=Cs9 (D1 [[0]] args)
def ID:List PV->Tr
 | [.s (.int .i64 x)]=>.need (x==(16:Int)) (.ret (.s (.bool true)) [])
 | _=>.fail
def VG(args:List PV):Tr:=ID (D1 [[0]] args)
def HW:List PV->Tr
 | [.s (.sl c a 0 ds),.s (.int .u64 v),.s (.int .i64 b),.s (.bool neg),.s (.bool app)]=>.need (ltN v 65536) (.need (b==(16:Int)) (.need (not neg) (.need (not app) (.ret (.tup [.s (.sl true true 1 List.nil),.s (.str (V5 (j4 v)))]) []))))
 | _=>.fail
def US(args:List PV):Tr:=HW (D1 [[0],[0],[0],[0],[0]] args)
def IC:List PV->Tr
 | [.s (.int .u64 v),.s (.int .i64 b)]=>.need (ltN v 65536) (.need (b==(16:Int)) (.ret (.s (.str (V5 (j4 v)))) []))
 | _=>.fail
def VE(args:List PV):Tr:=IC (D1 [[0],[0]] args)
def UT:List PV->Tr
 | [.s (.int .u64 v),.s (.int .i64 b)]=>.need (ltN v 65536) (.need (b==(16:Int)) (.ret (.s (.str (V5 (j4 v)))) []))
 | _=>.fail
def Cq7(args:List PV):Tr:=UT (D1 [[0],[0]] args)
def JS:List PV->Tr
 | [.s (.sl b a 1 l),.s (.str p)]=>.need (y8 l isS) (.need (A2 (c9 (ac7 (x4 elS l) p))) (.need (A2 (c9 l)) (.ret (.s (.str (ac7 (x4 elS l) p))) [])))
 | _=>.fail
def XE(args:List PV):Tr:=JS (D1 [[1],[0]] args)
def XA:List PV->Tr
 | [.s (.str s),.s (.str p)]=>.need (A2 (c9 s)) (.ret (.tup [.s (.str ((s9 s p)).1),.s (.str (((s9 s p)).2).1),.s (.bool (((s9 s p)).2).2)]) [])
 | _=>.fail
def A68(args:List PV):Tr:=XA (D1 [[0],[0]] args)
def A73:List PV->Tr
 | [.s (.sl b a 1 l)]=>.need (y8 l Yq) (.need (x8 (c9 l) 8) (.ret (.s (.str (X3 (x4 elN l)))) []))
 | _=>.fail
def D12(args:List PV):Tr:=A73 (D1 [[1]] args)
def A72:List PV->Tr
 | [.agg [.s (.int .u16 a),.s (.int .u16 b),.s (.int .u16 c),.s (.int .u16 d),.s (.int .u16 e),.s (.int .u16 f),.s (.int .u16 g),.s (.int .u16 h)]]=>.need (ok8 a b c d e f g h) (.ret (.s (.str (Qd (n8 a b c d e f g h)))) [])
 | _=>.fail
def D11(args:List PV):Tr:=A72 (D1 [[0,0,0,0,0,0,0,0]] args)
def WI:List PV->Tr
 | [.s (.str s)]=>.need (A2 (c9 s)) (.ret (.tup [.s (.int .u16 (↑(O9 (grp s)):Int)),.s (.bool (o0 (grp s)))]) [])
 | _=>.fail
def Cs1(args:List PV):Tr:=WI (D1 [[0]] args)
def IU:List PV->Tr
 | [.s (.str s),.s (.bool last)]=>.need (A2 (c9 s)) (.ret (.tup [.s (.sl (w6 (gvs s last)) (w6 (gvs s last)) 1 (E7 (gvs s last))),.s (.bool (o0 (S9 s last)))]) [])
 | _=>.fail
def Bv4(args:List PV):Tr:=IU (D1 [[0],[0]] args)
def Vl:List PV->Tr
 | [.s (.str s)]=>.need (A2 (c9 s)) (.ret (.s (.int .i64 (LH s))) [])
 | _=>.fail
def QE(args:List PV):Tr:=Vl (D1 [[0]] args)
def WX:List PV->Tr
 | [.s (.str s)]=>.need (A2 (c9 s)) (.ret (.tup [.agg [.s (.int .u16 (↑(v6c 0 s):Int)),.s (.int .u16 (↑(v6c 1 s):Int)),.s (.int .u16 (↑(v6c 2 s):Int)),.s (.int .u16 (↑(v6c 3 s):Int)),.s (.int .u16 (↑(v6c 4 s):Int)),.s (.int .u16 (↑(v6c 5 s):Int)),.s (.int .u16 (↑(v6c 6 s):Int)),.s (.int .u16 (↑(v6c 7 s):Int))],.s (.bool (o0 (v6B s)))]) [])
 | _=>.fail
def Cs6(args:List PV):Tr:=WX (D1 [[0]] args)
def IX:List PV->Tr
 | [.s (.int .u16 v)]=>.need (ltN v 65536) (.ret (.s (.str (V5 (j4 v)))) [])
 | _=>.fail
def Bv7(args:List PV):Tr:=IX (D1 [[0]] args)
def WW:List PV->Tr
 | [.agg [.s (.int .u16 a),.s (.int .u16 b),.s (.int .u16 c),.s (.int .u16 d),.s (.int .u16 e),.s (.int .u16 f),.s (.int .u16 g),.s (.int .u16 h)]]=>.need (ok8 a b c d e f g h) (.ret (.s (.str (Qd (n8 a b c d e f g h)))) [])
 | _=>.fail
def Cs5(args:List PV):Tr:=WW (D1 [[0,0,0,0,0,0,0,0]] args)
def AY:List PV->Tr
 | [.s (.int .i64 n)]=>.ret (.s (.bool (ptI n))) []
 | _=>.fail
def Qo(args:List PV):Tr:=AY (D1 [[0]] args)
def AX:List PV->Tr
 | [.s (.int .i64 d),.s (.int .i64 c),.s (.bool f)]=>.need (ltN d 1152921504606846976) (.need (ltN c 1000000) (.need (ltI (0:Int) c) (.ret (.s (.int .i64 (↑(T4 (j4 d) (j4 c) f):Int))) [])))
 | _=>.fail
def Qm(args:List PV):Tr:=AX (D1 [[0],[0],[0]] args)
def VZ:List PV->Tr
 | [.s (.int .i64 d)]=>.need (ltN d 36) (.ret (.s (.int .u8 (↑(an3 (Bn (j4 d))):Int))) [])
 | _=>.fail
def A59(args:List PV):Tr:=VZ (D1 [[0]] args)
def WD:List PV->Tr
 | [.s (.int .u8 b)]=>.need (inR b 256) (.ret (.s (.int .i64 (F5 (u8n b)))) [])
 | _=>.fail
def A61(args:List PV):Tr:=WD (D1 [[0]] args)
def WC:List PV->Tr
 | [.s (.int .i64 b)]=>.ret (.fnr (Fn.func 209) [] [.ptr 1 0 0,.ptr 0 0 0]) [.box [.s (.int .i64 b)],.box [.s (.int .i64 0)]]
 | _=>.fail
def IQ(args:List PV):Tr:=WC (D1 [[0]] args)
def Sa:List PV->List Blk->Tr
 | [.ptr 0 0 0,.ptr 1 0 0],[.box [.s (.int .i64 k)],.box [.s (.int .i64 b)]]=>.need (ltN k 1000000000000) (.need (ltN b 1000000) (.ret (.s (.int .i64 (N4 k b))) [.box [.s (.int .i64 (Int.add k (36:Int)))],.box [.s (.int .i64 b)]]))
 | _,_=>.fail
def VW:List PV->List Blk->Tr
 | [.fl 0,.s (.int .i64 q),.s (.int .i64 b)],[.arr z 5 1 l]=>.need (ltN q 1152921504606846976) (.need (ltN b 1000000) (.need (x8 (c9 l) 100000) (.ret (.fl 0) [.arr z 5 1 (List.append l (x4 F4 (R8 (j4 q) 0 (j4 b))))])))
 | _,_=>.fail
def WA:List PV->Tr
 | [.s (.sl b a 1 p)]=>.need (y8 p Px) (.ret (.tup [.s (.str ((Z8 (x4 elI p))).1),.s (.int .i64 (↑((Z8 (x4 elI p))).2:Int))]) [])
 | _=>.fail
def A60(args:List PV):Tr:=WA (D1 [[1]] args)
def XD:List PV->List Blk->Tr
 | [.fl 0,.s (.int .i64 i),.fl 1],[.arr z 3 1 l,.arr false 3 1 [[.int .i64 n]]]=>.need (ltN i (Nat.add (c9 l) 1)) (.need (x8 (c9 l) 100000) (.ret (.fl 0) [.arr z 3 1 (Oa l (j4 i) n),.arr false 3 1 [[.int .i64 n]]]))
 | _,_=>.fail
def UR:List PV->List Blk->Tr
 | [.ptr 0 0 0],[.box [.s (.str a),.fl 1,.s (.int .i64 n),.s (.int .i64 i),.s (.int .i64 b),.s (.bool c)],.arr z 3 1 l]=>.need (A2 (c9 a)) (.need (ltN b 1000000) (.need (ltN i 1099511627777) (.ret (.s (.int .i64 (MY b a i))) [.box [.s (.str (NA b a i)),.fl 1,.s (.int .i64 n),.s (.int .i64 (Wl b a i)),.s (.int .i64 b),.s (.bool c)],.arr z 3 1 l])))
 | _,_=>.fail
def GO:List PV->List Blk->Tr
 | [.ptr 0 0 0],[.box [.s (.str a),.fl 1,.s (.int .i64 n),.s (.int .i64 i),.s (.int .i64 b),.s (.bool c)],.arr z 3 1 l]=>.need (A2 (c9 a)) (.need (ltN b 1000000) (.need (ltN i 1099511627777) (.need (ltN n 1152921504606846976) (.need (x8 (c9 l) 100000) (.ret (.s (.int .i64 ((G5 (DS.mk a n i b c l))).1)) [.box [.s (.str (DS.rest ((G5 (DS.mk a n i b c l))).2)),.fl 1,.s (.int .i64 (DS.n ((G5 (DS.mk a n i b c l))).2)),.s (.int .i64 (DS.i ((G5 (DS.mk a n i b c l))).2)),.s (.int .i64 (DS.b ((G5 (DS.mk a n i b c l))).2)),.s (.bool (DS.st ((G5 (DS.mk a n i b c l))).2))],.arr z 3 1 (DS.l ((G5 (DS.mk a n i b c l))).2)])))))
 | _,_=>.fail
def AT:List PV->Tr
 | [.s (.str s),.s (.int .u8 c)]=>.need (A2 (c9 s)) (.need (inR c 256) (.ret (.s (.int .i64 (M9 (u8n c) s))) []))
 | _=>.fail
def Ai5(args:List PV):Tr:=AT (D1 [[0],[0]] args)
def IG:List PV->Tr
 | [.s (.str s),.s (.int .u8 c)]=>.need (A2 (c9 s)) (.need (inR c 256) (.ret (.s (.int .i64 (M9 (u8n c) s))) []))
 | _=>.fail
def GP(args:List PV):Tr:=IG (D1 [[0],[0]] args)
def VY:List PV->Tr
 | [.s (.str s)]=>.need (A2 (c9 s)) (.ret (.tup [.s (.sl (w6 ((P6 s)).1) (w6 ((P6 s)).1) 1 (Oi ((P6 s)).1)),.s (.int .i64 (↑((P6 s)).2:Int))]) [])
 | _=>.fail
def Cr7(args:List PV):Tr:=VY (D1 [[0]] args)
def Ai1:List PV->Tr
 | [.s (.str t)]=>.fail
 | _=>.fail
def Xj(args:List PV):Tr:=Ai1 (D1 [[0]] args)
def IK:List PV->Tr
 | [.s (.str t),.s (.str p),.s (.int .i64 n)]=>.ret (.fnr (Fn.func 134) [] [.ptr 1 0 0,.ptr 0 0 0,.ptr 2 0 0]) [.box [.s (.str t)],.box [.s (.str p)],.box [.s (.int .i64 n)]]
 | _=>.fail
def VR(args:List PV):Tr:=IK (D1 [[0],[0],[0]] args)
def XF:List PV->Tr
 | [.s (.str t),.s (.str p)]=>.ret (.fnr (Fn.func 134) [] [.ptr 1 0 0,.ptr 0 0 0,.ptr 2 0 0]) [.box [.s (.str t)],.box [.s (.str p)],.box [.s (.int .i64 0)]]
 | _=>.fail
def JU(args:List PV):Tr:=XF (D1 [[0],[0]] args)
def Se:List PV->List Blk->Option (Bool × List (List PV))
 | [.yd,.ptr 0 0 0,.ptr 1 0 0,.ptr 2 0 0],[.box [.s (.str p)],.box [.s (.str t)],.box [.s (.int .i64 n)]]=>some (((A2 (c9 t))&&(((c9 p)==1)&&(n==(0:Int)))),x4 (λ(x:By)=>([.s (.str x)]:List PV)) (pcs (j0 p 0 0) t))
 | _,_=>none
def BF:List PV->Tr
 | [.s (.int .i64 n)]=>.ret (.s (.bool (ptI n))) []
 | _=>.fail
def Xk(args:List PV):Tr:=BF (D1 [[0]] args)
def AZ:List PV->Tr
 | [.s (.int .i64 d),.s (.int .i64 c),.s (.bool f)]=>.need (ltN d 1152921504606846976) (.need (ltN c 1000000) (.need (ltI (0:Int) c) (.ret (.s (.int .i64 (↑(T4 (j4 d) (j4 c) f):Int))) [])))
 | _=>.fail
def IR(args:List PV):Tr:=AZ (D1 [[0],[0],[0]] args)
def WR:List PV->Tr
 | [.s (.int .i64 k),.s (.int .i64 b)]=>.need (ltN k 10000000000) (.need (ltN b 1000000) (.ret (.s (.int .i64 (N4 (Int.mul (36:Int) k) b))) []))
 | _=>.fail
def A66(args:List PV):Tr:=WR (D1 [[0],[0]] args)
def IT:List PV->Tr
 | [.s (.int .i64 d)]=>.need (ltN d 36) (.ret (.s (.int .u8 (↑(an3 (Bn (j4 d))):Int))) [])
 | _=>.fail
def Bv3(args:List PV):Tr:=IT (D1 [[0]] args)
def WY:List PV->Tr
 | [.s (.int .u8 b)]=>.need (inR b 256) (.ret (.s (.int .i64 (F5 (u8n b)))) [])
 | _=>.fail
def Cs7(args:List PV):Tr:=WY (D1 [[0]] args)
def WH:List PV->Tr
 | [.s (.sl b a 1 p)]=>.need (y8 p Px) (.ret (.tup [.s (.str ((Z8 (x4 elI p))).1),.s (.int .i64 (↑((Z8 (x4 elI p))).2:Int))]) [])
 | _=>.fail
def A62(args:List PV):Tr:=WH (D1 [[1]] args)
def JG:List PV->Tr
 | [.s (.str s)]=>.need (A2 (c9 s)) (.ret (.tup [.s (.sl (w6 ((P6 s)).1) (w6 ((P6 s)).1) 1 (Oi ((P6 s)).1)),.s (.int .i64 (↑((P6 s)).2:Int))]) [])
 | _=>.fail
def Bw1(args:List PV):Tr:=JG (D1 [[0]] args)
def IJ:List PV->Tr
 | [.s (.str s)]=>.need (A2 (c9 s)) (.ret (.s (.bool (Fl s))) [])
 | _=>.fail
def Bu9(args:List PV):Tr:=IJ (D1 [[0]] args)
def VV:List PV->Tr
 | [.s (.str s)]=>.need (A2 (c9 s)) (.ret (.s (.bool (N5 s))) [])
 | _=>.fail
def VU(args:List PV):Tr:=VV (D1 [[0]] args)
def BQ:List PV->Tr
 | [.s (.str s)]=>.need (A2 (c9 s)) (.ret (.s (.bool (o0 (Ey s)))) [])
 | _=>.fail
def Aj7(args:List PV):Tr:=BQ (D1 [[0]] args)
def BN:List PV->Tr
 | [.s (.str s)]=>.need (A2 (c9 s)) (.ret (.s (.int .i64 (↑(Lib.runeCountL s):Int))) [])
 | _=>.fail
def Aj5(args:List PV):Tr:=BN (D1 [[0]] args)
def VK:List PV->Tr
 | [.s (.str s)]=>.need (A2 (c9 s)) (.ret (.tup [.s (.str ((K9 s)).1),.s (.int .i64 (↑((K9 s)).2:Int))]) [])
 | _=>.fail
def Cr5(args:List PV):Tr:=VK (D1 [[0]] args)
def WQ:List PV->Tr
 | [.s (.str s)]=>.need (A2 (c9 s)) (.ret (.tup [.s (.sl (w6 (Ut s)) (w6 (Ut s)) 1 (Oi (Ut s))),.s (.bool (o0 (Ey s)))]) [])
 | _=>.fail
def Cs2(args:List PV):Tr:=WQ (D1 [[0]] args)
def JI:List PV->Tr
 | [.s (.str s)]=>.need (A2 (c9 s)) (.ret (.s (.bool (Fl s))) [])
 | _=>.fail
def Bw3(args:List PV):Tr:=JI (D1 [[0]] args)
def JE:List PV->Tr
 | [.s (.str s)]=>.need (A2 (c9 s)) (.ret (.s (.bool (N5 s))) [])
 | _=>.fail
def WN(args:List PV):Tr:=JE (D1 [[0]] args)
def JC:List PV->Tr
 | [.s (.str s)]=>.need (A2 (c9 s)) (.ret (.tup [.s (.str ((K9 s)).1),.s (.int .i64 (↑((K9 s)).2:Int))]) [])
 | _=>.fail
def Bw0(args:List PV):Tr:=JC (D1 [[0]] args)
def UX:List PV->Tr
 | [.s (.int .u8 b)]=>.need (inR b 256) (.ret (.s (.int .i64 (Gq (u8n b)))) [])
 | _=>.fail
def Cr1(args:List PV):Tr:=UX (D1 [[0]] args)
def UW:List PV->Tr
 | [.s (.str s)]=>.need (A2 (c9 s)) (.ret (.tup [.s (.str (Gy s)),.s (.bool (o0 (V3 s)))]) [])
 | _=>.fail
def Cr0(args:List PV):Tr:=UW (D1 [[0]] args)
def HZ:List PV->Tr
 | [.s (.str s)]=>.need (A2 (c9 s)) (.need (C08 s) (.ret (.tup [.agg [.s (.int .i64 (↑(C2.kind ((S8 s)).1):Int)),.s (.str (C2.name ((S8 s)).1)),.s (.int .u32 (↑(C2.v4 ((S8 s)).1):Int)),.s (.int .u16 (↑(j0 (C2.v6 ((S8 s)).1) 0 0):Int)),.s (.int .u16 (↑(j0 (C2.v6 ((S8 s)).1) 1 0):Int)),.s (.int .u16 (↑(j0 (C2.v6 ((S8 s)).1) 2 0):Int)),.s (.int .u16 (↑(j0 (C2.v6 ((S8 s)).1) 3 0):Int)),.s (.int .u16 (↑(j0 (C2.v6 ((S8 s)).1) 4 0):Int)),.s (.int .u16 (↑(j0 (C2.v6 ((S8 s)).1) 5 0):Int)),.s (.int .u16 (↑(j0 (C2.v6 ((S8 s)).1) 6 0):Int)),.s (.int .u16 (↑(j0 (C2.v6 ((S8 s)).1) 7 0):Int))],.s (.int .i64 (↑((S8 s)).2:Int))]) []))
 | _=>.fail
def Bu5(args:List PV):Tr:=HZ (D1 [[0]] args)
def AS:List PV->Tr
 | [.s (.str s)]=>.need (A2 (c9 s)) (.ret (.tup [.agg [.s (.int .i64 (↑(C2.kind ((E2 s)).1):Int)),.s (.str (C2.name ((E2 s)).1)),.s (.int .u32 (↑(C2.v4 ((E2 s)).1):Int)),.s (.int .u16 (↑(j0 (C2.v6 ((E2 s)).1) 0 0):Int)),.s (.int .u16 (↑(j0 (C2.v6 ((E2 s)).1) 1 0):Int)),.s (.int .u16 (↑(j0 (C2.v6 ((E2 s)).1) 2 0):Int)),.s (.int .u16 (↑(j0 (C2.v6 ((E2 s)).1) 3 0):Int)),.s (.int .u16 (↑(j0 (C2.v6 ((E2 s)).1) 4 0):Int)),.s (.int .u16 (↑(j0 (C2.v6 ((E2 s)).1) 5 0):Int)),.s (.int .u16 (↑(j0 (C2.v6 ((E2 s)).1) 6 0):Int)),.s (.int .u16 (↑(j0 (C2.v6 ((E2 s)).1) 7 0):Int))],.s (.int .i64 (↑((E2 s)).2:Int))]) [])
 | _=>.fail
def Ai4(args:List PV):Tr:=AS (D1 [[0]] args)
def A53:List PV->Tr
 | [.s (.str s)]=>.need (A2 (c9 s)) (.ret (.s (.bool (W9 s))) [])
 | _=>.fail
def Cr3(args:List PV):Tr:=A53 (D1 [[0]] args)
def VD:List PV->Tr
 | [.agg [.s (.int .i64 j),.s (.str i),.s (.int .u32 v4),.s (.int .u16 a),.s (.int .u16 b),.s (.int .u16 c),.s (.int .u16 d),.s (.int .u16 e),.s (.int .u16 f),.s (.int .u16 g),.s (.int .u16 h)]]=>.need (A2 (c9 i)) (.need (ltN v4 4294967296) (.need (ok8 a b c d e f g h) (.ret (.s (.bool (P3 (mkH j i v4 (n8 a b c d e f g h))))) [])))
 | _=>.fail
def VC(args:List PV):Tr:=VD (D1 [[0,0,0,0,0,0,0,0,0,0,0]] args)
def UZ:List PV->Tr
 | [.agg [.s (.int .i64 j),.s (.str i),.s (.int .u32 v4),.s (.int .u16 a),.s (.int .u16 b),.s (.int .u16 c),.s (.int .u16 d),.s (.int .u16 e),.s (.int .u16 f),.s (.int .u16 g),.s (.int .u16 h)]]=>.need (A2 (c9 i)) (.need (ltN v4 4294967296) (.need (ok8 a b c d e f g h) (.ret (.s (.str (Y7 (mkH j i v4 (n8 a b c d e f g h))))) [])))
 | _=>.fail
def IA(args:List PV):Tr:=UZ (D1 [[0,0,0,0,0,0,0,0,0,0,0]] args)
def UV:List PV->Tr
 | [.s (.str p),.s (.str s)]=>.need (A2 (c9 p)) (.need (A2 (c9 s)) (.ret (.s (.bool (Gp p s))) []))
 | _=>.fail
def Cq9(args:List PV):Tr:=UV (D1 [[0],[0]] args)
def A64:List PV->Tr
 | [.s (.int .u8 b)]=>.need (inR b 256) (.ret (.s (.int .i64 (Gq (u8n b)))) [])
 | _=>.fail
def D08(args:List PV):Tr:=A64 (D1 [[0]] args)
def IW:List PV->Tr
 | [.s (.str s)]=>.need (A2 (c9 s)) (.ret (.tup [.s (.str (Gy s)),.s (.bool (o0 (V3 s)))]) [])
 | _=>.fail
def Bv6(args:List PV):Tr:=IW (D1 [[0]] args)
def Vm:List PV->Tr
 | [.s (.str s)]=>.need (A2 (c9 s)) (.ret (.tup [.agg [.s (.int .i64 (↑(C2.kind ((E2 s)).1):Int)),.s (.str (C2.name ((E2 s)).1)),.s (.int .u32 (↑(C2.v4 ((E2 s)).1):Int)),.s (.int .u16 (↑(j0 (C2.v6 ((E2 s)).1) 0 0):Int)),.s (.int .u16 (↑(j0 (C2.v6 ((E2 s)).1) 1 0):Int)),.s (.int .u16 (↑(j0 (C2.v6 ((E2 s)).1) 2 0):Int)),.s (.int .u16 (↑(j0 (C2.v6 ((E2 s)).1) 3 0):Int)),.s (.int .u16 (↑(j0 (C2.v6 ((E2 s)).1) 4 0):Int)),.s (.int .u16 (↑(j0 (C2.v6 ((E2 s)).1) 5 0):Int)),.s (.int .u16 (↑(j0 (C2.v6 ((E2 s)).1) 6 0):Int)),.s (.int .u16 (↑(j0 (C2.v6 ((E2 s)).1) 7 0):Int))],.s (.int .i64 (↑((E2 s)).2:Int))]) [])
 | _=>.fail
def QG(args:List PV):Tr:=Vm (D1 [[0]] args)
def WL:List PV->Tr
 | [.s (.str s)]=>.need (A2 (c9 s)) (.ret (.s (.bool (W9 s))) [])
 | _=>.fail
def A63(args:List PV):Tr:=WL (D1 [[0]] args)
def IZ:List PV->Tr
 | [.agg [.s (.int .i64 j),.s (.str i),.s (.int .u32 v4),.s (.int .u16 a),.s (.int .u16 b),.s (.int .u16 c),.s (.int .u16 d),.s (.int .u16 e),.s (.int .u16 f),.s (.int .u16 g),.s (.int .u16 h)]]=>.need (A2 (c9 i)) (.need (ltN v4 4294967296) (.need (ok8 a b c d e f g h) (.ret (.s (.bool (P3 (mkH j i v4 (n8 a b c d e f g h))))) [])))
 | _=>.fail
def WK(args:List PV):Tr:=IZ (D1 [[0,0,0,0,0,0,0,0,0,0,0]] args)
def IY:List PV->Tr
 | [.agg [.s (.int .i64 j),.s (.str i),.s (.int .u32 v4),.s (.int .u16 a),.s (.int .u16 b),.s (.int .u16 c),.s (.int .u16 d),.s (.int .u16 e),.s (.int .u16 f),.s (.int .u16 g),.s (.int .u16 h)]]=>.need (A2 (c9 i)) (.need (ltN v4 4294967296) (.need (ok8 a b c d e f g h) (.ret (.s (.str (Y7 (mkH j i v4 (n8 a b c d e f g h))))) [])))
 | _=>.fail
def WJ(args:List PV):Tr:=IY (D1 [[0,0,0,0,0,0,0,0,0,0,0]] args)
def IV:List PV->Tr
 | [.s (.str p),.s (.str s)]=>.need (A2 (c9 p)) (.need (A2 (c9 s)) (.ret (.s (.bool (Gp p s))) []))
 | _=>.fail
def Bv5(args:List PV):Tr:=IV (D1 [[0],[0]] args)
def AU:List PV->Tr
 | [.s (.int .i64 n),.s (.sl b a 1 l)]=>.need (y8 l isS) (.need (A2 (c9 l)) (.ret (.s (.bool (La n (x4 elS l)))) []))
 | _=>.fail
def Ai6(args:List PV):Tr:=AU (D1 [[0],[1]] args)
def AV:List PV->Tr
 | [.s (.sl d c 1 a),.s (.sl f e 1 b)]=>.need (y8 a isS) (.need (y8 b isS) (.need (A2 (c9 a)) (.need (A2 (c9 b)) (.ret (.s (.bool ((x4 elS a)==(x4 elS b)))) []))))
 | _=>.fail
def Ai7(args:List PV):Tr:=AV (D1 [[1],[1]] args)
end
section
variable {W R : Type} (L : Nat) (Q : G1) (Y : Yh W) (s : W) (k : Out -> St W -> Option R)
noncomputable abbrev Ct6:Code:=D7 al0
noncomputable def CC(L:Nat):=mkC L 201 [(5,[0,1,0,0,10,0])] [(16,[2,0]),(15,[0,3,10,0]),(10,[0,3,10,0]),(12,[0,3,10,0]),(14,[0,3,10,0]),(8,[2,0]),(13,[0,3,1,8,0,32]),(11,[0,3,1,8,0,18]),(9,[0,3,1,8,0,5]),(7,[0,3,1,8,0]),(6,[0,3,0,9,0]),(5,[0,3,10,0,0]),(4,[0,3,10,0]),(3,[0,3]),(2,[2,0]),(1,[0,12]),(0,[0])] [(0,[4]),(1,[0,3,10,0]),(2,[0,3,10,0])] [2,0]
abbrev Kcg(R:Type):=By->Int->Int->Int->Option R
def YR(i:By)(v1 c g h:Int)(d:Bool)(e:Kcg R)(f:Unit->Option R):Option R:=cond d (vl (wu8 ((wu8 (c-65))+10)) λa=>vl (bOr .u16 (Uu .u16 v1 (4:Int)) (Fg a)) λb=>e i b g h) (f ())
def YS(o:By)(v1 a l m:Int)(r:Bool)(f:Kcg R)(q:Unit->Option R):Option R:=cond r (vl (wu8 ((wu8 (a-97))+10)) λg=>vl (bOr .u16 (Uu .u16 v1 (4:Int)) (Fg g)) λh=>f o h l m) (cond (not (ltI a 65)) (YR o v1 a l m (not (ltI 70 a)) (λn p i j=>f n p i j) (λ_=>q ())) (YR o v1 a l m false (λd e b c=>f d e b c) (λ_=>q ())))
def YT(p:By)(v1 a n o:Int)(r:Bool)(j:Kcg R)(q:Unit->Option R):Option R:=cond r (vl (Fg (wu8 (a-48))) λl=>vl (bOr .u16 (Uu .u16 v1 (4:Int)) l) λm=>j p m n o) (cond (not (ltI a 97)) (YS p v1 a n o (not (ltI 102 a)) (λf h b c=>j f h b c) (λ_=>q ())) (YS p v1 a n o false (λg i d e=>j g i d e) (λ_=>q ())))
def Gs(L n:Nat)(b:By)(v1 q a:Int)(o:Unit->Option R)(p:Int->Option R):Option R:=match n with|0=>none|n+1=>cond (ltI a q) (cond (inR a b.length) (cond (not (ltI (bAt b a) (48:Int))) (YT b v1 (bAt b a) q a (not (ltI 57 (bAt b a))) (λi l c d=>vl (A1 (d+1)) λe=>Gs L n i l c e o p) (λ_=>o ())) (YT b v1 (bAt b a) q a false (λj m f g=>vl (A1 (g+1)) λh=>Gs L n j m f h o p) (λ_=>o ()))) none) (p v1)
def Ba7(n s0 v1 n2 n3):D4 0 ((CC L).keep 5) (bd (CC L) Q Y (cd [1,1,1,0,1,0,0] Ct6)) n ⟨gp [(0,pS s0),(3,p16 v1),(10,pI n2),(0,pI n3)] 48,[],s⟩ k =
 Gs L n s0 v1 n2 n3 (λ_=>k .ret ⟨gp [(2,p16 0),(0,pB false)] 61,[],s⟩) (λv0=>k (.exit 0) ⟨gp [(4,p16 v0)] 60,[],s⟩):=by
 induction n generalizing s0 v1 n2 n3 with
 | zero=>rfl
 | succ n a=>rw[Gs];simp only[<-a];kernel_rfl
def Dk6(L:Nat)(c:By)(b:Int->Bool->Option R):Option R:=cond (c==[]) (b 0 false) (cond (ltI 4 (c.length:Int)) (b 0 false) (Gs L L c 0 (c.length:Int) 0 (λ_=>b 0 false) (λa=>b a true)))
def Dk7(d:Nat)(s0):evC (CC L) (d+1) W Y 201 [pS s0] [] s=Dk6 L s0 (λa b=>some (.tup [p16 a,pB b],[],s)):=evT al0 λQ=>by
 unfold Dk6;exact(o7 (by kernel_rfl) (A0 rfl (A0 rfl (ag (Ba7 L Q Y s (F2 0 (F6 (CC L) Q Y (cd [1,1,1,1] Ct6) (I8 (CC L) al0))) L s0 0 (s0.length:Int) 0)))))
noncomputable abbrev Bx2:Code:=D7 ak8
noncomputable def Sl(L:Nat):=mkC L 185 [(6,[1,2,0,0,0,10,0,0])] [(16,[4,0]),(15,[1,4,0,10,0,0]),(14,[6]),(13,[4,0]),(12,[6,5,39]),(11,[1,4,0,0,3,0]),(10,[1,4,0,10,0,0]),(9,[1,4,0,0,0,0,7,0,0,9]),(8,[1,4,0,0,0,0,0,6,0,0]),(7,[1,4,0,0,0,8,0,0]),(6,[1,4,0,10,0,0,0]),(5,[1,4,0,10,0,0]),(4,[1,4,0]),(3,[0,0,4]),(2,[4,0]),(1,[0,0,13]),(0,[0,0])] [(0,[6]),(1,[1,4,0,10,0,0])] [4,0] [(131,Xo),(201,Cq8),(202,D10)] [201,202]
def Fw(L n:Nat)(a:Bool)(c:LL)(l b:Int)(d:LL)(f:LL->Option R)(g:LL->Option R):Option R:=match n with|0=>none|n+1=>cond (ltI b l) (cond (inR b c.length) (cond (okE Aa c (j4 b) 0) (cond (A2 (c9 (gX c (j4 b) 0))) (vl (↑(O9 (grp (gX c (j4 b) 0))):Int) λh=>cond (o0 (grp (gX c (j4 b) 0))) (cond (G0 (d.length+1)) (Fw L n a c l (A1 (b+1)) (d++[[(SV.int .u16 h)]]) f g) none) (cond (A2 (c9 (gX c (j4 b) 0))) (vl (↑(O9 (v4B (gX c (j4 b) 0))):Int) λe=>cond (not (o0 (v4B (gX c (j4 b) 0)))) (f d) (cond (not a) (f d) (vl (A1 ((c.length:Int)-1)) λi=>cond (ltI b i) (f d) (vl (Qi .u32 e (16:Int)) λj=>cond (G0 (d.length+2)) (g (d++[[(SV.int .u16 (Fg j))],[(SV.int .u16 (Fg e))]])) none)))) none)) none) none) none) (g d)
def Aq4(n last0 l1 n2 n3 l4):D4 1 ((Sl L).keep 6) (bd (Sl L) Q Y (cd [1,0,1,1,1,1,0,1,0,0] Bx2)) n ⟨gp [(1,pB last0),(4,.fl 0),(0,.s (.sl false false 1 l1)),(10,.s (.sl false false 1 l1)),(0,pI n2),(0,pI n3)] 42,[.arr true 37 1 l4],s⟩ k =
 Fw L n last0 l1 n2 n3 l4 (λa=>k .ret ⟨gp [(4,.fl 1),(0,pB false)] 57,[.arr true 37 1 a,.arr true 37 1 []],s⟩) (λa=>k (.exit 0) ⟨gp [(6,.fl 0)] 56,[.arr true 37 1 a],s⟩):=by
 induction n generalizing last0 l1 n2 n3 l4 with
 | zero=>rfl
 | succ n b=>rw[Fw];simp only[<-b];kernel_rfl
def B22(L:Nat)(e:By)(a:Bool)(f:LL->Option R)(g:LL->Option R):Option R:=cond (e==[]) (f []) (cond (A2 e.length) (cond (1==1) (vl (A9 (pcs (j0 ([58]:By) 0 0) e)) λb=>Fw L L a b (b.length:Int) 0 [] (λd=>g d) (λc=>f c)) none) none)
def Cz8(d:Nat)(s0 last1):evC (Sl L) (d+1) W Y 185 [pS s0,pB last1] [] s=B22 L s0 last1 (λb=>some (.tup [.fl 0,pB true],[.arr true 37 1 b],s)) (λb=>some (.tup [.fl 1,pB false],[.arr true 37 1 b,.arr true 37 1 []],s)):=evT ak8 λQ=>by
 unfold B22;exact(o7 (by kernel_rfl) (A0 rfl (A0 (A0 (A6 λa=>(ag (Aq4 L Q Y s (F2 0 (F6 (Sl L) Q Y (cd [1,0,1,1,1,1,1] Bx2) (I8 (Sl L) ak8))) L last1 a (a.length:Int) 0 []))) rfl) rfl)))
noncomputable def D22(L:Nat):=mkC L 159 [] [(10,[2,0]),(9,[2,1]),(8,[2,1,5]),(7,[2,0]),(6,[2,1,3,1,45]),(5,[2,1,2,0,0,0,0,0]),(4,[2,1,2,0,0,0,0]),(3,[2,1,1,0,0,0]),(2,[2,1,0,0,0]),(1,[0,1,1]),(0,[0,1])] [] [2,0] [(45,A68),(185,Bu4)] [45]
def EF(p o d:LL)(q:LL->LL->Option R):Option R:=cond (decide (d.length=8)) (cond (decide (8<=d.length)) (vl ((y7 0 d)++((y7 8 p)++(ae5 (0+(min p.length 8)) d))) λc=>vl (A1 ((8:Int)-(o.length:Int))) λb=>cond (decide (c.length=8)) (cond (J5 b (8:Int) 8) (cond (decide (((j4 b)+(8-(j4 b)))<=c.length)) (vl ((y7 (j4 b) c)++((y7 (8-(j4 b)) o)++(ae5 ((j4 b)+(min o.length (8-(j4 b)))) c))) λa=>cond ((decide (8=(a.length*1)))&&(okS ⟨true,true,[.int .u16,.int .u16,.int .u16,.int .u16,.int .u16,.int .u16,.int .u16,.int .u16]⟩ (j7 a) 0)) (vl (SV.gI (j0 (j7 a) 0 SV.nilp)) λf=>vl (SV.gI (j0 (j7 a) 1 SV.nilp)) λg=>vl (SV.gI (j0 (j7 a) 2 SV.nilp)) λh=>vl (SV.gI (j0 (j7 a) 3 SV.nilp)) λi=>vl (SV.gI (j0 (j7 a) 4 SV.nilp)) λj=>vl (SV.gI (j0 (j7 a) 5 SV.nilp)) λl=>vl (SV.gI (j0 (j7 a) 6 SV.nilp)) λm=>vl (SV.gI (j0 (j7 a) 7 SV.nilp)) λn=>cond (decide (8=(d.length*1))) (vl (U4 1 d.length [(SV.int .u16 f),(SV.int .u16 g),(SV.int .u16 h),(SV.int .u16 i),(SV.int .u16 j),(SV.int .u16 l),(SV.int .u16 m),(SV.int .u16 n)]) λe=>q e a) none) none) none) none) none) none) none
abbrev Kbg(R:Type):=Int->Int->Int->Int->Int->Int->Int->Int->Bool->LL->LL->Option R
def v6p(L:Nat)(h:By)(g:Kbg R):Option R:=cond (A2 h.length) (vl ((s9 h ([58,58]:By))).1 λj=>vl (((s9 h ([58,58]:By))).2).1 λe=>cond (A2 j.length) (vl (E7 (gvs j (not (((s9 h ([58,58]:By))).2).2))) λf=>cond (A2 e.length) (vl (A1 ((f.length:Int)+(↑(c9 (E7 (gvs e true))):Int))) λi=>cond (not (o0 (S9 j (not (((s9 h ([58,58]:By))).2).2)))) (g 0 0 0 0 0 0 0 0 false (j5 8 [(SV.int .u16 0)]) (j5 8 [(SV.int .u16 0)])) (cond (not (o0 (S9 e true))) (g 0 0 0 0 0 0 0 0 false (j5 8 [(SV.int .u16 0)]) (j5 8 [(SV.int .u16 0)])) (cond (not (((s9 h ([58,58]:By))).2).2) (cond (i !=8) (g 0 0 0 0 0 0 0 0 false (j5 8 [(SV.int .u16 0)]) (j5 8 [(SV.int .u16 0)])) (cond (((s9 h ([58,58]:By))).2).2 (cond (ltI 7 i) (g 0 0 0 0 0 0 0 0 false (j5 8 [(SV.int .u16 0)]) (j5 8 [(SV.int .u16 0)])) (EF f (E7 (gvs e true)) (j5 8 [(SV.int .u16 0)]) (λa l=>cond ((decide (8=(a.length*1)))&&(okS ⟨true,true,[.int .u16,.int .u16,.int .u16,.int .u16,.int .u16,.int .u16,.int .u16,.int .u16]⟩ (j7 a) 0)) (g (SV.gI (j0 (j7 a) 0 SV.nilp)) (SV.gI (j0 (j7 a) 1 SV.nilp)) (SV.gI (j0 (j7 a) 2 SV.nilp)) (SV.gI (j0 (j7 a) 3 SV.nilp)) (SV.gI (j0 (j7 a) 4 SV.nilp)) (SV.gI (j0 (j7 a) 5 SV.nilp)) (SV.gI (j0 (j7 a) 6 SV.nilp)) (SV.gI (j0 (j7 a) 7 SV.nilp)) true a l) none))) (EF f (E7 (gvs e true)) (j5 8 [(SV.int .u16 0)]) (λb m=>cond ((decide (8=(b.length*1)))&&(okS ⟨true,true,[.int .u16,.int .u16,.int .u16,.int .u16,.int .u16,.int .u16,.int .u16,.int .u16]⟩ (j7 b) 0)) (g (SV.gI (j0 (j7 b) 0 SV.nilp)) (SV.gI (j0 (j7 b) 1 SV.nilp)) (SV.gI (j0 (j7 b) 2 SV.nilp)) (SV.gI (j0 (j7 b) 3 SV.nilp)) (SV.gI (j0 (j7 b) 4 SV.nilp)) (SV.gI (j0 (j7 b) 5 SV.nilp)) (SV.gI (j0 (j7 b) 6 SV.nilp)) (SV.gI (j0 (j7 b) 7 SV.nilp)) true b m) none)))) (cond (((s9 h ([58,58]:By))).2).2 (cond (ltI 7 i) (g 0 0 0 0 0 0 0 0 false (j5 8 [(SV.int .u16 0)]) (j5 8 [(SV.int .u16 0)])) (EF f (E7 (gvs e true)) (j5 8 [(SV.int .u16 0)]) (λc n=>cond ((decide (8=(c.length*1)))&&(okS ⟨true,true,[.int .u16,.int .u16,.int .u16,.int .u16,.int .u16,.int .u16,.int .u16,.int .u16]⟩ (j7 c) 0)) (g (SV.gI (j0 (j7 c) 0 SV.nilp)) (SV.gI (j0 (j7 c) 1 SV.nilp)) (SV.gI (j0 (j7 c) 2 SV.nilp)) (SV.gI (j0 (j7 c) 3 SV.nilp)) (SV.gI (j0 (j7 c) 4 SV.nilp)) (SV.gI (j0 (j7 c) 5 SV.nilp)) (SV.gI (j0 (j7 c) 6 SV.nilp)) (SV.gI (j0 (j7 c) 7 SV.nilp)) true c n) none))) (EF f (E7 (gvs e true)) (j5 8 [(SV.int .u16 0)]) (λd o=>cond ((decide (8=(d.length*1)))&&(okS ⟨true,true,[.int .u16,.int .u16,.int .u16,.int .u16,.int .u16,.int .u16,.int .u16,.int .u16]⟩ (j7 d) 0)) (g (SV.gI (j0 (j7 d) 0 SV.nilp)) (SV.gI (j0 (j7 d) 1 SV.nilp)) (SV.gI (j0 (j7 d) 2 SV.nilp)) (SV.gI (j0 (j7 d) 3 SV.nilp)) (SV.gI (j0 (j7 d) 4 SV.nilp)) (SV.gI (j0 (j7 d) 5 SV.nilp)) (SV.gI (j0 (j7 d) 6 SV.nilp)) (SV.gI (j0 (j7 d) 7 SV.nilp)) true d o) none)))))) none) none) none
def D95(d:Nat)(s0):evC (D22 L) (d+1) W Y 159 [pS s0] [] s=v6p L s0 (λb c e f g h i j r8 a l10=>some (.tup [.agg [p16 b,p16 c,p16 e,p16 f,p16 g,p16 h,p16 i,p16 j],pB r8],[.arr false 38 1 a,.arr false 38 1 l10],s)):=evT Tryz.f159 λQ=>by
 unfold v6p;kernel_rfl
noncomputable abbrev Sj:Code:=D7 am7
noncomputable def Bv(L:Nat):=mkC L 58 [(6,[1,0,0,0,0,0,0,0]),(3,[1,0,0,0,0,2])] [(11,[2,0]),(10,[1,2,0,2]),(9,[1,2,0,2]),(8,[1,2,0,0,0,0,18]),(7,[1,2,0,0,0,0]),(6,[1,2,0,0,0,0,13]),(5,[1,2,0,0,0,0]),(4,[1,2,0,0,1]),(3,[1,2,0,2,0]),(2,[1,2,0,2]),(1,[1,2,0]),(0,[1])] [(0,[4,0]),(1,[1,2,0,2]),(2,[1,2,0,0,0,0]),(3,[1,2,0,0,0,0])] [2,0]
abbrev Kci(R:Type):=Int->Int->Int->Int->LL->Option R
def Jl(L n:Nat)(b a c d:Int)(e:LL)(f:Kci R):Option R:=match n with|0=>none|n+1=>cond (ltI (A1 (c+d)) (8:Int)) (cond (inR (A1 (c+d)) 8) (cond (okE ⟨true,false,[.int .u16]⟩ e (j4 (A1 (c+d))) 0) (vl (gE e (j4 (A1 (c+d))) 0) λg=>cond (g==0) (Jl L n b a c (A1 (d+1)) e f) (f b a c d e)) none) none) (f b a c d e)
def A46(n b a c e d):D4 1 ((Bv L).keep 6) (bd (Bv L) Q Y (cd [1,1,0,1,0,0,1,1,0,0,1,1,0,0,0] Sj)) n ⟨gp [(1,.ptr 0 0 0),(2,pI b),(0,pI a),(0,pI c),(0,pI e),(0,pI c)] 24,[.arr false 38 1 d],s⟩ k =
 Jl L n b a c e d (λb a c e d=>k (.exit 2) ⟨gp [(1,.ptr 0 0 0),(2,pI b),(0,pI a),(0,pI c),(0,pI e),(0,pI c)] 24,[.arr false 38 1 d],s⟩):=by
 induction n generalizing b a c e d with
 | zero=>rfl
 | succ n f=>rw[Jl];simp only[<-f];kernel_rfl
def Ge(L n:Nat)(e b j:Int)(i:LL)(h:Int->Int->LL->Option R):Option R:=match n with|0=>none|n+1=>cond (ltI j 8) (Jl L L e b j 0 i (λd a c g f=>cond (ltI a g) (Ge L n c g (A1 (c+1)) f h) (Ge L n d a (A1 (c+1)) f h))) (h e b i)
def A47(n b a n2 l3):D4 1 ((Bv L).keep 3) (bd (Bv L) Q Y (cd [1,1,0,1,0,0] Sj)) n ⟨gp [(1,.ptr 0 0 0),(2,pI b),(0,pI a),(2,pI n2)] 24,[.arr false 38 1 l3],s⟩ k =
 Ge L n b a n2 l3 (λb a i=>k (.exit 0) ⟨gp [(4,pI b),(0,pI a)] 27,[.arr false 38 1 i],s⟩):=by
 induction n generalizing b a n2 l3 with
 | zero=>rfl
 | succ n h=>rw[Ge];exact(o7 (by kernel_rfl) (A0 ((A46 L Q Y s (F2 2 (F6 (Bv L) Q Y (cd [1,1,0,1,0,0,1,1,0,0,1,1,1] Sj) (F2 1 (F6 (Bv L) Q Y (cd [1,1,0,1,0,0,1,1,1] Sj) (lpK 1 ((Bv L).keep 3) (bd (Bv L) Q Y (cd [1,1,0,1,0,0] Sj)) n k))))) L b a n2 0 l3).trans (congr rfl (fx5 λe c d g f=>(o7 (by kernel_rfl) (A0 (h d g (A1 (d+1)) f) (h e c (A1 (d+1)) f)))))) rfl))
def B90(L:Nat)(d e f g h i j l:Int)(m:Int->Int->LL->Option R):Option R:=Ge L L 0 0 0 [[(SV.int .u16 d)],[(SV.int .u16 e)],[(SV.int .u16 f)],[(SV.int .u16 g)],[(SV.int .u16 h)],[(SV.int .u16 i)],[(SV.int .u16 j)],[(SV.int .u16 l)]] (λb a c=>m b a c)
def Dg6(d:Nat)(a0 a1 a2 a3 a4 a5 a6 a7):evC (Bv L) (d+1) W Y 58 [.agg [p16 a0,p16 a1,p16 a2,p16 a3,p16 a4,p16 a5,p16 a6,p16 a7]] [] s=B90 L a0 a1 a2 a3 a4 a5 a6 a7 (λb c a=>some (.tup [pI b,pI c],[.arr false 38 1 a],s)):=evT am7 λQ=>by
 unfold B90;exact(o7 (by kernel_rfl) (ag (A47 L Q Y s (F2 0 (F6 (Bv L) Q Y (cd [1,1,1] Sj) (I8 (Bv L) am7))) L 0 0 0 [[(SV.int .u16 a0)],[(SV.int .u16 a1)],[(SV.int .u16 a2)],[(SV.int .u16 a3)],[(SV.int .u16 a4)],[(SV.int .u16 a5)],[(SV.int .u16 a6)],[(SV.int .u16 a7)]])))
noncomputable abbrev D17:Code:=D7 am8
noncomputable def RJ(L:Nat):=mkC L 59 [(3,[2,0,2,0,0])] [(7,[2]),(6,[3,2,0,0]),(5,[3,2,0,0]),(4,[3,1,0,0,0]),(3,[3,2,0,0,0]),(2,[3,2,0,0]),(1,[0,2]),(0,[0])] [(0,[3]),(1,[3,2,0,0])] [2] [(101,Cq7),(102,XE)] [101,102]
def Xg(L n:Nat)(h g:Bool)(c:LL)(f b:Int)(d:LL)(e:LL->Option R):Option R:=match n with|0=>none|n+1=>cond (ltI b f) (cond (inR b c.length) (cond (okE ⟨true,false,[.int .u16]⟩ c (j4 b) 0) (vl (D99 (gE c (j4 b) 0)) λa=>cond (ltN a 65536) (cond ((16:Int)==16) (cond (G0 (d.length+1)) (Xg L n h g c f (A1 (b+1)) (d++[[(SV.str (V5 (j4 a)))]]) e) none) none) none) none) none) (e d)
def Cp1(n z0 t1 l2 n3 n4 l5):D4 1 ((RJ L).keep 3) (bd (RJ L) Q Y (cd [1,1,0,1,0,0] D17)) n ⟨gp [(3,.fl 0),(2,.s (.sl z0 t1 1 l2)),(0,pI n3),(0,pI n4)] 12,[.arr true 9 1 l5],s⟩ k =
 Xg L n z0 t1 l2 n3 n4 l5 (λb=>k (.exit 0) ⟨gp [(3,.fl 0)] 17,[.arr true 9 1 b],s⟩):=by
 induction n generalizing z0 t1 l2 n3 n4 l5 with
 | zero=>rfl
 | succ n a=>rw[Xg];simp only[<-a];kernel_rfl
def v6j(L:Nat)(c b:Bool)(e:LL)(f:By->LL->Option R):Option R:=Xg L L c b e (e.length:Int) 0 [] (λa=>cond (y8 a isS) (cond (A2 (c9 (ac7 (x4 elS a) ([58]:By)))) (cond (A2 a.length) (vl (ac7 (x4 elS a) ([58]:By)) λd=>f d a) none) none) none)
def D93(d:Nat)(l_z0 l_t1 l2):evC (RJ L) (d+1) W Y 59 [.s (.sl l_z0 l_t1 1 l2)] [] s=v6j L l_z0 l_t1 l2 (λb a=>some (pS b,[.arr true 9 1 a],s)):=evT am8 λQ=>by
 unfold v6j;exact(o7 (by kernel_rfl) (ag (Cp1 L Q Y s (F2 0 (F6 (RJ L) Q Y (cd [1,1,1] D17) (I8 (RJ L) am8))) L l_z0 l_t1 l2 (l2.length:Int) 0 [])))
noncomputable def D21(L:Nat):=mkC L 33 [] [(4,[2]),(3,[2]),(2,[1,1,0,6]),(1,[1,1,0]),(0,[1])] [] [2] [(58,Bx0),(59,D12)] [58,59]
def v6f(L:Nat)(c d e f g h i j:Int)(p:By->LL->Option R):Option R:=cond (ok8 c d e f g h i j) (vl (↑((zGo (n8 c d e f g h i j) 0 0 0)).1:Int) λa=>vl (↑((zGo (n8 c d e f g h i j) 0 0 0)).2:Int) λb=>cond (ltI b 2) (cond (y8 [[(SV.int .u16 c)],[(SV.int .u16 d)],[(SV.int .u16 e)],[(SV.int .u16 f)],[(SV.int .u16 g)],[(SV.int .u16 h)],[(SV.int .u16 i)],[(SV.int .u16 j)]] Yq) (cond (x8 8 8) (vl (X3 (x4 elN [[(SV.int .u16 c)],[(SV.int .u16 d)],[(SV.int .u16 e)],[(SV.int .u16 f)],[(SV.int .u16 g)],[(SV.int .u16 h)],[(SV.int .u16 i)],[(SV.int .u16 j)]])) λo=>p o [[(SV.int .u16 c)],[(SV.int .u16 d)],[(SV.int .u16 e)],[(SV.int .u16 f)],[(SV.int .u16 g)],[(SV.int .u16 h)],[(SV.int .u16 i)],[(SV.int .u16 j)]]) none) none) (cond (J5 0 a 8) (cond (y8 (y7 ((j4 a)-0) [[(SV.int .u16 c)],[(SV.int .u16 d)],[(SV.int .u16 e)],[(SV.int .u16 f)],[(SV.int .u16 g)],[(SV.int .u16 h)],[(SV.int .u16 i)],[(SV.int .u16 j)]]) Yq) (cond (x8 (c9 (y7 ((j4 a)-0) [[(SV.int .u16 c)],[(SV.int .u16 d)],[(SV.int .u16 e)],[(SV.int .u16 f)],[(SV.int .u16 g)],[(SV.int .u16 h)],[(SV.int .u16 i)],[(SV.int .u16 j)]])) 8) (vl (X3 (x4 elN (y7 ((j4 a)-0) [[(SV.int .u16 c)],[(SV.int .u16 d)],[(SV.int .u16 e)],[(SV.int .u16 f)],[(SV.int .u16 g)],[(SV.int .u16 h)],[(SV.int .u16 i)],[(SV.int .u16 j)]]))) λl=>cond (F7 l.length 2) (vl (l++[58,58]) λm=>cond (J5 (A1 (a+b)) (8:Int) 8) (cond (y8 (y7 (8-(j4 (A1 (a+b)))) (ae5 (j4 (A1 (a+b))) [[(SV.int .u16 c)],[(SV.int .u16 d)],[(SV.int .u16 e)],[(SV.int .u16 f)],[(SV.int .u16 g)],[(SV.int .u16 h)],[(SV.int .u16 i)],[(SV.int .u16 j)]])) Yq) (cond (x8 (c9 (y7 (8-(j4 (A1 (a+b)))) (ae5 (j4 (A1 (a+b))) [[(SV.int .u16 c)],[(SV.int .u16 d)],[(SV.int .u16 e)],[(SV.int .u16 f)],[(SV.int .u16 g)],[(SV.int .u16 h)],[(SV.int .u16 i)],[(SV.int .u16 j)]]))) 8) (vl (X3 (x4 elN (y7 (8-(j4 (A1 (a+b)))) (ae5 (j4 (A1 (a+b))) [[(SV.int .u16 c)],[(SV.int .u16 d)],[(SV.int .u16 e)],[(SV.int .u16 f)],[(SV.int .u16 g)],[(SV.int .u16 h)],[(SV.int .u16 i)],[(SV.int .u16 j)]])))) λn=>cond (F7 m.length n.length) (p (m++n) [[(SV.int .u16 c)],[(SV.int .u16 d)],[(SV.int .u16 e)],[(SV.int .u16 f)],[(SV.int .u16 g)],[(SV.int .u16 h)],[(SV.int .u16 i)],[(SV.int .u16 j)]]) none) none) none) none) none) none) none) none)) none
def D91(d:Nat)(a0 a1 a2 a3 a4 a5 a6 a7):evC (D21 L) (d+1) W Y 33 [.agg [p16 a0,p16 a1,p16 a2,p16 a3,p16 a4,p16 a5,p16 a6,p16 a7]] [] s=v6f L a0 a1 a2 a3 a4 a5 a6 a7 (λb a=>some (pS b,[.arr false 38 1 a],s)):=evT Tryz.f33 λQ=>by
 unfold v6f;kernel_rfl
noncomputable abbrev Cu3:Code:=D7 ak7
noncomputable def CJ(L:Nat):=mkC L 173 [(5,[0,1,0,0,0])] [(15,[2,0]),(6,[0,3,0]),(10,[0,3,0]),(12,[0,3,0]),(14,[0,3,0]),(8,[2,0]),(13,[0,3,0,0,44]),(11,[0,3,0,0,30]),(9,[0,3,0,0,17]),(7,[0,3,0,0]),(5,[0,3,0,12]),(4,[0,3,0]),(3,[0,3]),(2,[2,0]),(1,[0,13]),(0,[0])] [(0,[4]),(1,[0,3,0]),(2,[0,3,0])] [2,0]
def Ac4(j:By)(i f d:Int)(e:Bool)(g:By->Int->Int->Option R)(h:Unit->Option R):Option R:=cond e (vl (A1 (wu8 (d-65))) λa=>vl (A1 ((A1 (i*16))+a)) λb=>vl (A1 (b+10)) λc=>g j c f) (h ())
def Ac5(o:By)(m f a:Int)(q:Bool)(g:By->Int->Int->Option R)(p:Unit->Option R):Option R:=cond q (vl (A1 (wu8 (a-97))) λh=>vl (A1 ((A1 (m*16))+h)) λi=>vl (A1 (i+10)) λj=>g o j f) (cond (not (ltI a 65)) (Ac4 o m f a (not (ltI 70 a)) (λn l b=>g n l b) (λ_=>p ())) (Ac4 o m f a false (λe d c=>g e d c) (λ_=>p ())))
def Ac6(n:By)(m h a:Int)(p:Bool)(i:By->Int->Int->Option R)(o:Unit->Option R):Option R:=cond p (vl (A1 (wu8 (a-48))) λj=>vl (A1 ((A1 (m*16))+j)) λl=>i n l h) (cond (not (ltI a 97)) (Ac5 n m h a (not (ltI 102 a)) (λf d b=>i f d b) (λ_=>o ())) (Ac5 n m h a false (λg e c=>i g e c) (λ_=>o ())))
def He(L n:Nat)(b:By)(o a:Int)(l:Unit->Option R)(m:Int->Option R):Option R:=match n with|0=>none|n+1=>cond (ltI a (b.length:Int)) (cond (inR a b.length) (cond (not (ltI (bAt b a) (48:Int))) (Ac6 b o a (bAt b a) (not (ltI 57 (bAt b a))) (λi e c=>vl (A1 (c+1)) λf=>He L n i e f l m) (λ_=>l ())) (Ac6 b o a (bAt b a) false (λj g d=>vl (A1 (d+1)) λh=>He L n j g h l m) (λ_=>l ()))) none) (m o)
def Bi8(n s0 n1 i2):D4 0 ((CJ L).keep 5) (bd (CJ L) Q Y (cd [1,1,1,0,1,0,0] Cu3)) n ⟨gp [(0,pS s0),(3,pI n1),(0,pI i2)] 61,[],s⟩ k =
 He L n s0 n1 i2 (λ_=>k .ret ⟨gp [(2,p16 0),(0,pB false)] 63,[],s⟩) (λn0=>k (.exit 0) ⟨gp [(4,pI n0)] 62,[],s⟩):=by
 induction n generalizing s0 n1 i2 with
 | zero=>rfl
 | succ n a=>rw[He];simp only[<-a];kernel_rfl
def Ds2(L:Nat)(c:By)(b:Int->Bool->Option R):Option R:=cond (ltI (c.length:Int) (1:Int)) (b 0 false) (cond (ltI 4 (c.length:Int)) (b 0 false) (He L L c 0 0 (λ_=>b 0 false) (λa=>b (Fg a) true)))
def Ds3(d:Nat)(s0):evC (CJ L) (d+1) W Y 173 [pS s0] [] s=Ds2 L s0 (λa b=>some (.tup [p16 a,pB b],[],s)):=evT ak7 λQ=>by
 unfold Ds2;exact(o7 (by kernel_rfl) (A0 rfl (A0 rfl (ag (Bi8 L Q Y s (F2 0 (F6 (CJ L) Q Y (cd [1,1,1,1] Cu3) (I8 (CJ L) ak7))) L s0 0 0)))))
noncomputable abbrev Bx4:Code:=D7 ak3
noncomputable def Sn(L:Nat):=mkC L 146 [(6,[1,2,0,0,0,0])] [(15,[4,0]),(7,[1,4,0,0]),(14,[1,4,0,0]),(13,[4,0]),(12,[1,4,0,0,2,47]),(11,[1,4,0,0,2,0]),(10,[1,4,0,0]),(9,[1,4,0,0,0,31]),(8,[1,4,0,0,0,0]),(6,[1,4,0,0,11]),(5,[1,4,0,0]),(4,[1,4,0]),(3,[0,0,4]),(2,[4,0]),(1,[0,0,12]),(0,[0,0])] [(0,[6]),(1,[1,4,0,0])] [4,0] [(75,Fp),(172,Cs4),(173,Cs1)] [172,173]
def Zd(a:Bool)(g:LL)(f d:Int)(e:Bool)(c:LL)(h:Bool->LL->Int->LL->Option R)(i:Bool->LL->Int->Int->Bool->LL->Option R):Option R:=cond e (vl (Qi .u32 d (16:Int)) λb=>cond (G0 (c.length+2)) (h a g f (c++[[(SV.int .u16 (Fg b))],[(SV.int .u16 (Fg d))]])) none) (i a g f d e c)
def Ze(a:Bool)(c:LL)(b:Int)(e:LL)(f:LL->Option R)(g:Bool->LL->Int->LL->Option R):Option R:=cond (inR b c.length) (cond (okE Aa c (j4 b) 0) (cond (A2 (c9 (gX c (j4 b) 0))) (vl (↑(O9 (grp (gX c (j4 b) 0))):Int) λd=>cond (not (o0 (grp (gX c (j4 b) 0)))) (f e) (cond (G0 (e.length+1)) (g a c b (e++[[(SV.int .u16 d)]])) none)) none) none) none
def T6(L n:Nat)(a:Bool)(m:LL)(l:Int)(l3:LL)(o:LL->Option R)(p:LL->Option R):Option R:=match n with|0=>none|n+1=>cond (ltI l (m.length:Int)) (cond (inR l m.length) (cond (okE Aa m (j4 l) 0) (cond (A2 (c9 (gX m (j4 l) 0))) (vl (↑(O9 (v4B (gX m (j4 l) 0))):Int) λq=>cond (o0 (v4B (gX m (j4 l) 0))) (cond a (vl (A1 ((m.length:Int)-1)) λa8=>Zd a m l q (l==a8) l3 (λb Z r B=>vl (A1 (r+1)) λP=>T6 L n b Z P B o p) (λc a0 t b2 a9 C=>Ze c a0 t C (λD=>o D) (λd a1 u F=>vl (A1 (u+1)) λS=>T6 L n d a1 S F o p))) (Zd a m l q false l3 (λe a2 v G=>vl (A1 (v+1)) λT=>T6 L n e a2 T G o p) (λf a3 w b3 b0 H=>Ze f a3 w H (λI=>o I) (λg a4 x J=>vl (A1 (x+1)) λU=>T6 L n g a4 U J o p)))) (Zd a m l q false l3 (λh a5 y K=>vl (A1 (y+1)) λV=>T6 L n h a5 V K o p) (λi a6 z b4 b1 M=>Ze i a6 z M (λN=>o N) (λj a7 A O=>vl (A1 (A+1)) λX=>T6 L n j a7 X O o p)))) none) none) none) (p l3)
def Av3(n last0 p1 i2 l3):D4 1 ((Sn L).keep 6) (bd (Sn L) Q Y (cd [1,1,1,1,0,1,0,0] Bx4)) n ⟨gp [(1,pB last0),(4,.fl 0),(0,.s (.sl false false 1 p1)),(0,pI i2)] 56,[.arr true 37 1 l3],s⟩ k =
 T6 L n last0 p1 i2 l3 (λa=>k .ret ⟨gp [(4,.fl 1),(0,pB false)] 59,[.arr true 37 1 a,.arr true 37 1 []],s⟩) (λa=>k (.exit 0) ⟨gp [(6,.fl 0)] 58,[.arr true 37 1 a],s⟩):=by
 induction n generalizing last0 p1 i2 l3 with
 | zero=>rfl
 | succ n b=>rw[T6];simp only[<-b];kernel_rfl
def B51(L:Nat)(e:By)(a:Bool)(f:LL->Option R)(g:LL->Option R):Option R:=cond (e==[]) (f []) (cond (A2 e.length) (vl (A9 (pcs (u8n (58:Int)) e)) λd=>T6 L L a d 0 [] (λb=>g b) (λc=>f c)) none)
def C49(d:Nat)(s0 last1):evC (Sn L) (d+1) W Y 146 [pS s0,pB last1] [] s=B51 L s0 last1 (λb=>some (.tup [.fl 0,pB true],[.arr true 37 1 b],s)) (λb=>some (.tup [.fl 1,pB false],[.arr true 37 1 b,.arr true 37 1 []],s)):=evT ak3 λQ=>by
 unfold B51;exact(o7 (by kernel_rfl) (A0 rfl (A0 (A6 λa=>(ag (Av3 L Q Y s (F2 0 (F6 (Sn L) Q Y (cd [1,1,1,1,1] Bx4) (I8 (Sn L) ak3))) L last1 a 0 []))) rfl)))
noncomputable abbrev QS:Code:=D7 ak2
noncomputable def Hn(L:Nat):=mkC L 145 [(2,[0,1,0])] [(6,[2]),(3,[0,2]),(5,[2]),(4,[0,2,17]),(2,[0,2,4]),(1,[0,2]),(0,[0])] [(0,[]),(1,[0,2])] [2]
def Y2(L n:Nat)(b:By)(a:Int)(c:Int->Option R)(d:Unit->Option R):Option R:=match n with|0=>none|n+1=>cond (ltI (A1 (a+1)) (b.length:Int)) (cond (inR a b.length) (cond ((bAt b a)==58) (cond (inR (A1 (a+1)) b.length) (vl (bAt b (A1 (a+1))) λe=>cond (e==58) (c a) (Y2 L n b (A1 (a+1)) c d)) none) (Y2 L n b (A1 (a+1)) c d)) none) (d ())
def PK(n s0 i1):D4 0 ((Hn L).keep 2) (bd (Hn L) Q Y (cd [1,0,1,0,0] QS)) n ⟨gp [(0,pS s0),(2,pI i1)] 19,[],s⟩ k =
 Y2 L n s0 i1 (λn0=>k .ret ⟨gp [(2,pI n0)] 20,[],s⟩) (λ_=>k (.exit 0) ⟨gp [] 23,[],s⟩):=by
 induction n generalizing s0 i1 with
 | zero=>rfl
 | succ n a=>rw[Y2];simp only[<-a];kernel_rfl
def HG(L:Nat)(c:By)(b:Int->Option R):Option R:=Y2 L L c 0 (λa=>b a) (λ_=>b (-1))
def Bh6(d:Nat)(s0):evC (Hn L) (d+1) W Y 145 [pS s0] [] s=HG L s0 (λa=>some (pI a,[],s)):=evT ak2 λQ=>by
 unfold HG;exact(o7 (by kernel_rfl) (ag (PK L Q Y s (F2 0 (F6 (Hn L) Q Y (cd [1,1] QS) (I8 (Hn L) ak2))) L s0 0)))
noncomputable abbrev Vx:Code:=D7 ag6
noncomputable def Ce(L:Nat):=mkC L 109 [(21,[2,0,0,6,2]),(17,[2,0,0,4,1,1]),(8,[2,0,0,1,1])] [(24,[2,0]),(22,[2,1,6,2]),(23,[2,1,6,2]),(21,[2,1,6,2,73]),(20,[2,1,6,2]),(18,[2,1,4,1,1]),(19,[2,1,4,1,1]),(17,[2,1,4,1,1,62]),(16,[2,1,4,1,1]),(15,[2,0]),(14,[2,1,4,1,59]),(13,[2,1,4,0,0,0]),(12,[0,1,1,0,3,0]),(11,[2,0]),(9,[2,1,1,1]),(10,[2,1,1,1]),(8,[2,1,1,1,24]),(7,[2,1,1,1]),(6,[2,0]),(5,[2,1,1,23]),(4,[2,1,1,0]),(3,[0,1,1,0,12]),(2,[0,1,1,0]),(1,[0,1,1]),(0,[0,1])] [(4,[2,1]),(5,[2,1,6,2]),(2,[2,1,6]),(3,[2,1,4,1,1]),(0,[2,1]),(1,[2,1,1,1])] [2,0] [(145,QE),(146,Bv4)] [145]
def Ph(L n:Nat)(b:Bool)(c:LL)(a:Int)(g d:LL)(f:LL->LL->Option R):Option R:=match n with|0=>none|n+1=>cond (ltI a 8) (cond (inR a c.length) (cond (okE ⟨true,false,[.int .u16]⟩ c (j4 a) 0) (cond (inR a 8) (cond (decide ((j4 a)<d.length)) (vl (ac9 d (j4 a) (I4 (j0 d (j4 a) []) 0 [(SV.int .u16 (gE c (j4 a) 0))])) λe=>Ph L n b c (A1 (a+1)) g e f) none) none) none) none) (f g d)
def Bp2(n l_z0 a i2 l3 l4):D4 2 ((Ce L).keep 8) (bd (Ce L) Q Y (cd [1,1,1,0,1,0,1,1,0,1,0,0] Vx)) n ⟨gp [(2,.ptr 0 0 0),(1,.ptr 1 0 0),(1,.s (.sl l_z0 l_z0 1 a)),(1,pI i2)] 93,[.arr false 38 1 l3,.arr false 38 1 l4],s⟩ k =
 Ph L n l_z0 a i2 l3 l4 (λc a=>k (.exit 0) ⟨gp [(2,.ptr 0 0 0),(1,.ptr 1 0 0)] 97,[.arr false 38 1 c,.arr false 38 1 a],s⟩):=by
 induction n generalizing l_z0 a i2 l3 l4 with
 | zero=>rfl
 | succ n b=>rw[Ph];simp only[<-b];kernel_rfl
def Pi(L n:Nat)(e:Bool)(d:LL)(b:Bool)(i:LL)(a:Int)(h f:LL)(g:Bool->LL->LL->LL->Option R):Option R:=match n with|0=>none|n+1=>cond (ltI a (d.length:Int)) (cond (inR a d.length) (cond (okE ⟨true,false,[.int .u16]⟩ d (j4 a) 0) (cond (inR a 8) (cond (decide ((j4 a)<f.length)) (vl (ac9 f (j4 a) (I4 (j0 f (j4 a) []) 0 [(SV.int .u16 (gE d (j4 a) 0))])) λc=>Pi L n e d b i (A1 (a+1)) h c g) none) none) none) none) (g b i h f)
def Bp3(n l_z0 l1 r_z2 r3 i4 l5 l6):D4 2 ((Ce L).keep 17) (bd (Ce L) Q Y (cd [1,1,1,1,1,1,1,0,1,0,0] Vx)) n ⟨gp [(2,.ptr 0 0 0),(1,.ptr 1 0 0),(4,.s (.sl l_z0 l_z0 1 l1)),(1,.s (.sl r_z2 r_z2 1 r3)),(1,pI i4)] 88,[.arr false 38 1 l5,.arr false 38 1 l6],s⟩ k =
 Pi L n l_z0 l1 r_z2 r3 i4 l5 l6 (λa e c d=>k (.exit 2) ⟨gp [(2,.ptr 0 0 0),(1,.ptr 1 0 0),(6,.s (.sl a a 1 e))] 90,[.arr false 38 1 c,.arr false 38 1 d],s⟩):=by
 induction n generalizing l_z0 l1 r_z2 r3 i4 l5 l6 with
 | zero=>rfl
 | succ n b=>rw[Pi];simp only[<-b];kernel_rfl
def Pj(L n:Nat)(e:Bool)(c:LL)(b:Int)(h f:LL)(g:LL->LL->Option R):Option R:=match n with|0=>none|n+1=>cond (ltI b (c.length:Int)) (vl (A1 ((8:Int)-(c.length:Int))) λa=>cond (inR b c.length) (cond (okE ⟨true,false,[.int .u16]⟩ c (j4 b) 0) (cond (inR (A1 (a+b)) 8) (cond (decide ((j4 (A1 (a+b)))<f.length)) (vl (ac9 f (j4 (A1 (a+b))) (I4 (j0 f (j4 (A1 (a+b))) []) 0 [(SV.int .u16 (gE c (j4 b) 0))])) λd=>Pj L n e c (A1 (b+1)) h d g) none) none) none) none) (g h f)
def Bp4(n r_z0 r1 i2 l3 l4):D4 2 ((Ce L).keep 21) (bd (Ce L) Q Y (cd [1,1,1,1,1,1,1,1,0,1,0,0] Vx)) n ⟨gp [(2,.ptr 0 0 0),(1,.ptr 1 0 0),(6,.s (.sl r_z0 r_z0 1 r1)),(2,pI i2)] 87,[.arr false 38 1 l3,.arr false 38 1 l4],s⟩ k =
 Pj L n r_z0 r1 i2 l3 l4 (λb c=>k (.exit 4) ⟨gp [(2,.ptr 0 0 0),(1,.ptr 1 0 0)] 97,[.arr false 38 1 b,.arr false 38 1 c],s⟩):=by
 induction n generalizing r_z0 r1 i2 l3 l4 with
 | zero=>rfl
 | succ n a=>rw[Pj];simp only[<-a];kernel_rfl
def C81(L:Nat)(e:By)(j:Kbg R):Option R:=cond (A2 e.length) (cond (ltI (LH e) (0:Int)) (cond (A2 e.length) (cond (not (o0 (S9 e true))) (j 0 0 0 0 0 0 0 0 false (j5 8 [(SV.int .u16 0)]) (j5 8 [(SV.int .u16 0)])) (cond ((↑(c9 (E7 (gvs e true))):Int)!=8) (j 0 0 0 0 0 0 0 0 false (j5 8 [(SV.int .u16 0)]) (j5 8 [(SV.int .u16 0)])) (Ph L L (w6 (gvs e true)) (E7 (gvs e true)) 0 (j5 8 [(SV.int .u16 0)]) (j5 8 [(SV.int .u16 0)]) (λn a=>cond ((decide (8=(a.length*1)))&&(okS ⟨true,true,[.int .u16,.int .u16,.int .u16,.int .u16,.int .u16,.int .u16,.int .u16,.int .u16]⟩ (j7 a) 0)) (vl (SV.gI (j0 (j7 a) 0 SV.nilp)) λo=>vl (SV.gI (j0 (j7 a) 1 SV.nilp)) λp=>vl (SV.gI (j0 (j7 a) 2 SV.nilp)) λq=>vl (SV.gI (j0 (j7 a) 3 SV.nilp)) λr=>vl (SV.gI (j0 (j7 a) 4 SV.nilp)) λt=>vl (SV.gI (j0 (j7 a) 5 SV.nilp)) λu=>vl (SV.gI (j0 (j7 a) 6 SV.nilp)) λv=>vl (SV.gI (j0 (j7 a) 7 SV.nilp)) λw=>cond (decide (8=(n.length*1))) (vl (U4 1 n.length [(SV.int .u16 o),(SV.int .u16 p),(SV.int .u16 q),(SV.int .u16 r),(SV.int .u16 t),(SV.int .u16 u),(SV.int .u16 v),(SV.int .u16 w)]) λb=>cond ((decide (8=(b.length*1)))&&(okS ⟨true,true,[.int .u16,.int .u16,.int .u16,.int .u16,.int .u16,.int .u16,.int .u16,.int .u16]⟩ (j7 b) 0)) (j (SV.gI (j0 (j7 b) 0 SV.nilp)) (SV.gI (j0 (j7 b) 1 SV.nilp)) (SV.gI (j0 (j7 b) 2 SV.nilp)) (SV.gI (j0 (j7 b) 3 SV.nilp)) (SV.gI (j0 (j7 b) 4 SV.nilp)) (SV.gI (j0 (j7 b) 5 SV.nilp)) (SV.gI (j0 (j7 b) 6 SV.nilp)) (SV.gI (j0 (j7 b) 7 SV.nilp)) true b a) none) none) none)))) none) (cond (J5 0 (LH e) e.length) (vl (cut e 0 (LH e)) λf=>cond (A2 f.length) (vl (A1 ((LH e)+2)) λG=>cond (J5 G (e.length:Int) e.length) (vl (cut e G (e.length:Int)) λg=>cond (A2 g.length) (cond (not (o0 (S9 f false))) (j 0 0 0 0 0 0 0 0 false (j5 8 [(SV.int .u16 0)]) (j5 8 [(SV.int .u16 0)])) (cond (not (o0 (S9 g true))) (j 0 0 0 0 0 0 0 0 false (j5 8 [(SV.int .u16 0)]) (j5 8 [(SV.int .u16 0)])) (vl (A1 ((↑(c9 (E7 (gvs f false))):Int)+(↑(c9 (E7 (gvs g true))):Int))) λI=>cond (ltI 7 I) (j 0 0 0 0 0 0 0 0 false (j5 8 [(SV.int .u16 0)]) (j5 8 [(SV.int .u16 0)])) (Pi L L (w6 (gvs f false)) (E7 (gvs f false)) (w6 (gvs g true)) (E7 (gvs g true)) 0 (j5 8 [(SV.int .u16 0)]) (j5 8 [(SV.int .u16 0)]) (λh H l m=>Pj L L h H 0 l m (λi c=>cond ((decide (8=(c.length*1)))&&(okS ⟨true,true,[.int .u16,.int .u16,.int .u16,.int .u16,.int .u16,.int .u16,.int .u16,.int .u16]⟩ (j7 c) 0)) (vl (SV.gI (j0 (j7 c) 0 SV.nilp)) λx=>vl (SV.gI (j0 (j7 c) 1 SV.nilp)) λy=>vl (SV.gI (j0 (j7 c) 2 SV.nilp)) λz=>vl (SV.gI (j0 (j7 c) 3 SV.nilp)) λA=>vl (SV.gI (j0 (j7 c) 4 SV.nilp)) λB=>vl (SV.gI (j0 (j7 c) 5 SV.nilp)) λC=>vl (SV.gI (j0 (j7 c) 6 SV.nilp)) λD=>vl (SV.gI (j0 (j7 c) 7 SV.nilp)) λF=>cond (decide (8=(i.length*1))) (vl (U4 1 i.length [(SV.int .u16 x),(SV.int .u16 y),(SV.int .u16 z),(SV.int .u16 A),(SV.int .u16 B),(SV.int .u16 C),(SV.int .u16 D),(SV.int .u16 F)]) λd=>cond ((decide (8=(d.length*1)))&&(okS ⟨true,true,[.int .u16,.int .u16,.int .u16,.int .u16,.int .u16,.int .u16,.int .u16,.int .u16]⟩ (j7 d) 0)) (j (SV.gI (j0 (j7 d) 0 SV.nilp)) (SV.gI (j0 (j7 d) 1 SV.nilp)) (SV.gI (j0 (j7 d) 2 SV.nilp)) (SV.gI (j0 (j7 d) 3 SV.nilp)) (SV.gI (j0 (j7 d) 4 SV.nilp)) (SV.gI (j0 (j7 d) 5 SV.nilp)) (SV.gI (j0 (j7 d) 6 SV.nilp)) (SV.gI (j0 (j7 d) 7 SV.nilp)) true d c) none) none) none)))))) none) none) none) none)) none
def Du4(d:Nat)(s0):evC (Ce L) (d+1) W Y 109 [pS s0] [] s=C81 L s0 (λl m n o p q r t r8 h l10=>some (.tup [.agg [p16 l,p16 m,p16 n,p16 o,p16 p,p16 q,p16 r,p16 t],pB r8],[.arr false 38 1 h,.arr false 38 1 l10],s)):=evT ag6 λQ=>by
 unfold C81;exact(o7 (by kernel_rfl) (A0 (A0 (A0 (A0 rfl (A0 rfl (ag (Bp2 L Q Y s (F2 0 (F6 (Ce L) Q Y (cd [1,1,1,0,1,0,1,1,1] Vx) (F6 (Ce L) Q Y (cd [1,1,1,1] Vx) (I8 (Ce L) ag6)))) L (w6 (gvs s0 true)) (E7 (gvs s0 true)) 0 (j5 8 [(SV.int .u16 0)]) (j5 8 [(SV.int .u16 0)]))))) rfl) (A0 (A6 λf=>(A0 (A6 λi=>(A0 (A6 λg=>(A0 (A0 rfl (A0 rfl (A6 λj=>(A0 rfl ((Bp3 L Q Y s (F2 2 (F6 (Ce L) Q Y (cd [1,1,1,1,1,1,1,1] Vx) (I8 (Ce L) ag6))) L (w6 (gvs f false)) (E7 (gvs f false)) (w6 (gvs g true)) (E7 (gvs g true)) 0 (j5 8 [(SV.int .u16 0)]) (j5 8 [(SV.int .u16 0)])).trans (congr rfl (fx4 λa e b c=>(o7 (by kernel_rfl) (ag (Bp4 L Q Y s (F2 4 (F6 (Ce L) Q Y (cd [1,1,1,1,1,1,1,1,1] Vx) (I8 (Ce L) ag6))) L a e 0 b c)))))))))) rfl)) rfl)) rfl)) rfl)) rfl))
noncomputable abbrev Bx6:Code:=D7 an1
noncomputable def Sp(L:Nat):=mkC L 82 [(3,[2,0,0])] [(6,[2]),(4,[3,0]),(5,[3,0]),(3,[3,0,6]),(2,[3,0]),(1,[0,2]),(0,[0])] [(0,[3]),(1,[3,0])] [2]
def Bp(L n:Nat)(a:By)(v1:Int)(f:By->Option R):Option R:=match n with|0=>none|n+1=>cond (ltI 0 v1) (vl (Fg ((aa4 v1 (16:Int))+1)) λb=>cond (J5 (aa4 v1 (16:Int)) b 16) (vl (cut ([48,49,50,51,52,53,54,55,56,57,97,98,99,100,101,102]:By) (aa4 v1 (16:Int)) b) λd=>cond (F7 d.length a.length) (vl (Fg (aa2 v1 (16:Int))) λg=>Bp L n (d++a) g f) none) none) (cond (a==[]) (vl (Fg ((aa4 v1 (16:Int))+1)) λc=>cond (J5 (aa4 v1 (16:Int)) c 16) (vl (cut ([48,49,50,51,52,53,54,55,56,57,97,98,99,100,101,102]:By) (aa4 v1 (16:Int)) c) λe=>cond (F7 e.length a.length) (vl (Fg (aa2 v1 (16:Int))) λh=>Bp L n (e++a) h f) none) none) (f a))
def Av5(n a v1):D4 0 ((Sp L).keep 3) (bd (Sp L) Q Y (cd [1,1,0,1,0,0] Bx6)) n ⟨gp [(3,pS a),(0,p16 v1)] 18,[],s⟩ k =
 Bp L n a v1 (λa=>k (.exit 0) ⟨gp [(3,pS a)] 19,[],s⟩):=by
 induction n generalizing a v1 with
 | zero=>rfl
 | succ n b=>rw[Bp];simp only[<-b];kernel_rfl
def B54(L:Nat)(b:Int)(c:By->Option R):Option R:=Bp L L ([]:By) b (λa=>c a)
def C53(d:Nat)(g0):evC (Sp L) (d+1) W Y 82 [p16 g0] [] s=B54 L g0 (λa=>some (pS a,[],s)):=evT an1 λQ=>by
 unfold B54;exact(o7 (by kernel_rfl) (ag (Av5 L Q Y s (F2 0 (F6 (Sp L) Q Y (cd [1,1,1] Bx6) (I8 (Sp L) an1))) L ([]:By) g0)))
noncomputable abbrev Qv:Code:=D7 aj2
noncomputable def Bi(L:Nat):=mkC L 42 [(12,[1,0,0,0,2,0]),(6,[1,0,0,0,0,0]),(3,[1,0,0,0,0])] [(20,[2]),(13,[1,1,0,2,0]),(19,[1,1,0,2,0]),(18,[1,1,0,2,0]),(17,[1,1,0,2,0,45]),(16,[1,1,0,2,0]),(15,[1,1,0,2,0]),(14,[1,1,0,2,0,29]),(12,[1,1,0,2,0,24]),(11,[1,1,0,2,0]),(10,[1,1,0,2]),(4,[1,1,0,0]),(9,[1,1,0,0]),(8,[1,1,0,0,0,22]),(7,[1,1,0,0,0]),(6,[1,1,0,0,0,17]),(5,[1,1,0,0,0]),(3,[1,1,0,0,4]),(2,[1,1,0,0]),(1,[1,1,0]),(0,[1])] [(4,[7]),(5,[1,1,0,2,0]),(0,[1,1,0]),(1,[1,1,0,0]),(2,[1,1,0,0,0]),(3,[1,1,0,0,0])] [2] [(82,Bv7)] [82]
def Pf(L n:Nat)(b a c d:Int)(e:LL)(f:Kci R):Option R:=match n with|0=>none|n+1=>cond (ltI (A1 (c+d)) (8:Int)) (cond (inR (A1 (c+d)) 8) (cond (okE ⟨true,false,[.int .u16]⟩ e (j4 (A1 (c+d))) 0) (vl (gE e (j4 (A1 (c+d))) 0) λg=>cond (g==0) (Pf L n b a c (A1 (d+1)) e f) (f b a c d e)) none) none) (f b a c d e)
def Bo9(n b a c e d):D4 1 ((Bi L).keep 6) (bd (Bi L) Q Y (cd [1,1,0,1,0,0,1,0,0,1,0,0,0] Qv)) n ⟨gp [(1,.ptr 0 0 0),(1,pI b),(0,pI a),(0,pI c),(0,pI e)] 57,[.arr false 38 1 d],s⟩ k =
 Pf L n b a c e d (λb a c e d=>k (.exit 2) ⟨gp [(1,.ptr 0 0 0),(1,pI b),(0,pI a),(0,pI c),(0,pI e)] 57,[.arr false 38 1 d],s⟩):=by
 induction n generalizing b a c e d with
 | zero=>rfl
 | succ n f=>rw[Pf];simp only[<-f];kernel_rfl
def Jz(L n:Nat)(e b i:Int)(j:LL)(h:Int->Int->LL->Option R):Option R:=match n with|0=>none|n+1=>cond (ltI i 8) (Pf L L e b i 0 j (λd a c g f=>cond (ltI a g) (Jz L n c g (A1 (c+1)) f h) (Jz L n d a (A1 (c+1)) f h))) (h e b j)
def Bp0(n b a i2 l3):D4 1 ((Bi L).keep 3) (bd (Bi L) Q Y (cd [1,1,0,1,0,0] Qv)) n ⟨gp [(1,.ptr 0 0 0),(1,pI b),(0,pI a),(0,pI i2)] 58,[.arr false 38 1 l3],s⟩ k =
 Jz L n b a i2 l3 (λb a i=>k (.exit 0) ⟨gp [(1,.ptr 0 0 0),(1,pI b),(0,pI a)] 59,[.arr false 38 1 i],s⟩):=by
 induction n generalizing b a i2 l3 with
 | zero=>rfl
 | succ n h=>rw[Jz];exact(o7 (by kernel_rfl) (A0 ((Bo9 L Q Y s (F2 2 (F6 (Bi L) Q Y (cd [1,1,0,1,0,0,1,0,0,1,1] Qv) (F2 1 (F6 (Bi L) Q Y (cd [1,1,0,1,0,0,1,1] Qv) (lpK 1 ((Bi L).keep 3) (bd (Bi L) Q Y (cd [1,1,0,1,0,0] Qv)) n k))))) L b a i2 0 l3).trans (congr rfl (fx5 λe c d g f=>(o7 (by kernel_rfl) (A0 (h d g (A1 (d+1)) f) (h e c (A1 (d+1)) f)))))) rfl))
def W0(L n:Nat)(e a:Int)(d:By)(b:Int)(c:LL)(l:By->LL->Option R):Option R:=match n with|0=>none|n+1=>cond (ltI b 8) (cond (b==e) (cond (F7 d.length 2) (vl (d++[58,58]) λp=>vl (A1 (a-1)) λm=>vl (A1 ((A1 (b+m))+1)) λo=>W0 L n e a p o c l) none) (cond (not (d==[])) (vl (A1 ((d.length:Int)-1)) λf=>cond (inR f d.length) (cond ((bAt d f)!=58) (cond (F7 d.length 1) (vl (d++[58]) λg=>cond (inR b 8) (cond (okE ⟨true,false,[.int .u16]⟩ c (j4 b) 0) (cond (ltN (gE c (j4 b) 0) 65536) (vl (V5 (j4 (gE c (j4 b) 0))) λh=>cond (F7 g.length h.length) (W0 L n e a (g++h) (A1 (b+1)) c l) none) none) none) none) none) (cond (inR b 8) (cond (okE ⟨true,false,[.int .u16]⟩ c (j4 b) 0) (cond (ltN (gE c (j4 b) 0) 65536) (vl (V5 (j4 (gE c (j4 b) 0))) λi=>cond (F7 d.length i.length) (W0 L n e a (d++i) (A1 (b+1)) c l) none) none) none) none)) none) (cond (inR b 8) (cond (okE ⟨true,false,[.int .u16]⟩ c (j4 b) 0) (cond (ltN (gE c (j4 b) 0) 65536) (vl (V5 (j4 (gE c (j4 b) 0))) λj=>cond (F7 d.length j.length) (W0 L n e a (d++j) (A1 (b+1)) c l) none) none) none) none))) (l d c)
def Bp1(n at0 most1 s2 i3 l4):D4 1 ((Bi L).keep 12) (bd (Bi L) Q Y (cd [1,1,1,1,0,1,0,0] Qv)) n ⟨gp [(1,.ptr 0 0 0),(1,pI at0),(0,pI most1),(2,pS s2),(0,pI i3)] 55,[.arr false 38 1 l4],s⟩ k =
 W0 L n at0 most1 s2 i3 l4 (λc b=>k (.exit 4) ⟨gp [(7,pS c)] 56,[.arr false 38 1 b],s⟩):=by
 induction n generalizing at0 most1 s2 i3 l4 with
 | zero=>rfl
 | succ n a=>rw[W0];simp only[<-a];kernel_rfl
def Du1(L:Nat)(f g h i j l m n:Int)(o:By->LL->Option R):Option R:=Jz L L (-1) 1 0 [[(SV.int .u16 f)],[(SV.int .u16 g)],[(SV.int .u16 h)],[(SV.int .u16 i)],[(SV.int .u16 j)],[(SV.int .u16 l)],[(SV.int .u16 m)],[(SV.int .u16 n)]] (λb a e=>W0 L L b a ([]:By) 0 e (λd c=>o d c))
def Du2(d:Nat)(a0 a1 a2 a3 a4 a5 a6 a7):evC (Bi L) (d+1) W Y 42 [.agg [p16 a0,p16 a1,p16 a2,p16 a3,p16 a4,p16 a5,p16 a6,p16 a7]] [] s=Du1 L a0 a1 a2 a3 a4 a5 a6 a7 (λf e=>some (pS f,[.arr false 38 1 e],s)):=evT aj2 λQ=>by
 unfold Du1;exact(o7 (by kernel_rfl) ((Bp0 L Q Y s (F2 0 (F6 (Bi L) Q Y (cd [1,1,1] Qv) (I8 (Bi L) aj2))) L (-1) 1 0 [[(SV.int .u16 a0)],[(SV.int .u16 a1)],[(SV.int .u16 a2)],[(SV.int .u16 a3)],[(SV.int .u16 a4)],[(SV.int .u16 a5)],[(SV.int .u16 a6)],[(SV.int .u16 a7)]]).trans (congr rfl (fx3 λb a c=>(o7 (by kernel_rfl) (ag (Bp1 L Q Y s (F2 4 (F6 (Bi L) Q Y (cd [1,1,1,1,1] Qv) (I8 (Bi L) aj2))) L b a ([]:By) 0 c)))))))
noncomputable def Al9(L:Nat):=mkC L 181 [] [(1,[2]),(0,[0])] [] [2]
def Aa8(L:Nat)(n0:Int)(a:Bool->Option R):Option R:=cond (not (ltI n0 0)) (cond (not (ltI 1114111 n0)) (cond (ltI n0 55296) (a true) (a (ltI 57343 n0))) (a false)) (a false)
def Cg9(d:Nat)(n0):evC (Al9 L) (d+1) W Y 181 [pI n0] [] s=Aa8 L n0 (λa=>some (pB a,[],s)):=evT Tryz.f181 λQ=>by
 unfold Aa8;kernel_rfl
noncomputable abbrev Qt:Code:=D7 ai5
noncomputable def Ag(L:Nat):=mkC L 183 [(6,[0,5,0])] [(9,[6]),(8,[0,6]),(7,[0,6]),(6,[0,6,11]),(5,[0,6]),(4,[0]),(2,[0,0]),(3,[0,0]),(1,[0,0,6]),(0,[0,0,0])] [(0,[0,6]),(1,[0,6])] [6]
def Hu(L n:Nat)(a b:Int)(e:Int->Int->Option R):Option R:=match n with|0=>none|n+1=>cond (ltI 455 a) (vl (A1 (aa2 a (35:Int))) λc=>vl (A1 (b+36)) λd=>Hu L n c d e) (e a b)
def Aa3(n a b):D4 0 ((Ag L).keep 6) (bd (Ag L) Q Y (cd [1,1,1,1,0,0,0] Qt)) n ⟨gp [(0,pI a),(6,pI b)] 23,[],s⟩ k =
 Hu L n a b (λa b=>k (.exit 0) ⟨gp [(0,pI a),(6,pI b)] 23,[],s⟩):=by
 induction n generalizing a b with
 | zero=>rfl
 | succ n c=>rw[Hu];simp only[<-c];kernel_rfl
def Ht(L:Nat)(c b:Int)(i:Int->Option R):Option R:=cond (b !=0) (vl (A1 (aa2 c b)) λh=>Hu L L (A1 (c+h)) 0 (λa e=>vl (A1 ((36:Int)*a)) λf=>vl (A1 (a+38)) λd=>cond (d !=0) (vl (A1 (aa2 f d)) λg=>i (A1 (e+g))) none)) none
abbrev FH(b:Code):Prop:=∀(k:Out->St W->Option R) delta0 count1,C3 (Ag L) Q Y b ⟨gp [(0,pI delta0),(0,pI count1)] 29,[],s⟩ k=Ht L delta0 count1 (λn0=>k .ret ⟨gp [(6,pI n0)] 24,[],s⟩)
def Aa2:FH (R:=R) L Q Y s (cd [1,1] Qt):=by intro k a b;unfold Ht;exact(o7 (by kernel_rfl) (A0 (A6 λc=>(ag (Aa3 L Q Y s (F2 0 (F6 (Ag L) Q Y (cd [1,1,1,1,1] Qt) k)) L (A1 (a+c)) 0))) rfl))
def NE(L:Nat)(b a:Int)(c:Bool)(h:Int->Option R):Option R:=cond c (vl (A1 (aa2 b (700:Int))) λf=>Ht L f a (λd=>h d)) (vl (A1 (aa2 b (2:Int))) λg=>Ht L g a (λe=>h e))
def Cf5(e:Code)(a:FH (R:=PV × List Blk × W) L Q Y s e)(c b:Int)(d:Bool):C3 (Ag L) Q Y (cd [] (Q9 [1,1] e Qt)) ⟨[pI c,pI b,pB d]++tps 28,[],s⟩ (I8 (Ag L) ai5)=NE L c b d (λi=>some (pI i,[],s)):=by unfold NE;exact let h:=(I8 (Ag L) ai5);(o7 (by kernel_rfl) (A0 (A6 λf=>(ag (a h f b))) (A6 λg=>(ag (a h g b)))))
def Cf6(d:Nat)(delta0 count1 first2):evC (Ag L) (d+1) W Y 183 [pI delta0,pI count1,pB first2] [] s=NE L delta0 count1 first2 (λa=>some (pI a,[],s)):=
 (evE (fn:=ai5) (by kernel_rfl)).trans (o7 (by kernel_rfl) (Cf5 L (evC (Ag L) d) Y s (cd [1,1] Qt) (Aa2 L (evC (Ag L) d) Y s) delta0 count1 first2))
noncomputable def Cw8(L:Nat):=mkC L 200 [] [(3,[2]),(2,[2]),(1,[0,3]),(0,[0])] [] [2]
def Dp9(L:Nat)(a:Int)(d:Int->Option R):Option R:=cond (ltI a 26) (vl (wu8 (A1 ((97:Int)+a))) λb=>d b) (vl (A1 ((A1 ((48:Int)+a))-26)) λc=>d (wu8 c))
def Dq0(d:Nat)(d0):evC (Cw8 L) (d+1) W Y 200 [pI d0] [] s=Dp9 L d0 (λa=>some (p8 a,[],s)):=evT Tryz.f200 λQ=>by
 unfold Dp9;kernel_rfl
noncomputable def Cx0(L:Nat):=mkC L 206 [] [(7,[2]),(2,[2]),(4,[2]),(6,[2]),(5,[0,22]),(3,[0,12]),(1,[0,2]),(0,[0])] [(0,[])] [2]
def Aa9(a:Int)(g:Bool)(e:Int->Option R)(f:Int->Bool->Option R):Option R:=cond g (vl (A1 (wu8 (a-65))) λb=>e b) (cond (not (ltI a 48)) (cond (not (ltI 57 a)) (vl (A1 (wu8 (a-48))) λc=>vl (A1 (c+26)) λd=>e d) (f a (not (ltI 57 a)))) (f a false))
def Ab0(a:Int)(l:Bool)(f:Int->Option R)(j:Int->Bool->Option R):Option R:=cond l (vl (A1 (wu8 (a-97))) λg=>f g) (cond (not (ltI a 65)) (Aa9 a (not (ltI 90 a)) (λh=>f h) (λb c=>j b c)) (Aa9 a false (λi=>f i) (λd e=>j d e)))
def Dq9(L:Nat)(c:Int)(d:Int->Option R):Option R:=cond (not (ltI c 97)) (Ab0 c (not (ltI 122 c)) (λa=>d a) (λe f=>d (-1))) (Ab0 c false (λb=>d b) (λg h=>d (-1)))
def Dr0(d:Nat)(b0):evC (Cx0 L) (d+1) W Y 206 [p8 b0] [] s=Dq9 L b0 (λa=>some (pI a,[],s)):=evT Tryz.f206 λQ=>by
 unfold Dq9;kernel_rfl
end
section
variable {W R : Type} (L : Nat) (Q : G1) (Y : Yh W) (s : W) (k : Out -> St W -> Option R)
noncomputable def Cw6(L:Nat):=mkC L 92 [] [(1,[4]),(0,[0,0])] [] [4]
def Do2(L:Nat)(c a:By)(d:Bool->Option R):Option R:=cond (not (ltI (c.length:Int) (a.length:Int))) (cond (J5 0 (a.length:Int) c.length) (vl (cut c 0 (a.length:Int)) λb=>d (b==a)) none) (d false)
def Do3(d:Nat)(s0 prefix1):evC (Cw6 L) (d+1) W Y 92 [pS s0,pS prefix1] [] s=Do2 L s0 prefix1 (λa=>some (pB a,[],s)):=evT Tryz.f92 λQ=>by
 unfold Do2;kernel_rfl
noncomputable def Cw1(L:Nat):=mkC L 50 [] [(1,[4]),(0,[0,0])] [] [4] [(92,VO)] [92]
def Wg(L:Nat)(b a:By)(c:Bool->Option R):Option R:=cond (A2 b.length) (c (p7 a b)) none
def Dl8(d:Nat)(s0 prefix1):evC (Cw1 L) (d+1) W Y 50 [pS s0,pS prefix1] [] s=Wg L s0 prefix1 (λa=>some (pB a,[],s)):=evT Tryz.f50 λQ=>by
 unfold Wg;kernel_rfl
noncomputable def Cw7(L:Nat):=mkC L 138 [] [(1,[4]),(0,[0,0])] [] [4]
def Do4(L:Nat)(b a:By)(e:Bool->Option R):Option R:=cond (not (ltI (b.length:Int) (a.length:Int))) (vl (A1 ((b.length:Int)-(a.length:Int))) λc=>cond (J5 c (b.length:Int) b.length) (vl (cut b c (b.length:Int)) λd=>e (d==a)) none) (e false)
def Do5(d:Nat)(s0 suffix1):evC (Cw7 L) (d+1) W Y 138 [pS s0,pS suffix1] [] s=Do4 L s0 suffix1 (λa=>some (pB a,[],s)):=evT Tryz.f138 λQ=>by
 unfold Do4;kernel_rfl
noncomputable def Cw2(L:Nat):=mkC L 99 [] [(1,[4]),(0,[0,0])] [] [4] [(138,A57)] [138]
def Dl9(L:Nat)(b a:By)(c:Bool->Option R):Option R:=cond (A2 b.length) (c (ad9 a b)) none
def Dm0(d:Nat)(s0 suffix1):evC (Cw2 L) (d+1) W Y 99 [pS s0,pS suffix1] [] s=Dl9 L s0 suffix1 (λa=>some (pB a,[],s)):=evT Tryz.f99 λQ=>by
 unfold Dl9;kernel_rfl
noncomputable def Bz3(L:Nat):=mkC L 161 [] [(3,[4]),(2,[4]),(1,[0,0,5]),(0,[0,0])] [] [4] [(138,A57)] [138]
def B38(L:Nat)(b a:By)(d:By->Option R):Option R:=cond (A2 b.length) (cond (ad9 a b) (vl (A1 ((b.length:Int)-(a.length:Int))) λc=>cond (J5 0 c b.length) (d (cut b 0 c)) none) (d b)) none
def C22(d:Nat)(s0 suffix1):evC (Bz3 L) (d+1) W Y 161 [pS s0,pS suffix1] [] s=B38 L s0 suffix1 (λa=>some (pS a,[],s)):=evT Tryz.f161 λQ=>by
 unfold B38;kernel_rfl
noncomputable def B05(L:Nat):=mkC L 129 [] [(1,[4]),(0,[0,0])] [] [4] [(161,Bv1)] [161]
def B69(L:Nat)(b a:By)(c:By->Option R):Option R:=cond (A2 b.length) (c (Ag1 b a)) none
def Da3(d:Nat)(s0 suffix1):evC (B05 L) (d+1) W Y 129 [pS s0,pS suffix1] [] s=B69 L s0 suffix1 (λa=>some (pS a,[],s)):=evT Tryz.f129 λQ=>by
 unfold B69;kernel_rfl
noncomputable def By9(L:Nat):=mkC L 87 [] [(3,[4,0]),(2,[4,0]),(1,[0,0,7]),(0,[0,0])] [] [4,0] [(92,VO)] [92]
def B34(L:Nat)(b a:By)(d:By->Bool->Option R):Option R:=cond (A2 b.length) (cond (not (p7 a b)) (d b false) (cond (J5 (a.length:Int) (b.length:Int) b.length) (vl (cut b (a.length:Int) (b.length:Int)) λc=>d c true) none)) none
def C15(d:Nat)(s0 prefix1):evC (By9 L) (d+1) W Y 87 [pS s0,pS prefix1] [] s=B34 L s0 prefix1 (λa b=>some (.tup [pS a,pB b],[],s)):=evT Tryz.f87 λQ=>by
 unfold B34;kernel_rfl
noncomputable def Cv5(L:Nat):=mkC L 48 [] [(1,[4,0]),(0,[0,0])] [] [4,0] [(87,Bu8)] [87]
def Di5(L:Nat)(b a:By)(c:By->Bool->Option R):Option R:=cond (A2 b.length) (c (Ie b a) (p7 a b)) none
def Di6(d:Nat)(s0 prefix1):evC (Cv5 L) (d+1) W Y 48 [pS s0,pS prefix1] [] s=Di5 L s0 prefix1 (λa b=>some (.tup [pS a,pB b],[],s)):=evT Tryz.f48 λQ=>by
 unfold Di5;kernel_rfl
noncomputable abbrev Ak4:Code:=D7 ak5
noncomputable def Ib(L:Nat):=mkC L 162 [(11,[0,0,0,0,4,0,0])] [(18,[8]),(17,[9,0]),(16,[0,0,0,0,5,0]),(15,[0,0,0,0,5,0]),(14,[0,0,0,0,5,0,0]),(13,[0,0,0,0,5,0,0,29]),(12,[0,0,0,0,5,0,0]),(11,[0,0,0,0,5,0,25]),(10,[0,0,0,0,5,0]),(9,[0,0,0,0,5]),(8,[0,0,0,0,5]),(7,[0,0,0,0]),(6,[0,0,0,0]),(5,[0,0,0,0,16]),(4,[8]),(3,[0,0,0,0,11]),(2,[8]),(1,[0,0,0,0,9]),(0,[0,0,0,0])] [(0,[0,8,0]),(1,[0,0,0,0,5,0])] [8] [(186,Lg),(187,A67),(136,JP)] [187,136]
def Cp(L n:Nat)(c b:By)(a l d:Int)(g:LL)(j:By->Int->LL->Option R):Option R:=match n with|0=>none|n+1=>cond (ltI d l) (cond (A2 c.length) (cond (ltI (x3 c b) (0:Int)) (j c d g) (vl (A1 ((x3 c b)+a)) λe=>cond (J5 0 e c.length) (cond (inR d g.length) (cond (decide ((j4 d)<g.length)) (vl (ac9 g (j4 d) (I4 (j0 g (j4 d) []) 0 [(SV.str (cut c 0 e))])) λh=>vl (A1 ((x3 c b)+(b.length:Int))) λf=>cond (J5 f (c.length:Int) c.length) (vl (cut c f (c.length:Int)) λi=>Cp L n i b a l (A1 (d+1)) h j) none) none) none) none)) none) (j c d g)
def Yl(n a sep1 sepSave2 n3 i4 l5):D4 1 ((Ib L).keep 11) (bd (Ib L) Q Y (cd [1,1,1,1,1,1,1,1,0,0,0] Ak4)) n ⟨gp [(0,pS a),(0,pS sep1),(0,pI sepSave2),(0,pI n3),(5,.fl 0),(0,pI i4)] 55,[.arr false 9 1 l5],s⟩ k =
 Cp L n a sep1 sepSave2 n3 i4 l5 (λa b d=>k (.exit 0) ⟨gp [(0,pS a),(8,.fl 0),(0,pI b)] 55,[.arr false 9 1 d],s⟩):=by
 induction n generalizing a sep1 sepSave2 n3 i4 l5 with
 | zero=>rfl
 | succ n c=>rw[Cp];simp only[<-c];kernel_rfl
def LW(L:Nat)(t d:By)(a u:Int)(w:Unit->Option R)(v:Nat->LL->Option R):Option R:=cond (u==0) (w ()) (cond (d==[]) none (cond (ltI u 0) (cond (d.length==1) (vl (↑(List.count (j0 d 0 0) t):Int) λn=>vl (A1 ((t.length:Int)+1)) λo=>vl (if (o<(A1 (n+1))) then o else (A1 (n+1))) λg=>cond (((decide ((0:Int)<=g))&&(decide (g<=g)))&&(G0 (j4 g))) (Cp L L t d a (A1 (g-1)) 0 (j5 (j4 g) [(SV.str ([]:By))]) (λq b e=>cond (inR b e.length) (cond (decide ((j4 b)<e.length)) (vl (ac9 e (j4 b) (I4 (j0 e (j4 b) []) 0 [(SV.str q)])) λi=>vl (A1 (b+1)) λl=>cond (J5 0 l i.length) (v ((j4 l)-0) i) none) none) none)) none) none) (vl (A1 ((t.length:Int)+1)) λp=>vl (if (p<u) then p else u) λh=>cond (((decide ((0:Int)<=h))&&(decide (h<=h)))&&(G0 (j4 h))) (Cp L L t d a (A1 (h-1)) 0 (j5 (j4 h) [(SV.str ([]:By))]) (λr c f=>cond (inR c f.length) (cond (decide ((j4 c)<f.length)) (vl (ac9 f (j4 c) (I4 (j0 f (j4 c) []) 0 [(SV.str r)])) λj=>vl (A1 (c+1)) λm=>cond (J5 0 m j.length) (v ((j4 m)-0) j) none) none) none)) none)))
def SE(d:Nat)(s0 sep1 sepSave2 n3):evC (Ib L) (d+1) W Y 162 [pS s0,pS sep1,pI sepSave2,pI n3] [] s=LW L s0 sep1 sepSave2 n3 (λ_=>some (.fl 0,[.arr true 9 1 []],s)) (λc f=>some (.vw 0 0 c,[.arr false 9 1 f],s)):=evT ak5 λQ=>by
 unfold LW;exact let e:=(F2 0 (F6 (Ib L) Q Y (cd [1,1,1,1,1,1,1,1,1] Ak4) (I8 (Ib L) ak5)));(o7 (by kernel_rfl) (A0 rfl (A0 rfl (A0 (A0 (A6 λg=>(A6 λh=>(A6 λa=>(A0 (ag (Yl L Q Y s e L s0 sep1 sepSave2 (A1 (a-1)) 0 (j5 (j4 a) [(SV.str ([]:By))]))) rfl)))) rfl) (A6 λi=>(A6 λb=>(A0 (ag (Yl L Q Y s e L s0 sep1 sepSave2 (A1 (b-1)) 0 (j5 (j4 b) [(SV.str ([]:By))]))) rfl)))))))
noncomputable def Am6(L:Nat):=mkC L 131 [] [(1,[4]),(0,[0,0])] [] [4] [(162,Ai3)]
def Af4(L:Nat)(c a:By)(d:LL->Option R):Option R:=cond (A2 c.length) (cond (a.length==1) (cond ((0:Int)==0) (cond (((-1):Int)==((-1):Int)) (vl (A9 (pcs (j0 a 0 0) c)) λb=>d b) none) none) none) none
def Cn0(d:Nat)(s0 sep1):evC (Am6 L) (d+1) W Y 131 [pS s0,pS sep1] [] s=Af4 L s0 sep1 (λa=>some (.s (.sl false false 1 a),[],s)):=evT Tryz.f131 λQ=>by
 unfold Af4;kernel_rfl
noncomputable abbrev Ct9:Code:=D7 am6
noncomputable def CF(L:Nat):=mkC L 47 [(3,[0,1,0,6,0])] [(10,[2]),(9,[0,2,6,0]),(8,[0,2,6,0]),(7,[0,2,1,4,0]),(6,[0,2,1,4,0,10]),(5,[0,2,1,4,0]),(4,[0,2,0,5,0]),(3,[0,2,6,0,0]),(2,[0,2,6,0]),(1,[0,2]),(0,[0])] [(0,[3]),(1,[0,2,6,0])] [2]
def Gu(L n:Nat)(b:By)(e a:Int)(c:LL)(d:LL->Option R):Option R:=match n with|0=>none|n+1=>cond (ltI a e) (cond (inR a b.length) (cond (not (ltI (bAt b a) (65:Int))) (cond (not (ltI 90 (bAt b a))) (vl (wu8 ((bAt b a)+32)) λf=>cond (G0 (c.length+1)) (Gu L n b e (A1 (a+1)) (c++[[(SV.int .u8 f)]]) d) none) (cond (G0 (c.length+1)) (Gu L n b e (A1 (a+1)) (c++[[(SV.int .u8 (bAt b a))]]) d) none)) (cond (G0 (c.length+1)) (Gu L n b e (A1 (a+1)) (c++[[(SV.int .u8 (bAt b a))]]) d) none)) none) (d c)
def Bc6(n s0 n1 n2 l3):D4 1 ((CF L).keep 3) (bd (CF L) Q Y (cd [1,1,0,1,0,0] Ct9)) n ⟨gp [(0,pS s0),(2,.fl 0),(6,pI n1),(0,pI n2)] 20,[.arr false 5 1 l3],s⟩ k =
 Gu L n s0 n1 n2 l3 (λb=>k (.exit 0) ⟨gp [(3,.fl 0)] 28,[.arr false 5 1 b],s⟩):=by
 induction n generalizing s0 n1 n2 l3 with
 | zero=>rfl
 | succ n a=>rw[Gu];simp only[<-a];kernel_rfl
def Do0(L:Nat)(b:By)(c:By->LL->Option R):Option R:=cond ((decide ((0:Int)<=(b.length:Int)))&&(G0 (j4 (b.length:Int)))) (Gu L L b (b.length:Int) 0 [] (λa=>cond (y8 a Qh) (c (x4 Nu a) a) none)) none
def Do1(d:Nat)(s0):evC (CF L) (d+1) W Y 47 [pS s0] [] s=Do0 L s0 (λb a=>some (pS b,[.arr false 5 1 a],s)):=evT am6 λQ=>by
 unfold Do0;exact(o7 (by kernel_rfl) (A0 (ag (Bc6 L Q Y s (F2 0 (F6 (CF L) Q Y (cd [1,1,1] Ct9) (I8 (CF L) am6))) L s0 (s0.length:Int) 0 [])) rfl))
noncomputable def Cv9(L:Nat):=mkC L 117 [] [(1,[2]),(0,[0])] [] [2] [(50,IB)] [50]
def Dl4(L:Nat)(a:By)(b:Bool->Option R):Option R:=cond (A2 a.length) (cond (p7 ([48,120]:By) a) (b true) (cond (A2 a.length) (b (p7 ([48,88]:By) a)) none)) none
def Dl5(d:Nat)(s0):evC (Cv9 L) (d+1) W Y 117 [pS s0] [] s=Dl4 L s0 (λa=>some (pB a,[],s)):=evT Tryz.f117 λQ=>by
 unfold Dl4;kernel_rfl
noncomputable abbrev Ct5:Code:=D7 ak0
noncomputable def CB(L:Nat):=mkC L 119 [(3,[0,0,2,0,0,4,0])] [(18,[4,0]),(17,[0,0,4,4,0]),(16,[0,0,4,4,0]),(15,[4,0]),(14,[0,0,4,1,2,0,39]),(9,[0,0,4,1,2,0]),(11,[0,0,4,1,2,0]),(13,[0,0,4,1,2,0]),(7,[4,0]),(12,[0,0,4,2,1,0,26]),(10,[0,0,4,2,1,0,15]),(8,[0,0,4,2,1,0,5]),(6,[0,0,4,2,1,0]),(5,[0,0,4,0,3,0]),(4,[0,0,4,0,3,0]),(3,[0,0,4,4,0,0]),(2,[0,0,4,4,0]),(1,[0,0,4]),(0,[0,0])] [(0,[6]),(1,[0,0,4,4,0]),(2,[0,0,4,1,2,0])] [4,0]
def YG(m:By)(a i b j l:Int)(n:Bool)(g:By->Int->Int->Int->Int->Int->Option R)(h:Unit->Option R):Option R:=cond n (vl (A1 (wu8 (b-97))) λc=>vl (A1 (c+10)) λd=>g m a i d j l) (cond (not (ltI b 65)) (cond (not (ltI 70 b)) (vl (A1 (wu8 (b-65))) λe=>vl (A1 (e+10)) λf=>g m a i f j l) (h ())) (h ()))
def YH(v:By)(a q d r t:Int)(x:Bool)(m:By->Int->Int->Int->Int->Int->Option R)(w:Unit->Option R):Option R:=cond x (vl (A1 (wu8 (d-48))) λn=>m v a q n r t) (cond (not (ltI d 97)) (YG v a q d r t (not (ltI 102 d)) (λu c o l p f=>m u c o l p f) (λ_=>w ())) (YG v a q d r t false (λj b g e h i=>m j b g e h i) (λ_=>w ())))
def YI(j:By)(a g d h i:Int)(e:Unit->Option R)(f:By->Int->Int->Int->Int->Option R):Option R:=cond (not (ltI d a)) (e ()) (vl (A1 ((A1 (g*a))+d)) λb=>vl (if ((1099511627776:Int)<b) then (1099511627776:Int) else b) λc=>f j a c h i)
def Jq(L n:Nat)(g:By)(e H I f:Int)(h:Unit->Option R)(G:Int->Option R):Option R:=match n with|0=>none|n+1=>cond (ltI f I) (cond (inR f g.length) (cond (not (ltI (bAt g f) (48:Int))) (YH g e H (bAt g f) I f (not (ltI 57 (bAt g f))) (λB a l i m o=>YI B a l i m o (λ_=>h ()) (λC b p q r=>vl (A1 (r+1)) λt=>Jq L n C b p q t h G)) (λ_=>h ())) (YH g e H (bAt g f) I f false (λD c u j v w=>YI D c u j v w (λ_=>h ()) (λF d x y z=>vl (A1 (z+1)) λA=>Jq L n F d x y A h G)) (λ_=>h ()))) none) (G H)
def A95(n s0 base1 n2 n3 n4):D4 0 ((CB L).keep 3) (bd (CB L) Q Y (cd [1,1,0,1,0,0] Ct5)) n ⟨gp [(0,pS s0),(0,pI base1),(4,pI n2),(4,pI n3),(0,pI n4)] 48,[],s⟩ k =
 Jq L n s0 base1 n2 n3 n4 (λ_=>k .ret ⟨gp [(4,pI 0),(0,pB false)] 55,[],s⟩) (λn0=>k (.exit 0) ⟨gp [(6,pI n0)] 54,[],s⟩):=by
 induction n generalizing s0 base1 n2 n3 n4 with
 | zero=>rfl
 | succ n a=>rw[Jq];simp only[<-a];kernel_rfl
def Dj3(L:Nat)(d:By)(a:Int)(c:Int->Bool->Option R):Option R:=Jq L L d a 0 (d.length:Int) 0 (λ_=>c 0 false) (λb=>c b true)
def Dj4(d:Nat)(s0 base1):evC (CB L) (d+1) W Y 119 [pS s0,pI base1] [] s=Dj3 L s0 base1 (λa b=>some (.tup [pI a,pB b],[],s)):=evT ak0 λQ=>by
 unfold Dj3;exact(o7 (by kernel_rfl) (ag (A95 L Q Y s (F2 0 (F6 (CB L) Q Y (cd [1,1,1] Ct5) (I8 (CB L) ak0))) L s0 base1 0 (s0.length:Int) 0)))
noncomputable def D19(L:Nat):=mkC L 118 [] [(7,[2,0]),(2,[2,0]),(4,[2,0]),(6,[2,0]),(5,[0,14]),(3,[0,6]),(1,[0,3]),(0,[0])] [(0,[0])] [2,0] [(117,A52),(119,UP)] [117,119]
def num(L:Nat)(a:By)(d:Int->Bool->Option R):Option R:=cond (a==[]) (d 0 false) (cond (A2 a.length) (cond (Dj a) (cond (J5 2 (a.length:Int) a.length) (vl (cut a 2 (a.length:Int)) λb=>cond (A2 b.length) (cond (ltN 16 17) (vl (↑(O9 (G4 16 0 b)):Int) λe=>d e (o0 (G4 16 0 b))) none) none) none) (cond (ltI 1 (a.length:Int)) (cond (inR 0 a.length) (cond ((bAt a (0:Int))==48) (cond (J5 1 (a.length:Int) a.length) (vl (cut a 1 (a.length:Int)) λc=>cond (A2 c.length) (cond (ltN 8 17) (vl (↑(O9 (G4 8 0 c)):Int) λf=>d f (o0 (G4 8 0 c))) none) none) none) (cond (A2 a.length) (cond (ltN 10 17) (vl (↑(O9 (G4 10 0 a)):Int) λg=>d g (o0 (G4 10 0 a))) none) none)) none) (cond (A2 a.length) (cond (ltN 10 17) (vl (↑(O9 (G4 10 0 a)):Int) λh=>d h (o0 (G4 10 0 a))) none) none))) none)
def D69(d:Nat)(s0):evC (D19 L) (d+1) W Y 118 [pS s0] [] s=num L s0 (λa b=>some (.tup [pI a,pB b],[],s)):=evT Tryz.f118 λQ=>by
 unfold num;kernel_rfl
noncomputable def Bz5(L:Nat):=mkC L 116 [] [(5,[2]),(4,[3]),(3,[3,0,13]),(2,[3,0]),(1,[3]),(0,[0])] [] [2] [(131,Xo)]
def parts(L:Nat)(e:By)(c:LL->Option R):Option R:=cond (A2 e.length) (cond (1==1) (vl (A9 (pcs (j0 ([46]:By) 0 0) e)) λa=>vl (A1 ((a.length:Int)-1)) λb=>cond (ltI 0 b) (cond (inR b a.length) (cond (okE Aa a (j4 b) 0) (vl (gX a (j4 b) 0) λd=>cond (d==[]) (cond (J5 0 b a.length) (c (cut a 0 b)) none) (c a)) none) none) (c a)) none) none
def C36(d:Nat)(s0):evC (Bz5 L) (d+1) W Y 116 [pS s0] [] s=parts L s0 (λa=>some (.s (.sl false false 1 a),[],s)):=evT Tryz.f116 λQ=>by
 unfold parts;kernel_rfl
noncomputable def QZ(L:Nat):=mkC L 83 [] [(7,[2]),(6,[4,3]),(5,[2]),(4,[6]),(3,[4,13]),(2,[4]),(1,[3]),(0,[0])] [] [2] [(116,VX),(117,A52),(118,Cr6),(119,UP)] [117,118,119]
def HA(L:Nat)(c:By)(d:Bool->Option R):Option R:=cond (A2 c.length) (vl (A1 ((↑(c9 (A9 (E3 c))):Int)-1)) λb=>cond (inR b (c9 (A9 (E3 c)))) (cond (okE Aa (A9 (E3 c)) (j4 b) 0) (vl (gX (A9 (E3 c)) (j4 b) 0) λa=>cond (A2 a.length) (cond (Dj a) (cond (A2 a.length) (vl (↑(O9 (Bo a)):Int) λe=>d (o0 (Bo a))) none) (cond (A2 a.length) (cond (ltN 10 17) (vl (↑(O9 (G4 10 0 a)):Int) λf=>cond (o0 (G4 10 0 a)) (d (not (a==[]))) (d false)) none) none)) none) none) none) none
def Be2(d:Nat)(s0):evC (QZ L) (d+1) W Y 83 [pS s0] [] s=HA L s0 (λa=>some (pB a,[],s)):=evT Tryz.f83 λQ=>by
 unfold HA;kernel_rfl
noncomputable abbrev Cu1:Code:=D7 ak1
noncomputable def CH(L:Nat):=mkC L 130 [(6,[2,0,0,0,10,0,0])] [(20,[2,0]),(19,[4,0,10,0,0]),(18,[4,0,10,0,0]),(17,[2,0]),(16,[4,0,2,1,5,0,0,29]),(15,[4,0,2,1,5,0,0]),(14,[4,0,10,0,0]),(13,[2,0]),(12,[4,0,2,7,0,0,17]),(11,[4,0,2,7,0,0,15]),(10,[2,0]),(9,[4,0,0,1,7,0,0,10]),(8,[4,0,0,1,0,6,0,0]),(7,[4,0,0,0,8,0,0]),(6,[4,0,10,0,0,0]),(5,[4,0,10,0,0]),(4,[4,0]),(3,[2,0]),(2,[4,10]),(1,[4]),(0,[0])] [(0,[5]),(1,[4,0,10,0,0])] [2,0] [(116,VX),(118,Cr6)] [118]
def Jv(L n:Nat)(a:LL)(v1 l d:Int)(e:Unit->Option R)(h:Int->Option R):Option R:=match n with|0=>none|n+1=>cond (ltI d l) (cond (inR d a.length) (cond (okE Aa a (j4 d) 0) (cond (A2 (c9 (gX a (j4 d) 0))) (vl (↑(O9 (Bo (gX a (j4 d) 0))):Int) λb=>cond (not (o0 (Bo (gX a (j4 d) 0)))) (e ()) (vl (A1 ((a.length:Int)-1)) λi=>cond (ltI d i) (cond (ltI 255 b) (e ()) (vl (bOr .i64 (Uu .i64 v1 (8:Int)) b) λj=>Jv L n a j l (A1 (d+1)) e h)) (vl (A1 ((5:Int)-(a.length:Int))) λc=>cond (decide ((0:Int)<=(A1 ((8:Int)*c)))) (vl (Uu .i64 (1:Int) (A1 ((8:Int)*c))) λf=>cond (not (ltI b f)) (e ()) (cond (decide ((0:Int)<=(A1 ((8:Int)*c)))) (vl (Uu .i64 v1 (A1 ((8:Int)*c))) λg=>Jv L n a (bOr .i64 g b) l (A1 (d+1)) e h) none)) none))) none) none) none) (h v1)
def Bg4(n l0 v1 n2 n3):D4 0 ((CH L).keep 6) (bd (CH L) Q Y (cd [1,0,1,1,1,1,0,1,0,0] Cu1)) n ⟨gp [(4,.s (.sl false false 1 l0)),(0,pI v1),(10,.s (.sl false false 1 l0)),(0,pI n2),(0,pI n3)] 38,[],s⟩ k =
 Jv L n l0 v1 n2 n3 (λ_=>k .ret ⟨gp [(2,p32 0),(0,pB false)] 53,[],s⟩) (λv0=>k (.exit 0) ⟨gp [(5,pI v0)] 51,[],s⟩):=by
 induction n generalizing l0 v1 n2 n3 with
 | zero=>rfl
 | succ n a=>rw[Jv];simp only[<-a];kernel_rfl
def Dq4(L:Nat)(b:By)(c:Int->Bool->Option R):Option R:=cond (A2 b.length) (cond (ltI 4 (↑(c9 (A9 (E3 b))):Int)) (c 0 false) (Jv L L (A9 (E3 b)) 0 (↑(c9 (A9 (E3 b))):Int) 0 (λ_=>c 0 false) (λa=>c (EI a) true))) none
def Dq5(d:Nat)(s0):evC (CH L) (d+1) W Y 130 [pS s0] [] s=Dq4 L s0 (λa b=>some (.tup [p32 a,pB b],[],s)):=evT ak1 λQ=>by
 unfold Dq4;exact(o7 (by kernel_rfl) (A0 (A0 rfl (ag (Bg4 L Q Y s (F2 0 (F6 (CH L) Q Y (cd [1,0,1,1,1,1,1] Cu1) (I8 (CH L) ak1))) L (A9 (E3 s0)) 0 (↑(c9 (A9 (E3 s0))):Int) 0))) rfl))
noncomputable abbrev D16:Code:=D7 al1
noncomputable def RH(L:Nat):=mkC L 202 [(6,[2,0,1,9,0,0])] [(13,[2,0]),(12,[5,9,0,0]),(11,[5,9,0,0]),(10,[2,0]),(9,[5,2,6,0,0,19]),(8,[5,1,0,0,5,0,0]),(7,[5,1,7,0,0]),(6,[5,9,0,0,0]),(5,[5,9,0,0]),(4,[4,0]),(3,[2,0]),(2,[4,9]),(1,[4]),(0,[0])] [(0,[5]),(1,[5,9,0,0])] [2,0] [(131,Xo),(119,UP),(57,A54)] [119,57]
def Xf(L n:Nat)(v0:Int)(c:LL)(h b:Int)(d:Unit->Option R)(g:Int->Option R):Option R:=match n with|0=>none|n+1=>cond (ltI b h) (cond (inR b c.length) (cond (okE Aa c (j4 b) 0) (cond (A2 (c9 (gX c (j4 b) 0))) (cond (ltN 10 17) (vl (↑(O9 (G4 10 0 (gX c (j4 b) 0))):Int) λa=>cond (not (o0 (G4 10 0 (gX c (j4 b) 0)))) (d ()) (cond (ltI 255 a) (d ()) (cond (ltN a 4294967296) (vl (o9 (j4 a)) λf=>cond (not (f==(gX c (j4 b) 0))) (d ()) (vl (bOr .u32 (Uu .u32 v0 (8:Int)) (EI a)) λe=>Xf L n e c h (A1 (b+1)) d g)) none))) none) none) none) none) (g v0)
def Cp0(n v0 l1 n2 n3):D4 0 ((RH L).keep 6) (bd (RH L) Q Y (cd [1,1,1,1,0,1,0,0] D16)) n ⟨gp [(5,p32 v0),(9,.s (.sl false false 1 l1)),(0,pI n2),(0,pI n3)] 27,[],s⟩ k =
 Xf L n v0 l1 n2 n3 (λ_=>k .ret ⟨gp [(2,p32 0),(0,pB false)] 41,[],s⟩) (λv0=>k (.exit 0) ⟨gp [(5,p32 v0)] 39,[],s⟩):=by
 induction n generalizing v0 l1 n2 n3 with
 | zero=>rfl
 | succ n a=>rw[Xf];simp only[<-a];kernel_rfl
def v4p(L:Nat)(d:By)(b:Int->Bool->Option R):Option R:=cond (A2 d.length) (cond (1==1) (vl (A9 (pcs (j0 ([46]:By) 0 0) d)) λa=>cond ((a.length:Int)!=4) (b 0 false) (Xf L L 0 a (a.length:Int) 0 (λ_=>b 0 false) (λc=>b c true))) none) none
def D89(d:Nat)(s0):evC (RH L) (d+1) W Y 202 [pS s0] [] s=v4p L s0 (λb c=>some (.tup [p32 b,pB c],[],s)):=evT al1 λQ=>by
 unfold v4p;exact(o7 (by kernel_rfl) (A0 (A0 (A6 λa=>(A0 rfl (ag (Cp0 L Q Y s (F2 0 (F6 (RH L) Q Y (cd [1,1,1,1,1] D16) (I8 (RH L) al1))) L 0 a (a.length:Int) 0)))) rfl) rfl))
noncomputable abbrev D15:Code:=D7 am4
noncomputable def RG(L:Nat):=mkC L 32 [(3,[0,1,0,0])] [(6,[2]),(4,[0,2,0]),(5,[0,2,0]),(3,[0,2,0,1]),(2,[0,2,0]),(1,[0,2]),(0,[0])] [(0,[3]),(1,[0,2,0])] [2] [(57,A54)] [57]
def Jk(L n:Nat)(v0:Int)(a:By)(e:Int)(f:By->Option R):Option R:=match n with|0=>none|n+1=>cond (not (ltI e 0)) (cond (decide ((0:Int)<=e)) (vl (A80 .u32 (Qi .u32 v0 e) (255:Int)) λb=>cond (ltN (A1 b) 4294967296) (vl (o9 (j4 (A1 b))) λc=>cond (F7 c.length 1) (vl (c++[46]) λd=>cond (F7 a.length d.length) (Jk L n v0 (a++d) (A1 (e-8)) f) none) none) none) none) (f a)
def Co9(n v0 out1 i2):D4 0 ((RG L).keep 3) (bd (RG L) Q Y (cd [1,1,0,1,0,0] D15)) n ⟨gp [(0,p32 v0),(2,pS out1),(0,pI i2)] 18,[],s⟩ k =
 Jk L n v0 out1 i2 (λa=>k (.exit 0) ⟨gp [(3,pS a)] 19,[],s⟩):=by
 induction n generalizing v0 out1 i2 with
 | zero=>rfl
 | succ n b=>rw[Jk];simp only[<-b];kernel_rfl
def v4f(L:Nat)(v0:Int)(d:By->Option R):Option R:=Jk L L v0 ([]:By) 24 (λa=>vl (A1 ((a.length:Int)-1)) λb=>cond (J5 0 b a.length) (vl (cut a 0 b) λc=>d c) none)
def D88(d:Nat)(v0):evC (RG L) (d+1) W Y 32 [p32 v0] [] s=v4f L v0 (λa=>some (pS a,[],s)):=evT am4 λQ=>by
 unfold v4f;exact(o7 (by kernel_rfl) (ag (Co9 L Q Y s (F2 0 (F6 (RG L) Q Y (cd [1,1,1] D15) (I8 (RG L) am4))) L v0 ([]:By) 24)))
noncomputable abbrev QR:Code:=D7 ak4
noncomputable def Hm(L:Nat):=mkC L 149 [(2,[0,1,0])] [(6,[2]),(3,[0,2]),(5,[2]),(4,[0,2,15]),(2,[0,2,3]),(1,[0,2]),(0,[0])] [(0,[0]),(1,[0,2])] [2]
def Ci(L n:Nat)(a:By)(b:Int)(c:Unit->Option R)(d:By->Option R):Option R:=match n with|0=>none|n+1=>cond (ltI b (a.length:Int)) (cond (inR b a.length) (cond (ltI (bAt a b) (48:Int)) (c ()) (cond (inR b a.length) (cond (ltI 57 (bAt a b)) (c ()) (Ci L n a (A1 (b+1)) c d)) none)) none) (d a)
def PJ(n a i1):D4 0 ((Hm L).keep 2) (bd (Hm L) Q Y (cd [1,0,1,0,0] QR)) n ⟨gp [(0,pS a),(2,pI i1)] 18,[],s⟩ k =
 Ci L n a i1 (λ_=>k .ret ⟨gp [(2,pB false)] 19,[],s⟩) (λa=>k (.exit 0) ⟨gp [(0,pS a)] 21,[],s⟩):=by
 induction n generalizing a i1 with
 | zero=>rfl
 | succ n b=>rw[Ci];simp only[<-b];kernel_rfl
def HE(L:Nat)(c:By)(b:Bool->Option R):Option R:=Ci L L c 0 (λ_=>b false) (λa=>b (not (a==[])))
def Bh5(d:Nat)(s0):evC (Hm L) (d+1) W Y 149 [pS s0] [] s=HE L s0 (λa=>some (pB a,[],s)):=evT ak4 λQ=>by
 unfold HE;exact(o7 (by kernel_rfl) (ag (PJ L Q Y s (F2 0 (F6 (Hm L) Q Y (cd [1,1] QR) (I8 (Hm L) ak4))) L s0 0)))
noncomputable abbrev Cu5:Code:=D7 an0
noncomputable def CM(L:Nat):=mkC L 77 [(3,[0,1,0,0])] [(9,[2]),(4,[0,2,0]),(8,[0,2,0]),(7,[0,2,0,0]),(6,[0,2,0,0,14]),(5,[0,2,0,0]),(3,[0,2,0,4]),(2,[0,2,0]),(1,[0,2]),(0,[0])] [(0,[3]),(1,[0,2,0])] [2]
def Hf(L n:Nat)(b:By)(a:Int)(c:LL)(d:LL->Option R):Option R:=match n with|0=>none|n+1=>cond (ltI a (b.length:Int)) (cond (inR a b.length) (cond (not (ltI (bAt b a) (65:Int))) (cond (not (ltI 90 (bAt b a))) (vl (wu8 ((bAt b a)+32)) λe=>cond (G0 (c.length+1)) (Hf L n b (A1 (a+1)) (c++[[(SV.int .u8 e)]]) d) none) (cond (G0 (c.length+1)) (Hf L n b (A1 (a+1)) (c++[[(SV.int .u8 (bAt b a))]]) d) none)) (cond (G0 (c.length+1)) (Hf L n b (A1 (a+1)) (c++[[(SV.int .u8 (bAt b a))]]) d) none)) none) (d c)
def Bk4(n s0 i1 l2):D4 1 ((CM L).keep 3) (bd (CM L) Q Y (cd [1,1,0,1,0,0] Cu5)) n ⟨gp [(0,pS s0),(2,.fl 0),(0,pI i1)] 24,[.arr true 5 1 l2],s⟩ k =
 Hf L n s0 i1 l2 (λb=>k (.exit 0) ⟨gp [(3,.fl 0)] 25,[.arr true 5 1 b],s⟩):=by
 induction n generalizing s0 i1 l2 with
 | zero=>rfl
 | succ n a=>rw[Hf];simp only[<-a];kernel_rfl
def Ds6(L:Nat)(c:By)(b:By->LL->Option R):Option R:=Hf L L c 0 [] (λa=>cond (y8 a Qh) (b (x4 Nu a) a) none)
def Ds7(d:Nat)(s0):evC (CM L) (d+1) W Y 77 [pS s0] [] s=Ds6 L s0 (λb a=>some (pS b,[.arr true 5 1 a],s)):=evT an0 λQ=>by
 unfold Ds6;exact(o7 (by kernel_rfl) (ag (Bk4 L Q Y s (F2 0 (F6 (CM L) Q Y (cd [1,1,1] Cu5) (I8 (CM L) an0))) L s0 0 [])))
noncomputable abbrev Al1:Code:=D7 am9
noncomputable def Ls(L:Nat):=mkC L 75 [(4,[0,0,2,0,0,0])] [(9,[4]),(5,[0,0,3,0,0]),(8,[0,0,3,0,0]),(7,[0,0,3,1]),(6,[0,0,3,0,0,16]),(4,[0,0,3,0,0,3]),(3,[0,0,3,0,0]),(2,[0,0,3,0]),(1,[0,0,3]),(0,[0,0])] [(0,[5]),(1,[0,0,3,0,0])] [4]
def Z5(L n:Nat)(c:By)(d a b:Int)(e:LL)(f:LL->Option R):Option R:=match n with|0=>none|n+1=>cond (not (ltI (c.length:Int) b)) (cond (b==(c.length:Int)) (cond (J5 a b c.length) (cond (G0 (e.length+1)) (Z5 L n c d (A1 (b+1)) (A1 (b+1)) (e++[[(SV.str (cut c a b))]]) f) none) none) (cond (inR b c.length) (cond ((bAt c b)==d) (cond (J5 a b c.length) (cond (G0 (e.length+1)) (Z5 L n c d (A1 (b+1)) (A1 (b+1)) (e++[[(SV.str (cut c a b))]]) f) none) none) (Z5 L n c d a (A1 (b+1)) e f)) none)) (f e)
def Ad6(n s0 at1 from2 i3 l4):D4 1 ((Ls L).keep 4) (bd (Ls L) Q Y (cd [1,1,1,0,1,0,0] Al1)) n ⟨gp [(0,pS s0),(0,p8 at1),(3,.fl 0),(0,pI from2),(0,pI i3)] 27,[.arr true 9 1 l4],s⟩ k =
 Z5 L n s0 at1 from2 i3 l4 (λb=>k (.exit 0) ⟨gp [(5,.fl 0)] 29,[.arr true 9 1 b],s⟩):=by
 induction n generalizing s0 at1 from2 i3 l4 with
 | zero=>rfl
 | succ n a=>rw[Z5];simp only[<-a];kernel_rfl
def NR(L:Nat)(d:By)(a:Int)(c:LL->Option R):Option R:=Z5 L L d a 0 0 [] (λb=>c b)
def Ck5(d:Nat)(s0 at1):evC (Ls L) (d+1) W Y 75 [pS s0,p8 at1] [] s=NR L s0 at1 (λa=>some (.fl 0,[.arr true 9 1 a],s)):=evT am9 λQ=>by
 unfold NR;exact(o7 (by kernel_rfl) (ag (Ad6 L Q Y s (F2 0 (F6 (Ls L) Q Y (cd [1,1,1,1] Al1) (I8 (Ls L) am9))) L s0 at1 0 0 [])))
noncomputable def QY(L:Nat):=mkC L 81 [] [(3,[2]),(2,[2]),(1,[0,3]),(0,[0])] [] [2] [(81,(Nj L))] [81]
def GS(L:Nat)(n0:Int)(g:By->Option R):Option R:=cond (ltI n0 10) (vl (wu8 (A1 ((48:Int)+n0))) λa=>cond (y8 [[(SV.int .u8 a)]] Qh) (vl (x4 Nu [[(SV.int .u8 a)]]) λf=>g f) none) (vl (A1 (aa2 n0 (10:Int))) λb=>cond (ltN b L) (vl (o9 (j4 b)) λd=>vl (A1 ((48:Int)+(aa4 n0 (10:Int)))) λc=>cond (y8 [[(SV.int .u8 (wu8 c))]] Qh) (vl (x4 Nu [[(SV.int .u8 (wu8 c))]]) λe=>cond (F7 d.length e.length) (g (d++e)) none) none) none)
def Ba5(d:Nat)(n0):evC (QY L) (d+1) W Y 81 [pI n0] [] s=GS L n0 (λa=>some (pS a,[],s)):=evT Tryz.f81 λQ=>by
 unfold GS;kernel_rfl
noncomputable def Cx1(L:Nat):=mkC L 174 [] [(7,[2]),(2,[2]),(4,[2]),(6,[2]),(5,[0,23]),(3,[0,12]),(1,[0,2]),(0,[0])] [(0,[])] [2]
def Ab6(a:Int)(h:Bool)(f:Int->Option R)(g:Int->Bool->Option R):Option R:=cond h (vl (A1 (wu8 (a-97))) λb=>vl (A1 (b+10)) λc=>f c) (cond (not (ltI a 65)) (cond (not (ltI 70 a)) (vl (A1 (wu8 (a-65))) λd=>vl (A1 (d+10)) λe=>f e) (g a (not (ltI 70 a)))) (g a false))
def Ab7(b:Int)(l:Bool)(f:Int->Option R)(j:Int->Bool->Option R):Option R:=cond l (vl (A1 (wu8 (b-48))) λg=>f g) (cond (not (ltI b 97)) (Ab6 b (not (ltI 102 b)) (λh=>f h) (λc d=>j c d)) (Ab6 b false (λi=>f i) (λe a=>j e a)))
def Dr5(L:Nat)(c:Int)(d:Int->Option R):Option R:=cond (not (ltI c 48)) (Ab7 c (not (ltI 57 c)) (λa=>d a) (λe f=>d 99)) (Ab7 c false (λb=>d b) (λg h=>d 99))
def Dr6(d:Nat)(b0):evC (Cx1 L) (d+1) W Y 174 [p8 b0] [] s=Dr5 L b0 (λa=>some (pI a,[],s)):=evT Tryz.f174 λQ=>by
 unfold Dr5;kernel_rfl
noncomputable abbrev Eh:Code:=D7 ai4
noncomputable def R6(L:Nat):=mkC L 150 [(10,[0,1,0,0,0,0])] [(16,[2,0]),(11,[0,3,0,0]),(15,[0,3,0,0]),(14,[2,0]),(13,[0,3,0,0,0,44]),(12,[0,3,0,0,0]),(10,[0,3,0,0,36]),(9,[0,3,0,0]),(8,[0,3,0]),(5,[0,3]),(7,[0,3]),(6,[0,3,32]),(4,[0,3,22]),(3,[0,3]),(2,[2,0]),(1,[0,8]),(0,[0])] [(0,[5]),(1,[0,3,0,0])] [2,0] [(174,Cs0)] [174]
def HK(a:By)(c:By->Option R):Option R:=cond (J5 2 (a.length:Int) a.length) (vl (cut a 2 (a.length:Int)) λb=>c b) none
abbrev TN(b:Code):Prop:=∀(k:Out->St W->Option R) a,C3 (R6 L) Q Y b ⟨gp [(0,pS a),(3,pI 10),(22,pB true)] 32,[],s⟩ k=HK a (λa=>k .normal ⟨gp [(0,pS a),(3,pI 16)] 55,[],s⟩)
def Bk7:TN (R:=R) L Q Y s (cd [1,1,1,0,1] Eh):=by intro k a;unfold HK;kernel_rfl
def Jx(L n:Nat)(d:By)(h a:Int)(f:Unit->Option R)(g:Int->Option R):Option R:=match n with|0=>none|n+1=>cond (ltI a (d.length:Int)) (cond (inR a d.length) (cond (inR (bAt d a) 256) (vl (↑(dig (u8n (bAt d a))):Int) λb=>cond (not (ltI b 16)) (f ()) (vl (A1 ((A1 (h*16))+b)) λc=>vl (if ((1099511627776:Int)<c) then (1099511627776:Int) else c) λe=>Jx L n d e (A1 (a+1)) f g)) none) none) (g h)
def Bl2(n s0 n1 i2):D4 0 ((R6 L).keep 10) (bd (R6 L) Q Y (cd [1,1,1,1,1,0,1,0,0] Eh)) n ⟨gp [(0,pS s0),(3,pI 16),(0,pI n1),(0,pI i2)] 53,[],s⟩ k =
 Jx L n s0 n1 i2 (λ_=>k .ret ⟨gp [(2,pI 0),(0,pB false)] 56,[],s⟩) (λn0=>k (.exit 0) ⟨gp [(5,pI n0)] 54,[],s⟩):=by
 induction n generalizing s0 n1 i2 with
 | zero=>rfl
 | succ n a=>rw[Jx];simp only[<-a];kernel_rfl
def HL(L:Nat)(c:By)(b:Int->Bool->Option R):Option R:=Jx L L c 0 0 (λ_=>b 0 false) (λa=>b a true)
abbrev TO(b:Code):Prop:=∀(k:Out->St W->Option R) s0,C3 (R6 L) Q Y b ⟨gp [(0,pS s0),(3,pI 16)] 55,[],s⟩ k=HL L s0 (λn0 a=>k .ret ⟨gp [(2,pI n0),(0,pB a)] 56,[],s⟩)
def Bk8:TO (R:=R) L Q Y s (cd [1,1,1,1] Eh):=by intro k a;unfold HL;exact(o7 (by kernel_rfl) (ag (Bl2 L Q Y s (F2 0 (F6 (R6 L) Q Y (cd [1,1,1,1,1,1] Eh) k)) L a 0 0)))
def Ug(a:By)(f:Bool)(d:By->Int->Option R)(e:By->Bool->Option R):Option R:=cond f (cond (J5 2 (a.length:Int) a.length) (vl (cut a 2 (a.length:Int)) λc=>d c 16) none) (cond (not (ltI (a.length:Int) (2:Int))) (cond (inR 0 a.length) (cond ((bAt a (0:Int))==48) (cond (J5 1 (a.length:Int) a.length) (vl (cut a 1 (a.length:Int)) λb=>d b 8) none) (e a ((bAt a (0:Int))==48))) none) (e a false))
abbrev TP(b:Code):Prop:=∀(k:Out->St W->Option R) c d,C3 (R6 L) Q Y b ⟨gp [(0,pS c),(3,pI 10),(22,pB d)] 32,[],s⟩ k=Ug c d (λc a=>k .normal ⟨gp [(0,pS c),(3,pI a)] 55,[],s⟩) (λc d=>k .normal ⟨gp [(0,pS c),(3,pI 10),(32,pB d)] 22,[],s⟩)
def Bk9:TP (R:=R) L Q Y s (cd [1,1,1,0,1] Eh):=by intro k b a;unfold Ug;kernel_rfl
def Hg(L n:Nat)(f:By)(a i d:Int)(g:Unit->Option R)(h:Int->Option R):Option R:=match n with|0=>none|n+1=>cond (ltI d (f.length:Int)) (cond (inR d f.length) (cond (inR (bAt f d) 256) (vl (↑(dig (u8n (bAt f d))):Int) λb=>cond (not (ltI b a)) (g ()) (vl (A1 ((A1 (i*a))+b)) λc=>vl (if ((1099511627776:Int)<c) then (1099511627776:Int) else c) λe=>Hg L n f a e (A1 (d+1)) g h)) none) none) (h i)
def NQ(n s0 base1 n2 i3):D4 0 ((R6 L).keep 10) (bd (R6 L) Q Y (cd [1,1,1,1,1,0,1,0,0] Eh)) n ⟨gp [(0,pS s0),(3,pI base1),(0,pI n2),(0,pI i3)] 53,[],s⟩ k =
 Hg L n s0 base1 n2 i3 (λ_=>k .ret ⟨gp [(2,pI 0),(0,pB false)] 56,[],s⟩) (λn0=>k (.exit 0) ⟨gp [(5,pI n0)] 54,[],s⟩):=by
 induction n generalizing s0 base1 n2 i3 with
 | zero=>rfl
 | succ n a=>rw[Hg];simp only[<-a];kernel_rfl
def Uh(L:Nat)(d:By)(a:Int)(c:Int->Bool->Option R):Option R:=Hg L L d a 0 0 (λ_=>c 0 false) (λb=>c b true)
abbrev TQ(b:Code):Prop:=∀(k:Out->St W->Option R) s0 base1,C3 (R6 L) Q Y b ⟨gp [(0,pS s0),(3,pI base1)] 55,[],s⟩ k=Uh L s0 base1 (λn0 a=>k .ret ⟨gp [(2,pI n0),(0,pB a)] 56,[],s⟩)
def Bl0:TQ (R:=R) L Q Y s (cd [1,1,1,1] Eh):=by intro k b a;unfold Uh;exact(o7 (by kernel_rfl) (ag (NQ L Q Y s (F2 0 (F6 (R6 L) Q Y (cd [1,1,1,1,1,1] Eh) k)) L b a 0 0)))
def Ui(L:Nat)(c:By)(b:Int->Bool->Option R):Option R:=Hg L L c 10 0 0 (λ_=>b 0 false) (λa=>b a true)
abbrev TR(b:Code):Prop:=∀(k:Out->St W->Option R) s0 a,C3 (R6 L) Q Y b ⟨gp [(0,pS s0),(3,pI 10),(32,pB a)] 22,[],s⟩ k=Ui L s0 (λn0 a=>k .ret ⟨gp [(2,pI n0),(0,pB a)] 56,[],s⟩)
def Bl1:TR (R:=R) L Q Y s (cd [1,1,1,1] Eh):=by intro k a b;unfold Ui;exact(o7 (by kernel_rfl) (ag (NQ L Q Y s (F2 0 (F6 (R6 L) Q Y (cd [1,1,1,1,1,1] Eh) k)) L a 10 0 0)))
def C64(L:Nat)(a:By)(e:Int->Bool->Option R):Option R:=cond (a==[]) (e 0 false) (cond (not (ltI (a.length:Int) (2:Int))) (cond (inR 0 a.length) (cond ((bAt a (0:Int))==48) (cond (inR 1 a.length) (cond ((bAt a (1:Int))==120) (HK a (λB=>HL L B (λA z=>e A z))) (cond (inR 1 a.length) (Ug a ((bAt a (1:Int))==88) (λt b=>Uh L t b (λm f=>e m f)) (λu C=>Ui L u (λn g=>e n g))) none)) none) (Ug a false (λv c=>Uh L v c (λo h=>e o h)) (λw D=>Ui L w (λp i=>e p i)))) none) (Ug a false (λx d=>Uh L x d (λq j=>e q j)) (λy F=>Ui L y (λr l=>e r l))))
def Ds8(e:Code)(f:TN (R:=PV × List Blk × W) L Q Y s e)(a:TP (R:=PV × List Blk × W) L Q Y s e)(d:Code)(g:TO (R:=PV × List Blk × W) L Q Y s d)(b:TQ (R:=PV × List Blk × W) L Q Y s d)(c:TR (R:=PV × List Blk × W) L Q Y s d)(m:By):C3 (R6 L) Q Y (cd [] (Q9 [1,1,1,1] d (Q9 [1,1,1,0,1] e Eh))) ⟨[pS m]++tps 59,[],s⟩ (I8 (R6 L) ai4)=C64 L m (λz A=>some (.tup [pI z,pB A],[],s)):=by unfold C64;exact let l:=(I8 (R6 L) ai4);let x:=(F6 (R6 L) Q Y d l);(o7 (by kernel_rfl) (A0 rfl (A0 (A0 (A0 (A0 (A0 ((f x m).trans (congr rfl (fx1 λy=>(o7 (by kernel_rfl) (ag (g l y)))))) (A0 ((a x m ((bAt m (1:Int))==88)).trans (congr (congr rfl (fx2 λq h=>(o7 (by kernel_rfl) (ag (b l q h))))) (fx2 λr n=>(o7 (by kernel_rfl) (ag (c l r n)))))) rfl)) rfl) ((a x m false).trans (congr (congr rfl (fx2 λt i=>(o7 (by kernel_rfl) (ag (b l t i))))) (fx2 λu o=>(o7 (by kernel_rfl) (ag (c l u o))))))) rfl) ((a x m false).trans (congr (congr rfl (fx2 λv j=>(o7 (by kernel_rfl) (ag (b l v j))))) (fx2 λw p=>(o7 (by kernel_rfl) (ag (c l w p)))))))))
def Ds9(d:Nat)(s0):evC (R6 L) (d+1) W Y 150 [pS s0] [] s=C64 L s0 (λa b=>some (.tup [pI a,pB b],[],s)):=
 (evE (fn:=ai4) (by kernel_rfl)).trans (o7 (by kernel_rfl) (Ds8 L (evC (R6 L) d) Y s (cd [1,1,1,0,1] Eh) (Bk7 L (evC (R6 L) d) Y s) (Bk9 L (evC (R6 L) d) Y s) (cd [1,1,1,1] Eh) (Bk8 L (evC (R6 L) d) Y s) (Bl0 L (evC (R6 L) d) Y s) (Bl1 L (evC (R6 L) d) Y s) s0))
noncomputable def Am2(L:Nat):=mkC L 148 [] [(4,[2]),(3,[3]),(2,[3,13]),(1,[3]),(0,[0])] [] [2] [(75,Fp)]
def Ad4(L:Nat)(f:By)(d:LL->Option R):Option R:=cond (A2 f.length) (vl (A9 (pcs (u8n (46:Int)) f)) λa=>cond (ltI 1 (a.length:Int)) (vl (A1 ((a.length:Int)-1)) λb=>cond (inR b a.length) (cond (okE Aa a (j4 b) 0) (vl (gX a (j4 b) 0) λe=>cond (e==[]) (vl (A1 ((a.length:Int)-1)) λc=>cond (J5 0 c a.length) (d (cut a 0 c)) none) (d a)) none) none) (d a)) none
def Cj9(d:Nat)(s0):evC (Am2 L) (d+1) W Y 148 [pS s0] [] s=Ad4 L s0 (λa=>some (.s (.sl false false 1 a),[],s)):=evT Tryz.f148 λQ=>by
 unfold Ad4;kernel_rfl
noncomputable def KW(L:Nat):=mkC L 111 [] [(6,[2]),(5,[4,1]),(4,[2]),(3,[4,11]),(2,[4]),(1,[3]),(0,[0])] [] [2] [(148,JF),(149,QD),(150,A65)] [149,150]
def Zk(L:Nat)(d:By)(c:Bool->Option R):Option R:=cond (A2 d.length) (vl (A1 ((↑(c9 (A9 (E3 d))):Int)-1)) λb=>cond (inR b (c9 (A9 (E3 d)))) (cond (okE Aa (A9 (E3 d)) (j4 b) 0) (vl (gX (A9 (E3 d)) (j4 b) 0) λa=>cond (A2 a.length) (cond ((not (w6 a))&&(o0 (G4 10 0 a))) (c true) (cond (A2 a.length) (vl (↑(O9 (Bo a)):Int) λe=>cond (o0 (Bo a)) (cond (not (ltI (a.length:Int) (2:Int))) (cond (inR 1 a.length) (cond ((bAt a (1:Int))==120) (c true) (cond (inR 1 a.length) (c ((bAt a (1:Int))==88)) none)) none) (c false)) (c false)) none)) none) none) none) none
def Aw3(d:Nat)(s0):evC (KW L) (d+1) W Y 111 [pS s0] [] s=Zk L s0 (λa=>some (pB a,[],s)):=evT Tryz.f111 λQ=>by
 unfold Zk;kernel_rfl
noncomputable abbrev Bx9:Code:=D7 aj9
noncomputable def Ss(L:Nat):=mkC L 112 [(6,[2,0,0,0,0])] [(18,[2,0]),(7,[4,0,0]),(17,[4,0,0]),(16,[2,0]),(15,[4,0,0,0,38]),(14,[4,0,0]),(13,[2,0]),(12,[4,0,0,0,33]),(11,[4,0,0,0,26]),(10,[2,0]),(9,[4,0,0,0,21]),(8,[4,0,0,0,0]),(6,[4,0,0,10]),(5,[4,0,0]),(4,[4,0]),(3,[2,0]),(2,[4,8]),(1,[4]),(0,[0])] [(0,[5]),(1,[4,0,0])] [2,0] [(148,JF),(150,A65)] [150]
def Fz(L n:Nat)(b:LL)(v1 a:Int)(e:Unit->Option R)(h:Int->Option R):Option R:=match n with|0=>none|n+1=>cond (ltI a (b.length:Int)) (cond (inR a b.length) (cond (okE Aa b (j4 a) 0) (cond (A2 (c9 (gX b (j4 a) 0))) (vl (↑(O9 (Bo (gX b (j4 a) 0))):Int) λc=>cond (not (o0 (Bo (gX b (j4 a) 0)))) (e ()) (vl (A1 ((b.length:Int)-1)) λi=>cond (a==i) (vl (A1 ((5:Int)-(b.length:Int))) λg=>cond (decide ((0:Int)<=(A1 ((8:Int)*g)))) (vl (Uu .i64 (1:Int) (A1 ((8:Int)*g))) λj=>cond (not (ltI c j)) (e ()) (Fz L n b (A1 (v1+c)) (A1 (a+1)) e h)) none) (cond (ltI 255 c) (e ()) (vl (A1 ((24:Int)-(A1 ((8:Int)*a)))) λd=>cond (decide ((0:Int)<=d)) (vl (A1 (v1+(Uu .i64 c d))) λf=>Fz L n b f (A1 (a+1)) e h) none)))) none) none) none) (h v1)
def Ax0(n p0 v1 i2):D4 0 ((Ss L).keep 6) (bd (Ss L) Q Y (cd [1,1,1,1,0,1,0,0] Bx9)) n ⟨gp [(4,.s (.sl false false 1 p0)),(0,pI v1),(0,pI i2)] 49,[],s⟩ k =
 Fz L n p0 v1 i2 (λ_=>k .ret ⟨gp [(2,p32 0),(0,pB false)] 52,[],s⟩) (λv0=>k (.exit 0) ⟨gp [(5,pI v0)] 50,[],s⟩):=by
 induction n generalizing p0 v1 i2 with
 | zero=>rfl
 | succ n a=>rw[Fz];simp only[<-a];kernel_rfl
def B62(L:Nat)(c:By)(b:Int->Bool->Option R):Option R:=cond (A2 c.length) (cond (ltI 4 (↑(c9 (A9 (E3 c))):Int)) (b 0 false) (Fz L L (A9 (E3 c)) 0 0 (λ_=>b 0 false) (λa=>b (EI a) true))) none
def C69(d:Nat)(s0):evC (Ss L) (d+1) W Y 112 [pS s0] [] s=B62 L s0 (λa b=>some (.tup [p32 a,pB b],[],s)):=evT aj9 λQ=>by
 unfold B62;exact(o7 (by kernel_rfl) (A0 (A0 rfl (ag (Ax0 L Q Y s (F2 0 (F6 (Ss L) Q Y (cd [1,1,1,1,1] Bx9) (I8 (Ss L) aj9))) L (A9 (E3 s0)) 0 0))) rfl))
noncomputable abbrev Cu2:Code:=D7 ak9
noncomputable def CI(L:Nat):=mkC L 195 [(2,[0,1,0,0])] [(6,[2,0]),(3,[0,3]),(5,[2,0]),(4,[0,3,7]),(2,[0,3,1]),(1,[0,3]),(0,[0])] [(0,[]),(1,[0,3])] [2,0] [(81,AP)] [81]
def Ot(L n:Nat)(e:By)(a:Int)(c:Int->Option R)(d:Unit->Option R):Option R:=match n with|0=>none|n+1=>cond (ltI a 256) (cond (ltN a 4294967296) (vl (o9 (j4 a)) λb=>cond (b==e) (c a) (Ot L n e (A1 (a+1)) c d)) none) (d ())
def Bh3(n s0 n1):D4 0 ((CI L).keep 2) (bd (CI L) Q Y (cd [1,0,1,0,0] Cu2)) n ⟨gp [(0,pS s0),(3,pI n1)] 9,[],s⟩ k =
 Ot L n s0 n1 (λn0=>k .ret ⟨gp [(2,pI n0),(0,pB true)] 10,[],s⟩) (λ_=>k (.exit 0) ⟨gp [] 14,[],s⟩):=by
 induction n generalizing s0 n1 with
 | zero=>rfl
 | succ n a=>rw[Ot];simp only[<-a];kernel_rfl
def Dr3(L:Nat)(c:By)(b:Int->Bool->Option R):Option R:=Ot L L c 0 (λa=>b a true) (λ_=>b 0 false)
def Dr4(d:Nat)(s0):evC (CI L) (d+1) W Y 195 [pS s0] [] s=Dr3 L s0 (λa b=>some (.tup [pI a,pB b],[],s)):=evT ak9 λQ=>by
 unfold Dr3;exact(o7 (by kernel_rfl) (ag (Bh3 L Q Y s (F2 0 (F6 (CI L) Q Y (cd [1,1] Cu2) (I8 (CI L) ak9))) L s0 0)))
noncomputable abbrev Cu6:Code:=D7 ak6
noncomputable def CN(L:Nat):=mkC L 172 [(6,[2,0,0,0,0])] [(12,[2,0]),(7,[4,0,0]),(11,[4,0,0]),(10,[2,0]),(9,[4,0,0,0,19]),(8,[4,0,0,0,0]),(6,[4,0,0,8]),(5,[4,0,0]),(4,[4,0]),(3,[2,0]),(2,[4,8]),(1,[4]),(0,[0])] [(0,[5]),(1,[4,0,0])] [2,0] [(75,Fp),(195,Cr9)] [195]
def Pe(L n:Nat)(b:LL)(v1 a:Int)(f:Unit->Option R)(g:Int->Option R):Option R:=match n with|0=>none|n+1=>cond (ltI a 4) (cond (inR a b.length) (cond (okE Aa b (j4 a) 0) (cond (A2 (c9 (gX b (j4 a) 0))) (vl (↑(O9 (oct (gX b (j4 a) 0))):Int) λc=>cond (not (o0 (oct (gX b (j4 a) 0)))) (f ()) (vl (EI (v1*256)) λd=>vl (EI (d+(EI c))) λe=>Pe L n b e (A1 (a+1)) f g)) none) none) none) (g v1)
def Bo8(n p0 v1 i2):D4 0 ((CN L).keep 6) (bd (CN L) Q Y (cd [1,1,1,1,0,1,0,0] Cu6)) n ⟨gp [(4,.s (.sl false false 1 p0)),(0,p32 v1),(0,pI i2)] 27,[],s⟩ k =
 Pe L n p0 v1 i2 (λ_=>k .ret ⟨gp [(2,p32 0),(0,pB false)] 30,[],s⟩) (λv0=>k (.exit 0) ⟨gp [(5,p32 v0)] 28,[],s⟩):=by
 induction n generalizing p0 v1 i2 with
 | zero=>rfl
 | succ n a=>rw[Pe];simp only[<-a];kernel_rfl
def Dt9(L:Nat)(d:By)(b:Int->Bool->Option R):Option R:=cond (A2 d.length) (vl (A9 (pcs (u8n (46:Int)) d)) λa=>cond ((a.length:Int)!=4) (b 0 false) (Pe L L a 0 0 (λ_=>b 0 false) (λc=>b c true))) none
def Du0(d:Nat)(s0):evC (CN L) (d+1) W Y 172 [pS s0] [] s=Dt9 L s0 (λb c=>some (.tup [p32 b,pB c],[],s)):=evT ak6 λQ=>by
 unfold Dt9;exact(o7 (by kernel_rfl) (A0 (A6 λa=>(A0 rfl (ag (Bo8 L Q Y s (F2 0 (F6 (CN L) Q Y (cd [1,1,1,1,1] Cu6) (I8 (CN L) ak6))) L a 0 0)))) rfl))
noncomputable def Cx3(L:Nat):=mkC L 41 [] [(1,[2]),(0,[0])] [] [2] [(81,AP)] [81]
def Dt7(L:Nat)(v0:Int)(n:By->Option R):Option R:=vl (Qi .u32 v0 (24:Int)) λg=>cond (ltN (A1 g) 4294967296) (vl (o9 (j4 (A1 g))) λj=>cond (F7 j.length 1) (vl (j++[46]) λc=>vl (Qi .u32 v0 (16:Int)) λm=>vl (aa4 m (256:Int)) λh=>cond (ltN (A1 h) 4294967296) (vl (o9 (j4 (A1 h))) λd=>cond (F7 c.length d.length) (cond (F7 (c9 (c++d)) 1) (vl ((c++d)++[46]) λe=>vl (aa4 (Qi .u32 v0 (8:Int)) (256:Int)) λi=>cond (ltN (A1 i) 4294967296) (vl (o9 (j4 (A1 i))) λf=>cond (F7 e.length f.length) (cond (F7 (c9 (e++f)) 1) (vl ((e++f)++[46]) λl=>vl (aa4 v0 (256:Int)) λa=>cond (ltN (A1 a) 4294967296) (vl (o9 (j4 (A1 a))) λb=>cond (F7 l.length b.length) (n (l++b)) none) none) none) none) none) none) none) none) none) none
def Dt8(d:Nat)(v0):evC (Cx3 L) (d+1) W Y 41 [p32 v0] [] s=Dt7 L v0 (λa=>some (pS a,[],s)):=evT Tryz.f41 λQ=>by
 unfold Dt7;kernel_rfl
noncomputable def RE(L:Nat):=mkC L 131 [] [(1,[4]),(0,[0,0])] [] [4] [(162,AR)]
def HO(L:Nat)(c a:By)(d:Nat->LL->Option R):Option R:=cond (A2 c.length) (cond (a.length==1) (cond ((0:Int)==0) (cond (((-1):Int)==((-1):Int)) (vl (A9 (pcs (j0 a 0 0) c)) λb=>d (c9 (pcs (j0 a 0 0) c)) b) none) none) none) none
def Bq7(d:Nat)(s0 sep1):evC (RE L) (d+1) W Y 131 [pS s0,pS sep1] [] s=HO L s0 sep1 (λa b=>some (.vw 0 0 a,[.arr false 9 1 b],s)):=evT Tryz.f131 λQ=>by
 unfold HO;kernel_rfl
end
end
section
open Go
def Ek(b:UInt8):(48<=b.toNat/\b.toNat<=57/\dig b=b.toNat-48)\/(97<=b.toNat/\b.toNat<=102/\dig b=b.toNat-87)\/(65<=b.toNat/\b.toNat<=70/\dig b=b.toNat-55)\/(¬(48<=b.toNat/\b.toNat<=57)/\¬(97<=b.toNat/\b.toNat<=102)/\¬(65<=b.toNat/\b.toNat<=70)/\dig b=99):=by
 unfold dig;split
 ·rename_i h;exact .inl ⟨h.1,h.2,rfl⟩
 ·split
  ·rename_i h;exact .inr (.inl ⟨h.1,h.2,rfl⟩)
  ·split
   ·rename_i h;exact .inr (.inr (.inl ⟨h.1,h.2,rfl⟩))
   ·exact .inr (.inr (.inr ⟨by assumption,by assumption,by assumption,rfl⟩))
def C82(m:Nat):(if (1099511627776:Int)<(m:Int) then (1099511627776:Int) else (m:Int))=((min m Ec:Nat):Int):=by unfold Ec;split<;>omega
def LI{base:Nat}:∀{s:By} {n v:Nat},n<=Ec->G4 base n s=some v->v<=Ec
 | [],n,v,h,e=>by simp only[G4,p5] at e;omega
 | b::r,n,v,h,e=>by
  simp only[G4] at e;split at e
  ·exact LI (by omega) e
  ·cases e
def B43{s:By}{v:Nat}(h:Bo s=some v):v<=Ec:=by
 unfold Bo at h
 repeat' split at h
 all_goals first|(cases h;done)|exact LI (by unfold Ec;omega) h
def RW(base:Nat):∀(x y:By) (n:Nat),G4 base n (x++y)=(G4 base n x).bind λm=>G4 base m y
 | [],y,n=>rfl
 | b::r,y,n=>by
  simp only[ad5,G4];split
  ·exact RW base r y _
  ·rfl
def Ko(u:Nat)(h:¬u<10):o9 u=o9 (u / 10)++[aa1 (48+u % 10)]:=by rw[o9,dif_neg h]
def D25(d:Nat)(h:d<10):dig (aa1 (48+d))=d:=by
 unfold dig;have:(aa1 (48+d)).toNat=48+d:=by simp;omega
 rw[this,W4];omega
def Ca8:∀u:Nat,u<=Ec->G4 10 0 (o9 u)=some u:=by
 intro u
 induction u using ag1 with
 | _ u a=>
  intro b;by_cases h:u<10
  ·rw[ae9 h];simp only[G4,D25 u h];rw[ac h];unfold Ec;simp;omega
  ·rw[Ko u h,RW,a (u / 10) (by omega) (by omega)];simp only[ai3,G4,D25 (u % 10) (by omega)];rw[W4];unfold Ec at *;simp;omega
def Hp:∀(k u:Nat),0<k->u<10 ^ k->(o9 u).length<=k
 | 0,u,h,_=>by omega
 | k+1,u,_,h=>by
  by_cases b:u<10
  ·rw[ae9 b];simp
  ·rw[Ko u b,ac2,ab2];have a:0<k:=by
    rcases Nat.eq_zero_or_pos k with rfl|a
    ·rw[ae4,Nat.pow_one] at h;omega
    ·exact a
   have:=Hp k (u / 10) a (by rw[y5] at h;omega);omega
def G6(u:Nat)(h:u<4294967296):(o9 u).length<=10:=Hp 10 u (by omega) (by omega)
def Yx{s:By}{n:Nat}:oct s=some n↔n<256/\o9 n=s:=by
 unfold oct;constructor
 ·intro h;split at h
  ·rename_i m c;split at h
   ·rename_i a;cases h;exact⟨by omega,a.2⟩
   ·cases h
  ·cases h
 ·rintro⟨b,rfl⟩;rw[Ca8 n (by unfold Ec;omega)];exact ac ⟨by omega,rfl⟩
def D14(a b:Nat)(c:a<9223372036854775808)(d:b<9223372036854775808):bOr .i64 (a:Int) (b:Int)=((a ||| b:Nat):Int):=by
 unfold bOr;rw[show ab6 .i64=64 from rfl,D48 64 a b (by omega) (by omega)];have:a ||| b<2 ^ 63:=af1 (by omega) (by omega)
 exact A4
def Ee0(a b:Nat)(c:a<4294967296)(d:b<4294967296):bOr .u32 (a:Int) (b:Int)=((a ||| b:Nat):Int):=by
 unfold bOr;rw[show ab6 .u32=32 from rfl,D48 32 a b (by omega) (by omega)];have:a ||| b<2 ^ 32:=af1 (by omega) (by omega)
 exact Ps
def D42(a b:Nat)(c:a<4294967296)(d:b<4294967296):A80 .u32 (a:Int) (b:Int)=((a &&& b:Nat):Int):=by unfold A80;rw[show ab6 .u32=32 from rfl,D18 32 a b (by omega) (by omega)];have:a &&& b<2 ^ 32:=Nat.and_lt_two_pow _ (by omega);exact Ps
def D41(x:Nat):x &&& 255=x % 256:=Nat.and_two_pow_sub_one_eq_mod x 8
def A08(a m:Nat)(h:a*2 ^ m<9223372036854775808)(b:m<=64):Uu .i64 (a:Int) (m:Int)=((a*2 ^ m:Nat):Int):=by
 unfold Uu;rw[j8,show ab6 .i64=64 from rfl,ae2 b];have:(a:Int)*2 ^ m=((a*2 ^ m:Nat):Int):=by simp
 rw[this];exact A4
def Ef8(a m:Nat)(h:a*2 ^ m<4294967296)(b:m<=32):Uu .u32 (a:Int) (m:Int)=((a*2 ^ m:Nat):Int):=by
 unfold Uu;rw[j8,show ab6 .u32=32 from rfl,ae2 b];have:(a:Int)*2 ^ m=((a*2 ^ m:Nat):Int):=by simp
 rw[this];exact Ps
def HC(v n m:Nat)(h:n<2 ^ m):v*2 ^ m ||| n=v*2 ^ m+n:=by rw[Nat.or_comm,D71 n v m h,Nat.add_comm]
def Rp{c:UInt8}{s:By}(h:c∉s):pcs c s=[s]:=by unfold pcs;rw[AA c s [] h];rfl
def Aa4{c:UInt8}{p r:By}(h:c∉p):pcs c (p++c::r)=p::pcs c r:=by unfold pcs;rw[GB c p [] r h];rfl
def Dp(c:UInt8)(s:By):(pcs c s).length=s.count c+1:=Kd c s []
def Bf0(c:UInt8)(s:By):pcs c s≠[]:=Bq0 c s []
def Ad{c:UInt8}{s x:By}(h:x∈pcs c s):c∉x/\x.length<=s.length:=by have:=Rw c s [] (by simp) x h;simpa using this
def Bm(c:UInt8)(s:By):s.count c<=s.length:=List.count_le_length
def V0(c:UInt8):∀s:By,c∉s\/∃p r,s=p++c::r/\c∉p
 | []=>.inl (by simp)
 | b::s=>by
  by_cases h:b=c
  ·subst h;exact .inr ⟨[],s,rfl,by simp⟩
  ·rcases V0 c s with a|⟨p,r,rfl,d⟩
   ·exact .inl (by simp[a,ah9 h])
   ·exact .inr ⟨b::p,r,rfl,by simp[d,ah9 h]⟩
def Wh{c:UInt8}{s:By}(h:c∉s):x3 s [c]=-1:=by
 rcases aj0 s [c] with a|⟨i,a,e,b,f⟩
 ·exact a.1
 ·exfalso;simp only[ai1,ab4] at b;obtain⟨t,d⟩:=b;have:c∈s.drop i:=by rw[<-d];simp
  exact h (aa5 this)
def DB{c:UInt8}{p r:By}(h:c∉p):x3 (p++c::r) [c]=(p.length:Int):=by
 rcases aj0 (p++c::r) [c] with d|⟨i,d,m,f,g⟩
 ·exfalso;have:=d.2 p.length (by simp);simp[ai1] at this
 ·rw[d];have n:¬p.length<i:=by
   intro a;have:=g p.length a;simp[ai1] at this
  have k:¬i<p.length:=by
   intro a;simp only[ai1,ab4] at f;obtain⟨t,b⟩:=f;have j:(p++c::r).drop i=p.drop i++c::r:=by rw[aa9 (by omega)]
   rw[j] at b;cases e:p.drop i with
   | nil=>have:=aa7 (i:=i) (l:=p);rw[e] at this;simp at this;omega
   | cons x y=>
    rw[e] at b;simp at b;have:x∈p:=aa5 (i:=i) (by rw[e];simp);rw[<-b.1] at this;exact h this
  omega
def Cg2(s:By):E3 s≠[]:=by
 unfold E3;split
 ·rename_i h;intro e;have:=congrArg c9 e;simp at this;omega
 ·exact Bf0 _ _
def Om{s x:By}(h:x∈E3 s):x.length<=s.length:=by
 unfold E3 at h;split at h
 ·exact(Ad ((List.dropLast_sublist _).subset h)).2
 ·exact(Ad h).2
def Ch(s:By):1<=(E3 s).length/\(E3 s).length<=s.length+1:=by
 have a:=ab8.2 (Cg2 s);have b:=Dp 46 s;have c:=Bm 46 s;refine⟨a,?_⟩;unfold E3;split
 ·rw[List.length_dropLast];omega
 ·omega
def DH(s:By):(E3 s).getD ((E3 s).length-1) []=Mj s:=by unfold Mj;rw[List.getLastD_eq_getLast?,List.getLast?_eq_getElem?,o6]
def SO(s:By):Mj s∈E3 s:=by have h:=(Ch s).1;rw[<-DH,o6,p4 (by omega)];exact List.getElem_mem _
def Kp{base:Nat}:∀{s:By} {n i:Nat},i<s.length->base<=dig (s.getD i 0)->G4 base n s=none
 | [],n,i,h,_=>by simp at h
 | b::r,n,0,h,a=>by
  simp only[y9] at a;simp only[G4];rw[I6]
 | b::r,n,i+1,h,a=>by
  simp only[ag7] at a;simp only[G4];split
  ·exact Kp (i:=i) (by simpa using h) a
  ·rfl
def DD(s:By):Dj s=true↔s.getD 0 0=48/\(s.getD 1 0=120\/s.getD 1 0=88):=by simp[Dj]
def Tk{s:By}(h:Dj s=true):2<=s.length:=by
 rw[DD] at h
 match s with
 | []=>simp at h
 | [a]=>simp at h
 | a::b::r=>simp
def C31(l:By):(if Dj l then (G4 16 0 (l.drop 2)).isSome else !l.isEmpty&&(G4 10 0 l).isSome) =
  (if (!l.isEmpty&&(G4 10 0 l).isSome)=true then true else (if (Bo l).isSome=true then decide (2<=l.length)&&(l.getD 1 0==120||l.getD 1 0==88) else false)):=by
 by_cases b:Dj l=true
 ·have g:=Tk b;have j:=(DD l).1 b;have f:G4 10 0 l=none:=Kp (i:=1) (by omega) (by rcases j.2 with h|h<;>rw[h]<;>decide);have d:Bo l=G4 16 0 (l.drop 2):=by
   unfold Bo;rw[ae (by intro e;rw[e] at g;simp at g),ac b]
  rw[ac b,f,d];have c:(l.getD 1 0==120||l.getD 1 0==88)=true:=by simpa using j.2
  rw[c];simp[g]
 ·rw[ae b];cases n:(!l.isEmpty&&(G4 10 0 l).isSome) with
  | true=>rfl
  | false=>
   rw[ae (by simp)];cases d:Bo l with
   | none=>rfl
   | some v=>
    rw[show(some v).isSome=true from rfl,ac rfl]
    symm
    rw[Bool.and_eq_false_iff];by_cases c:2<=l.length
    ·right
     apply ab7;intro a;have a:l.getD 1 0=120\/l.getD 1 0=88:=by
      cases k:(l.getD 1 0==120||l.getD 1 0==88) with
      | false=>exact absurd k a
      | true=>simpa using k
     have m:¬l.getD 0 0=48:=λh=>b ((DD l).2 ⟨h,a⟩)
     have f:G4 10 0 l=none:=Kp (i:=1) (by omega) (by rcases a with h|h<;>rw[h]<;>decide);unfold Bo at d;rw[ae (by intro e;rw[e] at c;simp at c),ae b,ae (by intro h;exact m h.2),f] at d;cases d
    ·left;simpa using c
end
section
open Go Go.Proofs
def Ce8{a:Bool->Option R}(s p:By)(b:A2 s.length=true):Do2 LF s p a=a (p.isPrefixOf s):=by
 have:=L4 b;unfold Do2;rw[Gi];by_cases h:p.length<=s.length
 ·simp_all
 ·simp (disch:=omega) [h]
def Cc5{a:Bool->Option R}(s p:By)(b:A2 s.length=true):Wg LF s p a=a (p.isPrefixOf s):=by unfold Wg;rw[b];rfl
def Ce9{a:Bool->Option R}(s p:By)(b:A2 s.length=true):Do4 LF s p a=a (p.isSuffixOf s):=by
 have:=L4 b;unfold Do4;rw[Py];by_cases h:p.length<=s.length
 ·have e:((s.length:Int)-(p.length:Int)).toNat=s.length-p.length:=by omega
  simp (disch:=omega) [h,e]
 ·simp (disch:=omega) [h]
def Cc6{a:Bool->Option R}(s p:By)(b:A2 s.length=true):Dl9 LF s p a=a (p.isSuffixOf s):=by unfold Dl9;rw[b];rfl
def Bd3{b:By->Option R}(s p:By)(a:A2 s.length=true):B38 LF s p b=b (Ag1 s p):=by
 have:=L4 a;unfold B38 Ag1;rw[a];cases h:p.isSuffixOf s with
 | false=>simp
 | true=>
  have:p.length<=s.length:=by rw[Py] at h;simp at h;exact h.1
  have e:((s.length:Int)-(p.length:Int)).toNat=s.length-p.length:=by omega
  simp (disch:=omega) [e]
def Br0{a:By->Option R}(s p:By)(b:A2 s.length=true):B69 LF s p a=a (Ag1 s p):=by unfold B69;rw[b];rfl
def Bc1{b:By->Bool->Option R}(s p:By)(a:A2 s.length=true):B34 LF s p b=b (Ie s p) (p.isPrefixOf s):=by
 have:=L4 a;unfold B34 Ie;rw[a];cases h:p.isPrefixOf s with
 | false=>simp
 | true=>
  have:p.length<=s.length:=by rw[Gi] at h;simp at h;exact h.1
  simp_all
def Ca5{a:By->Bool->Option R}(s p:By)(b:A2 s.length=true):Di5 LF s p a=a (Ie s p) (p.isPrefixOf s):=by unfold Di5;rw[b];rfl
def A21{a:LL->Option R}(s p:By)(b:A2 s.length=true)(c:(p.length==1)=true):Af4 LF s p a=a (A9 (pcs (p.getD 0 0) s)):=by unfold Af4;rw[b,c];rfl
def Ce5{k0:LL->Option R}(s:By)(o:s.length<=1000000000):∀(r i n:Nat),i+r=s.length->r<n->Gu LF n s (s.length:Int) (i:Int) ((C6 (s.take i)).map F4) k0=k0 ((C6 s).map F4):=by
 intro r
 induction r with
 | zero=>
  intro i n g j;rcases n with _|n;omega
  rw[Gu];rw[A5,v7 (by omega)];rfl
 | succ r a=>
  intro i n g j;rcases n with _|n;omega
  rw[Gu];have h:(C6 (s.take i)).length=i:=by simp[C6];omega
  have a:=a (i+1) n (by omega) (by omega);rw[MT s i (by omega)] at a;rw[E1];have l:=(s.getD i 0).toNat_lt;generalize s.getD i 0=b at *;have c:((i:Int)+1)=((i+1:Nat):Int):=by omega
  simp (disch:=omega) only[C5,G9,aa,vl,ae0,h,E8,E0];rw[c];rcases X9 b with⟨d,e⟩|⟨d,e⟩|⟨d,k,e⟩
  ·simp (disch:=omega) only[C5,j9,ab];rw[e] at a;exact a
  ·simp (disch:=omega) only[D8,C5,j9,k9,ab,aa];rw[e] at a;exact a
  ·have f:wu8 ((b.toNat:Int)+32)=((Dl b).toNat:Int):=by
    rw[O4];omega
   simp (disch:=omega) only[D8,k9,aa,f];exact a
def Ce6{k0:By->LL->Option R}(s:By)(b:A2 s.length=true):Do0 LF s k0=k0 (C6 s) ((C6 s).map F4):=by have c:=L4 b;have:=C9;unfold Do0;simp (disch:=omega) only[j8,E8,ad7];rw[show(decide ((0:Int)<=(s.length:Int)))=true by simp];have:=Ce5 (k0:=λa=>cond (y8 a Qh) (k0 (x4 Nu a) a) none) s c s.length 0 LF (by omega) (by omega);simp only[aa8,C6,List.map_nil] at this;rw[aa];refine o7 this ?_;rw[show(x4 Dl s).map F4=(C6 s).map F4 from rfl,Af,An];rfl
def Cj0{k0:LL->Option R}(s:By)(o:s.length<=1000000000):∀(r i n:Nat),i+r=s.length->r<n->Hf LF n s (i:Int) ((C6 (s.take i)).map F4) k0=k0 ((C6 s).map F4):=by
 intro r
 induction r with
 | zero=>
  intro i n g j;rcases n with _|n;omega
  rw[Hf];rw[A5,v7 (by omega)];rfl
 | succ r a=>
  intro i n g j;rcases n with _|n;omega
  rw[Hf];have h:(C6 (s.take i)).length=i:=by simp[C6];omega
  have a:=a (i+1) n (by omega) (by omega);rw[MT s i (by omega)] at a;rw[E1];have l:=(s.getD i 0).toNat_lt;generalize s.getD i 0=b at *;have c:((i:Int)+1)=((i+1:Nat):Int):=by omega
  simp (disch:=omega) only[C5,G9,aa,vl,ae0,h,E8,E0];rw[c];rcases X9 b with⟨d,e⟩|⟨d,e⟩|⟨d,k,e⟩
  ·simp (disch:=omega) only[C5,j9,ab];rw[e] at a;exact a
  ·simp (disch:=omega) only[D8,C5,j9,k9,ab,aa];rw[e] at a;exact a
  ·have f:wu8 ((b.toNat:Int)+32)=((Dl b).toNat:Int):=by
    rw[O4];omega
   simp (disch:=omega) only[D8,k9,aa,f];exact a
def Cj1{k0:By->LL->Option R}(s:By)(b:A2 s.length=true):Ds6 LF s k0=k0 (C6 s) ((C6 s).map F4):=by have c:=L4 b;have:=C9;unfold Ds6;have:=Cj0 (k0:=λa=>cond (y8 a Qh) (k0 (x4 Nu a) a) none) s c s.length 0 LF (by omega) (by omega);refine o7 this ?_;rw[Af,An];rfl
def Cc2{c:Bool->Option R}(s:By)(d:A2 s.length=true):Dl4 LF s c=c (Dj s):=by
 unfold Dl4;have key:Dj s=(([48,120]:By).isPrefixOf s||([48,88]:By).isPrefixOf s):=by
  match s with
  | []=>rfl
  | [a]=>simp[Dj,p7]
  | a::b::r=>
   simp only[Dj,p7,y9,ag7,ad7];rw[ah3 (a:=(48:UInt8)),ah3 (a:=(120:UInt8)),ah3 (a:=(88:UInt8))];cases (a==48)<;>simp
 grind
def Ca9{k0:Unit->Option R}{k1:Int->Option R}(s:By)(C:s.length<=1000000000)(base:Nat)(B:base<=16):∀(r i a n:Nat),i+r=s.length->r<n->a<=Ec->
  Jq LF n s (base:Int) (a:Int) (s.length:Int) (i:Int) k0 k1=match G4 base a (s.drop i) with|some v=>k1 (v:Int)|none=>k0 ():=by
 intro r
 induction r with
 | zero=>
  intro i a n u w q;rcases n with _|n;omega
  rw[Jq];rw[A5,o5 (by omega)];rfl
 | succ r l=>
  intro i a n u w q;rcases n with _|n;omega
  rw[Jq,E6 s i (by omega)];rw[E1];have t:=(s.getD i 0).toNat_lt;generalize s.getD i 0=b at *;have k:((i:Int)+1)=((i+1:Nat):Int):=by omega
  have o:Ec=1099511627776:=rfl;have step:∀d:Nat,d<base->(a*base+d<100000000000000/\A1 (A1 ((a:Int)*(base:Int))+(d:Int))=((a*base+d:Nat):Int)):=by
   intro d c;have h:a*base<=1099511627776*16:=aj1 (by omega) (by omega);refine⟨by omega,?_⟩;have p:A1 ((a*base:Nat):Int)=((a*base:Nat):Int):=A4;rw[<-ai7,p,A4];rfl
  simp (disch:=omega) only[C5,G9,aa,vl,E0,YI,YH,YG];rw[k];simp only[G4];rcases Ek b with⟨h,j,e⟩|⟨h,j,e⟩|⟨h,j,e⟩|⟨h,j,A,e⟩
  ·have f:wu8 ((b.toNat:Int)-48)=((dig b:Nat):Int):=by rw[O4];omega
   simp (disch:=omega) only[C5,D8,j9,k9,ab,aa,f,E0];by_cases c:dig b<base
   ·rw[ac c,A7,(step _ c).2,C82];exact l (i+1) _ n (by omega) (by omega) (by omega)
   ·rw[ae c,A5];rfl
  ·have f:wu8 ((b.toNat:Int)-97)+10=((dig b:Nat):Int):=by rw[O4];omega
   have g:wu8 ((b.toNat:Int)-97)=((b.toNat:Int)-97):=O4;rw[g] at f;simp (disch:=omega) only[C5,D8,j9,k9,ab,aa,g,E0,f];by_cases c:dig b<base
   ·rw[ac c,A7,(step _ c).2,C82];exact l (i+1) _ n (by omega) (by omega) (by omega)
   ·rw[ae c,A5];rfl
  ·have f:wu8 ((b.toNat:Int)-65)+10=((dig b:Nat):Int):=by rw[O4];omega
   have g:wu8 ((b.toNat:Int)-65)=((b.toNat:Int)-65):=O4;rw[g] at f;simp (disch:=omega) only[C5,D8,j9,k9,ab,aa,g,E0,f];by_cases c:dig b<base
   ·rw[ac c,A7,(step _ c).2,C82];exact l (i+1) _ n (by omega) (by omega) (by omega)
   ·rw[ae c,A5];rfl
  ·rw[ae (show ¬dig b<base by omega)];by_cases x:b.toNat<48
   ·simp (disch:=omega) only[C5,D8,j9,k9,ab,aa]
   ·by_cases y:b.toNat<65
    ·simp (disch:=omega) only[C5,D8,j9,k9,ab,aa]
    ·by_cases z:b.toNat<97
     ·simp (disch:=omega) only[C5,D8,j9,k9,ab,aa]
     ·simp (disch:=omega) only[C5,D8,j9,k9,ab,aa]
def Cb0{k0:Int->Bool->Option R}(s:By)(base:Int)(c:A2 s.length=true)(d:ltN base 17=true):Dj3 LF s base k0=k0 (O9 (G4 base.toNat 0 s):Int) (G4 base.toNat 0 s).isSome:=by have f:=L4 c;have:=C9;obtain⟨a,e⟩:=E9.1 d;obtain⟨b,rfl⟩:=s8 a;unfold Dj3;have:=Ca9 (k0:=λ_=>k0 0 false) (k1:=λn=>k0 n true) s f b (by omega) s.length 0 0 LF (by omega) (by omega) (by unfold Ec;omega);refine o7 this ?_;rw[v8,j8];cases G4 b 0 s<;>rfl
def C30{f:Int->Bool->Option R}(s:By)(d:A2 s.length=true):num LF s f=f (O9 (Bo s):Int) (Bo s).isSome:=by
 have k:=L4 d;unfold num Bo;rw[d];by_cases a:s=[]
 ·subst a;rfl
 have c:(s==([]:By))=false:=by simpa using a
 have j:0<s.length:=ab8.2 a;rw[ae a,c];simp only[aa,ab,vl];cases h:Dj s with
 | true=>
  have:=Tk h;simp (disch:=first|omega|(simp;omega)) only[aa,if_true,W7,R7,D5,Uy];rfl
 | false=>
  simp only[ab,w8,if_false];have i:(G4 10 0 s)=G4 10 0 s:=rfl;by_cases g:1<s.length
  ·simp (disch:=omega) only[C5,G9,aa,Bk,g,true_and];have e:=T7 (s.getD 0 0) 48 (by omega);rw[show((48:Nat):Int)=48 from rfl] at e;rw[e];by_cases b:s.getD 0 0=48
   ·rw[ac b,b,show((48:UInt8)==aa1 48)=true from rfl];simp (disch:=first|omega|(simp;omega)) only[W7,R7,D5,Uy,aa];rfl
   ·rw[ae b,show(s.getD 0 0==aa1 48)=false from beq_eq_false_iff_ne.2 b];rfl
  ·rw[A5,I6];rfl
def ZW{b:Bool->Option R}(s:By)(a:A2 s.length=true):HA LF s b=b (I7 s):=by
 have i:=L4 a;have h:=Ch s;have g:=Om (SO s);have d:=DH s;have c:((E3 s).length:Int)-1=(((E3 s).length-1:Nat):Int):=by omega
 unfold HA I7;rw[a];simp (disch:=omega) only[aa,vl,A8,c,E0,G9,j8,K5,L9,d,D5];cases f:Dj (Mj s) with
 | true=>
  have:=Tk f;have e:Bo (Mj s)=G4 16 0 ((Mj s).drop 2):=by
   unfold Bo;grind
  simp[e]
 | false=>
  simp only[ab,w8,if_false];cases G4 10 0 (Mj s) with
  | none=>simp
  | some v=>cases Mj s<;>rfl
def PT{c:Bool->Option R}(s:By)(a:A2 s.length=true):Zk LF s c=c (I7 s):=by
 have j:=L4 a;have i:=Ch s;have h:=Om (SO s);have e:=DH s;have d:((E3 s).length:Int)-1=(((E3 s).length-1:Nat):Int):=by omega
 unfold Zk I7;rw[a,C31];simp (disch:=omega) only[aa,vl,A8,d,E0,G9,j8,K5,L9,e,D5];generalize Mj s=l at *;cases (!l.isEmpty&&(G4 10 0 l).isSome) with
 | true=>rfl
 | false=>
  simp only[ab,w8,if_false];cases Bo l with
  | none=>rfl
  | some v=>
   simp only[p9,aa,if_true,Bx1];by_cases b:2<=l.length
   ·simp (disch:=omega) only[D8,G9,k9,aa,b,decide_true,aj4];have f:=T7 (l.getD 1 0) 120 (by omega);have g:=T7 (l.getD 1 0) 88 (by omega);grind
   ·rw[A7];simp[b]
def YO{e:By->Option R}(b:Nat)(j:b<=9223372036854775808)(n:Int)(f:ltN n (b+1)=true):GS b n e=e (o9 n.toNat):=by
 obtain⟨a,g⟩:=E9.1 f;obtain⟨m,rfl⟩:=s8 a;have key:∀d:Nat,d<10->wu8 (A1 (48+(d:Int)))=((48+d:Nat):Int):=by
  intro d i;rw[A4,O4];rfl
 have c:∀d:Nat,d<10->[[SV.int .u8 ((48+d:Nat):Int)]]=[aa1 (48+d)].map F4:=by
  intro d i;rw[Da7 (by omega)];rfl
 unfold GS;rw[j8];by_cases h:m<10
 ·rw[A7,key m h,ae9 h];simp only[aa,vl];rw[c m h,Af,An];rfl
 ·have l:=Hp 19 (m / 10) (by omega) (by omega);rw[A5,show(10:Int)=((10:Nat):Int) from rfl,O2,Dy];simp (disch:=omega) only[ab,vl,E0,aa,j8];rw[O0];simp only[aa];have k:=key (m % 10) (by omega);rw[A4] at k;rw[k,c (m % 10) (by omega),Af,An,I1 (by simp;omega),Ko m h];rfl
def Ch9{f:Int->Option R}{c:Unit->Option R}(s:By):∀(r m n:Nat),m+r=256->r<n->Ot LF n s (m:Int) f c=match oct s with|some v=>(if m<=v then f (v:Int) else c ())|none=>c ():=by
 intro r
 induction r with
 | zero=>
  intro m n g i;rcases n with _|n;omega
  rw[Ot];rw[A5];cases h:oct s with
  | none=>rfl
  | some v=>have:=(Yx.1 h).1;simp only[ab];rw[I6]
 | succ r j=>
  intro m n g i;rcases n with _|n;omega
  rw[Ot];have b:((m:Int)+1)=((m+1:Nat):Int):=by omega
  simp (disch:=omega) only[C5,Uy,aa,vl,E0,j8];by_cases a:o9 m=s
  ·rw[show(o9 m==s)=true by simpa using a,Yx.2 ⟨by omega,a⟩];simp
  ·rw[show(o9 m==s)=false by simpa using a,ab,b,j (m+1) n (by omega) (by omega)];cases h:oct s with
   | none=>rfl
   | some v=>
    have:=(Yx.1 h).2;have:v≠m:=by intro e;subst e;exact a this
    simp only[];by_cases d:m<=v
    ·rw[ac d,W4]
    ·rw[ae d,I6]
def Ci0{a:Int->Bool->Option R}(s:By)(b:A2 s.length=true):Dr3 LF s a=a (O9 (oct s):Int) (oct s).isSome:=by have:=C9;unfold Dr3;refine o7 (Ch9 s 256 0 LF (by omega) (by omega)) ?_;cases oct s<;>rfl
def D23(s:By)(a b:Nat)(h:a<=b)(c:b<s.length):cut s (a:Int) ((b+1:Nat):Int)=cut s (a:Int) (b:Int)++[s.getD b 0]:=by rw[Fj,Fj,UB s b c,aa9 (by rw[x9];omega)]
def Wc(s:By)(a:Nat):cut s (a:Int) (a:Int)=[]:=by rw[Fj];grind
def Ax3{k0:LL->Option R}(s:By)(p:s.length<=1000000000)(c:UInt8):∀(r i a n:Nat) (l:List By),i+r=s.length->r+1<n->a<=i->l.length<=i->
  Z5 LF n s (c.toNat:Int) (a:Int) (i:Int) (A9 l) k0=k0 (A9 (l++O6 c (cut s (a:Int) (i:Int)) (s.drop i))):=by
 intro r
 induction r with
 | zero=>
  intro i a n l j o f k;rcases n with _|n;omega
  rcases n with _|n;omega
  have b:i=s.length:=by omega
  subst b;rw[Z5];simp (disch:=omega) only[D8,k9,aa,beq_self_eq_true,W7,A8,E8,E0];rw[Z5];rw[A7,List.drop_length];simp only[j9,ab,O6,Br];rfl
 | succ r g=>
  intro i a n l j o f k;rcases n with _|n;omega
  rw[Z5];have d:((i:Int)+1)=((i+1:Nat):Int):=by omega
  have e:((i:Int)==(s.length:Int))=false:=by rw[beq_eq_false_iff_ne];omega
  simp (disch:=omega) only[D8,k9,aa,ab,e,G9,E1,D34,W7,A8,E8,E0];rw[d,E6 s i (by omega)];simp only[O6];by_cases h:s.getD i 0=c
  ·rw[show(s.getD i 0==c)=true by simpa using h,ac h,aa];have:=g (i+1) (i+1) n (l++[cut s (a:Int) (i:Int)]) (by omega) (by omega) (by omega) (by simp<;>omega);rw[Br] at this;refine o7 this ?_;rw[Wc];simp
  ·rw[show(s.getD i 0==c)=false from beq_eq_false_iff_ne.2 h,ae h,ab];rw[g (i+1) a n l (by omega) (by omega) (by omega) (by omega),D23 s a i f (by omega)]
def Bn9{k0:LL->Option R}(s:By)(c:Int)(a:A2 s.length=true)(d:inR c 256=true):NR LF s c k0=k0 (A9 (pcs (u8n c) s)):=by
 have f:=L4 a;have:=C9;simp only[inR,x6,af] at d;have e:c=((u8n c).toNat:Int):=by
  unfold u8n;simp;omega
 unfold NR;generalize u8n c=b at *;subst e;have:=Ax3 (k0:=k0) s f b s.length 0 0 LF [] (by omega) (by omega) (by omega) (by simp);refine o7 this ?_;rw[Wc];rfl
def A24(c:UInt8)(s:By):(A9 (pcs c s)).isEmpty=false:=by
 cases h:pcs c s with
 | nil=>exact absurd h (Bf0 c s)
 | cons a r=>rfl
def Ax4(s:By)(c:Int)(a:A2 s.length=true)(b:inR c 256=true):∃r H,NR LF s c (λl=>rv (.fl 0) [.arr true 9 1 l])=rv r H/\r.stab [1] H = .s (.sl false false 1 (A9 (pcs (u8n c) s))):=by refine⟨_,_,Bn9 s c a b,?_⟩;simp[PV.stab,Md,PV.snap,A24]
def C83(d:List By)(x:By)(m:Nat):ac9 (A9 (d++j5 (m+1) [])) d.length (I4 (j0 (A9 (d++j5 (m+1) [])) d.length []) 0 [SV.str x])=A9 ((d++[x])++j5 m []):=by
 have a:j0 (A9 (d++j5 (m+1) [])) d.length []=[SV.str []]:=by
  unfold A9;grind
 rw[a];simp only[I4,ah1,Br];rw[show d.length=(A9 d).length by simp,List.set_append_right _ _ (by omega),al9,ae3];simp[A9]
def Aq5{k0:By->Int->LL->Option R}(c:UInt8):∀(m n:Nat) (s:By) (d:List By),s.length<=1000000000->m=s.count c->d.length+m<=1000000000->m<n->
  ∃(f:List By) (e:By),pcs c s=f++[e]/\e.length<=s.length/\Cp LF n s [c] 0 ((d.length+m:Nat):Int) (d.length:Int) (A9 (d++j5 (m+1) [])) k0=k0 e ((d.length+m:Nat):Int) (A9 ((d++f)++[[]])):=by
 intro m
 induction m with
 | zero=>
  intro n s d k b x y;rcases n with _|n;omega
  have a:c∉s:=ae7.1 b.symm;refine⟨[],s,Rp a,Nat.le_refl _,?_⟩;rw[Cp];rw[A5];simp
 | succ m z=>
  intro n s d k b x y;rcases n with _|n;omega
  rcases V0 c s with a|⟨p,r,rfl,a⟩
  ·rw[ae7.2 a] at b;omega
  ·have i:m=r.count c:=by
    rw[List.count_append,List.count_cons,ae7.2 a] at b;simp at b;omega
   simp only[ac2,aa6] at k;obtain⟨f,e,w,B,j⟩:=z n r (d++[p]) (by omega) i (by simp<;>omega) (by omega);refine⟨p::f,e,by rw[Aa4 a,w];rfl,by simp<;>omega,?_⟩;rw[Cp];have l:((p.length:Int)+1)=((p.length+1:Nat):Int):=by omega
   have o:(d.length:Int)+1=((d.length+1:Nat):Int):=by omega
   have q:((p.length+1:Nat):Int).toNat=p.length+1:=by omega
   have A:(((p++c::r).length:Nat):Int)=((p.length+(r.length+1):Nat):Int):=by simp
   have t:(p++c::r).take p.length=p:=List.take_left' rfl;have u:(p++c::r).drop (p.length+1)=r:=by
    rw[show p++c::r=(p++[c])++r by simp,List.drop_left' (by simp)]
   rw[DB a];have v:(A9 (d++j5 (m+1+1) [])).length=d.length+(m+2):=by simp<;>omega
   simp (disch:=first|omega|(simp;omega)) only[C5,D8,D5,aa,ab,vl,Int.add_zero,E0,W7,G9,v,j8,ab2,R7,M8,t,C83];rw[decide_eq_true (show d.length<d.length+(m+2) by omega),aa,show((1:Nat):Int)=1 from rfl,l];simp (disch:=first|omega|(simp;omega)) only[E0,W7,aa,R7,q,u,o];have g:((((d++[p]).length+m:Nat):Int))=((d.length+(m+1):Nat):Int):=by simp<;>omega
   have h:(((d++[p]).length:Nat):Int)=((d.length+1:Nat):Int):=by simp
   rw[g,h] at j;rw[j];simp
def LX{k0:Unit->Option R}{g:Nat->LL->Option R}(s p:By)(v n:Int)(w:A2 s.length=true)(x:(p.length==1)=true)(y:(v==0)=true)(z:(n==(-1))=true) :
  LW LF s p v n k0 g=g (pcs (p.getD 0 0) s).length (A9 (pcs (p.getD 0 0) s)):=by
 have C:=L4 w;have:=C9;obtain⟨c,rfl⟩:∃c,p=[c]:=by
  match p,x with
  | [c],_=>exact⟨c,rfl⟩
 have:v=0:=by simpa using y
 subst this;have:n=-1:=by simpa using z
 subst this;have G:=Bm c s;have B:=Dp c s;obtain⟨d,D,u,F,h⟩:=Aq5 (R:=R) (k0:=λf a b=>cond (inR a (c9 b))
     (cond (decide ((j4 a)<(c9 b)))
      (vl (A1 (a+(1))) λe=>
      cond (J5 (0) e (c9 (ac9 b (j4 a) (I4 (j0 b (j4 a) []) 0 [(SV.str f)]))))
       (g ((j4 e)-0) (ac9 b (j4 a) (I4 (j0 b (j4 a) []) 0 [(SV.str f)])))
       (none))
      (none))
     (none)) c (s.count c) LF s [] C rfl (by simp<;>omega) (by omega)
 unfold LW;have i:A1 ((s.count c:Int)+1)=((s.count c+1:Nat):Int):=A4;have j:A1 ((s.length:Int)+1)=((s.length+1:Nat):Int):=A4;have k:(if ((s.length+1:Nat):Int)<((s.count c+1:Nat):Int) then ((s.length+1:Nat):Int) else ((s.count c+1:Nat):Int))=((s.count c+1:Nat):Int):=I6;have l:((s.count c+1:Nat):Int)-1=(s.count c:Int):=by omega
 have m:(j5 (s.count c+1) [SV.str ([]:By)])=A9 ([]++j5 (s.count c+1) []):=by simp[A9]
 simp only[y9,vl,ab2,i,j,k,j8,m];rw[show((-1:Int)==0)=false from rfl,show([c]==([]:By))=false from rfl,show ltI (-1) 0=true from rfl,decide_eq_true (show(0:Int)<=((s.count c+1:Nat):Int) by omega),decide_eq_true (show((s.count c+1:Nat):Int)<=((s.count c+1:Nat):Int) by omega),E8 (by omega),l,A4];simp only[aa,ab,beq_self_eq_true,Bool.and_self];simp only[ae1,ae4] at h;refine o7 h ?_;have o:(A9 ((([]:List By)++d)++[[]]))=A9 (d++j5 (0+1) []):=by simp
 have A:d.length=s.count c:=by grind
 have q:=C83 d D 0;rw[<-A,o];have t:(A9 (d++j5 (0+1) ([]:By))).length=d.length+1:=by simp
 have r:A1 ((d.length:Int)+1)=((d.length+1:Nat):Int):=A4;simp only[j8,q,t,vl,r];rw[G2,decide_eq_true (show d.length<d.length+1 by omega),W7 (by omega) (by omega) (by simp),u];simp
def Aq6(s p:By)(v n:Int)(a:A2 s.length=true)(b:(p.length==1)=true)(c:(v==0)=true)(d:(n==(-1))=true) :
  ∃r H,LW LF s p v n (λ_=>rv (.fl 0) [.arr true 9 1 []]) (λi l=>rv (.vw 0 0 i) [.arr false 9 1 l])=rv r H/\r.stab [1] H = .s (.sl false false 1 (A9 (pcs (p.getD 0 0) s))):=by
 refine⟨_,_,LX s p v n a b c d,?_⟩;simp[PV.stab,Md,PV.snap,v7]
def Af5{a:Nat->LL->Option R}(s p:By)(b:A2 s.length=true)(c:(p.length==1)=true):HO LF s p a=a (pcs (p.getD 0 0) s).length (A9 (pcs (p.getD 0 0) s)):=by unfold HO;rw[b,c];rfl
def TE{l:List By}{i:Nat}(h:i<l.length):l.getD i []∈l:=by grind
def Be9{d:LL->Option R}(s:By)(b:A2 s.length=true):parts LF s d=d (A9 (E3 s)):=by
 have j:=L4 b;have g:=Dp 46 s;have i:=Bm 46 s;unfold parts;rw[b];have e:A1 (((pcs 46 s).length:Int)-1)=(((pcs 46 s).length-1:Nat):Int):=by rw[A4];omega
 simp only[aa,vl,y9,show((1:Nat)==1)=true from rfl,A8,e,j8];by_cases c:1<(pcs 46 s).length
 ·rw[A7,G2,K5 (by omega),L9];have f:(pcs 46 s).getD ((pcs 46 s).length-1) []=(pcs 46 s).getLastD []:=by grind
  rw[f];by_cases a:(pcs 46 s).getLastD []=[]
  ·rw[a,show(([]:By)==[])=true from rfl,K2];have:E3 s=(pcs 46 s).dropLast:=by unfold E3;rw[ac ⟨c,a⟩]
   rw[this,ag2,M8,j8];simp[A9]
  ·rw[show((pcs 46 s).getLastD []==[])=false from beq_eq_false_iff_ne.2 a];have:E3 s=pcs 46 s:=by unfold E3;rw[ae (λh=>a h.2)]
   grind
 ·rw[A5];have:E3 s=pcs 46 s:=by unfold E3;rw[ae (λh=>c h.1)]
  grind
def Aw4{d:LL->Option R}(s:By)(b:A2 s.length=true):Ad4 LF s d=d (A9 (E3 s)):=by
 have j:=L4 b;have g:=Dp 46 s;have i:=Bm 46 s;unfold Ad4;rw[b];have e:A1 (((pcs 46 s).length:Int)-1)=(((pcs 46 s).length-1:Nat):Int):=by rw[A4];omega
 simp only[aa,vl,show u8n 46=46 from rfl,A8,e,j8];by_cases c:1<(pcs 46 s).length
 ·rw[A7,G2,K5 (by omega),L9];have f:(pcs 46 s).getD ((pcs 46 s).length-1) []=(pcs 46 s).getLastD []:=by grind
  rw[f];by_cases a:(pcs 46 s).getLastD []=[]
  ·rw[a,show(([]:By)==[])=true from rfl,K2];have:E3 s=(pcs 46 s).dropLast:=by unfold E3;rw[ac ⟨c,a⟩]
   rw[this,ag2,M8,j8];simp[A9]
  ·rw[show((pcs 46 s).getLastD []==[])=false from beq_eq_false_iff_ne.2 a];have:E3 s=pcs 46 s:=by unfold E3;rw[ae (λh=>a h.2)]
   grind
 ·rw[A5];have:E3 s=pcs 46 s:=by unfold E3;rw[ae (λh=>c h.1)]
  grind
def Kw(l:List By)(i:Nat)(h:i<l.length):l.drop i=l.getD i []::l.drop (i+1):=by simp_all
def Cg7{g:Unit->Option R}{j:Int->Option R}(l:List By)(B:1<=l.length)(L:l.length<=4)(A:∀x∈l,x.length<=1000000000):∀(r i v n:Nat),i+r=l.length->0<r->r<n->v<256 ^ i->
  Jv LF n (A9 l) (v:Int) (l.length:Int) (i:Int) g j=match Zb (8*(5-l.length)) v (l.drop i) with|some w=>j (w:Int)|none=>g ():=by
 intro r
 induction r with
 | zero=>intro i v n _ h;omega
 | succ r J=>
  intro i v n K _ M H;rcases n with _|n;omega
  rw[Jv,Kw l i (by omega)];have N:=A _ (TE (show i<l.length by omega));have f:Ec=1099511627776:=rfl;have C:256 ^ i<=16777216:=by
   have:i=0\/i=1\/i=2\/i=3:=by omega
   rcases this with rfl|rfl|rfl|rfl<;>decide
  simp (disch:=omega) only[C5,A8,G9,aa,j8,K5,L9,D5,vl];simp only[Zb];have c:((i:Int)+1)=((i+1:Nat):Int):=by omega
  cases D:Bo (l.getD i []) with
  | none=>rfl
  | some q=>
   have F:=B43 D;have p:A1 ((l.length:Int)-1)=((l.length-1:Nat):Int):=by rw[A4];omega
   simp only[p9,j9,ab,O9,p6,p];by_cases G:r=0
   ·subst G;have t:l.drop (i+1)=[]:=o5 (by omega);have o:A1 (8*A1 (5-(l.length:Int)))=((8*(5-l.length):Nat):Int):=by
     rw[E0 (n:=5-(l.length:Int)) (by omega) (by omega),A4];omega
    have b:2 ^ (8*(5-l.length))*256 ^ i=4294967296:=by
     have:l.length=1\/l.length=2\/l.length=3\/l.length=4:=by omega
     grind
    have u:1*2 ^ (8*(5-l.length))<=4294967296:=by
     rw[<-b,ag5];exact af3 _ (ai6 (by omega))
    rw[t,A5,o,decide_eq_true (show(0:Int)<=((8*(5-l.length):Nat):Int) by omega)];simp only[ab,aa];have k:=A08 1 (8*(5-l.length)) (by omega) (by omega);have I:v*2 ^ (8*(5-l.length))<4294967296:=by
     rw[<-b,al8];exact Nat.mul_lt_mul_of_pos_left H (ai6 (by omega))
    have e:=A08 v (8*(5-l.length)) (by omega) (by omega);rw[show((1:Nat):Int)=1 from rfl] at k;rw[k,e,ag5];by_cases a:q<2 ^ (8*(5-l.length))
    ·rw[A7,ac a,D14 _ _ (by omega) (by omega),HC v q _ a];simp only[j9,ab];rcases n with _|n;omega
     rw[Jv];rw[c,A4,A5];rfl
    ·rw[A5,ae a];rfl
   ·obtain⟨y,z,d⟩:∃y z,l.drop (i+1)=y::z:=⟨_,_,Kw l (i+1) (by omega)⟩
    rw[d,A7];simp only[aa];by_cases a:q<=255
    ·have e:=A08 v 8 (by omega) (by omega);rw[show((8:Nat):Int)=8 from rfl] at e;rw[A5,ac a,e,D14 _ _ (by omega) (by omega),HC v q 8 (by omega),c,A4];rw[<-d];exact J (i+1) _ n (by omega) (by omega) (by omega) (by rw[y5];omega)
    ·rw[A7,ae a];rfl
def B47(free m:Nat):∀(l:List By) (v w:Nat),v<256 ^ m->Zb free v l=some w->w<256 ^ (m+(l.length-1))*2 ^ free
 | [],v,w,b,h=>by cases h
 | p::r,v,w,b,h=>by
  simp only[Zb] at h;cases a:Bo p with
  | none=>simp[a] at h
  | some q=>
   simp only[a] at h;cases r with
   | nil=>
    simp only at h;split at h
    ·rename_i c;cases h;simp only[aa6,ae1,ah2,af5];have:(v+1)*2 ^ free<=256 ^ m*2 ^ free:=ad8 _ b;grind
    grind
   | cons y z=>
    simp only at h;split at h
    ·rename_i c;have:=B47 free (m+1) (y::z) (v*256+q) w (by rw[y5];omega) h;grind
    grind
def C38{s:By}{w:Nat}(h:pnB s=some w):w<4294967296:=by
 unfold pnB at h;split at h
 ·cases h
 ·rename_i a;have b:=Ch s;have:=B47 _ 0 (E3 s) 0 w (by decide) h;have e:(E3 s).length=1\/(E3 s).length=2\/(E3 s).length=3\/(E3 s).length=4:=by omega
  grind
def Cg8{b:Int->Bool->Option R}(s:By)(a:A2 s.length=true):Dq4 LF s b=b (O9 (pnB s):Int) (pnB s).isSome:=by
 have f:=L4 a;have:=C9;have c:=Ch s;unfold Dq4;rw[a,A8];by_cases h:4<(E3 s).length
 ·rw[A7];unfold pnB;rw[ac h];rfl
 ·rw[A5];simp only[aa,ab];refine o7 (Cg7 (E3 s) c.1 (by omega) (λx g=>ad0 (Om g) f) (E3 s).length 0 0 LF (by omega) (by omega) (by omega) (by decide)) ?_;have e:pnB s=Zb (8*(5-(E3 s).length)) 0 (E3 s):=by unfold pnB;rw[ae h]
  rw[v8,<-e];cases d:pnB s with
  | none=>rfl
  | some w=>
   have:=C38 d;simp only[O9,p6,p9];rw[Ps]
def Bm4{k0:Unit->Option R}{k1:Int->Option R}(l:List By)(F:1<=l.length)(L:l.length<=4)(D:∀x∈l,x.length<=1000000000):∀(r i v n:Nat),i+r=l.length->0<r->r<n->v<256 ^ i->
  Fz LF n (A9 l) ((v*2 ^ (32-8*i):Nat):Int) (i:Int) k0 k1=match Zb (8*(5-l.length)) v (l.drop i) with|some w=>k1 (w:Int)|none=>k0 ():=by
 intro r
 induction r with
 | zero=>intro i v n _ h;omega
 | succ r J=>
  intro i v n K _ M N;rcases n with _|n;omega
  rw[Fz,Kw l i (by omega)];have O:=D _ (TE (show i<l.length by omega));have k:Ec=1099511627776:=rfl;have a:v*2 ^ (32-8*i)<4294967296:=by
   have:i=0\/i=1\/i=2\/i=3:=by omega
   rcases this with rfl|rfl|rfl|rfl
   all_goals omega
  simp (disch:=omega) only[C5,A8,G9,aa,j8,K5,L9,D5,vl];simp only[Zb];have c:((i:Int)+1)=((i+1:Nat):Int):=by omega
  cases G:Bo (l.getD i []) with
  | none=>rfl
  | some q=>
   have H:=B43 G;have A:A1 ((l.length:Int)-1)=((l.length-1:Nat):Int):=by rw[A4];omega
   simp only[p9,j9,ab,O9,p6,A];by_cases I:r=0
   ·subst I;have B:l.drop (i+1)=[]:=o5 (by omega);have u:A1 (8*A1 (5-(l.length:Int)))=((8*(5-l.length):Nat):Int):=by
     rw[E0 (n:=5-(l.length:Int)) (by omega) (by omega),A4];omega
    have f:2 ^ (8*(5-l.length))*256 ^ i=4294967296:=by
     have:l.length=1\/l.length=2\/l.length=3\/l.length=4:=by omega
     grind
    have C:1*2 ^ (8*(5-l.length))<=4294967296:=by
     rw[<-f,ag5];exact af3 _ (ai6 (by omega))
    have e:((i:Int)==((l.length-1:Nat):Int))=true:=by rw[beq_iff_eq];omega
    rw[B,e,u,decide_eq_true (show(0:Int)<=((8*(5-l.length):Nat):Int) by omega)];simp only[aa];have o:=A08 1 (8*(5-l.length)) (by omega) (by omega);rw[show((1:Nat):Int)=1 from rfl] at o;rw[o,ag5];by_cases b:q<2 ^ (8*(5-l.length))
    ·rw[A7,ac b];simp only[j9,ab];rcases n with _|n;omega
     rw[Fz];rw[c,E0 (n:=((i+1:Nat):Int)) (by omega) (by omega),A8,A5];have:32-8*i=8*(5-l.length):=by omega
     rw[this] at a ⊢;rw[ab,A4];rfl
    ·rw[A5,ae b];rfl
   ·obtain⟨y,z,d⟩:∃y z,l.drop (i+1)=y::z:=⟨_,_,Kw l (i+1) (by omega)⟩
    have e:((i:Int)==((l.length-1:Nat):Int))=false:=by rw[beq_eq_false_iff_ne];omega
    rw[d,e];simp only[ab];by_cases b:q<=255
    ·have j:A1 (24-A1 (8*(i:Int)))=((24-8*i:Nat):Int):=by
      rw[E0 (n:=8*(i:Int)) (by omega) (by omega),A4];omega
     have g:q*2 ^ (24-8*i)<4294967296:=by
      have:i=0\/i=1\/i=2:=by omega
      clear a;rcases this with rfl|rfl|rfl
      ·show q*16777216<_;omega
      ·show q*65536<_;omega
      ·show q*256<_;omega
     have p:=A08 q (24-8*i) (by omega) (by omega);rw[A5,ac b,j,decide_eq_true (show(0:Int)<=((24-8*i:Nat):Int) by omega),p,c,E0 (n:=((i+1:Nat):Int)) (by omega) (by omega)];have t:A1 (((v*2 ^ (32-8*i):Nat):Int)+((q*2 ^ (24-8*i):Nat):Int))=(((v*256+q)*2 ^ (32-8*(i+1)):Nat):Int):=by
      rw[A4];have:i=0\/i=1\/i=2:=by omega
      clear a g p j;rcases this with rfl|rfl|rfl
      ·show((v*4294967296:Nat):Int)+((q*16777216:Nat):Int)=(((v*256+q)*16777216:Nat):Int);omega
      ·show((v*16777216:Nat):Int)+((q*65536:Nat):Int)=(((v*256+q)*65536:Nat):Int);omega
      ·show((v*65536:Nat):Int)+((q*256:Nat):Int)=(((v*256+q)*256:Nat):Int);omega
     rw[t,<-d];exact J (i+1) _ n (by omega) (by omega) (by omega) (by rw[y5];omega)
    ·rw[A7,ae b];rfl
def Bm5{k0:Int->Bool->Option R}(s:By)(a:A2 s.length=true):B62 LF s k0=k0 (O9 (pnB s):Int) (pnB s).isSome:=by
 have f:=L4 a;have:=C9;have c:=Ch s;unfold B62;rw[a,A8];by_cases h:4<(E3 s).length
 ·rw[A7];unfold pnB;rw[ac h];rfl
 ·rw[A5];simp only[aa,ab];have b:=Bm4 (k0:=λ_=>k0 0 false) (k1:=λv=>k0 (EI v) true) (E3 s) c.1 (by omega) (λx g=>ad0 (Om g) f) (E3 s).length 0 0 LF (by omega) (by omega) (by omega) (by decide);rw[Nat.zero_mul] at b;refine o7 b ?_;have e:pnB s=Zb (8*(5-(E3 s).length)) 0 (E3 s):=by unfold pnB;rw[ae h]
  rw[v8,<-e];cases d:pnB s with
  | none=>rfl
  | some w=>
   have:=C38 d;simp only[O9,p6,p9];rw[Ps]
def B44:∀(l:List By) (v w m:Nat),v<256 ^ m->NB v l=some w->w<256 ^ (m+l.length)
 | [],v,w,m,b,h=>by simp only[NB,p5] at h;subst h;simpa using b
 | p::r,v,w,m,b,h=>by
  simp only[NB] at h;cases a:oct p with
  | none=>simp[a] at h
  | some q=>
   simp only[a] at h;have c:=(Yx.1 a).1;have:=B44 r (v*256+q) w (m+1) (by rw[y5];omega) h;grind
def Dp2(s:By):oct s=match G4 10 0 s with|some n=>(if n<=255 then (if o9 n=s then some n else none) else none)|none=>none:=by unfold oct;grind
def Db5{e:Unit->Option R}{f:Int->Option R}(l:List By)(z:l.length=4)(j:∀x∈l,x.length<=1000000000):∀(r i v n:Nat),i+r=4->r<n->v<256 ^ i->
  Xf LF n (v:Int) (A9 l) 4 (i:Int) e f=match NB v (l.drop i) with|some w=>f (w:Int)|none=>e ():=by
 intro r
 induction r with
 | zero=>
  intro i v n h k u;rcases n with _|n;omega
  rw[Xf];rw[A5,o5 (by omega)];rfl
 | succ r y=>
  intro i v n h k u;rcases n with _|n;omega
  rw[Xf,Kw l i (by omega)];have A:=j _ (TE (show i<l.length by omega));have o:256 ^ i<=16777216:=by
   have:i=0\/i=1\/i=2\/i=3:=by omega
   grind
  simp (disch:=omega) only[C5,A8,G9,aa,j8,K5,L9,D5,Uy,vl];simp only[NB];have b:((i:Int)+1)=((i+1:Nat):Int):=by omega
  rw[Dp2];cases p:G4 10 0 (l.getD i []) with
  | none=>rfl
  | some q=>
   have t:=LI (by unfold Ec;omega) p;have d:Ec=1099511627776:=rfl;simp only[p9,j9,ab,O9,p6,j8];by_cases c:q<=255
   ·rw[A5,ac c,O0];simp only[ab,aa];by_cases a:o9 q=l.getD i []
    ·have g:=Ef8 v 8 (by omega) (by omega);rw[show((8:Nat):Int)=8 from rfl] at g;rw[show(o9 q==l.getD i [])=true by simpa using a,ac a,g,Ps,Ee0 _ _ (by omega) (by omega),HC v q 8 (by omega),b,A4];exact y (i+1) _ n (by omega) (by omega) (by rw[y5];omega)
    ·rw[show(o9 q==l.getD i [])=false from beq_eq_false_iff_ne.2 a,ae a];rfl
   ·rw[A7,ae c];rfl
def Db6{b:Int->Bool->Option R}(s:By)(a:A2 s.length=true):v4p LF s b=b (O9 (v4B s):Int) (v4B s).isSome:=by
 have c:=L4 a;have:=C9;unfold v4p v4B;rw[a];simp only[aa,vl,y9,A8,show((1:Nat)==1)=true from rfl];by_cases h:(pcs 46 s).length=4
 ·rw[ac h,h,show(((4:Nat):Int)!=4)=false from rfl,ab];refine o7 (Db5 (pcs 46 s) h (λx d=>ad0 (Ad d).2 c) 4 0 0 LF (by omega) (by omega) (by decide)) ?_;rw[v8];cases NB 0 (pcs 46 s)<;>rfl
 ·rw[ae h,show(((pcs 46 s).length:Int)!=4)=true by simp<;>omega];rfl
def Cl3{b:Unit->Option R}{c:Int->Option R}(l:List By)(y:l.length=4)(h:∀x∈l,x.length<=1000000000):∀(r i v n:Nat),i+r=4->r<n->v<256 ^ i->
  Pe LF n (A9 l) (v:Int) (i:Int) b c=match NB v (l.drop i) with|some w=>c (w:Int)|none=>b ():=by
 intro r
 induction r with
 | zero=>
  intro i v n g j t;rcases n with _|n;omega
  rw[Pe];rw[A5,o5 (by omega)];rfl
 | succ r u=>
  intro i v n g j t;rcases n with _|n;omega
  rw[Pe,Kw l i (by omega)];have z:=h _ (TE (show i<l.length by omega));have k:256 ^ i<=16777216:=by
   have:i=0\/i=1\/i=2\/i=3:=by omega
   grind
  simp (disch:=omega) only[C5,A8,G9,aa,j8,K5,L9,D5,Uy,vl];simp only[NB];have a:((i:Int)+1)=((i+1:Nat):Int):=by omega
  cases o:oct (l.getD i []) with
  | none=>rfl
  | some q=>
   have p:=(Yx.1 o).1;simp only[p9,j9,ab,O9,p6];have d:EI ((v:Int)*256)=((v*256:Nat):Int):=by rw[Ps];simp
   have e:EI (q:Int)=(q:Int):=Ps;have f:EI (((v*256:Nat):Int)+(q:Int))=((v*256+q:Nat):Int):=by rw[Ps];simp
   rw[d,e,f,a,A4];exact u (i+1) _ n (by omega) (by omega) (by rw[y5];omega)
def Cl4{b:Int->Bool->Option R}(s:By)(a:A2 s.length=true):Dt9 LF s b=b (O9 (v4B s):Int) (v4B s).isSome:=by
 have c:=L4 a;have:=C9;unfold Dt9 v4B;rw[a];simp only[aa,vl,show u8n 46=46 from rfl,A8];by_cases h:(pcs 46 s).length=4
 ·rw[ac h,h,show(((4:Nat):Int)!=4)=false from rfl,ab];refine o7 (Cl3 (pcs 46 s) h (λx d=>ad0 (Ad d).2 c) 4 0 0 LF (by omega) (by omega) (by decide)) ?_;rw[v8];cases NB 0 (pcs 46 s)<;>rfl
 ·rw[ae h,show(((pcs 46 s).length:Int)!=4)=true by simp<;>omega];rfl
def Db4{j:By->Option R}(v:Int)(o:ltN v 4294967296=true):v4f LF v j=j (Jj v.toNat):=by
 obtain⟨c,p⟩:=E9.1 o;obtain⟨m,rfl⟩:=s8 c;have:=C9;obtain⟨f,q⟩:∃f,LF=f+1+1+1+1+1:=⟨LF-5,by omega⟩
 have step:∀(n:Nat) (i:Nat) (out:By) (K:By->Option R),i<=24->out.length<=1000->Jk LF (n+1) (m:Int) out (i:Int) K=Jk LF n (m:Int) (out++(o9 (m / 2 ^ i % 256)++[46])) ((i:Int)-8) K:=by
  intro n i out K y A;rw[Jk];have g:m / 2 ^ i<4294967296:=Nat.lt_of_le_of_lt (ag0 _ _) (by omega);have k:A80 .u32 (Qi .u32 (m:Int) (i:Int)) 255=((m / 2 ^ i % 256:Nat):Int):=by
   rw[Um .u32 m i (by show i<=32;omega),show(255:Int)=((255:Nat):Int) from rfl,D42 _ _ g (by omega),D41]
  have z:=G6 (m / 2 ^ i % 256) (by omega);have l:A1 ((m / 2 ^ i % 256:Nat):Int)=((m / 2 ^ i % 256:Nat):Int):=A4;rw[A5,decide_eq_true (show(0:Int)<=(i:Int) by omega),k];simp only[vl,l,j8,k9,aa];rw[O0,I1 (by omega),I1 (by simp<;>omega),A4];rfl
 have b:∀(n:Nat) (out:By) (K:By->Option R),Jk LF (n+1) (m:Int) out (-8) K=K out:=by
  intro n out K;rw[Jk];simp_all
 have x:=G6 (m / 2 ^ 24 % 256) (by omega);have w:=G6 (m / 2 ^ 16 % 256) (by omega);have D:=G6 (m / 2 ^ 8 % 256) (by omega);have C:=G6 (m / 2 ^ 0 % 256) (by omega);have u:=G6 (m / 16777216 % 256) (by omega);have t:=G6 (m / 65536 % 256) (by omega);have B:=G6 (m / 256 % 256) (by omega);have r:=G6 (m % 256) (by omega);unfold v4f;rw[show Jk LF LF=Jk LF (f+1+1+1+1+1) by rw[<-q]];rw[show(24:Int)=((24:Nat):Int) from rfl,step _ 24 _ _ (by omega) (by simp)];rw[show((24:Nat):Int)-8=((16:Nat):Int) from rfl,step _ 16 _ _ (by omega) (by simp<;>omega)];rw[show((16:Nat):Int)-8=((8:Nat):Int) from rfl,step _ 8 _ _ (by omega) (by simp<;>omega)];rw[show((8:Nat):Int)-8=((0:Nat):Int) from rfl,step _ 0 _ _ (by omega) (by simp<;>omega)];rw[show((0:Nat):Int)-8=-8 from rfl,b];have h:m / 2 ^ 24 % 256=m / 16777216:=by omega
 have e:(([]:By)++(o9 (m / 2 ^ 24 % 256)++[46])++(o9 (m / 2 ^ 16 % 256)++[46])++(o9 (m / 2 ^ 8 % 256)++[46])++(o9 (m / 2 ^ 0 % 256)++[46]))=Jj m++[46]:=by
  unfold Jj;grind
 have a:(Jj m++[46]).length<=1000:=by rw[<-e];simp;omega
 rw[e];have d:((Jj m++[46]).length:Int)-1=((Jj m).length:Int):=by simp<;>omega
 simp only[vl,d];simp only[ac2,ab2] at a;rw[A4,W7 (by omega) (by omega) (by simp<;>omega),M8,j8,j8];grind
def Cl2{b:By->Option R}(v:Int)(f:ltN v 4294967296=true):Dt7 LF v b=b (Jj v.toNat):=by
 obtain⟨a,g⟩:=E9.1 f;obtain⟨m,rfl⟩:=s8 a;have i:=G6 (m / 16777216) (by omega);have h:=G6 (m / 65536 % 256) (by omega);have l:=G6 (m / 256 % 256) (by omega);have k:=G6 (m % 256) (by omega);have c:Qi .u32 (m:Int) 24=((m / 16777216:Nat):Int):=Um .u32 m 24 (by decide);have d:Qi .u32 (m:Int) 16=((m / 65536:Nat):Int):=Um .u32 m 16 (by decide);have e:Qi .u32 (m:Int) 8=((m / 256:Nat):Int):=Um .u32 m 8 (by decide);have t:∀x:Nat,aa4 (x:Int) 256=((x % 256:Nat):Int):=λx=>Dy x 256
 have w:∀x:Nat,x<4294967296->A1 (x:Int)=(x:Int):=λx j=>A4
 unfold Dt7;simp only[vl,c,d,e,t];rw[w _ (by omega),w _ (by omega),w _ (by omega),w _ (by omega)];simp only[j8];rw[O0,O0,O0,O0];simp only[aa];rw[I1 (by omega),I1 (by simp<;>omega),I1 (by simp<;>omega),I1 (by simp<;>omega),I1 (by simp<;>omega),I1 (by simp<;>omega)];simp only[aa,Jj,j8];grind
def Ab8{g:Unit->Option R}{h:By->Option R}(s:By)(q:s.length<=1000000000):∀(r i n v:Nat),i+r=s.length->r<n->Ci LF n s (i:Int) g h=if (G4 10 v (s.drop i)).isSome then h s else g ():=by
 intro r
 induction r with
 | zero=>
  intro i n v k l;rcases n with _|n;omega
  rw[Ci];rw[A5,o5 (by omega)];rfl
 | succ r o=>
  intro i n v k l;rcases n with _|n;omega
  rw[Ci,E6 s i (by omega)];rw[E1];have j:=(s.getD i 0).toNat_lt;generalize s.getD i 0=b at *;have f:((i:Int)+1)=((i+1:Nat):Int):=by omega
  simp (disch:=omega) only[C5,G9,aa,E0];simp only[G4];rw[f,o (i+1) n (min (v*10+dig b) Ec) (by omega) (by omega)];rcases Ek b with⟨a,d,e⟩|⟨a,d,e⟩|⟨a,d,e⟩|⟨a,d,p,e⟩
  ·simp only[ac (show dig b<10 by omega)];rw[A5,A5];rfl
  ·simp only[ae (show ¬dig b<10 by omega)];rw[A5,A7];rfl
  ·simp only[ae (show ¬dig b<10 by omega)];rw[A5,A7];rfl
  ·simp only[ae (show ¬dig b<10 by omega)];by_cases c:b.toNat<48
   ·rw[A7];rfl
   ·rw[A5,A7];rfl
def Ab9{a:Bool->Option R}(s:By)(b:A2 s.length=true):HE LF s a=a (!s.isEmpty&&(G4 10 0 s).isSome):=by
 have c:=L4 b;have:=C9;unfold HE;refine o7 (Ab8 s c s.length 0 LF 0 (by omega) (by omega)) ?_;rw[v8];cases d:G4 10 0 s with
 | none=>simp
 | some v=>cases s<;>rfl
def Ci1{g:Int->Option R}(b:Int)(h:inR b 256=true):Dr5 LF b g=g (dig (u8n b):Int):=by
 simp only[inR,x6,af] at h;have j:b=((u8n b).toNat:Int):=by
  unfold u8n;simp;omega
 generalize u8n b=c at *;subst j;have i:=c.toNat_lt;unfold Dr5;simp only[Ab7,Ab6,vl];rcases Ek c with⟨d,f,e⟩|⟨d,f,e⟩|⟨d,f,e⟩|⟨d,f,o,e⟩
 ·have a:A1 (wu8 ((c.toNat:Int)-48))=((dig c:Nat):Int):=by
   rw[O4,A4];omega
  simp (disch:=omega) only[C5,D8,j9,k9,ab,aa,a]
 ·have a:A1 (A1 (wu8 ((c.toNat:Int)-97))+10)=((dig c:Nat):Int):=by
   rw[O4,E0 (n:=(c.toNat:Int)-97) (by omega) (by omega),A4];omega
  simp (disch:=omega) only[C5,D8,j9,k9,ab,aa,a]
 ·have a:A1 (A1 (wu8 ((c.toNat:Int)-65))+10)=((dig c:Nat):Int):=by
   rw[O4,E0 (n:=(c.toNat:Int)-65) (by omega) (by omega),A4];omega
  simp (disch:=omega) only[C5,D8,j9,k9,ab,aa,a]
 ·rw[e];by_cases k:c.toNat<48
  ·simp (disch:=omega) only[C5,D8,j9,k9,ab,aa];rfl
  ·by_cases l:c.toNat<65
   ·simp (disch:=omega) only[C5,D8,j9,k9,ab,aa];rfl
   ·by_cases m:c.toNat<97
    ·simp (disch:=omega) only[C5,D8,j9,k9,ab,aa];rfl
    ·simp (disch:=omega) only[C5,D8,j9,k9,ab,aa];rfl
def Aw2{g:Unit->Option R}{h:Int->Option R}(s:By)(p:s.length<=1000000000):∀(r i a n:Nat),i+r=s.length->r<n->a<=Ec->
  Jx LF n s (a:Int) (i:Int) g h=match G4 16 a (s.drop i) with|some v=>h (v:Int)|none=>g ():=by
 intro r
 induction r with
 | zero=>
  intro i a n k l j;rcases n with _|n;omega
  rw[Jx];rw[A5,o5 (by omega)];rfl
 | succ r o=>
  intro i a n k l j;rcases n with _|n;omega
  rw[Jx,E6 s i (by omega)];rw[E1,Kf,Ag4];generalize s.getD i 0=b at *;have c:((i:Int)+1)=((i+1:Nat):Int):=by omega
  have f:Ec=1099511627776:=rfl;simp (disch:=omega) only[C5,G9,aa,vl,E0];simp only[G4];rw[c];by_cases e:dig b<16
  ·have d:A1 (A1 ((a:Int)*16)+(dig b:Int))=((a*16+dig b:Nat):Int):=by
    rw[E0 (n:=(a:Int)*16) (by omega) (by omega),A4];simp
   rw[ac e,A7];simp (disch:=omega) only[E0,j9,ab] at d ⊢;rw[d,C82];exact o (i+1) _ n (by omega) (by omega) (by omega)
  ·rw[ae e,A5];rfl
def Bl3{f:Unit->Option R}{g:Int->Option R}(s:By)(t:s.length<=1000000000)(base:Nat)(q:base<=16):∀(r i a n:Nat),i+r=s.length->r<n->a<=Ec->
  Hg LF n s (base:Int) (a:Int) (i:Int) f g=match G4 base a (s.drop i) with|some v=>g (v:Int)|none=>f ():=by
 intro r
 induction r with
 | zero=>
  intro i a n k l j;rcases n with _|n;omega
  rw[Hg];rw[A5,o5 (by omega)];rfl
 | succ r o=>
  intro i a n k l j;rcases n with _|n;omega
  rw[Hg,E6 s i (by omega)];rw[E1,Kf,Ag4];generalize s.getD i 0=b at *;have c:((i:Int)+1)=((i+1:Nat):Int):=by omega
  have e:Ec=1099511627776:=rfl;simp only[G4,vl];rw[A7,G2,c,E0 (n:=((i+1:Nat):Int)) (by omega) (by omega)];simp only[aa];by_cases d:dig b<base
  ·have p:a*base<=1099511627776*16:=aj1 (by omega) (by omega);have e0:A1 ((a:Int)*(base:Int))=((a*base:Nat):Int):=by
    rw[<-ai7];exact A4
   have h:A1 (((a*base:Nat):Int)+(dig b:Int))=((a*base+dig b:Nat):Int):=by
    rw[A4];rfl
   rw[ac d,A7,e0,h,C82];exact o (i+1) _ n (by omega) (by omega) (by omega)
  ·rw[ae d,A5];rfl
def Cj4{a:Int->Bool->Option R}(s:By)(p:A2 s.length=true):C64 LF s a=a (O9 (Bo s):Int) (Bo s).isSome:=by
 have u:=L4 p;have:=C9;have o:∀x:By,x.length<=1000000000->Jx LF LF x 0 0 (λ_=>a 0 false) (λn=>a n true)=a (O9 (G4 16 0 x):Int) (G4 16 0 x).isSome:=by
  intro x f;refine o7 (Aw2 x f x.length 0 0 LF (by omega) (by omega) (by unfold Ec;omega)) ?_;rw[v8];cases G4 16 0 x<;>rfl
 have c:∀(x:By) (b:Nat),b<=16->x.length<=1000000000->Hg LF LF x (b:Int) 0 0 (λ_=>a 0 false) (λn=>a n true)=a (O9 (G4 b 0 x):Int) (G4 b 0 x).isSome:=by
  intro x b q f;refine o7 (Bl3 x f b q x.length 0 0 LF (by omega) (by omega) (by unfold Ec;omega)) ?_;rw[v8];cases G4 b 0 x<;>rfl
 have d:=λx=>c x 10 (by omega)
 have g:=λx=>c x 8 (by omega)
 have i:=λx=>c x 16 (by omega)
 rw[show((10:Nat):Int)=10 from rfl] at d;rw[show((8:Nat):Int)=8 from rfl] at g;rw[show((16:Nat):Int)=16 from rfl] at i;unfold C64 Bo;by_cases e:s=[]
 ·subst e;rfl
 have j:(s==([]:By))=false:=by simpa using e
 have t:0<s.length:=ab8.2 e;rw[ae e,j];simp only[ab,HK,HL,Ug,Uh,Ui,vl];have k:=T7 (s.getD 0 0) 48 (by omega);have l:=T7 (s.getD 1 0) 120 (by omega);have m:=T7 (s.getD 1 0) 88 (by omega);rw[show((48:Nat):Int)=48 from rfl] at k;rw[show((120:Nat):Int)=120 from rfl] at l;rw[show((88:Nat):Int)=88 from rfl] at m;simp only[Bk,Bx1,k,l,m,show aa1 48=(48:UInt8) from rfl,show aa1 120=(120:UInt8) from rfl,show aa1 88=(88:UInt8) from rfl];by_cases r:2<=s.length
 ·simp (disch:=omega) only[D8,G9,W7,k9,aa,R7,show 1<s.length by omega,true_and];unfold Dj;grind
 ·rw[A7];have f:Dj s=false:=by
   cases h:Dj s with
   | false=>rfl
   | true=>have:=Tk h;omega
  grind
def Ed9(a b:Nat)(c:a<65536)(d:b<65536):bOr .u16 (a:Int) (b:Int)=((a ||| b:Nat):Int):=by
 unfold bOr;rw[show ab6 .u16=16 from rfl,D48 16 a b (by omega) (by omega)];have:a ||| b<2 ^ 16:=af1 (by omega) (by omega)
 exact Ld
def Ef7(a m:Nat)(h:a*2 ^ m<65536)(b:m<=16):Uu .u16 (a:Int) (m:Int)=((a*2 ^ m:Nat):Int):=by
 unfold Uu;rw[j8,show ab6 .u16=16 from rfl,ae2 b];have:(a:Int)*2 ^ m=((a*2 ^ m:Nat):Int):=by simp
 rw[this];exact Ld
def Bq8(v d:Nat)(b:v<4096)(a:d<16):bOr .u16 (Uu .u16 (v:Int) 4) (d:Int)=((v*16+d:Nat):Int):=by have:=Ef7 v 4 (by omega) (by omega);rw[show((4:Nat):Int)=4 from rfl] at this;rw[this,Ed9 _ _ (by omega) (by omega),HC v d 4 (by omega)]
def Cz6{c:Unit->Option R}{f:Int->Option R}(s:By)(B:s.length<=4):∀(r i v n:Nat),i+r=s.length->r<n->v<16 ^ i->
  Gs LF n s (v:Int) (s.length:Int) (i:Int) c f=match Ik v (s.drop i) with|some w=>f (w:Int)|none=>c ():=by
 intro r
 induction r with
 | zero=>
  intro i v n l o p;rcases n with _|n;omega
  rw[Gs];rw[A5,o5 (by omega)];rfl
 | succ r q=>
  intro i v n l o p;rcases n with _|n;omega
  rw[Gs,E6 s i (by omega)];rw[E1];have k:=(s.getD i 0).toNat_lt;generalize s.getD i 0=b at *;have j:((i:Int)+1)=((i+1:Nat):Int):=by omega
  have A:16 ^ i<=4096:=by
   have:i=0\/i=1\/i=2\/i=3:=by omega
   rcases this with rfl|rfl|rfl|rfl<;>decide
  simp (disch:=omega) only[C5,G9,aa,vl,E0,YT,YS,YR];rw[j];simp only[Ik];have go:∀d:Nat,d<16->Gs LF n s ((v*16+d:Nat):Int) (s.length:Int) ((i+1:Nat):Int) c f=match Ik (v*16+d) (s.drop (i+1)) with|some w=>f (w:Int)|none=>c ():=
   λd z=>q (i+1) _ n (by omega) (by omega) (by rw[y5];omega)
  rcases Ek b with⟨g,h,e⟩|⟨g,h,e⟩|⟨g,h,e⟩|⟨g,h,y,e⟩
  ·have a:Fg (wu8 ((b.toNat:Int)-48))=((dig b:Nat):Int):=by rw[O4,Ld];omega
   simp (disch:=omega) only[C5,D8,j9,k9,ab,aa,a,Bq8,ac (show dig b<16 by omega)];exact go _ (by omega)
  ·have a:Fg (wu8 (wu8 ((b.toNat:Int)-97)+10))=((dig b:Nat):Int):=by rw[Ag9 (n:=(b.toNat:Int)-97) (by omega) (by omega),O4,Ld];omega
   simp (disch:=omega) only[C5,D8,j9,k9,ab,aa,a,Bq8,ac (show dig b<16 by omega)];exact go _ (by omega)
  ·have a:Fg (wu8 (wu8 ((b.toNat:Int)-65)+10))=((dig b:Nat):Int):=by rw[Ag9 (n:=(b.toNat:Int)-65) (by omega) (by omega),O4,Ld];omega
   simp (disch:=omega) only[C5,D8,j9,k9,ab,aa,a,Bq8,ac (show dig b<16 by omega)];exact go _ (by omega)
  ·rw[ae (show ¬dig b<16 by omega)];by_cases t:b.toNat<48
   ·simp (disch:=omega) only[C5,D8,j9,k9,ab,aa]
   ·by_cases u:b.toNat<65
    ·simp (disch:=omega) only[C5,D8,j9,k9,ab,aa]
    ·by_cases x:b.toNat<97
     ·simp (disch:=omega) only[C5,D8,j9,k9,ab,aa]
     ·simp (disch:=omega) only[C5,D8,j9,k9,ab,aa]
def Cb7{c:Int->Bool->Option R}(s:By)(d:A2 s.length=true):Dk6 LF s c=c (O9 (grp s):Int) (grp s).isSome:=by
 have:=C9;unfold Dk6 grp;by_cases a:s=[]
 ·subst a;rfl
 ·rw[show(s==([]:By))=false from beq_eq_false_iff_ne.2 a];by_cases b:4<s.length
  ·rw[A7,ac (.inr b)];rfl
  ·rw[A5,ae (by intro h;rcases h with h|h;exact a h;exact b h)];refine o7 (Cz6 s (by omega) s.length 0 0 LF (by omega) (by omega) (by decide)) ?_;rw[v8];cases Ik 0 s<;>rfl
def Aq2:∀(s:By) (v w m:Nat),v<16 ^ m->Ik v s=some w->w<16 ^ (m+s.length)
 | [],v,w,m,a,h=>by simp only[Ik,p5] at h;subst h;simpa using a
 | b::r,v,w,m,a,h=>by
  simp only[Ik] at h;split at h
  ·have:=Aq2 r (v*16+dig b) w (m+1) (by rw[y5];omega) h;grind
  ·cases h
def Cz7{s:By}{v:Nat}(h:grp s=some v):v<65536:=by
 unfold grp at h;split at h
 ·cases h
 ·rename_i a;have:=Aq2 s 0 v 0 (by decide) h;have b:s.length<=4:=by omega
  have:16 ^ (0+s.length)<=16 ^ 4:=Nat.pow_le_pow_right (by omega) (by omega);omega
def Ci5{c:Unit->Option R}{f:Int->Option R}(s:By)(B:s.length<=4):∀(r i v n:Nat),i+r=s.length->r<n->v<16 ^ i->
  He LF n s (v:Int) (i:Int) c f=match Ik v (s.drop i) with|some w=>f (w:Int)|none=>c ():=by
 intro r
 induction r with
 | zero=>
  intro i v n l o p;rcases n with _|n;omega
  rw[He];rw[A5,o5 (by omega)];rfl
 | succ r q=>
  intro i v n l o p;rcases n with _|n;omega
  rw[He,E6 s i (by omega)];rw[E1];have k:=(s.getD i 0).toNat_lt;generalize s.getD i 0=b at *;have j:((i:Int)+1)=((i+1:Nat):Int):=by omega
  have A:16 ^ i<=4096:=by
   have:i=0\/i=1\/i=2\/i=3:=by omega
   rcases this with rfl|rfl|rfl|rfl<;>decide
  simp (disch:=omega) only[C5,G9,aa,vl,E0,Ac6,Ac5,Ac4];rw[j];simp only[Ik];have go:∀d:Nat,d<16->He LF n s ((v*16+d:Nat):Int) ((i+1:Nat):Int) c f=match Ik (v*16+d) (s.drop (i+1)) with|some w=>f (w:Int)|none=>c ():=
   λd z=>q (i+1) _ n (by omega) (by omega) (by rw[y5];omega)
  rcases Ek b with⟨g,h,e⟩|⟨g,h,e⟩|⟨g,h,e⟩|⟨g,h,y,e⟩
  ·have a:wu8 ((b.toNat:Int)-48)=(b.toNat:Int)-48:=O4;simp (disch:=omega) only[C5,D8,j9,k9,ab,aa,a,E0,ac (show dig b<16 by omega)];rw[show(v:Int)*16+((b.toNat:Int)-48)=((v*16+dig b:Nat):Int) by omega];exact go _ (by omega)
  ·have a:wu8 ((b.toNat:Int)-97)=(b.toNat:Int)-97:=O4;simp (disch:=omega) only[C5,D8,j9,k9,ab,aa,a,E0,ac (show dig b<16 by omega)];rw[show(v:Int)*16+((b.toNat:Int)-97)+10=((v*16+dig b:Nat):Int) by omega];exact go _ (by omega)
  ·have a:wu8 ((b.toNat:Int)-65)=(b.toNat:Int)-65:=O4;simp (disch:=omega) only[C5,D8,j9,k9,ab,aa,a,E0,ac (show dig b<16 by omega)];rw[show(v:Int)*16+((b.toNat:Int)-65)+10=((v*16+dig b:Nat):Int) by omega];exact go _ (by omega)
  ·rw[ae (show ¬dig b<16 by omega)];by_cases t:b.toNat<48
   ·simp (disch:=omega) only[C5,D8,j9,k9,ab,aa]
   ·by_cases u:b.toNat<65
    ·simp (disch:=omega) only[C5,D8,j9,k9,ab,aa]
    ·by_cases x:b.toNat<97
     ·simp (disch:=omega) only[C5,D8,j9,k9,ab,aa]
     ·simp (disch:=omega) only[C5,D8,j9,k9,ab,aa]
def Ci6{b:Int->Bool->Option R}(s:By)(f:A2 s.length=true):Ds2 LF s b=b (O9 (grp s):Int) (grp s).isSome:=by
 have:=C9;unfold Ds2;by_cases a:s=[]
 ·subst a;rfl
 ·have g:0<s.length:=ab8.2 a;rw[A5];by_cases c:4<s.length
  ·rw[A7];unfold grp;rw[ac (.inr c)];rfl
  ·rw[A5];refine o7 (Ci5 s (by omega) s.length 0 0 LF (by omega) (by omega) (by decide)) ?_;have e:grp s=Ik 0 s:=by
    unfold grp;grind
   rw[v8,<-e];cases d:grp s with
   | none=>rfl
   | some w=>
    have:=Cz7 d;simp only[O9,p6,p9];rw[Ld]
def J7(l:List Nat):(E7 l).length=l.length:=by simp[E7]
def Nf(a b:List Nat):E7 (a++b)=E7 a++E7 b:=by simp[E7]
def AE(l:List Nat):(E7 l).isEmpty=l.isEmpty:=by cases l<;>rfl
def Ok{l:List Nat}{i:Nat}(h:i<l.length):okE ⟨true,false,[.int .u16]⟩ (E7 l) i 0=true:=by unfold okE E7;simp[o6,h,okS,SV.has]
def Wf(l:List Nat)(i:Nat):gE (E7 l) i 0=(l.getD i 0:Int):=by
 unfold gE gC E7;by_cases h:i<l.length
 ·simp[o6,p4 h,SV.gI]
 ·simp[o6,ab1 (show l.length<=i by omega),SV.gI]
def Me:∀(last:Bool) (l:List By) (r:List Nat),Fv last l=some r->r.length<=2*l.length
 | last,[],r,h=>by simp only[Fv,p5] at h;subst h;simp
 | last,x::l,r,h=>by
  simp only[Fv] at h;split at h
  ·cases a:Fv last l with
   | none=>simp[a] at h
   | some q=>
    simp only[a,ac1,p5] at h;subst h;have:=Me last l q a;grind
  grind
def Bs3{s:By}{v:Nat}(h:v4B s=some v):v<4294967296:=by
 unfold v4B at h;split at h
 ·rename_i a;have:=B44 (pcs 46 s) 0 v 0 (by decide) h;grind
 ·cases h
def B21:∀(last:Bool) (l:List By) (r:List Nat),Fv last l=some r->∀x∈r,x<65536
 | last,[],r,h,x,a=>by simp only[Fv,p5] at h;subst h;simp at a
 | last,y::l,r,h,x,a=>by
  simp only[Fv] at h;split at h
  ·rename_i v c;cases b:Fv last l with
   | none=>simp[b] at h
   | some q=>
    simp only[b,ac1,p5] at h;subst h;rcases aa0.1 a with rfl|a
    ·exact Cz7 c
    ·exact B21 last l q b x a
  ·split at h
   ·rename_i v c;split at h
    ·simp only[p5] at h;subst h;have:=Bs3 c;grind
    grind
   ·cases h
def Ba8{k0:LL->Option R}{k1:LL->Option R}(last:Bool)(l:List By)(C:l.length<=1000000001)(w:∀x∈l,x.length<=1000000000):∀(r i n:Nat) (d:List Nat),i+r=l.length->r<n->d.length<=2*i->
  (∀q,Fv last (l.drop i)=some q->Fw LF n last (A9 l) (l.length:Int) (i:Int) (E7 d) k0 k1=k1 (E7 (d++q)))/\
  (Fv last (l.drop i)=none->∃k,Fw LF n last (A9 l) (l.length:Int) (i:Int) (E7 d) k0 k1=k0 k):=by
 intro r
 induction r with
 | zero=>
  intro i n d u y t;rcases n with _|n;omega
  rw[Fw,o5 (by omega)];rw[A5];refine⟨λq a=>?_,λh=>(by cases h)⟩;simp only[Fv,p5] at a;subst a;simp
 | succ r B=>
  intro i n d u y t;rcases n with _|n;omega
  rw[Fw,Kw l i (by omega)];have G:=w _ (TE (show i<l.length by omega));have f:((i:Int)+1)=((i+1:Nat):Int):=by omega
  simp (disch:=omega) only[C5,A8,G9,aa,j8,K5,L9,D5,vl,J7,E8,E0];rw[f];simp only[Fv];cases D:grp (l.getD i []) with
  | some v=>
   simp only[p9,aa,O9,p6];have c:E7 d++[[SV.int .u16 (v:Int)]]=E7 (d++[v]):=by rw[Nf];rfl
   rw[c];have:=B (i+1) n (d++[v]) (by omega) (by omega) (by simp<;>omega);refine⟨λq a=>?_,λh=>?_⟩
   ·cases b:Fv last (l.drop (i+1)) with
    | none=>simp[b] at a
    | some j=>
     simp only[b,ac1,p5] at a;subst a;rw[this.1 j b];simp
   ·cases b:Fv last (l.drop (i+1)) with
    | none=>exact this.2 b
    | some j=>simp[b] at h
  | none=>
   simp only[ac3,ab];cases z:v4B (l.getD i []) with
   | none=>
    simp only[ac3,k9,aa];exact⟨λq a=>(by cases a),λ_=>⟨_,rfl⟩⟩
   | some v=>
    have A:=Bs3 z;simp only[p9,j9,ab,O9,p6];cases last with
    | false=>
     simp only[k9,aa,w8,false_and,if_false];exact⟨λq a=>(by cases a),λ_=>⟨_,rfl⟩⟩
    | true=>
     simp only[j9,ab,true_and];by_cases F:r=0
     ·have e:l.drop (i+1)=[]:=o5 (by omega);rw[A5,e,ac rfl,show(16:Int)=((16:Nat):Int) from rfl,Um .u32 v 16 (by decide)];refine⟨λq a=>?_,λh=>(by cases h)⟩;simp only[p5] at a;subst a;have o:Fg ((v / 2 ^ 16:Nat):Int)=((v / 65536:Nat):Int):=Ld;have p:Fg (v:Int)=((v % 65536:Nat):Int):=A40 v;rw[o,p,Nf];rfl
     ·have g:l.drop (i+1)≠[]:=by
       rw[Kw l (i+1) (by omega)];simp
      rw[A7,ae g];exact⟨λq a=>(by cases a),λ_=>⟨_,rfl⟩⟩
def Ax(c:UInt8){s:By}(a:s.length<=1000000000):(pcs c s).length<=1000000001:=by have:=Dp c s;grind
def Ba9(s:By)(last:Bool)(f:A2 s.length=true):∃r H,B22 LF s last (λl=>rv (.tup [.fl 0,.s (.bool true)]) [.arr true 37 1 l]) (λl=>rv (.tup [.fl 1,.s (.bool false)]) [.arr true 37 1 l,.arr true 37 1 []])=rv r H/\
  r.stab [1,0] H = .tup [.s (.sl (gvs s last).isEmpty (gvs s last).isEmpty 1 (E7 (gvs s last))),.s (.bool (S9 s last).isSome)]:=by
 have d:=L4 f;have:=C9;unfold B22 gvs S9;by_cases c:s=[]
 ·subst c;exact⟨_,_,rfl,rfl⟩
 ·rw[show(s==([]:By))=false from beq_eq_false_iff_ne.2 c,f,ae c];simp only[ab,aa,vl,y9,A8,show((1:Nat)==1)=true from rfl];obtain⟨a,b⟩:=Ba8 (k0:=λl=>rv (.tup [.fl 1,.s (.bool false)]) [.arr true 37 1 l,.arr true 37 1 []]) (k1:=λl=>rv (.tup [.fl 0,.s (.bool true)]) [.arr true 37 1 l]) last (pcs 58 s) (Ax 58 d) (λx h=>ad0 (Ad h).2 d) (pcs 58 s).length 0 LF [] (by omega) (by have:=Ax 58 d;omega) (by simp);rw[v8] at a b;cases g:Fv last (pcs 58 s) with
  | some q=>
   refine⟨_,_,a q g,?_⟩;simp[PV.stab,Nv,Md,PV.snap,Q3,AE]
  | none=>
   obtain⟨i,e⟩:=b g;refine⟨_,_,e,?_⟩;simp[PV.stab,Nv,Md,PV.snap,Q3,E7]
def LV:∀(s:By) (v:Nat) (b:UInt8),b∈s->16<=dig b->Ik v s=none
 | c::r,v,b,h,a=>by
  simp only[Ik];rcases aa0.1 h with rfl|h
  ·grind
  ·split
   ·exact LV r _ b h a
   ·rfl
def Bs4{s:By}{v:Nat}(h:v4B s=some v):grp s=none:=by
 unfold v4B at h;split at h
 ·rename_i a;have b:(46:UInt8)∈s:=by
   apply ab7;intro c;rw[Rp c] at a;simp at a
  unfold grp;split
  ·rfl
  ·exact LV s 0 46 b (by decide)
 ·cases h
def Bi9{k0:LL->Option R}{k1:LL->Option R}(last:Bool)(l:List By)(I:l.length<=1000000001)(D:∀x∈l,x.length<=1000000000):∀(r i n:Nat) (d:List Nat),i+r=l.length->r<n->d.length<=2*i->
  (∀q,Fv last (l.drop i)=some q->T6 LF n last (A9 l) (i:Int) (E7 d) k0 k1=k1 (E7 (d++q)))/\
  (Fv last (l.drop i)=none->∃k,T6 LF n last (A9 l) (i:Int) (E7 d) k0 k1=k0 k):=by
 intro r
 induction r with
 | zero=>
  intro i n d C F B;rcases n with _|n;omega
  rw[T6,o5 (by omega)];rw[A8,A5];refine⟨λq a=>?_,λh=>(by cases h)⟩;simp only[Fv,p5] at a;subst a;simp
 | succ r y=>
  intro i n d C F B;rcases n with _|n;omega
  rw[T6,Kw l i (by omega)];have L:=D _ (TE (show i<l.length by omega));have t:((i:Int)+1)=((i+1:Nat):Int):=by omega
  have w:A1 ((l.length:Int)-1)=((l.length-1:Nat):Int):=by rw[A4];omega
  simp (disch:=omega) only[C5,A8,G9,aa,j8,K5,L9,D5,vl,Zd,Ze,J7,E8,E0,ab];rw[t];simp only[Fv];have e:∀(f:v4B (l.getD i [])=none\/(last=false\/l.drop (i+1)≠[])),
    (∀q,(match grp (l.getD i []) with|some v=>(Fv last (l.drop (i+1))).map (v::·)|none=>match v4B (l.getD i []) with|some v=>if last=true/\l.drop (i+1)=[] then some [v / 65536,v % 65536] else none|none=>none)=some q->
     (cond (!(grp (l.getD i [])).isSome) (k0 (E7 d)) (T6 LF n last (A9 l) ((i+1:Nat):Int) (E7 d++[[SV.int .u16 (O9 (grp (l.getD i [])):Int)]]) k0 k1))=k1 (E7 (d++q)))/\
    ((match grp (l.getD i []) with|some v=>(Fv last (l.drop (i+1))).map (v::·)|none=>match v4B (l.getD i []) with|some v=>if last=true/\l.drop (i+1)=[] then some [v / 65536,v % 65536] else none|none=>none)=none->
     ∃k,(cond (!(grp (l.getD i [])).isSome) (k0 (E7 d)) (T6 LF n last (A9 l) ((i+1:Nat):Int) (E7 d++[[SV.int .u16 (O9 (grp (l.getD i [])):Int)]]) k0 k1))=k0 k):=by
   intro f;cases J:grp (l.getD i []) with
   | some v=>
    simp only[p9,j9,ab,O9,p6];have c:E7 d++[[SV.int .u16 (v:Int)]]=E7 (d++[v]):=by rw[Nf];rfl
    rw[c];have:=y (i+1) n (d++[v]) (by omega) (by omega) (by simp<;>omega);refine⟨λq a=>?_,λh=>?_⟩
    ·cases b:Fv last (l.drop (i+1)) with
     | none=>simp[b] at a
     | some z=>
      simp only[b,ac1,p5] at a;subst a;rw[this.1 z b];simp
    ·cases b:Fv last (l.drop (i+1)) with
     | none=>exact this.2 b
     | some z=>simp[b] at h
   | none=>
    simp only[ac3,k9,aa];refine⟨λq a=>?_,λ_=>⟨_,rfl⟩⟩;exfalso;cases g:v4B (l.getD i []) with
    | none=>rw[g] at a;cases a
    | some v=>
     rw[g] at a;rcases f with h|h|h
     ·rw[g] at h;cases h
     ·simp only[h,w8,false_and,if_false] at a;cases a
     ·simp only[ae (λhc:last=true/\l.drop (i+1)=[]=>h hc.2)] at a;cases a
  cases f:v4B (l.getD i []) with
  | none=>
   simp only[ac3,ab];have:=e (.inl f);simp only[f] at this;exact this
  | some v=>
   have H:=Bs3 f;have p:=Bs4 f;simp only[p9,aa,O9,p6];cases last with
   | false=>
    simp only[ab];have:=e (.inr (.inl rfl));simp only[f,O9] at this;exact this
   | true=>
    simp only[aa];by_cases K:r=0
    ·have j:l.drop (i+1)=[]:=o5 (by omega);have o:((i:Int)==(l.length:Int)-1)=true:=by rw[beq_iff_eq];omega
     rw[o,p,j];simp only[aa,and_self,if_true,p5];refine⟨λq a=>?_,λh=>(by cases h)⟩;subst a;rw[show(16:Int)=((16:Nat):Int) from rfl,Um .u32 v 16 (by decide)];have w:Fg ((v / 2 ^ 16:Nat):Int)=((v / 65536:Nat):Int):=Ld;have A:Fg (v:Int)=((v % 65536:Nat):Int):=A40 v;rw[w,A];have c:E7 d++[[SV.int .u16 ((v / 65536:Nat):Int)],[SV.int .u16 ((v % 65536:Nat):Int)]]=E7 (d++[v / 65536,v % 65536]):=by rw[Nf];rfl
     rw[c];have G:0<n:=by omega
     exact(y (i+1) n (d++[v / 65536,v % 65536]) (by omega) (by omega) (by simp<;>omega)).1 [] (by rw[j];rfl) |>.trans (by simp)
    ·have u:l.drop (i+1)≠[]:=by
      rw[Kw l (i+1) (by omega)];simp
     have o:((i:Int)==(l.length:Int)-1)=false:=by rw[beq_eq_false_iff_ne];omega
     rw[o];simp only[ab];have:=e (.inr (.inr u));simp only[f,O9] at this;exact this
def Bj0(s:By)(last:Bool)(f:A2 s.length=true):∃r H,B51 LF s last (λl=>rv (.tup [.fl 0,.s (.bool true)]) [.arr true 37 1 l]) (λl=>rv (.tup [.fl 1,.s (.bool false)]) [.arr true 37 1 l,.arr true 37 1 []])=rv r H/\
  r.stab [1,0] H = .tup [.s (.sl (gvs s last).isEmpty (gvs s last).isEmpty 1 (E7 (gvs s last))),.s (.bool (S9 s last).isSome)]:=by
 have d:=L4 f;have:=C9;unfold B51 gvs S9;by_cases c:s=[]
 ·subst c;exact⟨_,_,rfl,rfl⟩
 ·rw[show(s==([]:By))=false from beq_eq_false_iff_ne.2 c,f,ae c];simp only[ab,aa,vl,show u8n 58=58 from rfl];obtain⟨a,b⟩:=Bi9 (k0:=λl=>rv (.tup [.fl 1,.s (.bool false)]) [.arr true 37 1 l,.arr true 37 1 []]) (k1:=λl=>rv (.tup [.fl 0,.s (.bool true)]) [.arr true 37 1 l]) last (pcs 58 s) (Ax 58 d) (λx h=>ad0 (Ad h).2 d) (pcs 58 s).length 0 LF [] (by omega) (by have:=Ax 58 d;omega) (by simp);rw[v8] at a b;cases g:Fv last (pcs 58 s) with
  | some q=>
   refine⟨_,_,a q g,?_⟩;simp[PV.stab,Nv,Md,PV.snap,Q3,AE]
  | none=>
   obtain⟨i,e⟩:=b g;refine⟨_,_,e,?_⟩;simp[PV.stab,Nv,Md,PV.snap,Q3,E7]
def Dn8{j:Type}{W:List j}(h:W.length=8):∃a b c d e f g i,W=[a,b,c,d,e,f,g,i]:=by
 match W,h with
 | [a,b,c,d,e,f,g,i],_=>exact⟨a,b,c,d,e,f,g,i,rfl⟩
def r8(n:Nat):LL:=j5 n [SV.int .u16 0]
def Bg5(n:Nat):r8 n=E7 (j5 n 0):=by simp[r8,E7]
def LY{s:By}{last:Bool}{q:List Nat}(h:S9 s last=some q):gvs s last=q:=by unfold gvs;rw[h];rfl
def Di8(s:By):(s9 s [58,58]).1.length<=s.length/\(s9 s [58,58]).2.1.length<=s.length:=by unfold s9;grind
def B73{K:LL->LL->Option R}(X Y:List Nat)(h:X.length+Y.length<=8) :
  EF (E7 X) (E7 Y) (r8 8) K=K (E7 (X++j5 (8-X.length-Y.length) 0++Y)) (E7 (X++j5 (8-X.length-Y.length) 0++Y)):=by
 unfold EF;have n:(y7 0 (r8 8)++(y7 8 (E7 X)++ae5 (0+min (E7 X).length 8) (r8 8)))=E7 (X++j5 (8-X.length) 0):=by
  rw[J7,ae2 (show X.length<=8 by omega),v7 (l:=E7 X) (i:=8) (by rw[J7];omega),Nf,ae4,Bg5,aa8,x5];unfold E7;rw[<-ah0,List.drop_replicate]
 have m:A1 (8-(Y.length:Int))=((8-Y.length:Nat):Int):=by rw[A4];omega
 have o:(E7 (X++j5 (8-X.length) 0)).length=8:=by simp[J7]<;>omega
 have j:(y7 (8-Y.length) (E7 (X++j5 (8-X.length) 0))++(y7 (8-(8-Y.length)) (E7 Y)++ae5 (8-Y.length+min Y.length (8-(8-Y.length))) (E7 (X++j5 (8-X.length) 0))))=E7 (X++j5 (8-X.length-Y.length) 0++Y):=by
  rw[o5 (by rw[o];omega),v7 (l:=E7 Y) (by rw[J7];omega),Nf (X++_) Y,ab0]
  congr 1
  unfold E7;rw[<-aj7,List.take_append,v7 (by omega),List.take_replicate];grind
 have k:(X++j5 (8-X.length-Y.length) 0++Y).length=8:=by simp<;>omega
 simp only[vl];rw[n];simp only[J7,m,j8];rw[j];simp only[J7];rw[show(r8 8).length=8 from rfl,show c9 (X++j5 (8-X.length) (0:Nat))=8 by simp<;>omega,K2,decide_eq_true (show 8-Y.length+(8-(8-Y.length))<=8 by omega)];simp only[decide_true,aa,Nat.le_refl,k];generalize (X++j5 (8-X.length-Y.length) 0++Y)=W at *;obtain⟨a,b,c,d,e,f,g,i,rfl⟩:=Dn8 k;rfl
def Dc1{k0:Kbg R}(s:By)(r:A2 s.length=true) :
  ∃l q,v6p LF s k0=k0 (v6c 0 s) (v6c 1 s) (v6c 2 s) (v6c 3 s) (v6c 4 s) (v6c 5 s) (v6c 6 s) (v6c 7 s) (v6B s).isSome l q:=by
 have C:=L4 r;have w:=Di8 s;unfold v6p v6c;rw[r];have bad:∀(h:v6B s=none),k0 0 0 0 0 0 0 0 0 false (r8 8) (r8 8)=k0 ((((v6B s).getD z8).getD 0 0:Nat):Int) ((((v6B s).getD z8).getD 1 0:Nat):Int) ((((v6B s).getD z8).getD 2 0:Nat):Int) ((((v6B s).getD z8).getD 3 0:Nat):Int) ((((v6B s).getD z8).getD 4 0:Nat):Int) ((((v6B s).getD z8).getD 5 0:Nat):Int) ((((v6B s).getD z8).getD 6 0:Nat):Int) ((((v6B s).getD z8).getD 7 0:Nat):Int) (v6B s).isSome (r8 8) (r8 8):=by
  intro h;rw[h];rfl
 simp (disch:=omega) only[aa,vl,D5];have j:v6B s=match S9 (s9 s [58,58]).1 (!(s9 s [58,58]).2.2),S9 (s9 s [58,58]).2.1 true with
  | some x,some y=>if (s9 s [58,58]).2.2 then (if x.length+y.length<=7 then some (x++j5 (8-x.length-y.length) 0++y) else none)
   else if x.length+y.length=8 then some (x++y) else none
  | _,_=>none:=rfl
 generalize (s9 s [58,58]).1=A at *;generalize (s9 s [58,58]).2.1=B at *;generalize (s9 s [58,58]).2.2=o at *;cases k:S9 A (!o) with
 | none=>exact⟨_,_,bad (by rw[j,k])⟩
 | some X=>
  cases m:S9 B true with
  | none=>exact⟨_,_,bad (by rw[j,k,m])⟩
  | some Y=>
   have u:X.length<=2000000002:=by
    unfold S9 at k;split at k
    ·grind
    ·have:=Me _ _ _ k;have:=Ax 58 (s:=A) (by omega);omega
   have v:Y.length<=2000000002:=by
    unfold S9 at m;split at m
    ·grind
    ·have:=Me _ _ _ m;have:=Ax 58 (s:=B) (by omega);omega
   rw[k,m] at j;simp only[LY k,LY m,J7,p9,j9,ab];rw[A4];have n:∀(W:List Nat),W.length=8->v6B s=some W->∃l q,(cond ((decide (8=(E7 W).length*1))&&(okS ⟨true,true,[.int .u16,.int .u16,.int .u16,.int .u16,.int .u16,.int .u16,.int .u16,.int .u16]⟩ (j7 (E7 W)) 0))
     (k0 (SV.gI (j0 (j7 (E7 W)) 0 SV.nilp)) (SV.gI (j0 (j7 (E7 W)) 1 SV.nilp)) (SV.gI (j0 (j7 (E7 W)) 2 SV.nilp)) (SV.gI (j0 (j7 (E7 W)) 3 SV.nilp)) (SV.gI (j0 (j7 (E7 W)) 4 SV.nilp)) (SV.gI (j0 (j7 (E7 W)) 5 SV.nilp)) (SV.gI (j0 (j7 (E7 W)) 6 SV.nilp)) (SV.gI (j0 (j7 (E7 W)) 7 SV.nilp)) true (E7 W) (E7 W)) none) =
     k0 ((((v6B s).getD z8).getD 0 0:Nat):Int) ((((v6B s).getD z8).getD 1 0:Nat):Int) ((((v6B s).getD z8).getD 2 0:Nat):Int) ((((v6B s).getD z8).getD 3 0:Nat):Int) ((((v6B s).getD z8).getD 4 0:Nat):Int) ((((v6B s).getD z8).getD 5 0:Nat):Int) ((((v6B s).getD z8).getD 6 0:Nat):Int) ((((v6B s).getD z8).getD 7 0:Nat):Int) (v6B s).isSome l q:=by
    intro W t h;rw[h];obtain⟨a,b,c,d,e,f,g,i,rfl⟩:=Dn8 t;exact⟨_,_,rfl⟩
   cases o with
   | false=>
    simp only[k9,aa,w8,if_false] at j ⊢;by_cases p:X.length+Y.length=8
    ·rw[ac p] at j;rw[show((X.length:Int)+(Y.length:Int)!=8)=false by simp;omega];simp only[ab];rw[show(j5 8 [SV.int ag3 0])=r8 8 from rfl,B73 X Y (by omega)];have z:8-X.length-Y.length=0:=by omega
     rw[z];simp only[List.replicate_zero,ab0];exact n (X++Y) (by simp<;>omega) j
    ·rw[ae p] at j;rw[show((X.length:Int)+(Y.length:Int)!=8)=true by simp;omega];exact⟨_,_,bad j⟩
   | true=>
    simp only[j9,ab,aa,if_true] at j ⊢;by_cases p:X.length+Y.length<=7
    ·rw[ac p] at j;rw[A5];simp only[ab];rw[show(j5 8 [SV.int ag3 0])=r8 8 from rfl,B73 X Y (by omega)];exact n _ (by simp<;>omega) j
    ·rw[ae p] at j;rw[A7];exact⟨_,_,bad j⟩
def Ae5(P T:List Nat)(t v:Nat):ac9 (E7 (P++t::T)) P.length (I4 (j0 (E7 (P++t::T)) P.length []) 0 [SV.int .u16 (v:Int)])=E7 (P++v::T):=by
 have a:j0 (E7 (P++t::T)) P.length []=[SV.int .u16 (t:Int)]:=by
  simp[E7,o6]
 rw[a];simp only[I4,ah1];simp[E7]
def C96(X T:List Nat)(i:Nat)(h:i<X.length):X.take (i+1)++T=X.take i++X.getD i 0::T:=by rw[ah8,p4 h,o6,p4 h,ab3];rfl
def D78{k0:LL->LL->Option R}(z:Bool)(X:List Nat)(h:X.length=8)(c:LL):∀(r i n:Nat),i+r=8->r<n->Ph LF n z (E7 X) (i:Int) c (E7 (X.take i++j5 r 0)) k0=k0 c (E7 X):=by
 intro r
 induction r with
 | zero=>
  intro i n d f;rcases n with _|n;omega
  rw[Ph];rw[A5,v7 (by omega)];simp
 | succ r g=>
  intro i n d f;rcases n with _|n;omega
  rw[Ph];have a:((i:Int)+1)=((i+1:Nat):Int):=by omega
  have e:(X.take i).length=i:=by rw[x9];omega
  have b:=Ae5 (X.take i) (j5 r 0) 0 (X.getD i 0);rw[e] at b;simp (disch:=first|omega|(simp[J7];omega)) only[C5,J7,G9,aa,j8,Ok,Wf,vl,E0,ae3,b];rw[decide_eq_true (show i<c9 (X.take i++(0:Nat)::j5 r (0:Nat)) by simp<;>omega),a];simp only[aa];have:=g (i+1) n (by omega) (by omega);rw[C96 X _ i (by omega)] at this;exact this
def D79{k0:Bool->LL->LL->LL->Option R}(z:Bool)(X:List Nat)(k:X.length<=8)(e:Bool)(d c:LL):∀(r i n:Nat),i+r=X.length->r<n->Pi LF n z (E7 X) e d (i:Int) c (E7 (X.take i++j5 (8-i) 0)) k0=k0 e d c (E7 (X++j5 (8-X.length) 0)):=by
 intro r
 induction r with
 | zero=>
  intro i n f h;rcases n with _|n;omega
  rw[Pi];rw[J7,A5,v7 (by omega),show i=X.length by omega];rfl
 | succ r j=>
  intro i n f h;rcases n with _|n;omega
  rw[Pi];have a:((i:Int)+1)=((i+1:Nat):Int):=by omega
  have g:(X.take i).length=i:=by rw[x9];omega
  have b:=Ae5 (X.take i) (j5 (7-i) 0) 0 (X.getD i 0);rw[g] at b;rw[show 8-i=7-i+1 by omega,ae3];simp (disch:=first|omega|(simp[J7];omega)) only[C5,J7,G9,aa,j8,Ok,Wf,vl,E0,b];rw[decide_eq_true (show i<c9 (X.take i++(0:Nat)::j5 (7-i) (0:Nat)) by simp<;>omega),a];simp only[aa];have:=j (i+1) n (by omega) (by omega);rw[C96 X _ i (by omega),show 8-(i+1)=7-i by omega] at this;exact this
def D80{k0:LL->LL->Option R}(z:Bool)(Y P:List Nat)(o:P.length+Y.length=8)(e:LL):∀(r i n:Nat) (T:List Nat),i+r=Y.length->r<n->T.length=r->Pj LF n z (E7 Y) (i:Int) e (E7 (P++Y.take i++T)) k0=k0 e (E7 (P++Y)):=by
 intro r
 induction r with
 | zero=>
  intro i n T h k a;rcases n with _|n;omega
  rw[Pj];rw[J7,A5,v7 (by omega),List.length_eq_zero_iff.1 a];simp
 | succ r l=>
  intro i n T h k a;rcases n with _|n;omega
  obtain⟨t,T,rfl⟩:∃t b,T=t::b:=by
   match T,a with
   | t::b,_=>exact⟨t,b,rfl⟩
  rw[Pj];have c:((i:Int)+1)=((i+1:Nat):Int):=by omega
  have j:(P++Y.take i).length=P.length+i:=by simp<;>omega
  have d:=Ae5 (P++Y.take i) T t (Y.getD i 0);rw[j] at d;have f:A1 (8-(Y.length:Int))=(P.length:Int):=by rw[A4];omega
  have g:A1 ((P.length:Int)+(i:Int))=((P.length+i:Nat):Int):=ah
  simp (disch:=first|omega|(simp[J7];omega)) only[C5,J7,G9,aa,j8,Ok,Wf,vl,f,g,E0,d];rw[decide_eq_true (show P.length+i<c9 (P++Y.take i++t::T) by simp<;>omega),c];simp only[aa];have:=l (i+1) n T (by omega) (by omega) (by simpa using a);rw[ab3,C96 Y _ i (by omega),<-ab3] at this;exact this
def Cl7{k0:Kbg R}(s:By)(B:A2 s.length=true) :
  ∃l L,C81 LF s k0=k0 (v6c 0 s) (v6c 1 s) (v6c 2 s) (v6c 3 s) (v6c 4 s) (v6c 5 s) (v6c 6 s) (v6c 7 s) (v6B s).isSome l L:=by
 have M:=L4 B;have F:=C9;unfold C81 v6c;rw[B];have bad:∀(h:v6B s=none),k0 0 0 0 0 0 0 0 0 false (r8 8) (r8 8)=k0 ((((v6B s).getD z8).getD 0 0:Nat):Int) ((((v6B s).getD z8).getD 1 0:Nat):Int) ((((v6B s).getD z8).getD 2 0:Nat):Int) ((((v6B s).getD z8).getD 3 0:Nat):Int) ((((v6B s).getD z8).getD 4 0:Nat):Int) ((((v6B s).getD z8).getD 5 0:Nat):Int) ((((v6B s).getD z8).getD 6 0:Nat):Int) ((((v6B s).getD z8).getD 7 0:Nat):Int) (v6B s).isSome (r8 8) (r8 8):=by
  intro h;rw[h];rfl
 have j:v6B s=match S9 (s9 s [58,58]).1 (!(s9 s [58,58]).2.2),S9 (s9 s [58,58]).2.1 true with
  | some x,some y=>if (s9 s [58,58]).2.2 then (if x.length+y.length<=7 then some (x++j5 (8-x.length-y.length) 0++y) else none)
   else if x.length+y.length=8 then some (x++y) else none
  | _,_=>none:=rfl
 have J:=Lib.index_room s [58,58];have I:=al3 s [58,58];simp only[aa];by_cases C:LH s<0
 ·have n:s9 s [58,58]=(s,[],false):=by
   unfold s9;rw[ae (by unfold LH at C;omega)]
  rw[n] at j;simp only[k9,w8,if_false] at j;rw[C5 C];simp only[aa];cases m:S9 s true with
  | none=>
   rw[m] at j;exact⟨_,_,bad j⟩
  | some X=>
   have o:S9 [] true=some []:=rfl;have A:X.length<=2000000002:=by
    unfold S9 at m;split at m
    ·cases m;simp
    ·have:=Me _ _ _ m;have:=Ax 58 (s:=s) (by omega);omega
   rw[m,o] at j;simp only[ae1,af5,ab0] at j;simp only[p9,j9,ab,LY m,J7];by_cases p:X.length=8
   ·rw[ac p] at j;rw[show((X.length:Int)!=8)=false by simp;omega];simp only[ab];rw[show(j5 8 [SV.int ag3 0])=r8 8 from rfl];have h:=λK=>D78 (R:=R) (k0:=K) X.isEmpty X p (r8 8) 8 0 LF (by omega) (by omega)
    simp only[aa8,x5] at h;rw[<-Bg5] at h;rw[show((0:Nat):Int)=0 from rfl] at h;rw[h];rw[j];clear h j m bad;obtain⟨a,b,c,d,e,f,g,i,rfl⟩:=Dn8 p;exact⟨_,_,rfl⟩
   ·rw[ae p] at j;rw[show((X.length:Int)!=8)=true by simp;omega];exact⟨_,_,bad j⟩
 ·have r:0<=LH s:=by omega
  have q:=J r;obtain⟨k,t⟩:=s8 r;have w:k+2<=s.length:=by
   have:LH s+2<=(s.length:Int):=q;omega
  have n:s9 s [58,58]=(s.take k,s.drop (k+2),true):=by
   unfold s9;have:x3 s [58,58]=(k:Int):=t;rw[W4,this];rfl
  rw[n] at j;simp only[j9,if_true] at j;have D:A1 ((k:Int)+2)=((k+2:Nat):Int):=ah
  rw[t,A5,K2];simp only[ab,aa,vl,D,M8,R7,j8];rw[D5 (by simp<;>omega),K2,D5 (by simp<;>omega)];simp only[aa];cases m:S9 (s.take k) false with
  | none=>
   rw[m] at j;exact⟨_,_,bad j⟩
  | some X=>
   cases o:S9 (s.drop (k+2)) true with
   | none=>
    rw[m,o] at j;exact⟨_,_,bad j⟩
   | some Y=>
    have A:X.length<=2000000002:=by
     unfold S9 at m;split at m
     ·cases m;simp
     ·have:=Me _ _ _ m;have:=Ax 58 (s:=s.take k) (by simp<;>omega);omega
    have H:Y.length<=2000000002:=by
     unfold S9 at o;split at o
     ·cases o;simp
     ·have:=Me _ _ _ o;have:=Ax 58 (s:=s.drop (k+2)) (by simp<;>omega);omega
    rw[m,o] at j;simp only[p9,j9,ab,LY m,LY o,J7];rw[A4];by_cases p:X.length+Y.length<=7
    ·simp only[ac p] at j;rw[A5];simp only[ab];rw[show(j5 8 [SV.int ag3 0])=r8 8 from rfl];have v:=λK=>D79 (R:=R) (k0:=K) X.isEmpty X (by omega) Y.isEmpty (E7 Y) (r8 8) X.length 0 LF (by omega) (by omega)
     simp only[aa8,x5] at v;rw[show(8-0:Nat)=8 from rfl,<-Bg5,show((0:Nat):Int)=0 from rfl] at v;rw[v];have u:X++j5 (8-X.length) 0=(X++j5 (8-X.length-Y.length) 0)++y7 0 Y++j5 Y.length 0:=by
      simp only[aa8,ab0,ab3];rw[List.replicate_append_replicate]
      congr 2
      omega
     have z:=λK=>D80 (R:=R) (k0:=K) Y.isEmpty Y (X++j5 (8-X.length-Y.length) 0) (by simp<;>omega) (r8 8) Y.length 0 LF (j5 Y.length 0) (by omega) (by omega) (by simp)
     rw[<-u,show((0:Nat):Int)=0 from rfl] at z;rw[z];rw[j];have G:c9 (X++j5 (8-X.length-Y.length) 0++Y)=8:=by simp<;>omega
     clear v z u j m o bad;generalize (X++j5 (8-X.length-Y.length) 0++Y)=W at *;obtain⟨a,b,c,d,e,f,g,i,rfl⟩:=Dn8 G;exact⟨_,_,rfl⟩
    ·simp only[ae p] at j;rw[A7];exact⟨_,_,bad j⟩
def Ax7{x:Nat}{r:List Nat}:Rs (x::r)=if x=0 then Rs r+1 else 0:=by unfold Rs;by_cases h:x=0<;>simp[h]
def Ad7(l:List Nat):Rs l<=l.length:=by unfold Rs;exact(List.takeWhile_sublist _).length_le
def Dg7{k0:Kci R}(W:List Nat)(l:W.length=8)(b a:Int)(i:Nat):∀(r j n:Nat),i+j+r=8->r<n->
  Jl LF n b a (i:Int) (j:Int) (E7 W) k0=k0 b a (i:Int) ((j+Rs (W.drop (i+j)):Nat):Int) (E7 W):=by
 intro r
 induction r with
 | zero=>
  intro j n f g;rcases n with _|n;omega
  rw[Jl];rw[A4,A5,o5 (by omega)];rfl
 | succ r k=>
  intro j n f g;rcases n with _|n;omega
  rw[Jl];have c:A1 ((i:Int)+(j:Int))=((i+j:Nat):Int):=ah
  have d:A1 ((j:Int)+1)=((j+1:Nat):Int):=ah
  have e:W.drop (i+j)=W.getD (i+j) 0::W.drop (i+(j+1)):=by
   rw[o6,p4 (by omega),p6,<-aj8,x7]
  simp (disch:=first|omega|(simp[J7];omega)) only[c,d,C5,G9,aa,j8,Ok,Wf,vl];rw[e,Ax7];by_cases h:W.getD (i+j) 0=0
  ·rw[h,ac rfl,show(((0:Nat):Int)==0)=true from rfl,aa,k (j+1) n (by omega) (by omega)]
   congr 2
   omega
  ·rw[ae h,show(((W.getD (i+j) 0:Nat):Int)==0)=false by rw[beq_eq_false_iff_ne];omega];rfl
def Cq4{k0:Int->Int->LL->Option R}(W:List Nat)(f:W.length=8):∀(r i n z m:Nat),i+r=8->r<n->z<=8->m<=8->
  Ge LF n (z:Int) (m:Int) (i:Int) (E7 W) k0=k0 ((zGo (W.drop i) i z m).1:Nat) ((zGo (W.drop i) i z m).2:Nat) (E7 W):=by
 intro r
 induction r with
 | zero=>
  intro i n z m j o c l;rcases n with _|n;omega
  rw[Ge];rw[A5,o5 (by omega)];rfl
 | succ r d=>
  intro i n z m j o c l;rcases n with _|n;omega
  have e:=C9;rw[Ge];have a:=λK=>Dg7 (R:=R) (k0:=K) W f (z:Int) (m:Int) i r.succ 0 LF (by omega) (by omega)
  rw[show((0:Nat):Int)=0 from rfl] at a;simp only[ae4,af5] at a;rw[A7,aa,a];have g:W.drop i=W.getD i 0::W.drop (i+1):=by
   rw[o6,p4 (by omega),p6,x7]
  have k:=Ad7 (W.drop i);rw[aa7] at k;have b:A1 ((i:Int)+1)=((i+1:Nat):Int):=ah
  rw[b];have c:zGo (W.drop i) i z m=if m<Rs (W.drop i) then zGo (W.drop (i+1)) (i+1) i (Rs (W.drop i)) else zGo (W.drop (i+1)) (i+1) z m:=by
   rw[g];rfl
  rw[c];by_cases h:m<Rs (W.drop i)
  ·rw[ac h,A7,aa];exact d (i+1) n i (Rs (W.drop i)) (by omega) (by omega) (by omega) (by omega)
  ·rw[ae h,A5,ab];exact d (i+1) n z m (by omega) (by omega) (by omega) (by omega)
def Tp{a b c d e f g i:Int}(h:ok8 a b c d e f g i=true):∃j k l m n o p q:Nat,a=j/\b=k/\c=l/\d=m/\e=n/\f=o/\g=p/\i=q/\j<65536/\k<65536/\l<65536/\m<65536/\n<65536/\o<65536/\p<65536/\q<65536:=by simp only[ok8,aj6,List.all_nil,ad7,x6,E9] at h;exact⟨a.toNat,b.toNat,c.toNat,d.toNat,e.toNat,f.toNat,g.toNat,i.toNat,by omega,by omega,by omega,by omega,by omega,by omega,by omega,by omega,by omega,by omega,by omega,by omega,by omega,by omega,by omega,by omega⟩
def Bu3{j:Int->Int->LL->Option R}(a b c d e f g i:Int)(t:ok8 a b c d e f g i=true):B90 LF a b c d e f g i j=j ((zGo (n8 a b c d e f g i) 0 0 0).1:Nat) ((zGo (n8 a b c d e f g i) 0 0 0).2:Nat) (E7 (n8 a b c d e f g i)):=by obtain⟨k,l,m,n,o,p,q,r,rfl,rfl,rfl,rfl,rfl,rfl,rfl,rfl,h⟩:=Tp t;have:=C9;unfold B90;exact Cq4 [k,l,m,n,o,p,q,r] rfl 8 0 LF 0 0 rfl (by omega) (by omega) (by omega)
def Il{n:Nat}(h:n<16):V5 n=[Ur n]:=by rw[V5,dif_pos h]
def Hs{n:Nat}(h:¬n<16):V5 n=V5 (n / 16)++[Ur (n % 16)]:=by rw[V5,dif_neg h]
def MA:∀n:Nat,n<65536->1<=(V5 n).length/\(V5 n).length<=4:=by
 intro n d;by_cases a:n<16
 ·rw[Il a];simp
 rw[Hs a];by_cases b:n / 16<16
 ·rw[Il b];simp
 rw[Hs b];by_cases c:n / 16 / 16<16
 ·rw[Il c];simp
 rw[Hs c,Il (show n / 16 / 16 / 16<16 by omega)];simp
def B24(d:Nat)(h:d<16):Ur d≠58:=by
 have:∀d:Fin 16,Ur d.val≠58:=by decide
 exact this ⟨d,h⟩
def Cc1(n:Nat):∃p d,V5 n=p++[d]/\d≠58:=by
 by_cases a:n<16
 ·exact⟨[],_,by rw[Il a];rfl,B24 n a⟩
 ·exact⟨_,_,Hs a,B24 _ (by omega)⟩
def C03(d:Nat)(h:d<16):cut ([48,49,50,51,52,53,54,55,56,57,97,98,99,100,101,102]:By) (d:Int) ((d+1:Nat):Int)=[Ur d]:=by
 have:∀d:Fin 16,(([48,49,50,51,52,53,54,55,56,57,97,98,99,100,101,102]:By).take (d.val+1)).drop d.val=[Ur d.val]:=by decide
 rw[Fj];exact this ⟨d,h⟩
def Bj3{c:By->Option R}:∀(v n:Nat) (s:By),v<65536->v+1<n->s.length+v<=70000->(0<v\/s=[])->
  Bp LF n s (v:Int) c=c (V5 v++s):=by
 intro v
 induction v using ag1 with
 | _ v q=>
  intro n s w r u h;rcases n with _|n;omega
  have l:aa4 (v:Int) 16=((v % 16:Nat):Int):=Dy v 16;have k:aa2 (v:Int) 16=((v / 16:Nat):Int):=O2 v 16;have i:Fg (((v % 16:Nat):Int)+1)=((v % 16+1:Nat):Int):=by rw[Ld];rfl
  have j:Fg ((v / 16:Nat):Int)=((v / 16:Nat):Int):=Ld;have last:∀(m:Nat) (t:By),t≠[]->Bp LF (m+1) t 0 c=c t:=by
   intro m t o;rw[Bp];rw[A5,show(t==([]:By))=false from beq_eq_false_iff_ne.2 o];rfl
  have a:(vl (Fg ((aa4 (v:Int) 16)+1)) λd=>
    cond (J5 (aa4 (v:Int) 16) d 16)
    (vl (cut (([48,49,50,51,52,53,54,55,56,57,97,98,99,100,101,102]:By)) (aa4 (v:Int) 16) d) λe=>
     cond (F7 (c9 e) (c9 s))
     (vl (Fg (aa2 (v:Int) 16)) λg=>Bp LF n (e++s) g c) none) none)=c (V5 v++s):=by
   simp only[vl,l,k,i,j];rw[K2,C03 _ (by omega),I1 (by simp;omega)];simp only[aa];by_cases b:v<16
   ·rw[Il b,ai2 b,show v / 16=0 by omega];rcases n with _|n;omega
    exact last n _ (by simp)
   ·rw[q (v / 16) (by omega) n _ (by omega) (by omega) (by simp;omega) (.inl (by omega)),Hs b];simp
  rw[Bp];by_cases p:0<v
  ·rw[A7,aa];exact a
  ·have f:s=[]:=by rcases h with h|h;omega;exact h
   rw[A5,ab,show(s==([]:By))=true by simpa using f,aa];exact a
def Bj4{b:By->Option R}(v:Int)(c:ltN v 65536=true):B54 LF v b=b (V5 v.toNat):=by obtain⟨a,d⟩:=E9.1 c;obtain⟨m,rfl⟩:=s8 a;have:=C9;unfold B54;refine o7 (Bj3 m LF [] (by omega) (by omega) (by simp<;>omega) (.inr rfl)) ?_;grind
def Ac0{c:Int->Option R}{d:Unit->Option R}(s:By)(x:s.length<=1000000000):∀(r i n:Nat),i+r=s.length->r<n->
  Y2 LF n s (i:Int) c d=if x3 (s.drop i) [58,58]=-1 then d () else c ((i:Int)+x3 (s.drop i) [58,58]):=by
 intro r
 induction r with
 | zero=>
  intro i n q u;rcases n with _|n;omega
  rw[Y2];rw[A4,A5,o5 (by omega)];rfl
 | succ r h=>
  intro i n q u;rcases n with _|n;omega
  rw[Y2];have f:A1 ((i:Int)+1)=((i+1:Nat):Int):=ah
  rw[f];by_cases t:i+1<s.length
  ·have h:=h (i+1) n (by omega) (by omega);rw[E6 s i (by omega)];have e:=E6 s (i+1) t;have p:=al3 (s.drop (i+1)) [58,58];have l:x3 (s.getD i 0::s.drop (i+1)) [58,58]=if ([58,58]:By).isPrefixOf (s.getD i 0::s.drop (i+1)) then 0 else if x3 (s.drop (i+1)) [58,58]==-1 then -1 else x3 (s.drop (i+1)) [58,58]+1:=by
    rw[x3]
   have o:([58,58]:By).isPrefixOf (s.getD i 0::s.drop (i+1))=(s.getD i 0==58&&s.getD (i+1) 0==58):=by
    rw[e];simp only[p7,ad7];rw[ah3 (a:=(58:UInt8)),ah3 (a:=(58:UInt8)) (b:=s.getD (i+1) 0)]
   have j:=T7 (s.getD i 0) 58 (by omega);have k:=T7 (s.getD (i+1) 0) 58 (by omega);rw[show((58:Nat):Int)=58 from rfl,show aa1 58=(58:UInt8) from rfl] at j k;have next:Y2 LF n s ((i+1:Nat):Int) c d=if (if x3 (s.drop (i+1)) [58,58]==-1 then (-1:Int) else x3 (s.drop (i+1)) [58,58]+1)=-1 then d () else c ((i:Int)+(if x3 (s.drop (i+1)) [58,58]==-1 then -1 else x3 (s.drop (i+1)) [58,58]+1)):=by
    rw[h];by_cases g:x3 (s.drop (i+1)) [58,58]=-1
    ·rw[g];rfl
    ·rw[ae g,show(x3 (s.drop (i+1)) [58,58]==-1)=false from beq_eq_false_iff_ne.2 g];simp only[w8,if_false];rw[I6]
     congr 1
     omega
   rw[l,o,A7,G2,G2];simp only[aa,E1,vl,j,k];cases v:(s.getD i 0==58) with
   | false=>
    simp only[ab,Bool.false_and,w8,if_false];exact next
   | true=>
    cases w:(s.getD (i+1) 0==58) with
    | false=>
     simp only[aa,ab,Bool.and_false,w8,if_false];exact next
    | true=>
     simp
  ·rw[A5,E6 s i (by omega),o5 (show s.length<=i+1 by omega)];have:x3 [s.getD i 0] [58,58]=-1:=by
    rw[x3];simp[p7,x3]
   rw[this];rfl
def Ac1{a:Int->Option R}(s:By)(b:A2 s.length=true):HG LF s a=a (LH s):=by have c:=L4 b;have:=C9;unfold HG LH;refine o7 (Ac0 s c s.length 0 LF (by omega) (by omega)) ?_;grind
def Oo(n:Nat):ptI (n:Int)=Z0 n:=rfl
def Au2{a:Bool->Option R}(n:Int):Aa8 LF n a=a (ptI n):=by
 unfold Aa8;by_cases h:n<0
 ·rw[C5 h];have:ptI n=false:=by
   cases n with
   | ofNat m=>exact absurd h (by simp)
   | negSucc m=>rfl
  grind
 ·obtain⟨m,rfl⟩:=s8 (show 0<=n by omega);rw[A5,Oo];unfold Z0;by_cases b:1114111<m
  ·rw[A7];have:x8 m 1114111=false:=by rw[ah4,ne_eq,af6];omega
   grind
  ·rw[A5];have:x8 m 1114111=true:=by rw[af6];omega
   rw[this];by_cases c:m<55296
   ·rw[A7];have:Nat.blt m 55296=true:=by rw[Nat.blt_eq];omega
    grind
   ·rw[A5];have e:Nat.blt m 55296=false:=by rw[ah4,ne_eq,Nat.blt_eq];omega
    rw[e];simp only[k9,aa,ab,Bool.false_or,aj4]
    congr 1
def KG{d k:Nat}(h:455<d):BU d k=BU (d / 35) (k+36):=by rw[BU,dif_pos h]
def Vu{d k:Nat}(h:¬ 455<d):BU d k=k+36*d / (d+38):=by rw[BU,dif_neg h]
def At4{k0:Int->Int->Option R}:∀(d n k:Nat),d<2305843009213693952->d<n->k+d<=4611686018427387904->
  ∃a b,a<=455/\b<=k+d/\BU d k=b+36*a / (a+38)/\Hu LF n (d:Int) (k:Int) k0=k0 (a:Int) (b:Int):=by
 intro d
 induction d using ag1 with
 | _ d l=>
  intro n k p r q;rcases n with _|n;omega
  rw[Hu];by_cases h:455<d
  ·obtain⟨a,b,g,o,i,j⟩:=l (d / 35) (by omega) n (k+36) (by omega) (by omega) (by omega);refine⟨a,b,g,by omega,by rw[KG h];exact i,?_⟩;have e:aa2 (d:Int) 35=((d / 35:Nat):Int):=O2 d 35;have c:A1 ((d / 35:Nat):Int)=((d / 35:Nat):Int):=A4;have f:A1 ((k:Int)+36)=((k+36:Nat):Int):=ah
   rw[A7];simp only[aa,vl,e,c,f];exact j
  ·refine⟨d,k,by omega,by omega,Vu h,?_⟩;rw[A5];rfl
def At5{k0:Int->Option R}(d c:Int)(f:Bool)(z:ltN d 1152921504606846976=true)(A:ltN c 1000000=true)(B:ltI 0 c=true):NE LF d c f k0=k0 (T4 d.toNat c.toNat f:Nat):=by
 obtain⟨k,F⟩:=E9.1 z;obtain⟨j,D⟩:=E9.1 A;obtain⟨d,rfl⟩:=s8 k;obtain⟨c,rfl⟩:=s8 j;have J:=Of.1 B;have C:=C9;have key:∀x:Nat,x<1152921504606846976->Ht LF (x:Int) (c:Int) k0=k0 ((BU (x+x / c) 0:Nat):Int):=by
  intro x L;have G:x / c<=x:=ag0 _ _;unfold Ht;have g:aa2 (x:Int) (c:Int)=((x / c:Nat):Int):=O2 x c;generalize x / c=q at *;have h:A1 (q:Int)=(q:Int):=A4;have o:A1 ((x:Int)+(q:Int))=((x+q:Nat):Int):=ah
  rw[show((c:Int)!=0)=true by simp;omega];simp only[aa,vl,g,h,o];obtain⟨a,n,H,I,w,y⟩:=At4 (R:=R) (k0:=λb l=>vl (A1 ((36)*b)) λm=>vl (A1 (b+(38))) λe=>cond (e !=(0)) (vl (A1 (aa2 m e)) λi=>k0 (A1 (l+i))) none) (x+q) LF 0 (by omega) (by omega) (by omega);refine o7 y ?_;have K:36*a / (a+38)<=36*a:=ag0 _ _;have p:A1 (36*(a:Int))=((36*a:Nat):Int):=ah
  have r:A1 ((a:Int)+38)=((a+38:Nat):Int):=ah
  have t:aa2 ((36*a:Nat):Int) ((a+38:Nat):Int)=((36*a / (a+38):Nat):Int):=O2 _ _;have u:A1 ((36*a / (a+38):Nat):Int)=((36*a / (a+38):Nat):Int):=A4;have v:A1 ((n:Int)+((36*a / (a+38):Nat):Int))=((n+36*a / (a+38):Nat):Int):=ah
  simp only[vl,p,r,t,u,v];rw[show(((a+38:Nat):Int)!=0)=true by simp;omega,w];rfl
 unfold NE T4;rw[j8,j8];cases f with
 | true=>
  have g:aa2 (d:Int) 700=((d / 700:Nat):Int):=O2 d 700;have h:A1 ((d / 700:Nat):Int)=((d / 700:Nat):Int):=A4;simp only[aa,vl,g,h,if_true];exact key _ (by omega)
 | false=>
  have g:aa2 (d:Int) 2=((d / 2:Nat):Int):=O2 d 2;have h:A1 ((d / 2:Nat):Int)=((d / 2:Nat):Int):=A4;simp only[ab,vl,g,h,w8,if_false];exact key _ (by omega)
def RU{d:Nat}(h:d<36):(Bn d).toNat=if d<26 then 97+d else 22+d:=by unfold Bn;split<;>simp<;>omega
def Cg5{b:Int->Option R}(d:Int)(c:ltN d 36=true):Dp9 LF d b=b ((Bn d.toNat).toNat:Nat):=by
 obtain⟨a,e⟩:=E9.1 c;obtain⟨d,rfl⟩:=s8 a;unfold Dp9;rw[j8,RU (by omega)];by_cases h:d<26
 ·rw[A7,ac h];simp only[aa,vl]
  congr 1
  rw[A4,O4];rfl
 ·rw[A5,ae h];simp only[ab,vl]
  congr 1
  rw[E0 (n:=48+(d:Int)) (by omega) (by omega),A4,O4];omega
def GE(b:UInt8):(97<=b.toNat/\b.toNat<=122/\Qe b=some (b.toNat-97))\/(65<=b.toNat/\b.toNat<=90/\Qe b=some (b.toNat-65))\/(48<=b.toNat/\b.toNat<=57/\Qe b=some (b.toNat-22))\/(¬(97<=b.toNat/\b.toNat<=122)/\¬(65<=b.toNat/\b.toNat<=90)/\¬(48<=b.toNat/\b.toNat<=57)/\Qe b=none):=by unfold Qe;grind
def Ch2{g:Int->Option R}(b:Int)(h:inR b 256=true):Dq9 LF b g=g (F5 (u8n b)):=by
 simp only[inR,x6,af] at h;have j:b=((u8n b).toNat:Int):=by
  unfold u8n;simp;omega
 generalize u8n b=c at *;subst j;have i:=c.toNat_lt;unfold Dq9 F5;simp only[Ab0,Aa9,vl];rcases GE c with⟨d,f,e⟩|⟨d,f,e⟩|⟨d,f,e⟩|⟨d,f,o,e⟩
 ·have a:A1 (wu8 ((c.toNat:Int)-97))=((c.toNat-97:Nat):Int):=by
   rw[O4,A4];omega
  simp (disch:=omega) only[C5,D8,j9,k9,ab,aa,a,e]
 ·have a:A1 (wu8 ((c.toNat:Int)-65))=((c.toNat-65:Nat):Int):=by
   rw[O4,A4];omega
  simp (disch:=omega) only[C5,D8,j9,k9,ab,aa,a,e]
 ·have a:A1 (A1 (wu8 ((c.toNat:Int)-48))+26)=((c.toNat-22:Nat):Int):=by
   rw[O4,E0 (n:=(c.toNat:Int)-48) (by omega) (by omega),A4];omega
  simp (disch:=omega) only[C5,D8,j9,k9,ab,aa,a,e]
 ·rw[e];by_cases k:c.toNat<48
  ·simp (disch:=omega) only[C5,D8,j9,k9,ab,aa]
  ·by_cases l:c.toNat<65
   ·simp (disch:=omega) only[C5,D8,j9,k9,ab,aa]
   ·by_cases m:c.toNat<97
    ·simp (disch:=omega) only[C5,D8,j9,k9,ab,aa]
    ·simp (disch:=omega) only[C5,D8,j9,k9,ab,aa]
def Dv9{l:LL}(h:l.all Yq=true):∃W:List Nat,l=E7 W/\(∀x∈W,x<65536):=by
 induction l with
 | nil=>exact⟨[],rfl,by simp⟩
 | cons x r c=>
  simp only[aj6,x6] at h;obtain⟨W,rfl,e⟩:=c h.2;have a:=h.1;unfold Yq at a;split at a
  ·rename_i n;obtain⟨b,d⟩:=E9.1 a;obtain⟨m,rfl⟩:=s8 b;refine⟨m::W,rfl,?_⟩;grind
  ·cases a
def Ag3{W:List Nat}(h:∀x∈W,x<65536):(E7 W).all Yq=true:=by rw[ad4];intro x a;simp only[E7,al6] at a;obtain⟨n,b,rfl⟩:=a;have:=h n b;exact Uy (v:=(n:Int)) (n:=65536) (by omega) (by omega)
def Ya(W:List Nat):(E7 W).map elN=W:=by
 unfold E7;rw[ah7]
 conv=>rhs;rw[<-am1 W]
 apply ag9;intro x _;simp[elN,SV.gI]
def Ap2(l:List By):(A9 l).map elS=l:=by
 unfold A9;rw[ah7]
 conv=>rhs;rw[<-am1 l]
 apply ag9;intro x _;simp[elS,SV.gS]
def Z3(l:List By):(A9 l).all isS=true:=by rw[ad4];intro x a;simp only[A9,al6] at a;obtain⟨n,b,rfl⟩:=a;rfl
def A15{P:List Nat->Prop}(a:P [])(b:∀l x,P l->P (l++[x]))(l:List Nat):P l:=by
 have:∀r:List Nat,P r.reverse:=by
  intro r
  induction r with
  | nil=>exact a
  | cons x r c=>rw[List.reverse_cons];exact b _ _ c
 have:=this l.reverse;grind
def Cd5(l:List By)(x p:By)(h:l≠[]):ac7 (l++[x]) p=ac7 l p++p++x:=by
 cases l with
 | nil=>exact absurd rfl h
 | cons y r=>
  rw[ad5,aj5,aj5];unfold Lib.joinTail;simp
def Mi:X3 []=[]:=rfl
def DF(n:Nat):X3 [n]=V5 n:=by unfold X3;exact al4 _ _
def Wi(l:List Nat)(n:Nat)(h:l≠[]):X3 (l++[n])=X3 l++[58]++V5 n:=by unfold X3;rw[af9,List.map_singleton,Cd5 _ _ _ (by simpa using h)]
def Cr:∀l:List Nat,(∀x∈l,x<65536)->(X3 l).length<=5*l.length:=by
 refine A15 ?_ ?_
 ·intro _;simp[Mi]
 ·intro l n c h;have d:=c (λx b=>h x (by simp[b]));have e:=MA n (h n (by simp));by_cases a:l=[]
  ·subst a;rw[x5,DF];simp;omega
  ·rw[Wi l n a];simp;omega
def Bb4:∀(l:List Nat) (h:l≠[]),∃q d,X3 l=q++[d]/\d≠58:=by
 refine A15 ?_ ?_
 ·grind
 ·intro l n _ _;obtain⟨q,d,c,a⟩:=Cc1 n;by_cases b:l=[]
  ·subst b;exact⟨q,d,by rw[x5,DF,c],a⟩
  ·exact⟨X3 l++[58]++q,d,by rw[Wi l n b,c];simp,a⟩
def Db9{c:LL->Option R}(z t:Bool)(W:List Nat)(l:∀x∈W,x<65536)(p:W.length<=8):∀(r i n:Nat) (d:List By),i+r=W.length->r<n->d.length=i->
  Xg LF n z t (E7 W) (W.length:Int) (i:Int) (A9 d) c=c (A9 (d++(W.drop i).map V5)):=by
 intro r
 induction r with
 | zero=>
  intro i n d h j f;rcases n with _|n;omega
  rw[Xg];rw[A5,o5 (by omega)];simp
 | succ r k=>
  intro i n d h j f;rcases n with _|n;omega
  rw[Xg];have b:W.drop i=W.getD i 0::W.drop (i+1):=by
   rw[o6,p4 (by omega),p6,x7]
  have o:W.getD i 0<65536:=by
   rw[o6,p4 (by omega),p6];simp_all
  have e:A1 ((i:Int)+1)=((i+1:Nat):Int):=ah
  rw[b];generalize g:W.getD i 0=x at *;simp (disch:=omega) only[C5,G9,aa,J7,j8,Ok,Wf,vl,e,g,Ag8,Uy,A8,E8,show((16:Int)==16)=true from rfl];have a:A9 d++[[SV.str (V5 x)]]=A9 (d++[V5 x]):=by rw[Br];rfl
  rw[a,k (i+1) n _ (by omega) (by omega) (by simp;omega)];simp
def Dc0{k0:By->LL->Option R}(z t:Bool)(l:LL)(c:l.all Yq=true)(a:x8 l.length 8=true):∃g,v6j LF z t l k0=k0 (X3 (l.map elN)) g:=by
 obtain⟨W,rfl,b⟩:=Dv9 c;have f:W.length<=8:=by rw[J7] at a;exact ad2 a
 have d:=C9;refine⟨A9 (W.map V5),?_⟩;unfold v6j;rw[J7];refine o7 (Db9 z t W b f W.length 0 LF [] (by omega) (by omega) rfl) ?_;have e:=Cr W b;unfold X3 at e;rw[x5,v8,Z3,Ap2,Ya,A8,M5,D5 (by simp;omega)];rfl
def Ah3:∀(l:List Nat) (i z m:Nat),z+m<=i+l.length->(zGo l i z m).1+(zGo l i z m).2<=i+l.length
 | [],i,z,m,h=>by simpa[zGo] using h
 | x::r,i,z,m,h=>by
  have a:=Ad7 (x::r);simp only[zGo];simp only[aa6] at h a ⊢;split
  ·have:=Ah3 r (i+1) i (Rs (x::r)) (by omega);omega
  ·have:=Ah3 r (i+1) z m (by omega);omega
def Db8{k0:By->LL->Option R}(p r t u v w y A:Int)(G:ok8 p r t u v w y A=true):∃l,v6f LF p r t u v w y A k0=k0 (Qd (n8 p r t u v w y A)) l:=by
 obtain⟨a,b,c,d,e,f,g,j,rfl,rfl,rfl,rfl,rfl,rfl,rfl,rfl,h⟩:=Tp G;have C:n8 a b c d e f g j=[a,b,c,d,e,f,g,j]:=rfl;refine⟨E7 [a,b,c,d,e,f,g,j],?_⟩;unfold v6f;rw[G,C,aa];have o:([[SV.int .u16 (a:Int)],[SV.int .u16 (b:Int)],[SV.int .u16 (c:Int)],[SV.int .u16 (d:Int)],[SV.int .u16 (e:Int)],[SV.int .u16 (f:Int)],[SV.int .u16 (g:Int)],[SV.int .u16 (j:Int)]]:LL)=E7 [a,b,c,d,e,f,g,j]:=rfl;rw[o];have B:∀x∈[a,b,c,d,e,f,g,j],x<65536:=by simp_all
 have n:[a,b,c,d,e,f,g,j].length=8:=rfl;have k:=Ah3 [a,b,c,d,e,f,g,j] 0 0 0 (by simp);unfold Qd;generalize [a,b,c,d,e,f,g,j]=W at *;generalize zGo W 0 0 0=q at *;obtain⟨z,m⟩:=q;rw[n] at k;simp only[vl] at k ⊢;have N:∀i,(E7 W).take i=E7 (W.take i):=λi=>by unfold E7;rw[aj7]
 have J:∀i,(E7 W).drop i=E7 (W.drop i):=λi=>by unfold E7;rw[ah0]
 by_cases I:m<2
 ·rw[ac I,A7,aa,Ag3 B,Ya];rfl
 ·have K:A1 ((z:Int)+(m:Int))=((z+m:Nat):Int):=ah
  have hA:∀x∈W.take z,x<65536:=λx D=>B x (ab5 D)
  have H:∀x∈W.drop (z+m),x<65536:=λx D=>B x (aa5 D)
  have O:=Cr _ hA;have P:=Cr _ H;have L:(W.take z).length<=8:=by rw[x9];omega
  have M:(W.drop (z+m)).length<=8:=by rw[aa7];omega
  rw[ae I,A5,ab,K2,K];simp only[j8,Nat.sub_zero];rw[N,J,Ag3 hA,Ya,J7,ad1 L,I1 (by omega),K2];have F:(E7 (W.drop (z+m))).take (8-(z+m))=E7 (W.drop (z+m)):=v7 (by rw[J7,aa7];omega);rw[F,Ag3 H,Ya,J7,ad1 M,I1 (by simp;omega)];simp
def Du3{k0:Kci R}(W:List Nat)(l:W.length=8)(b a:Int)(i:Nat):∀(r j n:Nat),i+j+r=8->r<n->
  Pf LF n b a (i:Int) (j:Int) (E7 W) k0=k0 b a (i:Int) ((j+Rs (W.drop (i+j)):Nat):Int) (E7 W):=by
 intro r
 induction r with
 | zero=>
  intro j n f g;rcases n with _|n;omega
  rw[Pf];rw[A4,A5,o5 (by omega)];rfl
 | succ r k=>
  intro j n f g;rcases n with _|n;omega
  rw[Pf];have c:A1 ((i:Int)+(j:Int))=((i+j:Nat):Int):=ah
  have d:A1 ((j:Int)+1)=((j+1:Nat):Int):=ah
  have e:W.drop (i+j)=W.getD (i+j) 0::W.drop (i+(j+1)):=by
   rw[o6,p4 (by omega),p6,<-aj8,x7]
  simp (disch:=first|omega|(simp[J7];omega)) only[c,d,C5,G9,aa,j8,Ok,Wf,vl];rw[e,Ax7];by_cases h:W.getD (i+j) 0=0
  ·rw[h,ac rfl,show(((0:Nat):Int)==0)=true from rfl,aa,k (j+1) n (by omega) (by omega)]
   congr 2
   omega
  ·rw[ae h,show(((W.getD (i+j) 0:Nat):Int)==0)=false by rw[beq_eq_false_iff_ne];omega];rfl
def RR(z m:Nat)(a b:Int):Prop:=(2<=m/\a=z/\b=m)\/(m<2/\a=-1/\b=1)
def C80{k0:Int->Int->LL->Option R}(W:List Nat)(o:W.length=8):∀(r i n z m:Nat) (a b:Int),i+r=8->r<n->z<=8->m<=8->RR z m a b->
  ∃g j,RR (zGo (W.drop i) i z m).1 (zGo (W.drop i) i z m).2 g j/\Jz LF n a b (i:Int) (E7 W) k0=k0 g j (E7 W):=by
 intro r
 induction r with
 | zero=>
  intro i n z m a b t w e v h;rcases n with _|n;omega
  rw[Jz];rw[A5,o5 (by omega)];exact⟨a,b,h,rfl⟩
 | succ r f=>
  intro i n z m a b t w e v h;rcases n with _|n;omega
  have l:=C9;rw[Jz];have c:=λK=>Du3 (R:=R) (k0:=K) W o a b i r.succ 0 LF (by omega) (by omega)
  rw[show((0:Nat):Int)=0 from rfl] at c;simp only[ae4,af5] at c;rw[A7,aa,c];have p:W.drop i=W.getD i 0::W.drop (i+1):=by
   rw[o6,p4 (by omega),p6,x7]
  have u:=Ad7 (W.drop i);rw[aa7] at u;have d:A1 ((i:Int)+1)=((i+1:Nat):Int):=ah
  rw[d];have e:zGo (W.drop i) i z m=if m<Rs (W.drop i) then zGo (W.drop (i+1)) (i+1) i (Rs (W.drop i)) else zGo (W.drop (i+1)) (i+1) z m:=by
   rw[p];rfl
  rw[e];generalize Rs (W.drop i)=q at *;unfold RR at h;by_cases k:m<q
  ·rw[ac k];by_cases x:q<2
   ·rw[A5,ab];exact f (i+1) n i q a b (by omega) (by omega) (by omega) (by omega) (by unfold RR;omega)
   ·rw[A7,aa];exact f (i+1) n i q i q (by omega) (by omega) (by omega) (by omega) (by unfold RR;omega)
  ·rw[ae k,A5,ab];exact f (i+1) n z m a b (by omega) (by omega) (by omega) (by omega) h
def SC(q:By)(d:UInt8):(q++[d]).getD q.length 0=d:=by simp
def Cl6{k:By->LL->Option R}(W:List Nat)(u:W.length=8)(v:∀x∈W,x<65536)(a b:Int)(s c:By)(i n:Nat)(w:i<8)(o:(i:Int)≠a)(j:s.length<=1000)
  (h:(s=[]/\c=V5 (W.getD i 0))\/(∃q d,s=q++[d]/\d≠58/\c=s++[58]++V5 (W.getD i 0))\/(∃q,s=q++[58]/\c=s++V5 (W.getD i 0))) :
  W0 LF (n+1) a b s (i:Int) (E7 W) k=W0 LF n a b c ((i+1:Nat):Int) (E7 W) k:=by
 rw[W0];have t:W.getD i 0<65536:=by simp_all
 have m:A1 ((i:Int)+1)=((i+1:Nat):Int):=ah
 have y:=MA _ t;rw[A7,show((i:Int)==a)=false from beq_eq_false_iff_ne.2 o];generalize r:W.getD i 0=x at *;have ok:=Ok (l:=W) (i:=i) (by omega);simp (disch:=omega) only[aa,ab,G9,j8,ok,Wf,r,Uy,vl,m];rcases h with⟨rfl,rfl⟩|⟨q,d,rfl,p,rfl⟩|⟨q,rfl,rfl⟩
 ·have e:F7 ([]:By).length (V5 x).length=true:=I1 (by simp;omega);rw[e];rfl
 ·have f:A1 (((q++[d]).length:Int)-1)=((q.length:Nat):Int):=by rw[A4];simp
  rw[show((q++[d])==([]:By))=false by simp,f,G9 (by omega) (by simp<;>omega),E1,SC];have g:(d.toNat:Int)≠58:=by
   intro h;apply p;apply UInt8.toNat.inj;grind
  rw[show((d.toNat:Int)!=58)=true from bne_iff_ne.2 g,I1 (by simp at j ⊢;omega),I1 (by simp at j ⊢;omega)];rfl
 ·have f:A1 (((q++[58]).length:Int)-1)=((q.length:Nat):Int):=by rw[A4];simp
  rw[show((q++[(58:UInt8)])==([]:By))=false by simp,f,G9 (by omega) (by simp<;>omega),E1,SC];have e:F7 (q++[(58:UInt8)]).length (V5 x).length=true:=I1 (by simp at j ⊢;omega);rw[e];rfl
def Cn3(W:List Nat)(i:Nat)(h:i<W.length):W.take (i+1)=W.take i++[W.getD i 0]:=by simp_all
def NX{k0:By->LL->Option R}(W:List Nat)(m:W.length=8)(f:∀x∈W,x<65536)(a b:Int)(e:Nat)(I:e<=8)(p:By)(z:p=[]\/∃q,p=q++[58])(A:p.length<=100)(o:Nat)(w:o<=8) :
  ∀(r i n:Nat),i+r=e->o<=i->(∀j:Nat,i<=j->j<e->(j:Int)≠a)->
   W0 LF (n+r) a b (p++X3 ((W.take i).drop o)) (i:Int) (E7 W) k0=W0 LF n a b (p++X3 ((W.take e).drop o)) (e:Int) (E7 W) k0:=by
 intro r
 induction r with
 | zero=>
  intro i n u w _;rw[show i=e by omega];rfl
 | succ r G=>
  intro i n u y g;rw[show n+(r+1)=(n+r)+1 by omega];have h:((W.take i).drop o).length=i-o:=by rw[aa7,x9];omega
  have v:=Cr ((W.take i).drop o) (λx F=>f x (ab5 (aa5 F)));have D:(W.take (i+1)).drop o=(W.take i).drop o++[W.getD i 0]:=by
   rw[Cn3 W i (by omega),aa9 (by rw[x9];omega)]
  have C:(p++X3 ((W.take i).drop o)).length<=1000:=by rw[ac2];omega
  rw[Cl6 W m f a b (p++X3 ((W.take i).drop o)) (p++X3 ((W.take (i+1)).drop o)) i (n+r) (by omega) (g i (by omega) (by omega)) C]
  ·exact G (i+1) n (by omega) (by omega) (λj H k=>g j (by omega) k)
  ·rw[D];generalize (W.take i).drop o=l at *;by_cases c:l=[]
   ·subst c;rw[x5,DF,Mi,ab0];rcases z with rfl|⟨q,rfl⟩
    ·exact .inl ⟨rfl,rfl⟩
    ·exact .inr (.inr ⟨q,rfl,rfl⟩)
   ·obtain⟨q,d,B,t⟩:=Bb4 l c;refine .inr (.inl ⟨p++q,d,by rw[B,ab3],t,?_⟩);rw[Wi l _ c];simp
def Cl5{k0:By->LL->Option R}(A B C D F G H I:Int)(V:ok8 A B C D F G H I=true):Du1 LF A B C D F G H I k0=k0 (Qd (n8 A B C D F G H I)) (E7 (n8 A B C D F G H I)):=by
 obtain⟨g,i,k,l,o,p,r,t,rfl,rfl,rfl,rfl,rfl,rfl,rfl,rfl,h⟩:=Tp V;have K:n8 g i k l o p r t=[g,i,k,l,o,p,r,t]:=rfl;unfold Du1;rw[K];have y:([[SV.int .u16 (g:Int)],[SV.int .u16 (i:Int)],[SV.int .u16 (k:Int)],[SV.int .u16 (l:Int)],[SV.int .u16 (o:Int)],[SV.int .u16 (p:Int)],[SV.int .u16 (r:Int)],[SV.int .u16 (t:Int)]]:LL)=E7 [g,i,k,l,o,p,r,t]:=rfl;rw[y];have J:∀x∈[g,i,k,l,o,p,r,t],x<65536:=by simp_all
 have e:[g,i,k,l,o,p,r,t].length=8:=rfl;have w:=Ah3 [g,i,k,l,o,p,r,t] 0 0 0 (by simp);have X:=C9;generalize [g,i,k,l,o,p,r,t]=W at *;obtain⟨a,b,L,Y⟩:=C80 (R:=R) (k0:=λv f M=>W0 LF LF v f [] 0 M (λd c=>k0 d c)) W e 8 0 LF 0 0 (-1) 1 (by omega) (by omega) (by omega) (by omega) (.inr ⟨by omega,rfl,rfl⟩);refine o7 Y ?_;rw[v8] at L;unfold Qd;generalize zGo W 0 0 0=q at *;obtain⟨z,m⟩:=q;rw[e] at w;simp only at w L ⊢;have stop:∀(n:Nat) (s:By),0<n->W0 LF n a b s ((8:Nat):Int) (E7 W) (λd c=>k0 d c)=k0 s (E7 W):=by
  intro n s O;rcases n with _|n;omega
  rw[W0];simp_all
 rcases L with⟨N,rfl,rfl⟩|⟨N,rfl,rfl⟩
 ·rw[I6];have u:=NX (R:=R) (k0:=λd c=>k0 d c) W e J (z:Int) (m:Int) z (by omega) [] (.inl rfl) (by simp) 0 (by omega) z 0 (LF-z) (by omega) (by omega) (λj _ h2=>by omega);rw[show LF-z+z=LF by omega] at u;simp only[aa8,v8,Mi,x5] at u;refine o7 u ?_;obtain⟨n,O⟩:∃n,LF-z=n+8+1:=⟨LF-z-9,by omega⟩
  rw[O,W0];have hA:∀x∈W.take z,x<65536:=λx Z=>J x (ab5 Z)
  have la:=Cr _ hA;have l1:(W.take z).length<=8:=by rw[x9];omega
  have S:A1 ((m:Int)-1)=((m-1:Nat):Int):=by rw[A4];omega
  have T:A1 ((z:Int)+((m-1:Nat):Int))=((z+(m-1):Nat):Int):=by rw[A4];omega
  have U:A1 (((z+(m-1):Nat):Int)+1)=((z+m:Nat):Int):=by rw[A4];omega
  rw[A7,I1 (by omega)];simp only[beq_self_eq_true,aa,vl,S,T,U];have P:=NX (R:=R) (k0:=λd c=>k0 d c) W e J (z:Int) (m:Int) 8 (by omega) (X3 (W.take z)++[58,58]) (.inr ⟨X3 (W.take z)++[58],by simp⟩) (by simp;omega) (z+m) (by omega) (8-(z+m)) (z+m) (n+(z+m)) (by omega) (by omega) (λj h1 _=>by omega);rw[show n+(z+m)+(8-(z+m))=n+8 by omega] at P;have Q:(W.take (z+m)).drop (z+m)=[]:=o5 (by rw[x9];omega);rw[Q,Mi,ab0] at P;grind
 ·rw[ac N];have u:=NX (R:=R) (k0:=λd c=>k0 d c) W e J (-1) 1 8 (by omega) [] (.inl rfl) (by simp) 0 (by omega) 8 0 (LF-8) (by omega) (by omega) (λj _ _=>by omega);rw[show LF-8+8=LF by omega] at u;simp only[aa8,v8,Mi,x5] at u;grind
end
section
open Go
def MG(x y:By)(r:List By)(p:By):ac7 (x::y::r) p=x++(p++ac7 (y::r) p):=by simp[ac7,List.intercalate]
def At9(c:UInt8):∀l:List By,l≠[]->(∀x∈l,c∉x)->pcs c (ac7 l [c])=l
 | [],h,_=>absurd rfl h
 | [x],_,h=>by rw[al4,Rp (h x (by simp))]
 | x::y::r,_,h=>by
  rw[MG,List.singleton_append,Aa4 (h x (by simp)),At9 c (y::r) (by simp) (λz a=>h z (by simp[a]))]
def Cu(s:By):(C6 s).length=s.length:=ae0 _
def Oe(s:By)(i:Nat):(C6 s).getD i 0=Dl (s.getD i 0):=by unfold C6;simp only[o6,af0];cases s[i]?<;>rfl
def Ce7{s:By}:C6 s=[]↔s=[]:=by unfold C6;simp
def Bc7(s:By)(i:Nat):(C6 s).drop i=C6 (s.drop i):=by unfold C6;rw[ah0]
def Ri(b:UInt8):X7 b=true↔(97<=b.toNat/\b.toNat<=122)\/(48<=b.toNat/\b.toNat<=57)\/b=45\/b=95:=by simp[X7,or_assoc]
def Bc0{b:UInt8}(h:X7 b=true):b.toNat<128/\(b.toNat<65\/90<b.toNat)/\b≠46/\b≠37/\b≠91:=by
 rw[Ri] at h;have key:∀c:UInt8,b=c->b.toNat=c.toNat:=λc e=>by rw[e]
 rcases h with h|h|h|h
 ·refine⟨by omega,by omega,?_,?_,?_⟩<;>intro e<;>have:=key _ e<;>simp at this<;>omega
 ·refine⟨by omega,by omega,?_,?_,?_⟩<;>intro e<;>have:=key _ e<;>simp at this<;>omega
 all_goals simp_all
structure VL (s:By):Prop where
 ne:s≠[]
 le:s.length<=63
 byt:∀b∈s,X7 b=true
def Uo{s:By}(h:N5 s=true):VL s:=by unfold N5 at h;simp only[x6,ah5,ad4] at h;obtain⟨⟨⟨⟨⟨a,c⟩,g⟩,i⟩,d⟩,j⟩:=h;refine⟨by intro e;subst e;simp at a,ad2 c,λb f=>d b f⟩
structure VN (s:By):Prop where
 le:s.length<=253
 num:I7 s=false
 all:∀x∈pcs 46 s,N5 x=true
def OL{s:By}:W9 s=true↔VN s:=by unfold W9;simp only[x6,ah5,ad4];exact⟨λh=>⟨ad2 h.1.1,h.1.2,h.2⟩,λh=>⟨⟨ad1 h.le,h.num⟩,h.all⟩⟩
def D87(v:Nat)(h:v<4294967296):(Jj v).length<=43:=by unfold Jj;have a:=G6 (v / 16777216) (by omega);have b:=G6 (v / 65536 % 256) (by omega);have c:=G6 (v / 256 % 256) (by omega);have d:=G6 (v % 256) (by omega);grind
def Au1(free:Nat):∀(l:List By) (v x:Nat),Zb free v l=some x->x<(v+1)*256 ^ (l.length-1)*2 ^ free
 | [],v,x,h=>by simp[Zb] at h
 | [p],v,x,h=>by
  simp only[Zb] at h;split at h
  ·cases h
  ·split at h
   ·rename_i n c b;simp only[p5] at h;subst h;simp only[aa6,ae1,al9,Nat.pow_zero,Nat.mul_one,Nat.add_mul];omega
   ·cases h
 | p::q::r,v,x,h=>by
  rw[Zb] at h;split at h
  ·cases h
  ·simp only at h;split at h
   ·rename_i n c a;have d:=Au1 free (q::r) _ x h;refine Nat.lt_of_lt_of_le d (ad8 _ ?_);simp only[aa6,ah2];rw[y5,al8 (256 ^ r.length) 256,<-Nat.mul_assoc];exact ad8 _ (by omega)
   ·cases h
def Dq3{s:By}{v:Nat}(h:pnB s=some v):v<4294967296:=by
 unfold pnB at h;split at h
 ·cases h
 ·rename_i b;have a:=(Ch s).1;have:=Au1 _ _ _ _ h;generalize (E3 s).length=n at *;have:n=1\/n=2\/n=3\/n=4:=by omega
  grind
def sh(n:Nat)(i:Int):Int:=if i=-1 then -1 else i+n
def Db7(a:List Nat)(e:a.length=8)(h:∀x∈a,x<65536):(Qd a).length<=90:=by
 unfold Qd;split
 ·have:=Cr a h;omega
 ·have c:=Cr (a.take (zGo a 0 0 0).1) (λx b=>h x (ab5 b));have d:=Cr (a.drop ((zGo a 0 0 0).1+(zGo a 0 0 0).2)) (λx b=>h x (aa5 b));grind
def Aq3{s:By}{last:Bool}{r:List Nat}(h:S9 s last=some r):∀x∈r,x<65536:=by
 unfold S9 at h;split at h
 ·grind
 ·exact B21 _ _ _ h
def D90{s:By}{a:List Nat}(h:v6B s=some a):a.length=8/\∀x∈a,x<65536:=by
 unfold v6B at h;split at h
 ·rename_i x y b c;have d:=Aq3 b;have e:=Aq3 c;grind
 ·cases h
def C99{s:By}(h:(K9 s).2=0):N5 (K9 s).1=true:=by unfold K9 at h ⊢;grind
def Lh:∀l:List By,(G8 l).2=0->(∀x∈(G8 l).1,N5 x=true)/\(G8 l).1.length=l.length
 | [],_=>⟨by simp[G8],rfl⟩
 | x::r,h=>by
  unfold G8 at h ⊢;by_cases a:(K9 x).2=0
  ·rw[ac a] at h ⊢;obtain⟨d,c⟩:=Lh r h;refine⟨λy b=>?_,by simp[c]⟩;rcases aa0.1 b with rfl|b
   ·exact C99 a
   grind
  grind
structure Qj (h:C2):Prop where
 v4:h.v4<4294967296
 v6:h.v6.length=8/\∀x∈h.v6,x<65536
 kd:h.kind<4
def B88:z8.length=8/\∀x∈z8,x<65536:=by decide
def Cf9(s:By):Qj (E2 s).1/\((E2 s).2=0->P3 (E2 s).1=true):=by
 have no:Qj N3:=⟨by decide,B88,by decide⟩
 unfold E2;split
 ·grind
 split
 ·split
  ·cases d:v6B ((s.take (s.length-1)).drop 1) with
   | none=>exact⟨no,by simp⟩
   | some a=>exact⟨⟨show 0<4294967296 by decide,D90 d,show 3<4 by decide⟩,λ_=>by simp[P3]⟩
  grind
 cases l:V3 s with
 | none=>exact⟨no,by simp⟩
 | some t=>
  simp only;split
  ·cases d:pnB (K7 t) with
   | none=>exact⟨no,by simp⟩
   | some v=>exact⟨⟨Dq3 d,B88,show 2<4 by decide⟩,λ_=>by simp[P3]⟩
  split
  ·rename_i g;split
   ·grind
   split
   ·grind
   ·rename_i k h;refine⟨⟨show 0<4294967296 by decide,B88,show 1<4 by decide⟩,λ_=>?_⟩;obtain⟨f,i⟩:=Lh _ g;have b:(G8 (pcs 46 (K7 t))).1≠[]:=by
     intro e;rw[e] at i;have:=Bf0 46 (K7 t);grind
    have c:=At9 46 (G8 (pcs 46 (K7 t))).1 b (λx j e=>(Bc0 ((Uo (f x j)).byt 46 e)).2.2.1 rfl);unfold P3;simp only[if_true,beq_self_eq_true,ad7];rw[OL];exact⟨by omega,by simpa using h,by rw[c];exact f⟩
  grind
def LU{h:C2}(a:P3 h=false):Y7 h=[]:=by unfold Y7;rw[a];rfl
structure X1 where
 sch:By
 user:By
 host:C2
 port:Int
 rest:By
def Be:X1:=⟨[],[],N3,0,[]⟩
def Pt:By:=[104,116,116,112]
def Eg:By:=[104,116,116,112,115]
def bWs:By:=[119,115]
def BW:By:=[119,115,115]
def V4(s:By):Int:=if s==Pt||s==bWs then 80 else if s==Eg||s==BW then 443 else -1
def D2(s:By):Bool:=s==Pt||s==bWs||(s==Eg||s==BW)
def Ee8(s:By):Bool:=s==Pt||s==bWs
def ctl(b:UInt8):Bool:=x8 b.toNat 32||b==127
def R9(b:UInt8):Bool:=(x8 97 b.toNat&&x8 b.toNat 122)||(x8 65 b.toNat&&x8 b.toNat 90)
def Q7(b:UInt8):Bool:=R9 b||(x8 48 b.toNat&&x8 b.toNat 57)||b==43||b==45||b==46
def Ae:By->Bool
 | []=>false
 | b::r=>R9 b&&r.all Q7
def Z9(b:UInt8):Bool:=b==47||b==63||b==35
def L6(s:By):Nat:=(s.takeWhile λb=>!Z9 b).length
def Im(c:UInt8):By->Option Nat
 | []=>none
 | b::r=>if b=c then some 0 else (Im c r).map (· + 1)
def Kv:Int->By->Option Int
 | n,[]=>if n<65536 then some n else none
 | n,b::r=>if 48<=b.toNat/\b.toNat<=57 then Kv (min (10*max n 0+((b.toNat-48:Nat):Int)) 65536) r else none
def Mo(a:By):Option (By × By):=
 if a.head? = some 91 then (match Im 93 a with
  | some k=>some (a.take (k+1),a.drop (k+1))
  | none=>none)
 else match Im 58 a with
  | some k=>some (a.take k,a.drop k)
  | none=>some (a,[])
def R2(c user b:By)(a:By):X1 × Nat:=
 match Mo a with
 | none=>(Be,4)
 | some (name,tail)=>
  if tail≠[]/\tail.head?≠some 58 then (Be,4)
  else if (E2 name).2≠0 then (Be,(E2 name).2)
  else match Kv (-1) (tail.drop 1) with
   | none=>(Be,16)
   | some p=>(⟨c,user,(E2 name).1,if p=V4 c then -1 else p,b⟩,0)
def I9(c b a:By):X1 × Nat:=
 if 0<=M9 64 a then R2 c (a.take (M9 64 a).toNat) b (a.drop ((M9 64 a).toNat+1)) else R2 c [] b a
def U9(r:By):By:=if r.head? = some 47 then r else 47::r
def D3(s:By):X1 × Nat:=
 if s.any ctl then (Be,4)
 else if !(s9 s [58]).2.2||!Ae (s9 s [58]).1 then (Be,15)
 else if !D2 (C6 (s9 s [58]).1) then (⟨C6 (s9 s [58]).1,[],N3,-1,(s9 s [58]).2.1⟩,0)
 else if !([47,47]:By).isPrefixOf (s9 s [58]).2.1 then (Be,4)
 else I9 (C6 (s9 s [58]).1) (U9 (((s9 s [58]).2.1.drop 2).drop (L6 ((s9 s [58]).2.1.drop 2)))) (((s9 s [58]).2.1.drop 2).take (L6 ((s9 s [58]).2.1.drop 2)))
def C1(s:By):X1 × Nat:=if 2048<s.length then (Be,3) else D3 s
def Mh(p:Int):By:=if p<0 then 45::o9 (-p).toNat else o9 p.toNat
def KK(u:X1):By:=(if u.user=[] then [] else u.user++[64])++(Y7 u.host++(if u.port=-1 then [] else 58::Mh u.port))
def Cz(u:X1):By:=if D2 u.sch then u.sch++58::47::47::(KK u++u.rest) else u.sch++58::u.rest
def Ji(u:X1):By:=if u.port < -1 then (if D2 u.sch then u.sch++58::47::47::(((if u.user=[] then [] else u.user++[64])++(Y7 u.host++[58,120]))++u.rest) else u.sch++58::u.rest) else Cz u
def C25(b:Int)(c:By)(v4:Int)(a:List Nat):C2:=⟨if ltN b 4 then b.toNat else 4,c,v4.toNat,a⟩
def mkU(f g:By)(b:Int)(c:By)(v4:Int)(a:List Nat)(d:Int)(e:By):X1:=⟨f,g,C25 b c v4 a,d,e⟩
def smU(c d a b:By):Bool:=x8 c.length 100000000&&x8 d.length 100000000&&x8 a.length 100000000&&x8 b.length 100000000
def eqH(a b:C2):Bool:=a.kind==b.kind&&a.name==b.name&&a.v4==b.v4&&a.v6==b.v6
def eqU(a b:X1):Bool:=a.sch==b.sch&&a.user==b.user&&eqH a.host b.host&&a.port==b.port&&a.rest==b.rest
def Fe(u:X1):Bool:=(D3 (Cz u)).2==0&&eqU (D3 (Cz u)).1 u
def prt(b:By)(a:Int):Int:=if a==-1 then V4 b else a
def GK:By->Int
 | s=>let rec go:Int->By->Int
   | n,[]=>n
   | n,b::r=>if 48<=b.toNat/\b.toNat<=57 then go (min (10*max n 0+((b.toNat-48:Nat):Int)) 65536) r else 0
  go (-1) s
def T8(s t:By):Nat:=(s.takeWhile λb=>!t.contains b).length
def Fb(s:By):By × By × Bool:=if (s9 s [58]).2.2&&Ae (s9 s [58]).1 then (C6 (s9 s [58]).1,(s9 s [58]).2.1,true) else ([],[],false)
def isl:By:=[47,63,35]
def DE(p:By):Bool:=p==isl
def OM(r:Int):Bool:=ltN r 55296||(ltI 57343 r&&ltN r 1114112)
def irn(r:Int):Int:=if r=47 then 0 else if r=63 then 1 else if r=35 then 2 else -1
abbrev uS(p:X1 × Nat):By:=p.1.sch
abbrev uU(p:X1 × Nat):By:=p.1.user
abbrev uK(p:X1 × Nat):Int:=p.1.host.kind
abbrev uN(p:X1 × Nat):By:=p.1.host.name
abbrev uV(p:X1 × Nat):Int:=p.1.host.v4
abbrev uA(p:X1 × Nat)(i:Nat):Int:=(p.1.host.v6.getD i 0:Nat)
abbrev uP(p:X1 × Nat):Int:=p.1.port
abbrev uR(p:X1 × Nat):By:=p.1.rest
abbrev uE(p:X1 × Nat):Int:=p.2
def OX(s:By):decide (0<V4 s)=D2 s:=by
 unfold V4 D2;cases (s==Pt||s==bWs) with
 | true=>rfl
 | false=>cases (s==Eg||s==BW)<;>rfl
def Dg9{s:By}(h:D2 s=true):s=Pt\/s=bWs\/s=Eg\/s=BW:=by simp only[D2,af8,beq_iff_eq] at h;rcases h with(h|h)|(h|h)<;>simp[h]
def Cc9{c:UInt8}:∀{s:By},c∉s->Im c s=none
 | [],_=>rfl
 | b::r,h=>by
  simp only[aa0,not_or] at h;rw[Im,ae (ah9 h.1),Cc9 h.2];rfl
def Ar1{c:UInt8}:∀{p:By} (r:By),c∉p->Im c (p++c::r)=some p.length
 | [],r,_=>by rw[x5,Im,ac rfl];rfl
 | b::p,r,h=>by
  simp only[aa0,not_or] at h;rw[ad5,Im,ae (ah9 h.1),Ar1 r h.2];rfl
def Tj{c:UInt8}:∀{s:By} {k:Nat},Im c s=some k->∃p r,s=p++c::r/\c∉p/\p.length=k
 | [],k,h=>by cases h
 | b::s,k,h=>by
  rw[Im] at h;split at h
  ·rename_i a;obtain rfl:=w9 h;exact⟨[],s,by rw[a];rfl,by simp,rfl⟩
  ·rename_i a;cases d:Im c s with
   | none=>rw[d] at h;cases h
   | some j=>
    rw[d] at h;obtain rfl:=w9 h;obtain⟨p,r,rfl,e,rfl⟩:=Tj d;exact⟨b::p,r,rfl,by simp only[aa0,not_or];exact⟨ah9 a,e⟩,rfl⟩
def Wj{c:UInt8}:∀{s:By},c∉s->M9 c s=-1
 | [],_=>rfl
 | b::r,h=>by
  simp only[aa0,not_or] at h;rw[M9,Wj h.2,ac (by decide),ae (ah9 h.1)]
def DI{c:UInt8}:∀(p:By) {r:By},c∉r->M9 c (p++c::r)=(p.length:Int)
 | [],r,h=>by rw[x5,M9,Wj h,ac (by decide),ac rfl];rfl
 | b::p,r,h=>by
  rw[ad5,M9,DI p h,I6,aa6];omega
def DJ{c:UInt8}:∀{s:By},c∈s->∃p r,s=p++c::r/\c∉r
 | [],h=>by cases h
 | b::s,h=>by
  by_cases a:c∈s
  ·obtain⟨p,r,rfl,d⟩:=DJ a;exact⟨b::p,r,rfl,d⟩
  ·simp only[aa0,a,or_false] at h;subst h;exact⟨[],s,rfl,a⟩
def MK{c:UInt8}{s:By}(h:0<=M9 c s):∃p r,s=p++c::r/\c∉r/\M9 c s=(p.length:Int):=by
 by_cases b:c∈s
 ·obtain⟨p,r,rfl,a⟩:=DJ b;exact⟨p,r,rfl,a,DI p a⟩
 ·rw[Wj b] at h;omega
def Bp8(s:By):∀b∈s.take (L6 s),Z9 b=false:=by
 intro b a;have h:s.take (L6 s)=s.takeWhile λb=>!Z9 b:=by
  unfold L6;exact(ac5.1 (List.takeWhile_prefix _)).symm
 rw[h] at a;have:∀l:By,b∈l.takeWhile (λb=>!Z9 b)->Z9 b=false:=by
  intro l
  induction l with
  | nil=>intro h;cases h
  | cons x l d=>
   intro h;rw[List.takeWhile_cons] at h;split at h
   ·rename_i c;rcases aa0.1 h with rfl|h
    ·simpa using c
    ·exact d h
   ·cases h
 exact this s a
def X8{b:UInt8}:R9 b=true↔(97<=b.toNat/\b.toNat<=122)\/(65<=b.toNat/\b.toNat<=90):=by simp[R9,af6]
def Di7{b:UInt8}:ctl b=true↔b.toNat<=32\/b.toNat=127:=by
 unfold ctl;rw[af8,af6,beq_iff_eq];have:b=127↔b.toNat=127:=⟨λh=>by rw[h];rfl,λh=>ai8.1 h⟩
 rw[this]
def Ka{b:UInt8}:Q7 b=true↔(97<=b.toNat/\b.toNat<=122)\/(65<=b.toNat/\b.toNat<=90)\/(48<=b.toNat/\b.toNat<=57)\/b=43\/b=45\/b=46:=by simp only[Q7,af8,X8,x6,af6,beq_iff_eq,or_assoc]
abbrev clU(a b:By)(k:Int)(n:By)(v c d e f g h i j p:Int)(r:By):List PV:=[.s (.str a),.s (.str b),.s (.int .i64 k),.s (.str n),.s (.int .u32 v),.s (.int .u16 c),.s (.int .u16 d),.s (.int .u16 e),.s (.int .u16 f),.s (.int .u16 g),.s (.int .u16 h),.s (.int .u16 i),.s (.int .u16 j),.s (.int .i64 p),.s (.str r)]
abbrev clH(k:Int)(n:By)(v c d e f g h i j:Int):List PV:=[.s (.int .i64 k),.s (.str n),.s (.int .u32 v),.s (.int .u16 c),.s (.int .u16 d),.s (.int .u16 e),.s (.int .u16 f),.s (.int .u16 g),.s (.int .u16 h),.s (.int .u16 i),.s (.int .u16 j)]
abbrev bU(a b:By)(k:Int)(n:By)(v c d e f g h i j p:Int)(r:By):Blk:=.box (clU a b k n v c d e f g h i j p r)
abbrev gU(a b:By)(k:Int)(n:By)(v c d e f g h i j p:Int)(r:By):PV:=.agg (clU a b k n v c d e f g h i j p r)
abbrev bH(k:Int)(n:By)(v c d e f g h i j:Int):Blk:=.box (clH k n v c d e f g h i j)
abbrev gH(k:Int)(n:By)(v c d e f g h i j:Int):PV:=.agg (clH k n v c d e f g h i j)
abbrev bCx(a b c d z t:Bool)(l:LL):Blk:=.box [.s (.bool a),.s (.bool b),.s (.bool c),.s (.bool d),.s (.sl z t 1 l)]
abbrev gCx(a b c d z t:Bool)(l:LL):PV:=.agg [.s (.bool a),.s (.bool b),.s (.bool c),.s (.bool d),.s (.sl z t 1 l)]
abbrev bU0:Blk:=bU [] [] 0 [] 0 0 0 0 0 0 0 0 0 0 []
abbrev bQ(p:X1 × Nat):Blk:=bU (uS p) (uU p) (uK p) (uN p) (uV p) (uA p 0) (uA p 1) (uA p 2) (uA p 3) (uA p 4) (uA p 5) (uA p 6) (uA p 7) (uP p) (uR p)
abbrev okQ(p:X1 × Nat):Bool:=ok8 (uA p 0) (uA p 1) (uA p 2) (uA p 3) (uA p 4) (uA p 5) (uA p 6) (uA p 7)
abbrev mkQ(b:By)(p:X1 × Nat)(a:Int):X1:=mkU b (uU p) (uK p) (uN p) (uV p) (n8 (uA p 0) (uA p 1) (uA p 2) (uA p 3) (uA p 4) (uA p 5) (uA p 6) (uA p 7)) a (uR p)
end
section
open Go Go.Proofs
section
def JY:List PV->Tr
 | [.s (.str s)]=>.ret (.s (.int .i64 (V4 s))) []
 | _=>.fail
def XI(args:List PV):Tr:=JY (D1 [[0]] args)
def JZ:List PV->Tr
 | [.s (.str s)]=>.ret (.s (.bool (D2 s))) []
 | _=>.fail
def Sf(args:List PV):Tr:=JZ (D1 [[0]] args)
def Eh0:List PV->Tr
 | [.agg [.s (.str a),.s (.str n),.s (.int .i64 j),.s (.str k),.s (.int .u32 v4),.s (.int .u16 b),.s (.int .u16 c),.s (.int .u16 d),.s (.int .u16 e),.s (.int .u16 f),.s (.int .u16 g),.s (.int .u16 h),.s (.int .u16 i),.s (.int .i64 l),.s (.str m)]]=>.ret (.s (.bool (Ee8 a))) []
 | _=>.fail
def XK:List PV->Tr
 | [.s (.str s)]=>.need (A2 (c9 s)) (.ret (.s (.bool (Ae s))) [])
 | _=>.fail
def Ct1(args:List PV):Tr:=XK (D1 [[0]] args)
def XH:List PV->Tr
 | [.s (.str s)]=>.need (A2 (c9 s)) (.ret (.tup [.s (.int .i64 (GK s)),.s (.bool (o0 (Kv ((-1):Int) s)))]) [])
 | _=>.fail
def Ct0(args:List PV):Tr:=XH (D1 [[0]] args)
def BP:List PV->Tr
 | [.agg [.s (.str c),.s (.str e),.s (.int .i64 n),.s (.str o),.s (.int .u32 v4),.s (.int .u16 f),.s (.int .u16 g),.s (.int .u16 h),.s (.int .u16 i),.s (.int .u16 j),.s (.int .u16 k),.s (.int .u16 l),.s (.int .u16 m),.s (.int .i64 d),.s (.str b)],.s (.str a)]=>.need (A2 (c9 c)) (.need (A2 (c9 b)) (.need (A2 (c9 a)) (.need (w6 e) (.need (d==((-1):Int)) (.ret (.tup [.agg [.s (.str (uS (I9 c b a))),.s (.str (uU (I9 c b a))),.s (.int .i64 (uK (I9 c b a))),.s (.str (uN (I9 c b a))),.s (.int .u32 (uV (I9 c b a))),.s (.int .u16 (uA (I9 c b a) 0)),.s (.int .u16 (uA (I9 c b a) 1)),.s (.int .u16 (uA (I9 c b a) 2)),.s (.int .u16 (uA (I9 c b a) 3)),.s (.int .u16 (uA (I9 c b a) 4)),.s (.int .u16 (uA (I9 c b a) 5)),.s (.int .u16 (uA (I9 c b a) 6)),.s (.int .u16 (uA (I9 c b a) 7)),.s (.int .i64 (uP (I9 c b a))),.s (.str (uR (I9 c b a)))],.s (.int .i64 (uE (I9 c b a)))]) [])))))
 | _=>.fail
def Aj6(args:List PV):Tr:=BP (D1 [[0,0,0,0,0,0,0,0,0,0,0,0,0,0,0],[0]] args)
def XJ:List PV->Tr
 | [.s (.str s)]=>.need (A2 (c9 s)) (.ret (.tup [.agg [.s (.str (uS (D3 s))),.s (.str (uU (D3 s))),.s (.int .i64 (uK (D3 s))),.s (.str (uN (D3 s))),.s (.int .u32 (uV (D3 s))),.s (.int .u16 (uA (D3 s) 0)),.s (.int .u16 (uA (D3 s) 1)),.s (.int .u16 (uA (D3 s) 2)),.s (.int .u16 (uA (D3 s) 3)),.s (.int .u16 (uA (D3 s) 4)),.s (.int .u16 (uA (D3 s) 5)),.s (.int .u16 (uA (D3 s) 6)),.s (.int .u16 (uA (D3 s) 7)),.s (.int .i64 (uP (D3 s))),.s (.str (uR (D3 s)))],.s (.int .i64 (uE (D3 s)))]) [])
 | _=>.fail
def A69(args:List PV):Tr:=XJ (D1 [[0]] args)
def BO:List PV->Tr
 | [.s (.str s)]=>.need (A2 (c9 s)) (.ret (.tup [.agg [.s (.str (uS (C1 s))),.s (.str (uU (C1 s))),.s (.int .i64 (uK (C1 s))),.s (.str (uN (C1 s))),.s (.int .u32 (uV (C1 s))),.s (.int .u16 (uA (C1 s) 0)),.s (.int .u16 (uA (C1 s) 1)),.s (.int .u16 (uA (C1 s) 2)),.s (.int .u16 (uA (C1 s) 3)),.s (.int .u16 (uA (C1 s) 4)),.s (.int .u16 (uA (C1 s) 5)),.s (.int .u16 (uA (C1 s) 6)),.s (.int .u16 (uA (C1 s) 7)),.s (.int .i64 (uP (C1 s))),.s (.str (uR (C1 s)))],.s (.int .i64 (uE (C1 s)))]) [])
 | _=>.fail
def JX(args:List PV):Tr:=BO (D1 [[0]] args)
def KA:List PV->Tr
 | [.agg [.s (.str l),.s (.str m),.s (.int .i64 n),.s (.str i),.s (.int .u32 v4),.s (.int .u16 a),.s (.int .u16 b),.s (.int .u16 c),.s (.int .u16 d),.s (.int .u16 e),.s (.int .u16 f),.s (.int .u16 g),.s (.int .u16 h),.s (.int .i64 j),.s (.str k)]]=>.need (smU l m i k) (.need (ltN v4 4294967296) (.need (ok8 a b c d e f g h) (.need (Eb j) (.ret (.s (.str (Cz (mkU l m n i v4 (n8 a b c d e f g h) j k)))) []))))
 | _=>.fail
def Bw9(args:List PV):Tr:=KA (D1 [[0,0,0,0,0,0,0,0,0,0,0,0,0,0,0]] args)
def Vt:List PV->Tr
 | [.agg [.s (.str l),.s (.str m),.s (.int .i64 n),.s (.str i),.s (.int .u32 v4),.s (.int .u16 a),.s (.int .u16 b),.s (.int .u16 c),.s (.int .u16 d),.s (.int .u16 e),.s (.int .u16 f),.s (.int .u16 g),.s (.int .u16 h),.s (.int .i64 j),.s (.str k)]]=>.need (smU l m i k) (.need (ltN v4 4294967296) (.need (ok8 a b c d e f g h) (.need (Eb j) (.ret (.s (.bool (Fe (mkU l m n i v4 (n8 a b c d e f g h) j k)))) []))))
 | _=>.fail
def QL(args:List PV):Tr:=Vt (D1 [[0,0,0,0,0,0,0,0,0,0,0,0,0,0,0]] args)
def BH:List PV->Tr
 | [.s (.str s)]=>.ret (.s (.bool (D2 s))) []
 | _=>.fail
def Xl(args:List PV):Tr:=BH (D1 [[0]] args)
def JM:List PV->Tr
 | [.s (.str s)]=>.ret (.s (.int .i64 (V4 s))) []
 | _=>.fail
def Bw6(args:List PV):Tr:=JM (D1 [[0]] args)
def JJ:List PV->Tr
 | [.s (.str s),.s (.str t)]=>.need (A2 (c9 s)) (.need (A2 (c9 t)) (.ret (.s (.int .i64 (↑(T8 s t):Int))) []))
 | _=>.fail
def Bw4(args:List PV):Tr:=JJ (D1 [[0],[0]] args)
def JL:List PV->Tr
 | [.s (.str s)]=>.need (A2 (c9 s)) (.ret (.tup [.s (.str ((Fb s)).1),.s (.str (((Fb s)).2).1),.s (.bool (((Fb s)).2).2)]) [])
 | _=>.fail
def Bw5(args:List PV):Tr:=JL (D1 [[0]] args)
def JK:List PV->Tr
 | [.s (.str s)]=>.need (A2 (c9 s)) (.ret (.tup [.agg [.s (.str (uS (D3 s))),.s (.str (uU (D3 s))),.s (.int .i64 (uK (D3 s))),.s (.str (uN (D3 s))),.s (.int .u32 (uV (D3 s))),.s (.int .u16 (uA (D3 s) 0)),.s (.int .u16 (uA (D3 s) 1)),.s (.int .u16 (uA (D3 s) 2)),.s (.int .u16 (uA (D3 s) 3)),.s (.int .u16 (uA (D3 s) 4)),.s (.int .u16 (uA (D3 s) 5)),.s (.int .u16 (uA (D3 s) 6)),.s (.int .u16 (uA (D3 s) 7)),.s (.int .i64 (uP (D3 s))),.s (.str (uR (D3 s)))],.s (.int .i64 (uE (D3 s)))]) [])
 | _=>.fail
def WS(args:List PV):Tr:=JK (D1 [[0]] args)
def Vp:List PV->Tr
 | [.s (.str s)]=>.need (A2 (c9 s)) (.ret (.tup [.agg [.s (.str (uS (C1 s))),.s (.str (uU (C1 s))),.s (.int .i64 (uK (C1 s))),.s (.str (uN (C1 s))),.s (.int .u32 (uV (C1 s))),.s (.int .u16 (uA (C1 s) 0)),.s (.int .u16 (uA (C1 s) 1)),.s (.int .u16 (uA (C1 s) 2)),.s (.int .u16 (uA (C1 s) 3)),.s (.int .u16 (uA (C1 s) 4)),.s (.int .u16 (uA (C1 s) 5)),.s (.int .u16 (uA (C1 s) 6)),.s (.int .u16 (uA (C1 s) 7)),.s (.int .i64 (uP (C1 s))),.s (.str (uR (C1 s)))],.s (.int .i64 (uE (C1 s)))]) [])
 | _=>.fail
def QI(args:List PV):Tr:=Vp (D1 [[0]] args)
def BI:List PV->Tr
 | [.agg [.s (.str l),.s (.str m),.s (.int .i64 n),.s (.str i),.s (.int .u32 v4),.s (.int .u16 a),.s (.int .u16 b),.s (.int .u16 c),.s (.int .u16 d),.s (.int .u16 e),.s (.int .u16 f),.s (.int .u16 g),.s (.int .u16 h),.s (.int .i64 j),.s (.str k)]]=>.need (smU l m i k) (.need (ltN v4 4294967296) (.need (ok8 a b c d e f g h) (.need (Eb j) (.ret (.s (.str (Ji (mkU l m n i v4 (n8 a b c d e f g h) j k)))) []))))
 | _=>.fail
def Aj1(args:List PV):Tr:=BI (D1 [[0,0,0,0,0,0,0,0,0,0,0,0,0,0,0]] args)
def Qq:List PV->Tr
 | [.agg [.s (.str l),.s (.str m),.s (.int .i64 n),.s (.str i),.s (.int .u32 v4),.s (.int .u16 a),.s (.int .u16 b),.s (.int .u16 c),.s (.int .u16 d),.s (.int .u16 e),.s (.int .u16 f),.s (.int .u16 g),.s (.int .u16 h),.s (.int .i64 j),.s (.str k)]]=>.need (smU l m i k) (.need (ltN v4 4294967296) (.need (ok8 a b c d e f g h) (.need (Eb j) (.ret (.s (.bool (Fe (mkU l m n i v4 (n8 a b c d e f g h) j k)))) []))))
 | _=>.fail
def JN(args:List PV):Tr:=Qq (D1 [[0,0,0,0,0,0,0,0,0,0,0,0,0,0,0]] args)
def Ai2:List PV->Tr
 | [.s (.int .i64 n)]=>.need (ltN n 9223372036854775808) (.ret (.s (.str (o9 (j4 n)))) [])
 | _=>.fail
def HX(args:List PV):Tr:=Ai2 (D1 [[0]] args)
def IF:List PV->Tr
 | [.s (.int .i64 n)]=>.need (Eb n) (.ret (.s (.str (Mh n))) [])
 | _=>.fail
def Bu7(args:List PV):Tr:=IF (D1 [[0]] args)
def JQ:List PV->Tr
 | [.s (.str s),.s (.int .u8 c)]=>.need (A2 (c9 s)) (.need (inR c 256) (.ret (.s (.int .i64 (ab9 s (u8n c)))) []))
 | _=>.fail
def Xm(args:List PV):Tr:=JQ (D1 [[0],[0]] args)
def IL:List PV->Tr
 | [.s (.str s),.s (.str p)]=>.need (A2 (c9 s)) (.ret (.s (.str (Ie s p))) [])
 | _=>.fail
def Bv0(args:List PV):Tr:=IL (D1 [[0],[0]] args)
def XG:List PV->Tr
 | [.s (.str s),.s (.str p)]=>.need (A2 (c9 s)) (.ret (.s (.str (Ie s p))) [])
 | _=>.fail
def Cs8(args:List PV):Tr:=XG (D1 [[0],[0]] args)
def Aj2:List PV->Tr
 | [.s (.str s),.s (.str p)]=>.need (A2 (c9 s)) (.need (DE p) (.ret (.s (.int .i64 (af4 s p))) []))
 | _=>.fail
def XC(args:List PV):Tr:=Aj2 (D1 [[0],[0]] args)
def Sc:List PV->Tr
 | [.s (.str s),.s (.str p)]=>.need (A2 (c9 s)) (.need (DE p) (.need (x8 9 (c9 s)) (.ret (.s (.int .i64 (af4 s p))) [])))
 | _=>.fail
def Aj3(args:List PV):Tr:=Sc (D1 [[0],[0]] args)
def Sd:List PV->Tr
 | [.s (.str s),.s (.str p)]=>.need (DE p) (.need (x8 (c9 s) 8) (.ret (.s (.int .i64 (af4 s p))) []))
 | _=>.fail
def Aj4(args:List PV):Tr:=Sd (D1 [[0],[0]] args)
def Vq:List PV->Tr
 | [.s (.int .i64 n)]=>.ret (.s (.bool (ltI (8:Int) n))) []
 | _=>.fail
def BL(args:List PV):Tr:=Vq (D1 [[0]] args)
def BK:List PV->Tr
 | [.s (.str p),.s (.int .i32 r)]=>.need (DE p) (.need (ltN r 1114112) (.ret (.s (.int .i64 (irn r))) []))
 | _=>.fail
def JR(args:List PV):Tr:=BK (D1 [[0],[0]] args)
def QJ:List PV->Tr
 | [.s (.str s)]=>.fail
 | _=>.fail
def Qr(args:List PV):Tr:=QJ (D1 [[0]] args)
def BS:List PV->Tr
 | [.s (.int .i32 r)]=>.ret (.s (.bool (OM r))) []
 | _=>.fail
def KB(args:List PV):Tr:=BS (D1 [[0]] args)
end
section
variable {W R : Type} (L : Nat) (Q : G1) (Y : Yh W) (s : W) (k : Out -> St W -> Option R)
noncomputable def Bz2(L:Nat):=mkC L 133 [] [(3,[4]),(2,[4]),(1,[0,0,5]),(0,[0,0])] [] [4] [(92,VO)] [92]
def B37(L:Nat)(b a:By)(d:By->Option R):Option R:=cond (A2 b.length) (cond (p7 a b) (cond (J5 (a.length:Int) (b.length:Int) b.length) (vl (cut b (a.length:Int) (b.length:Int)) λc=>d c) none) (d b)) none
def C21(d:Nat)(s0 prefix1):evC (Bz2 L) (d+1) W Y 133 [pS s0,pS prefix1] [] s=B37 L s0 prefix1 (λa=>some (pS a,[],s)):=evT Tryz.f133 λQ=>by
 unfold B37;kernel_rfl
noncomputable def Cx6(L:Nat):=mkC L 96 [] [(1,[4]),(0,[0,0])] [] [4] [(133,Bv0)] [133]
def Dv7(L:Nat)(b a:By)(c:By->Option R):Option R:=cond (A2 b.length) (c (Ie b a)) none
def Dv8(d:Nat)(s0 prefix1):evC (Cx6 L) (d+1) W Y 96 [pS s0,pS prefix1] [] s=Dv7 L s0 prefix1 (λa=>some (pS a,[],s)):=evT Tryz.f96 λQ=>by
 unfold Dv7;kernel_rfl
noncomputable def B06(L:Nat):=mkC L 29 [] [(8,[2]),(4,[2]),(7,[2]),(6,[7]),(5,[3,3]),(3,[3,0]),(2,[3,0]),(1,[3]),(0,[0])] [(0,[])] [2]
def B70(L:Nat)(a:By)(b:Int->Option R):Option R:=cond (a==[104,116,116,112]) (cond (a==[104,116,116,112]) (b 80) (cond (a==[104,116,116,112,115]) (cond (a==[104,116,116,112,115]) (b 443) (b (-1))) (cond (a==[119,115,115]) (b 443) (b (-1))))) (cond (a==[119,115]) (b 80) (cond (a==[104,116,116,112,115]) (cond (a==[104,116,116,112,115]) (b 443) (b (-1))) (cond (a==[119,115,115]) (b 443) (b (-1)))))
def Da9(d:Nat)(scheme0):evC (B06 L) (d+1) W Y 29 [pS scheme0] [] s=B70 L scheme0 (λa=>some (pI a,[],s)):=evT Tryz.f29 λQ=>by
 unfold B70;kernel_rfl
noncomputable def B07(L:Nat):=mkC L 13 [] [(1,[2]),(0,[0])] [] [2] [(29,XI)] [29]
def B72(L:Nat)(a:By)(b:Bool->Option R):Option R:=b (ltI 0 (V4 a))
def Db1(d:Nat)(scheme0):evC (B07 L) (d+1) W Y 13 [pS scheme0] [] s=B72 L scheme0 (λa=>some (pB a,[],s)):=evT Tryz.f13 λQ=>by
 unfold B72;kernel_rfl
noncomputable abbrev Cu9:Code:=D7 am5
noncomputable def CQ(L:Nat):=mkC L 46 [(2,[0,1,4,0])] [(9,[2]),(8,[0,6,0]),(7,[2]),(6,[0,6,0,29]),(5,[0,2,0,0,1,0]),(4,[0,2,0,2,0]),(3,[0,2,3,0]),(2,[0,6,0,0]),(1,[0,6,0]),(0,[0])] [(0,[0]),(1,[0,6,0])] [2] [(86,Xm)] [86]
def B71(d:By)(a c:Int)(b:By->Int->Int->Option R):Option R:=b d c a
abbrev Kdg(R:Type):=By->Int->Int->Bool->Option R
def Pq(h:By)(c d:Int)(a:Bool)(g:Int)(e:Unit->Option R)(f:Kdg R):Option R:=cond (not a) (cond (c==0) (e ()) (cond (inR d 256) (vl (ab9 ([48,49,50,51,52,53,54,55,56,57,43,45,46]:By) (u8n d)) λb=>cond (ltI b 0) (e ()) (f h g c (ltI b 0))) none)) (f h g c false)
def P8(L n:Nat)(b:By)(e a:Int)(c:Unit->Option R)(d:By->Option R):Option R:=match n with|0=>none|n+1=>cond (ltI a e) (cond (inR a b.length) (cond (not (ltI (bAt b a) (97:Int))) (cond (not (ltI 122 (bAt b a))) (B71 b a e (λx r t=>P8 L n x r (A1 (t+1)) c d)) (cond (not (ltI (bAt b a) (65:Int))) (Pq b a (bAt b a) (not (ltI 90 (bAt b a))) e (λ_=>c ()) (λy u v D=>P8 L n y u (A1 (v+1)) c d)) (Pq b a (bAt b a) false e (λ_=>c ()) (λz w f A=>vl (A1 (f+1)) λg=>P8 L n z w g c d)))) (cond (not (ltI (bAt b a) (65:Int))) (Pq b a (bAt b a) (not (ltI 90 (bAt b a))) e (λ_=>c ()) (λp h i B=>vl (A1 (i+1)) λj=>P8 L n p h j c d)) (Pq b a (bAt b a) false e (λ_=>c ()) (λq l m C=>vl (A1 (m+1)) λo=>P8 L n q l o c d)))) none) (d b)
def Br9(n a n1 n2):D4 0 ((CQ L).keep 2) (bd (CQ L) Q Y (cd [1,0,1,0,0] Cu9)) n ⟨gp [(0,pS a),(6,pI n1),(0,pI n2)] 33,[],s⟩ k =
 P8 L n a n1 n2 (λ_=>k .ret ⟨gp [(2,pB false)] 39,[],s⟩) (λa=>k (.exit 0) ⟨gp [(0,pS a)] 41,[],s⟩):=by
 induction n generalizing a n1 n2 with
 | zero=>rfl
 | succ n b=>rw[P8];simp only[<-b];kernel_rfl
def Dw4(L:Nat)(c:By)(b:Bool->Option R):Option R:=P8 L L c (c.length:Int) 0 (λ_=>b false) (λa=>b (not (a==[])))
def Dw5(d:Nat)(s0):evC (CQ L) (d+1) W Y 46 [pS s0] [] s=Dw4 L s0 (λa=>some (pB a,[],s)):=evT am5 λQ=>by
 unfold Dw4;exact(o7 (by kernel_rfl) (ag (Br9 L Q Y s (F2 0 (F6 (CQ L) Q Y (cd [1,1] Cu9) (I8 (CQ L) am5))) L s0 (s0.length:Int) 0)))
noncomputable abbrev Cu7:Code:=D7 an2
noncomputable def CO(L:Nat):=mkC L 95 [(3,[0,1,0,0,2,0])] [(9,[2,0]),(8,[0,3,2,0]),(7,[0,3,2,0]),(6,[2,0]),(5,[0,3,0,1,0,11]),(4,[0,3,0,1,0]),(3,[0,3,2,0,0]),(2,[0,3,2,0]),(1,[0,3]),(0,[0])] [(0,[4]),(1,[0,3,2,0])] [2,0]
def Po(L n:Nat)(b:By)(h j a:Int)(d:Unit->Option R)(i:Int->Option R):Option R:=match n with|0=>none|n+1=>cond (ltI a j) (cond (inR a b.length) (cond (ltI (bAt b a) (48:Int)) (d ()) (cond (inR a b.length) (cond (ltI 57 (bAt b a)) (d ()) (vl (A1 ((10:Int)*(if ((0:Int) > h) then (0:Int) else h))) λe=>cond (inR a b.length) (vl (wu8 ((bAt b a)-48)) λf=>vl (A1 (e+(A1 f))) λc=>vl (if ((65536:Int)<c) then (65536:Int) else c) λg=>Po L n b g j (A1 (a+1)) d i) none)) none)) none) (i h)
def Br4(n s0 n1 n2 n3):D4 0 ((CO L).keep 3) (bd (CO L) Q Y (cd [1,1,0,1,0,0] Cu7)) n ⟨gp [(0,pS s0),(3,pI n1),(2,pI n2),(0,pI n3)] 26,[],s⟩ k =
 Po L n s0 n1 n2 n3 (λ_=>k .ret ⟨gp [(2,pI 0),(0,pB false)] 31,[],s⟩) (λn0=>k (.exit 0) ⟨gp [(4,pI n0)] 30,[],s⟩):=by
 induction n generalizing s0 n1 n2 n3 with
 | zero=>rfl
 | succ n a=>rw[Po];simp only[<-a];kernel_rfl
def Dw0(L:Nat)(c:By)(b:Int->Bool->Option R):Option R:=Po L L c (-1) (c.length:Int) 0 (λ_=>b 0 false) (λa=>b a (ltI a 65536))
def Dw1(d:Nat)(s0):evC (CO L) (d+1) W Y 95 [pS s0] [] s=Dw0 L s0 (λa b=>some (.tup [pI a,pB b],[],s)):=evT an2 λQ=>by
 unfold Dw0;exact(o7 (by kernel_rfl) (ag (Br4 L Q Y s (F2 0 (F6 (CO L) Q Y (cd [1,1,1] Cu7) (I8 (CO L) an2))) L s0 (-1) (s0.length:Int) 0)))
noncomputable def Am8(L:Nat):=mkC L 51 [] [(24,[4,0]),(23,[2,1]),(22,[2,1,8,71]),(21,[2,1,8]),(20,[4,0]),(19,[2,1,6,1,63]),(18,[2,1,6,1,0]),(17,[4,0]),(16,[2,1,3,2,0,54]),(15,[2,1,3,2,0]),(14,[4,0]),(13,[2,1,2,0,50]),(9,[2,1,2,0]),(8,[4,0]),(7,[1,0,1,4,23]),(6,[1,0,1,4]),(12,[2,1,2,0]),(11,[1,0,1,2,0,1,35]),(10,[1,0,1,2,0,1]),(5,[1,0,1,2,0,20]),(4,[1,0,1,2,0]),(3,[1,0,1]),(2,[1,0,1,1,11]),(1,[1,0,1,1]),(0,[1,0,1])] [] [4,0] [(93,GP),(50,IB),(86,Xm),(94,Ai4),(96,Cs8),(95,Ct0),(29,XI)] [93,50,86,96,95,29]
abbrev Kbb(R:Type):=Int->Blk->By->By->Int->By->Int->Int->Int->Int->Int->Int->Int->Int->Int->Int->By->(List Blk)->Option R
def Da(d e g h:By)(r:Int)(v:By)(t p u i j l m n o f:Int)(c:By)(q:Kbb R):Option R:=cond (A2 d.length) (vl (E2 d) λa=>cond ((↑(a).2:Int)!=0) (q (↑(a).2:Int) (bU g h r v t p u i j l m n o f c) ([]:By) ([]:By) 0 ([]:By) 0 0 0 0 0 0 0 0 0 0 ([]:By) [(bH (↑(C2.kind (a).1):Int) (C2.name (a).1) (↑(C2.v4 (a).1):Int) (↑(j0 (C2.v6 (a).1) 0 0):Int) (↑(j0 (C2.v6 (a).1) 1 0):Int) (↑(j0 (C2.v6 (a).1) 2 0):Int) (↑(j0 (C2.v6 (a).1) 3 0):Int) (↑(j0 (C2.v6 (a).1) 4 0):Int) (↑(j0 (C2.v6 (a).1) 5 0):Int) (↑(j0 (C2.v6 (a).1) 6 0):Int) (↑(j0 (C2.v6 (a).1) 7 0):Int))]) (cond (A2 e.length) (vl (Ie e ([58]:By)) λb=>cond (A2 b.length) (cond (not (o0 (Kv ((-1):Int) b))) (q 16 (bU g h r v t p u i j l m n o f c) ([]:By) ([]:By) 0 ([]:By) 0 0 0 0 0 0 0 0 0 0 ([]:By) [(bH (↑(C2.kind (a).1):Int) (C2.name (a).1) (↑(C2.v4 (a).1):Int) (↑(j0 (C2.v6 (a).1) 0 0):Int) (↑(j0 (C2.v6 (a).1) 1 0):Int) (↑(j0 (C2.v6 (a).1) 2 0):Int) (↑(j0 (C2.v6 (a).1) 3 0):Int) (↑(j0 (C2.v6 (a).1) 4 0):Int) (↑(j0 (C2.v6 (a).1) 5 0):Int) (↑(j0 (C2.v6 (a).1) 6 0):Int) (↑(j0 (C2.v6 (a).1) 7 0):Int))]) (cond ((GK b)!=(V4 g)) (q 0 (bU g h (↑(C2.kind (a).1):Int) (C2.name (a).1) (↑(C2.v4 (a).1):Int) (↑(j0 (C2.v6 (a).1) 0 0):Int) (↑(j0 (C2.v6 (a).1) 1 0):Int) (↑(j0 (C2.v6 (a).1) 2 0):Int) (↑(j0 (C2.v6 (a).1) 3 0):Int) (↑(j0 (C2.v6 (a).1) 4 0):Int) (↑(j0 (C2.v6 (a).1) 5 0):Int) (↑(j0 (C2.v6 (a).1) 6 0):Int) (↑(j0 (C2.v6 (a).1) 7 0):Int) (GK b) c) g h (↑(C2.kind (a).1):Int) (C2.name (a).1) (↑(C2.v4 (a).1):Int) (↑(j0 (C2.v6 (a).1) 0 0):Int) (↑(j0 (C2.v6 (a).1) 1 0):Int) (↑(j0 (C2.v6 (a).1) 2 0):Int) (↑(j0 (C2.v6 (a).1) 3 0):Int) (↑(j0 (C2.v6 (a).1) 4 0):Int) (↑(j0 (C2.v6 (a).1) 5 0):Int) (↑(j0 (C2.v6 (a).1) 6 0):Int) (↑(j0 (C2.v6 (a).1) 7 0):Int) (GK b) c [(bH (↑(C2.kind (a).1):Int) (C2.name (a).1) (↑(C2.v4 (a).1):Int) (↑(j0 (C2.v6 (a).1) 0 0):Int) (↑(j0 (C2.v6 (a).1) 1 0):Int) (↑(j0 (C2.v6 (a).1) 2 0):Int) (↑(j0 (C2.v6 (a).1) 3 0):Int) (↑(j0 (C2.v6 (a).1) 4 0):Int) (↑(j0 (C2.v6 (a).1) 5 0):Int) (↑(j0 (C2.v6 (a).1) 6 0):Int) (↑(j0 (C2.v6 (a).1) 7 0):Int))]) (q 0 (bU g h (↑(C2.kind (a).1):Int) (C2.name (a).1) (↑(C2.v4 (a).1):Int) (↑(j0 (C2.v6 (a).1) 0 0):Int) (↑(j0 (C2.v6 (a).1) 1 0):Int) (↑(j0 (C2.v6 (a).1) 2 0):Int) (↑(j0 (C2.v6 (a).1) 3 0):Int) (↑(j0 (C2.v6 (a).1) 4 0):Int) (↑(j0 (C2.v6 (a).1) 5 0):Int) (↑(j0 (C2.v6 (a).1) 6 0):Int) (↑(j0 (C2.v6 (a).1) 7 0):Int) f c) g h (↑(C2.kind (a).1):Int) (C2.name (a).1) (↑(C2.v4 (a).1):Int) (↑(j0 (C2.v6 (a).1) 0 0):Int) (↑(j0 (C2.v6 (a).1) 1 0):Int) (↑(j0 (C2.v6 (a).1) 2 0):Int) (↑(j0 (C2.v6 (a).1) 3 0):Int) (↑(j0 (C2.v6 (a).1) 4 0):Int) (↑(j0 (C2.v6 (a).1) 5 0):Int) (↑(j0 (C2.v6 (a).1) 6 0):Int) (↑(j0 (C2.v6 (a).1) 7 0):Int) f c [(bH (↑(C2.kind (a).1):Int) (C2.name (a).1) (↑(C2.v4 (a).1):Int) (↑(j0 (C2.v6 (a).1) 0 0):Int) (↑(j0 (C2.v6 (a).1) 1 0):Int) (↑(j0 (C2.v6 (a).1) 2 0):Int) (↑(j0 (C2.v6 (a).1) 3 0):Int) (↑(j0 (C2.v6 (a).1) 4 0):Int) (↑(j0 (C2.v6 (a).1) 5 0):Int) (↑(j0 (C2.v6 (a).1) 6 0):Int) (↑(j0 (C2.v6 (a).1) 7 0):Int))]))) none) none)) none
def W8(b a s2 s3:By)(n4:Int)(s5:By)(n6 n7 i n9 c d e f g h:Int)(j:By)(k0:Kbb R):Option R:=cond (not (a==[])) (cond (inR 0 a.length) (cond ((bAt a (0:Int))!=58) (k0 4 (bU s2 s3 n4 s5 n6 n7 i n9 c d e f g h j) ([]:By) ([]:By) 0 ([]:By) 0 0 0 0 0 0 0 0 0 0 ([]:By) []) (Da b a s2 s3 n4 s5 n6 n7 i n9 c d e f g h j (λp l S T q U r t u v w x y z A B V n=>k0 p l S T q U r t u v w x y z A B V n))) none) (Da b a s2 s3 n4 s5 n6 n7 i n9 c d e f g h j (λC m X Z D a0 F G H I J K M N O P a1 o=>k0 C m X Z D a0 F G H I J K M N O P a1 o))
def UE(a J K:By)(G:Int)(M:By)(H C I v w x y z A B:Int)(D:By)(F:Kbb R):Option R:=Da a ([]:By) J K G M H C I v w x y z A B D (λd b q r e t f g h i j l m n o p u c=>F d b q r e t f g h i j l m n o p u c)
abbrev Kaj(R:Type):=By->By->Int->By->Int->Int->Int->Int->Int->Int->Int->Int->Int->Int->By->Int->(List Blk)->Option R
def ED(L:Nat)(u0 u1:By)(u2:Int)(u3:By)(u4 u5 u6 u7 u8 u9 e f g h:Int)(i a:By)(k0:Kaj R):Option R:=cond (A2 a.length) (vl (M9 (u8n (64:Int)) a) λc2=>cond (not (ltI c2 0)) (cond (J5 0 c2 a.length) (vl (cut a 0 c2) λe5=>cond (J5 (A1 (c2+1)) (a.length:Int) a.length) (vl (cut a (A1 (c2+1)) (a.length:Int)) λb=>cond (A2 b.length) (cond (p7 ([91]:By) b) (cond (A2 b.length) (vl (ab9 b (u8n (93:Int))) λJ=>cond (ltI J 0) (k0 ([]:By) ([]:By) 0 ([]:By) 0 0 0 0 0 0 0 0 0 0 ([]:By) 4 [(bU u0 e5 u2 u3 u4 u5 u6 u7 u8 u9 e f g h i),bU0]) (vl (A1 (J+1)) λe6=>cond (J5 0 e6 b.length) (vl (A1 (J+1)) λe7=>cond (J5 e7 (b.length:Int) b.length) (vl (cut b e7 (b.length:Int)) λi3=>W8 (cut b 0 e6) i3 u0 e5 u2 u3 u4 u5 u6 u7 u8 u9 e f g h i (λi2 i1 g1 g2 f0 g3 f1 f2 f3 f4 f5 f6 f7 f8 f9 g0 g4 h0=>k0 g1 g2 f0 g3 f1 f2 f3 f4 f5 f6 f7 f8 f9 g0 g4 i2 (i1::((bU g1 g2 f0 g3 f1 f2 f3 f4 f5 f6 f7 f8 f9 g0 g4)::h0)))) none) none)) none) (cond (A2 b.length) (vl (ab9 b (u8n (58:Int))) λc=>cond (not (ltI c 0)) (cond (J5 0 c b.length) (cond (J5 c (b.length:Int) b.length) (vl (cut b c (b.length:Int)) λi4=>W8 (cut b 0 c) i4 u0 e5 u2 u3 u4 u5 u6 u7 u8 u9 e f g h i (λh6 g5 c3 c4 j c5 l m n o p q r t u v c6 h1=>k0 c3 c4 j c5 l m n o p q r t u v c6 h6 (g5::((bU c3 c4 j c5 l m n o p q r t u v c6)::h1)))) none) none) (UE b u0 e5 u2 u3 u4 u5 u6 u7 u8 u9 e f g h i (λh7 g6 c7 c8 w d0 x y z A B C D F G H d1 h2=>k0 c7 c8 w d0 x y z A B C D F G H d1 h7 (g6::((bU c7 c8 w d0 x y z A B C D F G H d1)::h2))))) none)) none) none) none) (cond (A2 a.length) (cond (p7 ([91]:By) a) (cond (A2 a.length) (vl (ab9 a (u8n (93:Int))) λc1=>cond (ltI c1 0) (k0 ([]:By) ([]:By) 0 ([]:By) 0 0 0 0 0 0 0 0 0 0 ([]:By) 4 [(bU u0 u1 u2 u3 u4 u5 u6 u7 u8 u9 e f g h i),bU0]) (vl (A1 (c1+1)) λe8=>cond (J5 0 e8 a.length) (vl (cut a 0 e8) λi5=>vl (A1 (c1+1)) λe9=>cond (J5 e9 (a.length:Int) a.length) (vl (cut a e9 (a.length:Int)) λi6=>W8 i5 i6 u0 u1 u2 u3 u4 u5 u6 u7 u8 u9 e f g h i (λh8 g7 d2 d3 I d4 K M N O P S T U V X d5 h3=>k0 d2 d3 I d4 K M N O P S T U V X d5 h8 (g7::((bU d2 d3 I d4 K M N O P S T U V X d5)::h3)))) none) none)) none) (cond (A2 a.length) (vl (ab9 a (u8n (58:Int))) λd=>cond (not (ltI d 0)) (cond (J5 0 d a.length) (vl (cut a 0 d) λi7=>cond (J5 d (a.length:Int) a.length) (vl (cut a d (a.length:Int)) λi9=>W8 i7 i9 u0 u1 u2 u3 u4 u5 u6 u7 u8 u9 e f g h i (λh9 g8 d6 d7 Z d8 a0 a1 a2 a3 a4 a5 a6 a7 a8 a9 d9 h4=>k0 d6 d7 Z d8 a0 a1 a2 a3 a4 a5 a6 a7 a8 a9 d9 h9 (g8::((bU d6 d7 Z d8 a0 a1 a2 a3 a4 a5 a6 a7 a8 a9 d9)::h4)))) none) none) (UE a u0 u1 u2 u3 u4 u5 u6 u7 u8 u9 e f g h i (λi0 g9 e1 e2 b0 e3 b1 b2 b3 b4 b5 b6 b7 b8 b9 c0 e4 h5=>k0 e1 e2 b0 e3 b1 b2 b3 b4 b5 b6 b7 b8 b9 c0 e4 i0 (g9::((bU e1 e2 b0 e3 b1 b2 b3 b4 b5 b6 b7 b8 b9 c0 e4)::h5))))) none)) none)) none
def Co3(d:Nat)(u0 u1 u2 u3 u4 u5 u6 u7 u8 u9 u10 u11 u12 u13 u14 authority15):evC (Am8 L) (d+1) W Y 51 [(gU u0 u1 u2 u3 u4 u5 u6 u7 u8 u9 u10 u11 u12 u13 u14),pS authority15] [] s=ED L u0 u1 u2 u3 u4 u5 u6 u7 u8 u9 u10 u11 u12 u13 u14 authority15 (λi j l m n o p q r8 r b c e f g h a=>some (.tup [(gU i j l m n o p q r8 r b c e f g),pI h],a,s)):=evT Tryz.f51 λQ=>by
 unfold ED;kernel_rfl
noncomputable abbrev Cu8:Code:=D7 am3
noncomputable def CP(L:Nat):=mkC L 27 [(2,[0,1,0,8,0])] [(23,[2,0]),(22,[2,5,0]),(21,[2,5,0,65]),(20,[2,5,0]),(19,[2,3,1,0]),(18,[2,3,1,0,0,52]),(17,[2,3,1,0,0]),(16,[2,3,1,0]),(15,[2,0]),(14,[2,3,1,48]),(13,[2,3,0,0]),(12,[2,0]),(11,[2,3,1,40]),(10,[2,3,1]),(9,[2,0]),(8,[2,2,0,33]),(7,[2,2,0,0]),(6,[0,1,9,0]),(5,[2,0]),(4,[0,1,9,0,11]),(3,[0,1,1,7,0]),(2,[0,1,9,0,0]),(1,[0,1,9,0]),(0,[0,1])] [(0,[0,1]),(1,[0,1,9,0])] [2,0] [(45,A68),(46,Ct1),(47,II),(13,Sf),(48,A50),(49,XC),(50,IB),(51,Aj6)] [45,46,47,13,48,49,50]
def Kg(L n:Nat)(b:By)(e a:Int)(c:(List Blk)->Option R)(d:By->Option R):Option R:=match n with|0=>none|n+1=>cond (ltI a e) (cond (inR a b.length) (cond (not (ltI 32 (bAt b a))) (c []) (cond (inR a b.length) (cond ((bAt b a)==127) (c []) (Kg L n b e (A1 (a+1)) c d)) none)) none) (d b)
def Br8(n a n1 n2):D4 1 ((CP L).keep 2) (bd (CP L) Q Y (cd [1,0,1,0,0] Cu8)) n ⟨gp [(0,pS a),(1,.ptr 0 0 0),(9,pI n1),(0,pI n2)] 71,[bU0],s⟩ k =
 Kg L n a n1 n2 (λb=>k .ret ⟨gp [(2,.ptr 0 0 0),(0,pI 4)] 81,(bU0::b),s⟩) (λa=>k (.exit 0) ⟨gp [(0,pS a),(1,.ptr 0 0 0)] 82,[bU0],s⟩):=by
 induction n generalizing a n1 n2 with
 | zero=>rfl
 | succ n c=>rw[Kg];simp only[<-c];kernel_rfl
def PZ(L:Nat)(q:By)(n:Kaj R):Option R:=Kg L L q (q.length:Int) 0 (λp=>n ([]:By) ([]:By) 0 ([]:By) 0 0 0 0 0 0 0 0 0 0 ([]:By) 4 (bU0::p)) (λo=>cond (A2 o.length) (vl ((s9 o ([58]:By))).1 λf=>vl (((s9 o ([58]:By))).2).1 λj=>cond (not (((s9 o ([58]:By))).2).2) (n ([]:By) ([]:By) 0 ([]:By) 0 0 0 0 0 0 0 0 0 0 ([]:By) 15 [bU0]) (cond (A2 f.length) (cond (not (Ae f)) (n ([]:By) ([]:By) 0 ([]:By) 0 0 0 0 0 0 0 0 0 0 ([]:By) 15 [bU0]) (cond (A2 f.length) (cond (not (D2 (C6 f))) (n (C6 f) ([]:By) 0 ([]:By) 0 0 0 0 0 0 0 0 0 (-1) j 0 [(bU (C6 f) ([]:By) (0:Int) ([]:By) (0:Int) (0:Int) (0:Int) (0:Int) (0:Int) (0:Int) (0:Int) (0:Int) (0:Int) ((-1):Int) j),(bU (C6 f) ([]:By) (0:Int) ([]:By) (0:Int) (0:Int) (0:Int) (0:Int) (0:Int) (0:Int) (0:Int) (0:Int) (0:Int) ((-1):Int) j)]) (cond (A2 j.length) (vl (Ie j ([47,47]:By)) λe=>cond (not (p7 ([47,47]:By) j)) (n ([]:By) ([]:By) 0 ([]:By) 0 0 0 0 0 0 0 0 0 0 ([]:By) 4 [bU0,(bU (C6 f) ([]:By) (0:Int) ([]:By) (0:Int) (0:Int) (0:Int) (0:Int) (0:Int) (0:Int) (0:Int) (0:Int) (0:Int) ((-1):Int) j)]) (cond (A2 e.length) (cond (DE ([47,63,35]:By)) (vl (af4 e ([47,63,35]:By)) λi=>cond (not (ltI i 0)) (cond (J5 0 i e.length) (cond (J5 (↑(c9 (cut e 0 i)):Int) (e.length:Int) e.length) (vl (cut e (↑(c9 (cut e 0 i)):Int) (e.length:Int)) λg=>cond (A2 g.length) (cond (not (p7 ([47]:By) g)) (cond (F7 1 g.length) (vl (([47]:By)++g) λl=>cond (A2 (c9 (C6 f))) (cond (A2 l.length) (cond (A2 (c9 (cut e 0 i))) (cond (((-1):Int)==((-1):Int)) (vl (I9 (C6 f) l (cut e 0 i)) λa=>n (uS a) (uU a) (uK a) (uN a) (uV a) (uA a 0) (uA a 1) (uA a 2) (uA a 3) (uA a 4) (uA a 5) (uA a 6) (uA a 7) (uP a) (uR a) (uE a) [(bQ a),(bU (C6 f) ([]:By) (0:Int) ([]:By) (0:Int) (0:Int) (0:Int) (0:Int) (0:Int) (0:Int) (0:Int) (0:Int) (0:Int) ((-1):Int) l)]) none) none) none) none) none) (cond (A2 (c9 (C6 f))) (cond (A2 g.length) (cond (A2 (c9 (cut e 0 i))) (cond (((-1):Int)==((-1):Int)) (vl (I9 (C6 f) g (cut e 0 i)) λb=>n (uS b) (uU b) (uK b) (uN b) (uV b) (uA b 0) (uA b 1) (uA b 2) (uA b 3) (uA b 4) (uA b 5) (uA b 6) (uA b 7) (uP b) (uR b) (uE b) [(bQ b),(bU (C6 f) ([]:By) (0:Int) ([]:By) (0:Int) (0:Int) (0:Int) (0:Int) (0:Int) (0:Int) (0:Int) (0:Int) (0:Int) ((-1):Int) g)]) none) none) none) none)) none) none) none) (cond (J5 (e.length:Int) (e.length:Int) e.length) (vl (cut e (e.length:Int) (e.length:Int)) λh=>cond (A2 h.length) (cond (not (p7 ([47]:By) h)) (cond (F7 1 h.length) (vl (([47]:By)++h) λm=>cond (A2 (c9 (C6 f))) (cond (A2 m.length) (cond (A2 e.length) (cond (((-1):Int)==((-1):Int)) (vl (I9 (C6 f) m e) λc=>n (uS c) (uU c) (uK c) (uN c) (uV c) (uA c 0) (uA c 1) (uA c 2) (uA c 3) (uA c 4) (uA c 5) (uA c 6) (uA c 7) (uP c) (uR c) (uE c) [(bQ c),(bU (C6 f) ([]:By) (0:Int) ([]:By) (0:Int) (0:Int) (0:Int) (0:Int) (0:Int) (0:Int) (0:Int) (0:Int) (0:Int) ((-1):Int) m)]) none) none) none) none) none) (cond (A2 (c9 (C6 f))) (cond (A2 h.length) (cond (A2 e.length) (cond (((-1):Int)==((-1):Int)) (vl (I9 (C6 f) h e) λd=>n (uS d) (uU d) (uK d) (uN d) (uV d) (uA d 0) (uA d 1) (uA d 2) (uA d 3) (uA d 4) (uA d 5) (uA d 6) (uA d 7) (uP d) (uR d) (uE d) [(bQ d),(bU (C6 f) ([]:By) (0:Int) ([]:By) (0:Int) (0:Int) (0:Int) (0:Int) (0:Int) (0:Int) (0:Int) (0:Int) (0:Int) ((-1):Int) h)]) none) none) none) none)) none) none)) none) none)) none)) none)) none)) none)
def Dw2(d:Nat)(s0):evC (CP L) (d+1) W Y 27 [pS s0] [] s=PZ L s0 (λi j l m n o p q r8 r b c e f g h a=>some (.tup [(gU i j l m n o p q r8 r b c e f g),pI h],a,s)):=evT am3 λQ=>by
 unfold PZ;exact(o7 (by kernel_rfl) (ag (Br8 L Q Y s (F2 0 (F6 (CP L) Q Y (cd [1,1] Cu8) (I8 (CP L) am3))) L s0 (s0.length:Int) 0)))
noncomputable def Am7(L:Nat):=mkC L 11 [] [(3,[2,0]),(2,[2,0]),(1,[0,1,3]),(0,[0,1])] [] [2,0] [(27,A69)]
def Ag5(L:Nat)(b:By)(c:Kaj R):Option R:=cond (ltI 2048 (b.length:Int)) (c ([]:By) ([]:By) 0 ([]:By) 0 0 0 0 0 0 0 0 0 0 ([]:By) 3 [bU0]) (cond (A2 b.length) (vl (D3 b) λa=>c (uS a) (uU a) (uK a) (uN a) (uV a) (uA a 0) (uA a 1) (uA a 2) (uA a 3) (uA a 4) (uA a 5) (uA a 6) (uA a 7) (uP a) (uR a) (uE a) [(bQ a)]) none)
def Co1(d:Nat)(s0):evC (Am7 L) (d+1) W Y 11 [pS s0] [] s=Ag5 L s0 (λi j l m n o p q r8 r b c e f g h a=>some (.tup [(gU i j l m n o p q r8 r b c e f g),pI h],a,s)):=evT Tryz.f11 λQ=>by
 unfold Ag5;kernel_rfl
noncomputable def B08(L:Nat):=mkC L 55 [] [(9,[2]),(8,[1,1]),(7,[1,1,28]),(6,[1,1]),(5,[1,1]),(4,[1,1,15]),(3,[1,1]),(2,[2]),(1,[1,5]),(0,[1])] [] [2] [(13,Sf),(15,IA),(57,Bu7)] [13,15,57]
def Vf(L:Nat)(l t:By)(u:Int)(m:By)(n o p q u8 r e f g b:Int)(a:By)(v:By->(List Blk)->Option R):Option R:=cond (not (D2 l)) (cond (F7 l.length 1) (vl (l++[58]) λw=>cond (F7 w.length a.length) (v (w++a) [(bU l t u m n o p q u8 r e f g b a)]) none) none) (cond (F7 l.length 3) (vl (l++[58,47,47]) λc=>cond (not (t==[])) (cond (F7 t.length 1) (vl (t++[64]) λh=>cond (F7 c.length h.length) (cond (A2 m.length) (cond (ltN n 4294967296) (cond (ok8 o p q u8 r e f g) (vl (Y7 (mkH u m n (n8 o p q u8 r e f g))) λj=>cond (F7 (c9 (c++h)) j.length) (cond (b !=((-1):Int)) (cond (Eb b) (cond (F7 1 (c9 (Mh b))) (vl (([58]:By)++(Mh b)) λz=>cond (F7 (c9 ((c++h)++j)) z.length) (vl (((c++h)++j)++z) λA=>cond (F7 A.length a.length) (v (A++a) [(bU l t u m n o p q u8 r e f g b a)]) none) none) none) none) (cond (F7 (c9 ((c++h)++j)) a.length) (vl (((c++h)++j)++a) λx=>v x [(bU l t u m n o p q u8 r e f g b a)]) none)) none) none) none) none) none) none) (cond (A2 m.length) (cond (ltN n 4294967296) (cond (ok8 o p q u8 r e f g) (vl (Y7 (mkH u m n (n8 o p q u8 r e f g))) λd=>cond (F7 c.length d.length) (cond (b !=((-1):Int)) (cond (Eb b) (cond (F7 1 (c9 (Mh b))) (vl (([58]:By)++(Mh b)) λi=>cond (F7 (c9 (c++d)) i.length) (cond (F7 (c9 ((c++d)++i)) a.length) (vl (((c++d)++i)++a) λy=>v y [(bU l t u m n o p q u8 r e f g b a)]) none) none) none) none) (cond (F7 (c9 (c++d)) a.length) (v ((c++d)++a) [(bU l t u m n o p q u8 r e f g b a)]) none)) none) none) none) none)) none)
def Db2(d:Nat)(u0 u1 u2 u3 u4 u5 u6 u7 u8 u9 u10 u11 u12 u13 u14):evC (B08 L) (d+1) W Y 55 [(gU u0 u1 u2 u3 u4 u5 u6 u7 u8 u9 u10 u11 u12 u13 u14)] [] s=Vf L u0 u1 u2 u3 u4 u5 u6 u7 u8 u9 u10 u11 u12 u13 u14 (λb a=>some (pS b,a,s)):=evT Tryz.f55 λQ=>by
 unfold Vf;kernel_rfl
noncomputable def RF(L:Nat):=mkC L 30 [] [(2,[2]),(1,[1,1,0]),(0,[1])] [] [2] [(55,Bw9),(27,A69)] [55]
def HS(L:Nat)(h i:By)(q:Int)(j:By)(l m n o u8 p b c d e:Int)(f:By)(r:Bool->(List Blk)->Option R):Option R:=cond (smU h i j f) (cond (ltN l 4294967296) (cond (ok8 m n o u8 p b c d) (cond (Eb e) (vl (Cz (mkU h i q j l (n8 m n o u8 p b c d) e f)) λg=>cond (A2 g.length) (vl (D3 g) λa=>cond ((uE a)==0) (r ((h==(uS a))&&((i==(uU a))&&((q==(uK a))&&((j==(uN a))&&((l==(uV a))&&((m==(uA a 0))&&((n==(uA a 1))&&((o==(uA a 2))&&((u8==(uA a 3))&&((p==(uA a 4))&&((b==(uA a 5))&&((c==(uA a 6))&&((d==(uA a 7))&&((e==(uP a))&&((f==(uR a))&&true))))))))))))))) [(bU h i q j l m n o u8 p b c d e f),(bQ a)]) (r false [(bU h i q j l m n o u8 p b c d e f),(bQ a)])) none) none) none) none) none
def Bs1(d:Nat)(u0 u1 u2 u3 u4 u5 u6 u7 u8 u9 u10 u11 u12 u13 u14):evC (RF L) (d+1) W Y 30 [(gU u0 u1 u2 u3 u4 u5 u6 u7 u8 u9 u10 u11 u12 u13 u14)] [] s=HS L u0 u1 u2 u3 u4 u5 u6 u7 u8 u9 u10 u11 u12 u13 u14 (λb a=>some (pB b,a,s)):=evT Tryz.f30 λQ=>by
 unfold HS;kernel_rfl
end
end
end Go.Proofs.YteickfjoihhgkaaGreatDoor.E
