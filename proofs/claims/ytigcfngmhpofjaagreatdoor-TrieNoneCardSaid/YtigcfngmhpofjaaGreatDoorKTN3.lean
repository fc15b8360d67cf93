/-
  Parts of the proof, merged by a program of the prover's own; no condition.
-/
import Derived.Test.YtigcfngmhpofjaaGreatDoorKTN2
import Derived.Deep.Draws
import Derived.JoinedCond
import Derived.KernelRfl
import Derived.LaidMore
import Derived.LaidSub
import Derived.Laws.RangeString
import Derived.Lay
import Derived.Lib.IndexMore
import Derived.Lib.ItoaNum
import Derived.Lib.Join
import Derived.Lib.JoinLaws
import Derived.Lib.LaidTab
import Derived.Lib.LaidU8
import Derived.Lib.LastIndexLaws
import Derived.Lib.RuneCount
import Derived.Lib.TrailingZeros
import Derived.Lib.TrimAscii
import Derived.Lib.ValidU
import Derived.OpenShut
import Derived.ProofKit
import Derived.RangeFuncLeaves
import Derived.RangeFuncNested
import Derived.Shelf.SlSortCmp.Insertion
import Derived.Shelf.Vars
import Derived.Sort.AssemblyPlain
import Derived.Sort.Grow
import Derived.Test.YtigcfngmhpofjaaGreatDoorChecked
import Derived.Test.YtigcfngmhpofjaaGreatDoorProg
import Derived.Test.YtigcfngmhpofjaaGreatDoorRows
import Derived.WalkKit
open List renaming getElem?_eq_getElem->a7,length->b7,replicate->j1,getD_eq_getElem?_getD->j2,getElem_mem->j6,isPrefixOf->k9,all_eq_true->o7,getD->o8,getElem?_eq_none->p4,length_map->p6,mem_append->p7,mem_cons->p9,getElem_map->r9,getD_cons_zero->s7,drop_of_length_le->u3,isEmpty->u4,pairwise_cons->u5,drop_zero->u9,isPrefixOf_iff_prefix->v7,cons_append->v8,getElem?_map->x5,take_of_length_le->x6,eq_nil_iff_forall_not_mem->x7,length_cons->x8,drop_append_of_le_length->y7,map->y8,append_nil->aa0,length_pos_iff->aa2,takeWhile_cons->aa3,count_eq_zero->aa6,length_append->aa7,getElem_append_left->ab3,prefix_iff_eq_take->ab7,map_map->ac1,nodup_cons->ac2,cons_lt_cons_iff->ac5,contains_iff_mem->ac6,dropLast_eq_take->ac7,length_singleton->ac8,mem_cons_of_mem->ad1,mem_of_mem_drop->ad2,set->ad3,getD_cons_succ->ad5,getElem?_range->ad6,replicate_succ->ad7,map_cons->ad9,count_cons->af5,length_nil->af6,map_append->af7,drop_drop->ag0,mapM_cons->ag1,range->ag2,take_add->ah1,all_map->ah3,mem_map->ah4,all->ai1,map_id->ai2,not_lt->ai3
open Option.some renaming injEq->a8,inj->o9
open Option renaming bind_some->b8,bind_none->b9,isSome->o0,map_some->aa1,isSome_iff_exists->ab4
open Go.Proofs.Tryz renaming prog->c9,checked->ae6,f128->ae9,f43->ag6,f48->ag7,f60->ag8,f97->ag9,f24->ai7,f42->ai8,f90->ai9
open Int renaming toNat->h9,toNat_natCast->j7,eq_ofNat_of_zero_le->j8,tdiv->u6,natCast_mul->af4
open Bool renaming not_false->j0,not_true->j3,and_eq_true->j4,false_eq_true->u0,false_or->ab1,true_and->ad8,eq_false_iff->ae1,eq_iff_iff->af2
open Eq renaming trans->j5
open Go.IntKind renaming wrap->j9,signed->x4,bits->aa4
open Nat renaming le_refl->o3,lt_of_lt_of_le->o6,ble->s6,eq_of_beq_eq_true->u7,beq->w5,mod_eq_of_lt->w6,le_of_not_lt->ab8,div_le_self->ac3,blt->ae4,zero_le->af1,ble_eq->ag3,blt_eq->ag4,mul_le_mul->ag5,zero_add->ah5,zero_mul->ah6
open Prod.mk renaming injEq->o5
open UInt8 renaming ofNat->p5,toNat->aj0
open Array renaming getElem?_eq_some_iff->s5,replicate->z7,getElem?_eq_none->ab9,extract_size->ae0
open Go.Proofs renaming ltOf->s8
open Go.World renaming putObj_heap_other->s9,laidAll->w9,alloc_heap_new->y9,cells?_some->ae7,cell?->aj1
open Go.Value renaming okWide->w8,int->x9
open Go.DataW renaming trod->x3,TrodAll->y5,Whole->ai0
open Go.Fence renaming wide->aa5
open Classical renaming byContradiction->aa8,choose->ab5,choose_spec->ac4
open Go.MakeChecks renaming laidMetH_plain->aa9
open Go.Oper renaming uponIn_enter->ab0
open Go.Lib renaming decDigits->ab2,index->ab6,VarReads->ac0,acceptData->ac9,join->ad0,firstTab->ae2,occAt->ae8,tabData->af0,index_spec->af9
open Go.Result renaming andThen->ad4
open Go.Lib.laidMet renaming reads->ae3
open Go.Sem renaming run_bind->ae5
open Go.Ending renaming returned->af3
open Go.Code renaming rangeFunc->af8
open Go.Instr renaming loadAt->ah2
open Ne renaming symm->ah7
open BEq renaming comm->ah9
open Prod renaming fst->ai6
namespace Go.Proofs.YtigcfngmhpofjaaGreatDoor.E
set_option linter.all false
section
open Go
section
variable {Y R S : Type} (C : Cfg) (g : R -> Option S)
theorem B9(c:Bool)(k:Option R):(need c k).bind g=need c (k.bind g):=by cases c<;>rfl
theorem B5(b:Bool)(k:Bool->Option R):(Aa b k).bind g=Aa b λt=>(k t).bind g:=by cases b<;>rfl
theorem C3(b:Bool)(x y:Option R):(cond b x y).bind g=cond b (x.bind g) (y.bind g):=by cases b<;>rfl
theorem D0(p:Prop)[Decidable p](x y:Option R):(if p then x else y).bind g=if p then x.bind g else y.bind g:=by split<;>rfl
theorem B6:∀(t:Tr) (k:PV->List Blk->Option R),(Ac t k).bind g=Ac t λv H=>(k v H).bind g
 | .ret v H,k=>rfl
 | .need c t,k=>by cases c;rfl;exact B6 t k
 | .split c a b,k=>by cases c;exact B6 b k;exact B6 a k
 | .fail,_=>rfl
theorem Wo(op:BinOp)(t:Nat)(x y:PV)(H:List Blk)(k:PV->Option R):(RP C op t x y H k).bind g=RP C op t x y H λv=>(k v).bind g:=by unfold RP;((try dsimp only);(repeat' (first|rfl|split|(simp only[B9,B5,C3,D0,B6,b9,b8]))))
theorem IE(op:UnOp)(x:PV)(k:PV->Option R):(unK op x k).bind g=unK op x λv=>(k v).bind g:=by unfold unK;((try dsimp only);(repeat' (first|rfl|split|(simp only[B9,B5,C3,D0,B6,b9,b8]))))
theorem Tt(t:TI)(a:PV)(H:List Blk)(k:PV->Option R):(Iw t a H k).bind g=Iw t a H λv=>(k v).bind g:=by unfold Iw;((try dsimp only);(repeat' (first|rfl|split|(simp only[B9,B5,C3,D0,B6,b9,b8]))))
theorem Qb(f:Nat->Nat × Nat)(t:TI)(a v:PV)(H:List Blk)(k:List Blk->Option R):(Ka f t a v H k).bind g=Ka f t a v H λv=>(k v).bind g:=by unfold Ka;((try dsimp only);(repeat' (first|rfl|split|(simp only[B9,B5,C3,D0,B6,b9,b8]))))
theorem Ft(t:Nat)(x i:PV)(H:List Blk)(k:PV->Option R):(X2 C t x i H k).bind g=X2 C t x i H λv=>(k v).bind g:=by unfold X2;((try dsimp only);(repeat' (first|rfl|split|(simp only[B9,B5,C3,D0,B6,b9,b8]))))
theorem Pl(t:Nat)(x i:PV)(k:PV->Option R):(Oe C t x i k).bind g=Oe C t x i λv=>(k v).bind g:=by unfold Oe;((try dsimp only);(repeat' (first|rfl|split|(simp only[B9,B5,C3,D0,B6,b9,b8]))))
theorem HO(t:Nat)(x:PV)(b a c:Option PV)(H:List Blk)(k:PV->Option R):(Ov C t x b a c H k).bind g=Ov C t x b a c H λv=>(k v).bind g:=by unfold Ov;((try dsimp only);(repeat' (first|rfl|split|(simp only[B9,B5,C3,D0,B6,b9,b8]))))
theorem Vb(b n:Nat)(c a d:Option PV)(k:PV->Option R):(Bd b n c a d k).bind g=Bd b n c a d λv=>(k v).bind g:=by unfold Bd;((try dsimp only);(repeat' (first|rfl|split|(simp only[B9,B5,C3,D0,B6,b9,b8]))))
theorem Zz(t:Nat)(sl:List PV)(s x:PV)(H:List Blk)(k:PV->List PV->List Blk->Option R):(Ae C t sl s x H k).bind g=Ae C t sl s x H λv a b=>(k v a b).bind g:=by unfold Ae;((try dsimp only);(repeat' (first|rfl|split|(simp only[B9,B5,C3,D0,B6,b9,b8]))))
theorem KB(t:Nat)(d x:PV)(H:List Blk)(k:PV->List Blk->Option R):(Wq C t d x H k).bind g=Wq C t d x H λv a=>(k v a).bind g:=by unfold Wq;((try dsimp only);(repeat' (first|rfl|split|(simp only[B9,B5,C3,D0,B6,b9,b8]))))
theorem KA(b a:Nat)(x:PV)(H:List Blk)(k:PV->Option R):(Wp C b a x H k).bind g=Wp C b a x H λv=>(k v).bind g:=by unfold Wp;((try dsimp only);(repeat' (first|rfl|split|(simp only[B9,B5,C3,D0,B6,b9,b8]))))
theorem DV(b a:Nat)(x:PV)(k:PV->Option R):(No C b a x k).bind g=No C b a x λv=>(k v).bind g:=by unfold No;((try dsimp only);(repeat' (first|rfl|split|(simp only[B9,B5,C3,D0,B6,b9,b8]))))
theorem SW(x:PV)(t:Nat)(H:List Blk)(k:PV->Option R):(SU C x t H k).bind g=SU C x t H λv=>(k v).bind g:=by unfold SU;((try dsimp only);(repeat' (first|rfl|split|(simp only[B9,B5,C3,D0,B6,b9,b8]))))
theorem Oz(t:Nat)(parts:List (Nat × PV))(k:PV->Option R):(Nn C t parts k).bind g=Nn C t parts λv=>(k v).bind g:=by unfold Nn;((try dsimp only);(repeat' (first|rfl|split|(simp only[B9,B5,C3,D0,B6,b9,b8]))))
theorem Dn(t len:Nat)(parts:List (Nat × PV))(H:List Blk)(k:PV->List Blk->Option R):(S7 C t len parts H k).bind g=S7 C t len parts H λv a=>(k v a).bind g:=by unfold S7;((try dsimp only);(repeat' (first|rfl|split|(simp only[B9,B5,C3,D0,B6,b9,b8]))))
theorem Fw(t:Nat)(l c:PV)(H:List Blk)(k:PV->List Blk->Option R):(X4 C t l c H k).bind g=X4 C t l c H λv a=>(k v a).bind g:=by unfold X4;((try dsimp only);(repeat' (first|rfl|split|(simp only[B9,B5,C3,D0,B6,b9,b8]))))
theorem Li(a:Bool)(l:List PV)(k:PV->Option R):(Fa a l k).bind g=Fa a l λv=>(k v).bind g:=by unfold Fa;((try dsimp only);(repeat' (first|rfl|split|(simp only[B9,B5,C3,D0,B6,b9,b8]))))
theorem Fs(t:Nat)(x:PV)(f:Nat)(k:PV->Option R):(W8 C t x f k).bind g=W8 C t x f λv=>(k v).bind g:=by unfold W8;((try dsimp only);(repeat' (first|rfl|split|(simp only[B9,B5,C3,D0,B6,b9,b8]))))
theorem Pk(t:Nat)(x:PV)(f:Nat)(k:PV->Option R):(Nz C t x f k).bind g=Nz C t x f λv=>(k v).bind g:=by unfold Nz;((try dsimp only);(repeat' (first|rfl|split|(simp only[B9,B5,C3,D0,B6,b9,b8]))))
theorem Qg(t len:Nat)(parts:List (Nat × PV))(k:PV->Option R):(W4 C t len parts k).bind g=W4 C t len parts λv=>(k v).bind g:=by unfold W4;((try dsimp only);(repeat' (first|rfl|split|(simp only[B9,B5,C3,D0,B6,b9,b8]))))
theorem Vq(t:Nat)(H:List Blk)(k:PV->List Blk->Option R):(Dw C t H k).bind g=Dw C t H λv a=>(k v a).bind g:=by unfold Dw;((try dsimp only);(repeat' (first|rfl|split|(simp only[B9,B5,C3,D0,B6,b9,b8]))))
theorem BB(t:Nat)(x i:PV)(ok:Bool)(H:List Blk)(k:PV->Option R):(Hw C t x i ok H k).bind g=Hw C t x i ok H λv=>(k v).bind g:=by
 unfold Hw
 repeat' (first|rfl|split|(rw[B9];done)|(rw[B5];congr 1;funext b;rw[C3,B9];done))
theorem BF(t:Nat)(m x v:PV)(H:List Blk)(k:List Blk->Option R):(Hy C t m x v H k).bind g=Hy C t m x v H λa=>(k a).bind g:=by unfold Hy;((try dsimp only);(repeat' (first|rfl|split|(simp only[B9,B5,C3,D0,B6,b9,b8]))))
theorem BE(t:Nat)(m x:PV)(H:List Blk)(k:List Blk->Option R):(Hx C t m x H k).bind g=Hx C t m x H λa=>(k a).bind g:=by unfold Hx;((try dsimp only);(repeat' (first|rfl|split|(simp only[B9,B5,C3,D0,B6,b9,b8]))))
theorem EC(t:Nat)(x:PV)(H:List Blk)(k:List Blk->Option R):(Nt C t x H k).bind g=Nt C t x H λa=>(k a).bind g:=by unfold Nt;((try dsimp only);(repeat' (first|rfl|split|(simp only[B9,B5,C3,D0,B6,b9,b8]))))
theorem Vi(b:Builtin)(c:List Nat)(args:List PV)(a:St Y)(k:PV->St Y->Option R):(Y8 C b c args a k).bind g=Y8 C b c args a λv s=>(k v s).bind g:=by
 unfold Y8;split
 ·rw[SW]
 ·split
  ·rw[Zz]
  ·rfl
 ·rw[KB]
 ·rw[Li]
 ·rw[Li]
 ·rw[EC]
 ·rw[BE]
 ·rfl
theorem Nm(e:Nat)(cells:List PV)(H:List Blk)(k:PV->List Blk->Option R):(Qf C e cells H k).bind g=Qf C e cells H λv a=>(k v a).bind g:=by unfold Qf;((try dsimp only);(repeat' (first|rfl|split|(simp only[B9,B5,C3,D0,B6,b9,b8]))))
theorem So(a:C9)(c:Yh Y)(f:Nat)(args:List PV)(b:St Y)(k:PV->St Y->Option R):(Km C a c f args b k).bind g=Km C a c f args b λv s=>(k v s).bind g:=by
 unfold Km;split
 ·split
  ·rw[B6]
   congr 1;funext v H;rw[B9]
  ·rfl
 ·((try dsimp only);(repeat' (first|rfl|split|(simp only[B9,B5,C3,D0,B6,b9,b8]))))
theorem ZP(x:Option (Bool × Y))(k:Bool->Y->Option R):(ydK x k).bind g=ydK x λb s=>(k b s).bind g:=by unfold ydK;((try dsimp only);(repeat' (first|rfl|split|(simp only[B9,B5,C3,D0,B6,b9,b8]))))
theorem JZ(a:C9)(c:Yh Y)(f:PV)(args:List PV)(b:St Y)(k:PV->St Y->Option R):(Pc C a c f args b k).bind g=Pc C a c f args b λv s=>(k v s).bind g:=by
 unfold Pc;split
 ·rw[So]
 ·rw[So]
 ·split
  ·rw[ZP]
  ·rfl
 ·rfl
theorem FP(a:C9)(c:Yh Y)(o:Oper)(b:St Y)(k:St Y->Option R):(opK C a c o b k).bind g=opK C a c o b λs=>(k s).bind g:=by
 unfold opK;dsimp only;split<;>(first|rfl|(simp only[Nm,Oz,Dn,Tt,Qb,Wo,IE,Fw,Fs,Pk,Ft,Pl,Vq,BB,BF,C3,Qg];done)|skip)
 all_goals ((try dsimp only);(repeat' (first|rfl|split|(simp only[B9,B5,C3,D0,B6,b9,b8]))));all_goals (first|rfl|skip);all_goals (simp only[Vi,JZ,Nm,Oz,Dn,Tt,Qb,Wo,IE,Fw,Fs,Pk,Ft,Pl,DV,KA,HO,Vb,B9,B5])
theorem Ie(e:C9)(f:Yh Y)(all:Array Oper):∀(l:List Oper) (d:St Y) (k:St Y->Option R),(Z9 C e f all l d k).bind g=Z9 C e f all l d λs=>(k s).bind g
 | [],d,k=>rfl
 | o::a,d,k=>by
  simp only[Z9];have c:=Ie e f all a;split
  ·rw[FP];congr 1;funext s;exact c s k
  ·split
   ·split
    ·rw[B5];congr 1;funext b;split
     ·rw[FP];congr 1;funext s;exact c s k
     ·exact c _ k
    ·exact c _ k
    ·rfl
   ·rfl
theorem UA(o:Oper)(sl:List PV)(k:Trn->Option R):(NU C o sl k).bind g=NU C o sl λv=>(k v).bind g:=by
 unfold NU
 repeat' (first|rfl|split|rw[B9])
theorem OT(d:Option Nat)(t:Trn)(a:St Y)(k:St Y->Option R):(Ja C d t a k).bind g=Ja C d t a λs=>(k s).bind g:=by
 unfold Ja;split
 ·rfl
 ·exact Nm C g _ _ _ _
theorem Ue(d:C9)(f:Yh Y)(all:Array Oper)(e:List Nat × List Nat)(c:List Blk):∀(p:Bool) (l:List Nat) (b:St Y) (k:St Y->Option R),(Lo C d f all e c p l b k).bind g=Lo C d f all e c p l b λs=>(k s).bind g
 | _,[],b,k=>rfl
 | p,i::a,b,k=>by
  simp only[Lo];rw[B9,Ie]
  congr 2;funext s
  exact Ue d f all e c _ a _ k
theorem Fb(a:C9)(c:Yh Y)(all:Array Oper)(e:Option (List Nat × List Nat))(d:List Blk)(p:Bool)(l:List Nat)(b:St Y)(k:St Y->Option R):(Dy C a c all e d p l b k).bind g=Dy C a c all e d p l b λs=>(k s).bind g:=by
 cases e with
 | none=>exact Ie C g a c all _ b k
 | some f=>exact Ue C g a c all f d p l b k
theorem Ug(e:C9)(h:Yh Y)(all:Array Oper)(f:Option (List Nat × List Nat))(c:List Blk)(d:Option Nat):∀(l:List Nat) (b:St Y) (k:St Y->Option R),(Fx C e h all f c d l b k).bind g=Fx C e h all f c d l b λs=>(k s).bind g
 | [],b,k=>rfl
 | i::a,b,k=>by
  simp only[Fx];rw[Fb]
  congr 1;funext s
  exact Ug e h all f c d a _ k
theorem TT(b:C9)(c:Yh Y)(id:Nat)(a:Array Oper)(d:Bool)(e:St Y)(k:St Y->Option R):(MY C b c id a d e k).bind g=MY C b c id a d e λs=>(k s).bind g:=by
 unfold MY;split
 ·split
  ·exact Fb C g b c a _ _ _ _ e k
  ·exact Ie C g b c a _ e k
 ·split
  ·rw[Fb];congr 1;funext s;rw[UA];congr 1;funext v;rw[Ug];congr 1;funext s2;rw[OT];congr 1;funext s3;exact Fb C g b c a _ _ _ _ _ k
  ·rfl
theorem Tv(L:Nat)(ds:Option (List Nat))(b:St Y->(Out->St Y->Option R)->Option R)(a:St Y->(Out->St Y->Option S)->Option S)(d:∀c k,(b c k).bind g=a c λo s=>(k o s).bind g):∀(n:Nat) (c:St Y) (k:Out->St Y->Option R),(E2 L ds b n c k).bind g=E2 L ds a n c λo s=>(k o s).bind g
 | 0,c,k=>rfl
 | n+1,c,k=>by
  simp only[E2];rw[d]
  congr 1;funext o s
  cases o with
  | normal=>exact Tv L ds b a d n _ k
  | exit id=>rfl
  | ret=>rfl
theorem Mb{ps:Array Tmp}{sl0:List PV}{aq bd:St Y->(Out->St Y->Option R)->Option R}{as' bd':St Y->(Out->St Y->Option S)->Option S}(b:∀a k,(aq a k).bind g=as' a λo s=>(k o s).bind g)(c:∀a k,(bd a k).bind g=bd' a λo s=>(k o s).bind g) :
  ∀(L:List (List PV)) (H:List Blk) (s:Y) (k:Option Out->List Blk->Y->Option R),(R0 ps sl0 aq bd L H s k).bind g=R0 ps sl0 as' bd' L H s λp H s=>(k p H s).bind g
 | [],H,s,k=>rfl
 | x::xs,H,s,k=>by
  simp only[R0];split
  ·rw[b]
   congr 1;funext o st1
   cases o with
   | normal=>
    dsimp only;rw[c]
    congr 1;funext o2 st2
    cases o2 with
    | normal=>exact Mb b c xs _ _ k
    | exit id=>rfl
    | ret=>rfl
   | exit id=>rfl
   | ret=>rfl
  ·rfl
theorem GB(b:C9)(f:PV)(c:St Y)(d:List PV->Yh (List Blk × Option Out × Y)){sR:List PV->List (List PV)->List Blk->Y->(Option Out->List Blk->Y->Option R)->Option R}{sR':List PV->List (List PV)->List Blk->Y->(Option Out->List Blk->Y->Option S)->Option S}
  (e:∀a L H s k,(sR a L H s k).bind g=sR' a L H s λp H s=>(k p H s).bind g) (k:Out->St Y->Option R):(Jw C b f c d sR k).bind g=Jw C b f c d sR' λo s=>(k o s).bind g:=by
 unfold Jw;split
 ·split
  ·unfold MQ;split
   ·split
    ·rw[B9,e];rfl
    ·rfl
   ·rfl
  ·unfold Lv;((try dsimp only);(repeat' (first|rfl|split|(simp only[B9,B5,C3,D0,B6,b9,b8]))))
 ·rfl
end
theorem Pi{q:Type}(C:Cfg)(h:C9)(n:Yh q):∀(c:Code) {R S:Type} (g:R->Option S) (e:St q) (k:Out->St q->Option R),(B2 C h n c e k).bind g=B2 C h n c e λo s=>(k o s).bind g:=by
 intro c
 induction c with
 | skip=>intros;rfl
 | label l=>intros;rfl
 | region id r d=>intro R S g e k;simp only[B2];rw[TT]
 | seq a b i m=>
  intro R S g e k;simp only[B2];rw[i]
  congr 1;funext o s
  cases o with
  | normal=>exact m g s k
  | exit id=>rfl
  | ret=>rfl
 | cond c a b i m=>
  intro R S g e k;simp only[B2];split
  ·rw[B5];congr 1;funext t;rw[C3,i,m]
  ·rfl
 | block id a p=>
  intro R S g e k;simp only[B2];rw[p]
  congr 1;funext o s
  cases o with
  | normal=>rfl
  | exit j=>dsimp only;split<;>rfl
  | ret=>rfl
 | loop a p=>
  intro R S g e k;simp only[B2];exact Tv g _ _ _ _ (λe k=>p g e k) _ _ _
 | scope a p=>intro R S g e k;simp only[B2];rw[p]
 | exit id=>intros;rfl
 | ret=>intros;rfl
 | rangeFunc f ps a b i m=>
  intro R S g e k;simp only[B2];exact GB C g h (opnd C e.sl f) e _ (sR:=λsl0=>R0 ps sl0 (λe k=>B2 C h n a e k) (λe k=>B2 C h n b e k)) (sR':=λsl0=>R0 ps sl0 (λe k=>B2 C h n a e k) (λe k=>B2 C h n b e k))
   (λsl0 L H s k=>Mb (ps:=ps) (sl0:=sl0) g (aq:=λe k=>B2 C h n a e k) (bd:=λe k=>B2 C h n b e k) (as':=λe k=>B2 C h n a e k) (bd':=λe k=>B2 C h n b e k) (λe k=>i g e k) (λe k=>m g e k) L H s k) k
 | _=>intros;rfl
theorem Tb{e R:Type}{C:Cfg}{a:C9}{d:Yh e}{c:Code}{b:St e}{k:Out->St e->Option R}{r:R}(h:B2 C a d c b k=some r):∃o s,B2 C a d c b (λo s=>some (o,s))=some (o,s)/\k o s=some r:=by
 have:=Pi C a d c (λp:Out × St e=>k p.1 p.2) b (λo s=>some (o,s));simp only[b8] at this;rw[<-this] at h;cases f:B2 C a d c b (λo s=>some (o,s)) with
 | none=>rw[f] at h;cases h
 | some p=>rw[f] at h;exact⟨p.1,p.2,rfl,h⟩
theorem Wv{a R:Type}{C:Cfg}{b:C9}{e:Yh a}{c:Code}{d:St a}{k:Out->St a->Option R}{o:Out}{s:St a}(h:B2 C b e c d (λo s=>some (o,s))=some (o,s)):B2 C b e c d k=k o s:=by have:=Pi C b e c (λp:Out × St a=>k p.1 p.2) d (λo s=>some (o,s));rw[h] at this;exact this.symm
def Ctx.hide(Γ:Ctx)(ns:List Nat):Ctx:={ Γ with nm:=λb=>if b∈ns then none else Γ.nm b }
def Ctx.reyv(Γ:Ctx)(y:Value)(hy:y.oneCell'=true):Ctx:={ Γ with yv:=y,yv1:=hy }
section
variable {X R : Type} {r : R} {C : Cfg} {I : X -> (Nat -> Prop) -> (Nat -> Prop) -> World -> Prop} {Γ Γ' : Ctx} {Z T : Nat -> Prop} {Y : St X} {a : Act} {w w' : World} {W : C9} {J : Yh X} {K : Value} {H H' : List Blk} {N : Array Value}
theorem Cx:∀{l:List PV},yfL l=true->∀v∈l,v.yf=true
 | [],_,v,b=>by simp at b
 | x::r,h,v,b=>by
  simp only[yfL,j4] at h;rcases p9.1 b with rfl|b
  ·exact h.1
  ·exact Cx h.2 v b
theorem VP.reyv{sh:Nat->Option Shp}{y:Value}{hy:y.oneCell'=true}{v:PV}{V:Value}(h:VP Γ sh w v V):v.yf=true->VP (Γ.reyv y hy) sh w v V:=by
 induction h with
 | s v V h=>intro _;exact .s v V h
 | nsl=>intro _;exact .nsl
 | flv b e sz h=>intro _;exact .flv b e sz h
 | fl b g v e sz n cap h hv hg hcap hm hs=>intro _;exact .fl b g v e sz n cap h hv hg hcap hm hs
 | vwv b e sz i h=>intro _;exact .vwv b e sz i h
 | vw b i n g a cap v e sz m h hv hg ha hi hcap hm=>intro _;exact .vw b i n g a cap v e sz m h hv hg ha hi hcap hm
 | ptrA b i off g v e sz n h hg=>intro _;exact .ptrA b i off g v e sz n h hg
 | ptrB b off g h hg=>intro _;exact .ptrB b off g h hg
 | fnr g x y A B As Bs hf hA hB ha hb hx hy ihx ihy=>
  intro hc;simp only[PV.yf,j4] at hc;exact .fnr g x y A B As Bs hf hA hB ha hb (λj h=>ihx j h (Cx hc.1 _ (j6 h))) (λj h=>ihy j h (Cx hc.2 _ (j6 h)))
 | it b g h hg=>intro _;exact .it b g h hg
 | mpv b g h hg=>intro _;exact .mpv b g h hg
 | yd=>intro h;simp[PV.yf] at h
 | agg l A As hA ha hl ih=>
  intro hc;simp only[PV.yf] at hc;exact .agg l A As hA ha (λj h=>ih j h (Cx hc _ (j6 h)))
 | tup l A As hA ha hl ih=>
  intro hc;simp only[PV.yf] at hc;exact .tup l A As hA ha (λj h=>ih j h (Cx hc _ (j6 h)))
 | bad V=>intro _;exact .bad V
mutual
theorem PV.yf_rn(f:Nat->Nat):∀v:PV,(v.rn f).yf=v.yf
 | .s _=>rfl
 | .nsl=>rfl
 | .fl b=>rfl
 | .vw b _ _=>rfl
 | .ptr b _ _=>rfl
 | .fnr _ x y=>by simp only[PV.rn,PV.yf,Kd f x,Kd f y]
 | .it b=>rfl
 | .yd=>rfl
 | .agg l=>by simp only[PV.rn,PV.yf,Kd f l]
 | .tup l=>by simp only[PV.rn,PV.yf,Kd f l]
 | .bad=>rfl
theorem Kd(f:Nat->Nat):∀l:List PV,yfL (rnL f l)=yfL l
 | []=>rfl
 | v::r=>by simp only[rnL,yfL,PV.yf_rn f v,Kd f r]
end
theorem YJ(f:PV->PV)(l:List (List UInt8 × PV)):(Vu f l).map Prod.snd=(l.map Prod.snd).map f:=by simp[Vu]
theorem Blk.yf_rn(f:Nat->Nat)(x:Blk):(x.rn f).yf=x.yf:=(by cases x with|mp ents=>simp only[Blk.rn,Blk.yf,YJ,<-Fi,Kd]|_=>simp[Blk.rn,Blk.yf,Kd])
theorem Ap4(a:Bool)(l:List SV):(svV a l).yf=true:=by
 cases a with
 | true=>
  simp only[svV,cond_true,PV.yf]
  induction l with
  | nil=>rfl
  | cons x l b=>exact b
 | false=>simp only[svV,cond_false];split<;>rfl
theorem BR.reyv{sh:Nat->Option Shp}{b:Nat}{x:Blk}{y:Value}{hy:y.oneCell'=true}(h:BR Γ sh w b x)(hx:x.yf=true):BR (Γ.reyv y hy) sh w b x:=by
 cases x with
 | arr v e sz els=>exact h
 | box cells=>
  simp only[Blk.yf] at hx;obtain⟨g,cur,e,h1,h2,h3,h4⟩:=h;refine⟨g,cur,e,h1,h2,h3,λj h=>?_⟩;obtain⟨V,e1,e2⟩:=h4 j h;exact⟨V,e1,e2.reyv (Cx hx _ (j6 h))⟩
 | iter s p=>exact h
 | mp ents=>
  simp only[Blk.yf] at hx;obtain⟨g,es,ck,h1,h2,h3⟩:=h;exact⟨g,es,ck,h1,h2,h3.imp λv hv V k=>k.reyv (Cx hx v hv)⟩
 | ms a ents=>
  obtain⟨g,es,ck,h1,h2,h3⟩:=h;refine⟨g,es,ck,h1,h2,h3.imp λv hv V k=>k.reyv ?_⟩;obtain⟨e,he,rfl⟩:=Qs hv;exact Ap4 a _
 | dead=>exact h
theorem HR.reyv{y:Value}{hy:y.oneCell'=true}(h:HR Γ H w)(hx:∀b (h:b<H.length),(H[b]).yf=true):HR (Γ.reyv y hy) H w:=
 ⟨h.inj,h.lt,h.stlt,h.nms,λb hb=>(h.blk b hb).reyv (hx b hb)⟩
theorem Tw:∀(H:List Blk) (n:Nat),∀b (h:b<H.length),(n+b)∈T3 C H n\/Z1 C H[b]=true
 | [],n,b,h=>by simp at h
 | x::r,n,0,_=>by
  cases c:Z1 C x with
  | true=>exact .inr c
  | false=>exact .inl (by simp[T3,c])
 | x::r,n,b+1,h=>by
  have:=Tw r (n+1) b (by simpa using h);rw[show n+1+b=n+(b+1) by omega] at this;rcases this with q|q
  ·refine .inl ?_;simp only[T3];cases Z1 C x with
   | true=>exact q
   | false=>exact ad1 _ q
  ·exact .inr (by simpa using q)
theorem Wz{d:List Nat}(c:∀b,b∉d->A0 H' b=A0 H b):P6 Γ (A0 H) w (Γ.hide d) (A0 H') w (·∉d):=
 ⟨λ_ _=>rfl,λ_ h=>h,λb e=>by simp only[Ctx.hide];rw[if_neg e],c,λ_ _ _ _=>rfl,rfl⟩
theorem Aa4{f:List Nat}(o:HR Γ H w)(v:f.Nodup)(u:∀b∈f,b<H.length):(I2 f H).length=H.length/\(∀b,b∉f->A0 (I2 f H) b=A0 H b)/\(∀b,b∈f->A0 (I2 f H) b=some .dead)/\HR (Γ.hide f) (I2 f H) w:=by
 obtain⟨i,x,q⟩:=Gs (Γ:=Γ) (sh:=A0 H) (w:=w) f H;obtain⟨A,t⟩:=Cu f (j1 f.length .dead) (K8 f H) v (by simp) (λb d=>by rw[i];exact u b d);have k:(I2 f H).length=H.length:=by rw[I2,A,i]
 have j:∀b,b∉f->(I2 f H)[b]? = (K8 f H)[b]?:=λb d=>by rw[I2,t,if_neg d]
 have l:∀b,b∈f->(I2 f H)[b]? = some .dead:=λb d=>by
  rw[I2,t,if_pos d,List.getElem?_replicate,if_pos (List.idxOf_lt_length_of_mem d)]
 have p:∀b,b∉f->A0 (I2 f H) b=A0 H b:=λb d=>by
  rw[<-x b];simp only[A0,j b d]
 have M:=Wz (Γ:=Γ) (H:=H) (w:=w) p;have m:∀b g,(Γ.hide f).nm b=some g->b∉f/\Γ.nm b=some g:=λb g h=>by
  simp only[Ctx.hide] at h;split at h
  ·cases h
  ·exact⟨‹_›,h⟩
 refine⟨k,p,λb d=>by simp only[A0,l b d];rfl,⟨λb B g D F=>o.inj b B g (m b g D).2 (m B g F).2,λb g h=>?_,o.stlt,λb d c n=>?_,λb d=>?_⟩⟩
 ·obtain⟨y,z,G⟩:=o.lt b g (m b g h).2;exact⟨by rw[k];exact y,z,G⟩
 ·rw[k] at d ⊢;by_cases h:b∈f
  ·have:=l b h;rw[a7 (by rw[k];exact d)] at this;simp only[a8] at this;rw[this] at n;simp[Blk.nms] at n
  ·have e:=j b h;rw[a7 (by rw[k];exact d),a7 (by rw[i];exact d)] at e;simp only[a8] at e;rw[e] at n;exact o.nms b d c ((q b (by rw[i];exact d) d).1 c n).2
 ·rw[k] at d;by_cases h:b∈f
  ·have:=l b h;rw[a7 (by rw[k];exact d)] at this;simp only[a8] at this;rw[this];trivial
  ·have e:=j b h;rw[a7 (by rw[k];exact d),a7 (by rw[i];exact d)] at e;simp only[a8] at e;rw[e];obtain⟨y,z⟩:=q b (by rw[i];exact d) d;exact(z b (o.blk b d)).mono M (M.nm b h) (λ_ _=>rfl) (λc n=>(y c n).1)
theorem Hp{b:Obj}{g:Nat}(h:g<w.heap.size):(w.alloc b).heap[g]? = w.heap[g]?:=by show(w.heap.push b)[g]? = w.heap[g]?;rw[Array.getElem?_push];rw[if_neg (by omega)]
theorem Iz{v:PV}{V:Value}{sh:Nat->Option Shp}{f:Nat}{first b:List PV}(h:Ih v=some (f,first,b))(k:VP Γ sh w v V):∃A B,V = .func (.func f) A B/\CR Γ sh w first A/\CR Γ sh w b B/\∀c∈B3 (first++b),c∈v.nms:=by
 have i:∀(l:List SV),B3 (l.map PV.s)=[]:=λl=>by
  rw[x7];intro c d;obtain⟨j,m,d⟩:=A9.1 d;simp[PV.nms] at d
 unfold Ih at h;split at h
 ·simp only[a8,o5] at h;obtain⟨rfl,rfl,rfl⟩:=h;obtain⟨A,B,rfl,e,g⟩:=k.inv_fn';exact⟨A,B,rfl,e,g,λc d=>by rw[I4,i,i] at d;simp at d⟩
 ·simp only[a8,o5] at h;obtain⟨rfl,rfl,rfl⟩:=h;obtain⟨A,B,rfl,e,g⟩:=k.inv_fnr';exact⟨A,B,rfl,e,g,λc d=>by rw[I4] at d;simpa[PV.nms] using d⟩
 ·cases h
theorem VP.ndead{sh:Nat->Option Shp}{v:PV}{V:Value}(h:VP Γ sh w v V):∀c∈v.nms,sh c≠some .dead:=by
 induction h with
 | s v V h=>intro c hc;simp[PV.nms] at hc
 | nsl=>intro c hc;simp[PV.nms] at hc
 | flv b e sz h=>intro c hc;simp[PV.nms] at hc;subst hc;rw[h];simp
 | fl b g v e sz n cap h hv hg hcap hm hs=>intro c hc;simp[PV.nms] at hc;subst hc;rw[h];simp
 | vwv b e sz i h=>intro c hc;simp[PV.nms] at hc;subst hc;rw[h];simp
 | vw b i n g a cap v e sz m h hv hg ha hi hcap hm=>intro c hc;simp[PV.nms] at hc;subst hc;rw[h];simp
 | ptrA b i off g v e sz n h hg=>intro c hc;simp[PV.nms] at hc;subst hc;rw[h];simp
 | ptrB b off g h hg=>intro c hc;simp[PV.nms] at hc;subst hc;rw[h];simp
 | fnr g x y A B As Bs hf hA hB ha hb hx hy ihx ihy=>
  intro c hc;simp only[PV.nms,p7] at hc;rcases hc with hc|hc
  ·obtain⟨j,hj,hc⟩:=A9.1 hc;exact ihx j hj c hc
  ·obtain⟨j,hj,hc⟩:=A9.1 hc;exact ihy j hj c hc
 | it b g h hg=>intro c hc;simp[PV.nms] at hc;subst hc;rw[h];simp
 | mpv b g h hg=>intro c hc;simp[PV.nms] at hc;subst hc;rw[h];simp
 | yd=>intro c hc;simp[PV.nms] at hc
 | agg l A As hA ha hl ih=>intro c hc;simp only[PV.nms] at hc;obtain⟨j,hj,hc⟩:=A9.1 hc;exact ih j hj c hc
 | tup l A As hA ha hl ih=>intro c hc;simp only[PV.nms] at hc;obtain⟨j,hj,hc⟩:=A9.1 hc;exact ih j hj c hc
 | bad V=>intro c hc;simp[PV.nms] at hc
theorem BR.ndead{sh:Nat->Option Shp}{b:Nat}{x:Blk}(h:BR Γ sh w b x):∀c∈x.nms,sh c≠some .dead:=by
 cases x with
 | box cells=>
  intro c hc;simp only[Blk.nms] at hc;obtain⟨j,hj,hc⟩:=A9.1 hc;obtain⟨g,cur,e,h1,h2,h3,h4⟩:=h;obtain⟨V,_,e2⟩:=h4 j hj;exact e2.ndead c hc
 | arr v e sz els=>intro c hc;simp[Blk.nms] at hc
 | iter s p=>intro c hc;simp[Blk.nms] at hc
 | mp ents=>
  intro c hc;simp only[Blk.nms] at hc;obtain⟨j,hj,hc⟩:=A9.1 hc;obtain⟨g,es,ck,h1,h2,h3⟩:=h;exact h3.vals _ (j6 hj) (λV k=>k.ndead c hc)
 | ms a ents=>intro c hc;simp[Blk.nms] at hc
 | dead=>intro c hc;simp[Blk.nms] at hc
theorem Un{ro:Option Nat}{n n0:Nat}{g:Operand}{ps:Array Tmp}{aq body:Code}{k:Out->St X->Option R}{Q:Exit->Act->World->Prop}{g0:C9}{f:Nat}{first a0:List PV}{m:List Nat}(A:Ask C I W J K)(i5:T8 C g0)(m4:Γ.yv=K)(k4:WP C I W J K aq)(k6:WP C I W J K body)
  (l8:Ih (opnd C Y.sl g)=some (f,first,a0)) (f7:m.Nodup) (c3:∀c∈B3 (first++a0),c∈m) (a4:∀b∈m,b<Y.hp.length)
  (h:Lv C g0 f first a0 m Y (λm6=>Di ps m6 (λY k=>B2 C W J aq Y k) (λY k=>B2 C W J body Y k)) k=some r) (S:SI C I Γ Z Y a.tmps w) (hM:Mk n0 Γ Z w a.defers) (hR:Ro ro Γ Z w) (hP:ZU C I n0 Γ Z Y.hp w k r Q) :
  (af8 g ps aq body).wpIn (D2 ro) n C.P Q a w:=by
 have hv:=(S.opnd g).1;have hvn:=(S.opnd g).2;obtain⟨FA,FB,i6,k7,k8,n1⟩:=Iz l8 hv;unfold Lv at h;split at h
 case isFalse=>cases h
 rename_i c0;simp only[j4,o7] at c0;obtain⟨⟨⟨l1,f8⟩,l9⟩,d9⟩:=c0;split at h
 case h_2=>cases h
 rename_i ret Hc H1 a2 s' f2;refine wpIn_rangeFunc (λfn _=>?_);have i4:∃(G:World) (l Dv:Nat) (D:Option Nat),(Instr.enterLoop fn a.tmps ps aq body ro).run C.P w = .ok (l,D.toList.map mkD) G/\w.heap.size<=l/\l<G.heap.size/\w.heap.size<=G.heap.size/\(∀g,g<w.heap.size->G.heap[g]? = w.heap[g]?)/\
   G.heap[l]? = some (.loop (Dh fn a.tmps ps aq body Dv .ready none))/\(∀d,D=some d->w.heap.size<=d/\d<G.heap.size/\d≠l/\G.heap[d]? = some (.deferred (some [])))/\G.os=w.os/\G.tape=w.tape/\G.output=w.output:=by
  cases ro with
  | none=>
   refine⟨(w.alloc (.deferred (some []))).alloc (.loop (Dh fn a.tmps ps aq body w.heap.size .ready none)),w.heap.size+1,w.heap.size,some w.heap.size,run_enterLoop_outer _ _ _ _ _,by omega,by simp,by simp;omega,λg B=>?_,?_,λd hd=>?_,rfl,rfl,rfl⟩
   ·rw[Hp (by simp;omega),Hp B]
   ·have:=y9 (w.alloc (.deferred (some []))) (.loop (Dh fn a.tmps ps aq body w.heap.size .ready none));rwa [World.size_alloc] at this
   ·simp only[a8] at hd;subst hd;exact⟨o3 _,by simp;omega,by omega,by rw[Hp (by simp)];exact y9 w _⟩
  | some l0=>
   obtain⟨_,r0,l7⟩:=hR l0 rfl;exact⟨w.alloc (.loop (Dh fn a.tmps ps aq body r0.defers .ready none)),w.heap.size,r0.defers,none,run_enterLoop_inner l7 _ _ _ _ _,o3 _,by simp,by simp,λg B=>Hp B,y9 w _,λd hd=>(by cases hd),rfl,rfl,rfl⟩
 obtain⟨G,lw,Dv,D,d0,l6,l4,h8,a5,l5,hD,ho⟩:=i4;obtain⟨S1,n2⟩:=S.wide A.hI (St':=Γ.St) a5 h8 (λ_ h=>h) (λ_ h=>.inl h) (λg B=>by have:=S.hr.stlt g B;omega) ho.1 ho.2.1 ho.2.2;have S1:SI C I Γ Z Y a.tmps G:=S1;have l2:=A.hI.foot _ _ _ _ S.inv;have e5:∀{g},w.heap.size<=g->g<G.heap.size->Off Γ Z G g:=fun {g} h1 h2=>⟨h2,λq=>by have:=S.hr.stlt g q;omega,λb q=>by have:=(S.hr.lt b g q).2.1;omega,λq=>by have:=(l2 g q).1;omega⟩
 have d6:Off Γ Z G lw:=e5 l6 l4;have d5:∀d,D=some d->Off Γ Z G d:=λd h=>e5 (hD d h).1 (hD d h).2.1
 obtain⟨dl,c4,g1,e7⟩:=Aa4 S1.hr f7 a4;have d2:=Ey (Γ:=Γ) (sh:=A0 Y.hp) (w:=G) (m++T3 C Y.hp 0) Y.sl;have f4:=Wz (Γ:=Γ) (H:=Y.hp) (H':=I2 m Y.hp) (w:=G) c4;have a1:∀c∈B3 (G3 (m++T3 C Y.hp 0) Y.sl),c∉m/\c<Y.hp.length/\Z1 C (Y.hp.getD c .dead)=true:=λc u=>by
  obtain⟨F,q2⟩:=d2.2.1 c u;have q3:=S.sr.nms c q2;simp only[p7,not_or] at F;refine⟨F.1,q3,?_⟩;have e:Y.hp.getD c .dead=Y.hp[c]:=by rw[j2,a7 q3];rfl
  rw[e];rcases Tw (C:=C) Y.hp 0 c q3 with q|q
  ·rw[ah5] at q;exact absurd q F.2
  ·exact q
 have g4:SR (Γ.hide m) (I2 m Y.hp) G (G3 (m++T3 C Y.hp 0) Y.sl) a.tmps:=by
  have h0:SR Γ Y.hp G (G3 (m++T3 C Y.hp 0) Y.sl) a.tmps:=⟨by rw[d2.1];exact S1.sr.size,λc u=>(a1 c u).2.1,λi hi=>by
   have c2:i<Y.sl.length:=by rw[<-d2.1];exact hi
   obtain⟨V,e1,e2⟩:=S1.sr.slot i c2;exact⟨V,e1,d2.2.2 i hi c2 V e2⟩⟩
  exact h0.mono f4 (λc u=>⟨(a1 c u).1,by rw[dl];exact(a1 c u).2.1⟩)
 have M:∀{b g},(Γ.hide m).nm b=some g->b∉m/\Γ.nm b=some g:=fun {b g} h=>by
  simp only[Ctx.hide] at h;split at h
  ·cases h
  ·exact⟨‹_›,h⟩
 have SS:SI C I (Γ.hide m) Z { sl:=G3 (m++T3 C Y.hp 0) Y.sl,hp:=I2 m Y.hp,s:=Y.s } a.tmps G:=⟨e7,g4,S1.g,S1.inv,λb g p=>S1.dis b g (M p).2⟩
 have g8:∀c∈B3 (G3 (m++T3 C Y.hp 0) Y.sl),c<(I2 m Y.hp).length/\Dg C (A0 (I2 m Y.hp) c):=λc u=>by
  obtain⟨F,q2,q3⟩:=a1 c u;exact⟨by rw[dl];exact q2,by rw[c4 c F];exact(Tc q2).1 q3⟩
 have e4:∀{g},Off Γ Z G g->Off (Γ.hide m) Z G g:=fun {g} h=>⟨h.1,h.2.1,λb q=>h.2.2.1 b (M q).2,h.2.2.2⟩
 let Φc:Nat->Prop:=λg=>Z g\/(∃b,(Γ.hide m).nm b=some g)\/g=lw\/D=some g
 have i3:RI C I (Γ.hide m) (I2 m Y.hp) G Z (G3 (m++T3 C Y.hp 0) Y.sl) a.tmps lw D (Dh fn a.tmps ps aq body Dv) (I2 m Y.hp,none,Y.s) Γ.St Φc G:=by
  refine⟨Γ.hide m,Z,SS,Stp.pg (Stp.refl e7),λ_ h=>h,λ_=>Iff.rfl,λg B=>?_,e4 d6,λd h=>e4 (d5 d h),l5,λd h=>(hD d h).2.2.2⟩;rcases B with q|⟨b,q⟩|q|q
  ·have:=A.hI.foot _ _ _ _ S1.inv g q;exact this
  ·have:=e7.lt b g q;exact⟨this.2.1,this.2.2⟩
  ·rw[q];exact⟨d6.1,d6.2.1⟩
  ·exact⟨(d5 g q).1,(d5 g q).2.1⟩
 have i7:=QK S1.hr f7 a4 l1;have a3:=λb (h:b∈m)=>Bo h
 have f6:(L1 Y.hp m).length=m.length:=by simp[L1]
 let y:Value:=.func (.yield lw) #[] #[];have b2:y.oneCell'=true:=rfl;have g3:HR ((Γ.lent m).reyv y b2) (L1 Y.hp m) G:=i7.reyv (λb p=>by
  have k5:b<m.length:=by rw[<-f6];exact p
  simp only[L1,r9,Blk.yf_rn];exact l9 _ (j6 k5))
 have e6:∀{l:List PV} {V:Array Value},CR Γ (A0 Y.hp) w l V->yfL l=true->(∀c∈B3 l,c∈m)->CR ((Γ.lent m).reyv y b2) (A0 (L1 Y.hp m)) G (rnL (D9 m) l) V:=fun {l V} u hy hn=>by
  have g6:CR Γ (A0 Y.hp) G l V:=u.mono (Γ':=Γ) (H':=Y.hp) (Ox S.hr a5 (λ_ h=>h)) (λ_ _=>trivial);rw[Fi];refine⟨by rw[p6];exact g6.1,λj hj=>?_⟩;have f5:j<l.length:=by simpa using hj
  obtain⟨U,e,q⟩:=g6.2 j f5;refine⟨U,e,?_⟩;rw[r9];refine VP.reyv (VP.rn (Γ:=Γ) (Γ':=Γ.lent m) rfl q (.inr λ_ h=>h) (λc u=>?_)) (by rw[PV.yf_rn];exact Cx hy _ (j6 f5));have c8:=hn c (A9.2 ⟨j,f5,u⟩);obtain⟨F,q2⟩:=a3 c c8;exact⟨Le c8,by rw[Gv a4 F,q2]⟩
 have m7:∀(x z:List PV),yfL (x++z)=(yfL x&&yfL z):=λx z=>by
  induction x with
  | nil=>simp[yfL]
  | cons v x ih=>simp[yfL,ih,Bool.and_assoc]
 rw[m7,j4] at f8;have f1:CR ((Γ.lent m).reyv y b2) (A0 (L1 Y.hp m)) G (rnL (D9 m) first++.yd::rnL (D9 m) a0) (FA++#[y]++FB):=by
  have h1:=e6 k7 f8.1 (λc u=>c3 c (by rw[I4];simp[u]));have h2:=e6 k8 f8.2 (λc u=>c3 c (by rw[I4];simp[u]));have h3:CR ((Γ.lent m).reyv y b2) (A0 (L1 Y.hp m)) G [.yd] #[y]:=CR.one .yd;have:=(h1.append h3).append h2;simpa using this
 have f0:∀c∈B3 (rnL (D9 m) first++.yd::rnL (D9 m) a0),c<(L1 Y.hp m).length:=λc u=>by
  have:c∈(B3 (first++a0)).map (D9 m):=by
   rw[I4] at u;simp only[B3,PV.nms,List.nil_append,Ai,p7] at u;rw[I4,af7,p7];exact u
  obtain⟨d,hd,rfl⟩:=ah4.1 this;rw[f6];exact(a3 d (c3 d hd)).1
 have a9:∀{i g},(Γ.lent m).nm i=some g->∃hi:i<m.length,Γ.nm m[i]=some g:=fun {i g} h=>by
  simp only[Ctx.lent] at h;cases hi:m[i]? with
  | none=>rw[hi] at h;simp at h
  | some b=>
   obtain⟨h1,h2⟩:=List.getElem?_eq_some_iff.1 hi;rw[hi] at h;exact⟨h1,by rw[h2];exact h⟩
 have c6:=i5 _ _ _ y (At0 A.hI) (At1 (fn:=fn) (ps:=ps) (aq:=aq) (body:=body) (l:=lw) (Dv:=Dv) (D:=D) (tmps:=a.tmps) (w0:=G) (Φ0:=Z) (Γ0:=Γ.hide m) A.hI m4 k4 k6 g8) f _ _ _ ret Hc _ f2 ((Γ.lent m).reyv y b2) Φc G (FA++#[y]++FB) rfl g3 S1.g i3 (λi g hi=>by
  obtain⟨l3,d1⟩:=a9 hi;rintro(q|⟨b,q⟩|q|q)
  ·exact S1.dis _ g d1 q
  ·obtain⟨F,q2⟩:=M q;have:=S1.hr.inj _ _ g d1 q2;exact F (this▸j6 l3)
  ·exact d6.2.2.1 _ (q▸d1)
  ·exact(d5 _ q).2.2.1 _ d1) f1 f0
 have c7:=Mq (ro:=ro) (n:=n) (Q8 d9) c6;refine⟨lw,D.toList.map mkD,G,{ target:=.fn (.func f) FB,args:=FA++#[y] },G,f,FA++#[y]++FB,G,?_,?_,λ_ _=>trivial,?_,λh=>by simp[D2,aa5] at h,c7.mono ?_⟩
 ·exact d0
 ·simp[resolve,i6,Deferred.ofValue];rfl
 ·show(callFunc f (FA++#[y]++FB)).run C.P G=_;exact Q8 d9
 rintro e W2 ⟨V,rfl,Γ1,Φ1,hs,b5,n3,m9,⟨Γb,Φb,r1⟩,c1⟩;have g9:=r1.hl;have d8:=run_endLoop (P:=C.P) g9 (by cases a2<;>simp[Dh,Ag7]);obtain⟨w4,d4⟩:∃w4,W2.putObj lw (.loop { Dh fn a.tmps ps aq body Dv (Ag7 a2) (a2.map jmp) with state:=.exhausted })=w4:=⟨_,rfl⟩
 rw[d4] at d8;have O:Ke Γb Φb W2 w4:=by rw[<-d4];exact Ke.put r1.ol
 have b1:w4.heap.size=W2.heap.size:=by rw[<-d4];simp
 have h4:∀g,g≠lw->w4.heap[g]? = W2.heap[g]?:=λg B=>by rw[<-d4];exact s9 B
 have inΦ:∀{g},Φb g\/(∃b,Γb.nm b=some g)\/g=lw\/D=some g->Φ1 g:=fun {g} h=>(r1.ph g).2 h
 have S5:=(r1.si.offW A.hI O).wideSt A.hI (St':=Γ1.St) r1.st (λg B hp=>(r1.ft g (inΦ (.inl hp))).2 B) (λb g p B=>(r1.ft g (inΦ (.inr (.inl ⟨b,p⟩)))).2 B) (λg B=>by rw[b1];exact b5.stlt g B);have d3:Y.hp.length<=H1.length:=by have:=r1.pg.len;rw[dl] at this;exact this
 have d7:m.length<=Hc.length:=by have:=hs.len;rw[p6] at this;exact this
 obtain⟨m5,i0⟩:=Cu m (m.map λb=>cond (Z1 C (Y.hp.getD b .dead)) (Ci (Hc.getD (D9 m b) .dead)) .dead) H1 f7 (by simp) (λb p=>o6 (a4 b p) d3);generalize e9:DT C m Y.hp Hc H1=H2 at h;have a6:H2.length=H1.length:=by rw[<-e9];exact m5
 have e8:∀b (p:b∈m),H2[b]? = some (cond (Z1 C (Y.hp.getD b .dead)) (Ci (Hc.getD (D9 m b) .dead)) .dead):=λb p=>by
  rw[<-e9];simp only[DT];rw[i0,if_pos p,x5];have e:m.idxOf b=D9 m b:=rfl;rw[e,a7 (a3 b p).1,(a3 b p).2];rfl
 have b4:∀b,b∉m->H2[b]? = H1[b]?:=λb p=>by
  rw[<-e9];simp only[DT];rw[i0,if_neg p]
 let Γf:Ctx:={ St:=Γ1.St,nm:=λb=>if b∈m then (if Z1 C (Y.hp.getD b .dead)=true then Γ1.nm (D9 m b) else none) else Γb.nm b,yv:=Γ.yv,yv1:=Γ.yv1 }
 have b3:∀{b},b∈m->Z1 C (Y.hp.getD b .dead)=true->Γf.nm b=Γ1.nm (D9 m b):=fun {b} h1 h2=>by simp only[Γf];rw[if_pos h1,if_pos h2]
 have g2:∀{b},b∈m->¬Z1 C (Y.hp.getD b .dead)=true->Γf.nm b=none:=fun {b} h1 h2=>by simp only[Γf];rw[if_pos h1,if_neg h2]
 have b0:∀{b},b∉m->Γf.nm b=Γb.nm b:=fun {b} h1=>by simp only[Γf];rw[if_neg h1]
 have L:∀{b g},Γf.nm b=some g->(b∈m/\Γ1.nm (D9 m b)=some g)\/(b∉m/\Γb.nm b=some g):=fun {b g} h=>by
  by_cases p:b∈m
  ·by_cases hf:Z1 C (Y.hp.getD b .dead)=true
   ·rw[b3 p hf] at h;exact .inl ⟨p,h⟩
   ·rw[g2 p hf] at h;cases h
  ·rw[b0 p] at h;exact .inr ⟨p,h⟩
 have h6:∀c,c∈m->A0 H1 c=some .dead:=λc u=>by
  obtain⟨_,k2,_⟩:=r1.pg.keep c (by rw[dl];exact a4 c u) (by rw[g1 c u];trivial);rw[k2];exact g1 c u
 have e3:∀b,b∉m->A0 H2 b=A0 H1 b:=λb p=>by simp only[A0,b4 b p]
 have Mf:P6 { Γb with St:=Γ1.St } (A0 H1) w4 Γf (A0 H2) w4 (·∉m):=⟨λ_ _=>rfl,λ_ h=>h,λb p=>b0 p,e3,λ_ _ _ _=>rfl,(r1.pg.yv:Γb.yv=Γ.yv).symm⟩
 have i9:HR Γf H2 w4:=by
  refine⟨λb b' g h1 h2=>?_,λb g p=>?_,λg B=>by rw[b1];exact b5.stlt g B,λb p c u=>?_,λb p=>?_⟩
  ·rcases L h1 with⟨p1,F⟩|⟨p1,F⟩<;>rcases L h2 with⟨p2,q2⟩|⟨p2,q2⟩
   ·have:=b5.inj _ _ g F q2;have e1:=(a3 b p1).2;have e2:=(a3 b' p2).2;rw[<-e1,<-e2];simp only[this]
   ·exact absurd (inΦ (.inr (.inl ⟨b',q2⟩))) (c1 _ g F)
   ·exact absurd (inΦ (.inr (.inl ⟨b,F⟩))) (c1 _ g q2)
   ·exact r1.si.hr.inj b b' g F q2
  ·rcases L p with⟨p1,F⟩|⟨p1,F⟩
   ·have:=b5.lt _ g F;exact⟨by rw[a6];exact o6 (a4 b p1) d3,by rw[b1];exact this.2.1,this.2.2⟩
   ·have:=S5.hr.lt b g F;exact⟨by rw[a6];exact this.1,this.2⟩
  ·by_cases t:b∈m
   ·have e:=e8 b t;rw[a7 p] at e;simp only[a8] at e;rw[e] at u;cases hf:Z1 C (Y.hp.getD b .dead) with
    | true=>rw[hf,cond_true,Wm] at u;simp at u
    | false=>rw[hf] at u;simp[Blk.nms] at u
   ·have e:=b4 b t;have b6:b<H1.length:=by rw[<-a6];exact p
    rw[a7 p,a7 b6] at e;simp only[a8] at e;rw[e] at u;rw[a6];exact S5.hr.nms b b6 c u
  ·by_cases t:b∈m
   ·have e:=e8 b t;rw[a7 p] at e;simp only[a8] at e;rw[e];cases hf:Z1 C (Y.hp.getD b .dead) with
    | true=>
     rw[cond_true];have hi:D9 m b<Hc.length:=o6 (a3 b t).1 d7;rw[Ky hi];refine VW (b5.blk _ hi) (b3 t hf) (λg B=>h4 g ?_) (λ_ h=>h) (λg B=>h4 g ?_)
     ·intro e;rw[e] at B;exact(r1.ft _ (inΦ (.inr (.inr (.inl rfl))))).2 B
     ·intro e;rw[e] at B;exact c1 _ _ B (inΦ (.inr (.inr (.inl rfl))))
    | false=>trivial
   ·have e:=b4 b t;have b6:b<H1.length:=by rw[<-a6];exact p
    rw[a7 p,a7 b6] at e;simp only[a8] at e;rw[e];have hB:=S5.hr.blk b b6;exact hB.mono Mf (b0 t) (λ_ _=>rfl) (λc u c8=>hB.ndead c u (h6 c c8))
 have g5:SR Γf H2 w4 (G3 (m++T3 C Y.hp 0) Y.sl) a.tmps:=S5.sr.mono Mf (λc u=>⟨(a1 c u).1,by rw[a6];exact o6 (a1 c u).2.1 d3⟩);have SF:SI C I Γf Φb { sl:=G3 (m++T3 C Y.hp 0) Y.sl,hp:=H2,s:=s' } a.tmps w4:=⟨i9,g5,S5.g,S5.inv,λb g p=>by
  rcases L p with⟨_,F⟩|⟨_,F⟩
  ·exact λq=>c1 _ g F (inΦ (.inl q))
  ·exact S5.dis b g F⟩
 have m8:=hs.size;have f9:Stp C Γ Y.hp w Z Γf H2 w4 Φb:=by
  refine⟨O.os.trans (hs.os.trans ho.1),O.tape.trans (hs.tape.trans ho.2.1),O.output.trans (hs.output.trans ho.2.2),by omega,λg B=>hs.sub g B,λg B=>?_,λb g p=>?_,λg B=>?_,λg B hn hp=>?_,rfl,by rw[a6];exact d3,λb p hf=>?_⟩
  ·rcases hs.stnew g B with q|q
   ·exact .inl q
   ·exact .inr (by omega)
  ·rcases L p with⟨p1,F⟩|⟨p1,F⟩
   ·rcases hs.own _ g F with⟨_,q⟩|q
    ·obtain⟨i1,i2⟩:=a9 q;rw[(a3 b p1).2] at i2;exact .inl ⟨a4 b p1,i2⟩
    ·exact .inr (by omega)
   ·rcases r1.pg.own b g F with⟨q,q'⟩|q
    ·exact .inl ⟨by rw[<-dl];exact q,(M q').2⟩
    ·exact .inr (by omega)
  ·rcases r1.pg.foot g B with q|q
   ·exact .inl q
   ·exact .inr (by omega)
  ·have np:¬ Φc g:=by
    rintro(q|⟨b,q⟩|q|q)
    ·exact hp q
    ·exact hn b (M q).2
    ·omega
    ·have:=(hD g q).1;omega
   rw[h4 g (by omega),hs.frame g (by omega) (λb q=>by obtain⟨_,i2⟩:=a9 q;exact hn _ i2) np,a5 g B]
  ·by_cases t:b∈m
   ·have g7:=(Tc (C:=C) (H:=Y.hp) p).2 hf;obtain⟨F,q2⟩:=a3 b t;have hi:D9 m b<(L1 Y.hp m).length:=by rw[f6];exact F
    have h7:A0 (L1 Y.hp m) (D9 m b)=A0 Y.hp b:=by rw[Gv a4 F,q2]
    obtain⟨k1,k2,k3⟩:=hs.keep _ hi (by show Dg C (A0 (L1 Y.hp m) _);rw[h7];exact hf);have k2:A0 Hc (D9 m b)=A0 (L1 Y.hp m) (D9 m b):=k2;have e0:((Γ.lent m).reyv y b2).nm (D9 m b)=Γ.nm b:=Le t;refine⟨(b3 t g7).trans (k1.trans e0),?_,λg B=>?_⟩
    ·have c2:D9 m b<Hc.length:=o6 F d7;simp only[A0,e8 b t,g7,cond_true,aa1,Wn,Ky c2];show some (Hc[D9 m b]).shp=A0 Y.hp b;rw[<-h7,<-k2];simp only[A0,a7 c2,aa1]
    ·have e1:=k3 g (e0.trans B);have f3:=S.hr.lt b g B;rw[C4 (h4 g (by omega)),e1,C4 (a5 g f3.2.1)]
   ·obtain⟨k1,k2,k3⟩:=r1.pg.keep b (by rw[dl];exact p) (by rw[c4 b t];exact hf);have hh:(Γ.hide m).nm b=Γ.nm b:=by simp only[Ctx.hide];rw[if_neg t]
    refine⟨(b0 t).trans (k1.trans hh),by rw[e3 b t,k2,c4 b t],λg B=>?_⟩;have f3:=S.hr.lt b g B;rw[C4 (h4 g (by omega)),k3 g (hh.trans B),C4 (a5 g f3.2.1)]
 have k0:Mk n0 Γf Φb w4 (D.toList.map mkD++a.defers):=by
  obtain⟨m0,Ds,m1,m2,m3⟩:=hM;refine⟨by omega,D.toList++Ds,by rw[m1,af7],?_,λd hd=>?_⟩
  ·cases D with
   | none=>exact m2
   | some d=>exact ac2.2 ⟨λh5=>by have:=(m3 _ h5).2.1.1;have:=(hD d rfl).1;omega,m2⟩
  ·rcases p7.1 hd with hd|hd
   ·have e:D=some d:=by
     cases D with
     | none=>simp at hd
     | some d'=>simp at hd;rw[hd]
    refine⟨Nat.le_trans m0 (hD d e).1,⟨by rw[b1];exact(r1.od d e).1,(r1.ft _ (inΦ (.inr (.inr (.inr e))))).2,λb q=>?_,(r1.od d e).2.2.2⟩,by rw[h4 _ (hD d e).2.2.1];exact r1.hd d e⟩;rcases L q with⟨_,F⟩|⟨_,F⟩
    ·exact c1 _ _ F (inΦ (.inr (.inr (.inr e))))
    ·exact(r1.od d e).2.2.1 b F
   ·obtain⟨k1,k2,k3⟩:=m3 d hd;obtain⟨F,q2⟩:=k2.step f9;exact⟨k1,F,q2.trans k3⟩
 have c5:=hP (a2.getD .normal) { sl:=G3 (m++T3 C Y.hp 0) Y.sl,hp:=H2,s:=s' } { a with defers:=D.toList.map mkD++a.defers } w4 Γf Φb h f9 SF k0;refine⟨a2.map jmp,w4,d8,?_⟩;cases a2 with
 | none=>exact c5
 | some o=>
  cases o with
  | normal=>exact wpIn_skip c5
  | exit id=>exact wpIn_exit c5
  | ret=>exact wpIn_ret c5
theorem Px{n:Array Tmp}{d:List PV}{g c:Code}:∀(L:List (List PV)) (H:List Blk) (s:X) {k:Option Out->List Blk->X->Option R},R0 n d (λY k=>B2 C W J g Y k) (λY k=>B2 C W J c Y k) L H s k=some r->
  ∃H' b f,X8 (Di n d (λY k=>B2 C W J g Y k) (λY k=>B2 C W J c Y k)) L (H,none,s)=some (H',b,f)/\k b H' f=some r
 | [],H,s,k,h=>⟨H,none,s,rfl,h⟩
 | x::xs,H,s,k,h=>by
  simp only[R0] at h;split at h
  case isFalse=>cases h
  rename_i v;obtain⟨o,y,p,i⟩:=Tb h;cases o with
  | exit id=>cases i
  | ret=>cases i
  | normal=>
  obtain⟨m,e,q,j⟩:=Tb i;have l:Di n d (λY k=>B2 C W J g Y k) (λY k=>B2 C W J c Y k) x (H,none,s)=some ((X7 m).isNone,((P4 H.length e).hp,X7 m,e.s)):=by
   simp only[Di];rw[if_pos v,Wv p];dsimp only;rw[Wv q]
  cases m with
  | normal=>
   obtain⟨H',b,f,t,u⟩:=Px xs _ _ j;refine⟨H',b,f,?_,u⟩;simp only[X8,l];exact t
  | exit id=>exact⟨_,_,_,by simp only[X8,l];rfl,j⟩
  | ret=>exact⟨_,_,_,by simp only[X8,l];rfl,j⟩
theorem TR{ro:Option Nat}{n n0:Nat}{g:Operand}{G:Array Tmp}{q i:Code}{k:Out->St X->Option R}{Q:Exit->Act->World->Prop}(A:Ask C I W J K)(z:Γ.yv=K)(t:WP C I W J K q)(u:WP C I W J K i)
  (h:Jw C W (opnd C Y.sl g) Y (λp=>Di G p (λY k=>B2 C W J q Y k) (λY k=>B2 C W J i Y k)) (λp=>R0 G p (λY k=>B2 C W J q Y k) (λY k=>B2 C W J i Y k)) k=some r) (S:SI C I Γ Z Y a.tmps w) (P:Mk n0 Γ Z w a.defers) (V:Ro ro Γ Z w) (U:ZU C I n0 Γ Z Y.hp w k r Q) :
  (af8 g G q i).wpIn (D2 ro) n C.P Q a w:=by
 have hvn:=(S.opnd g).2;have hv:=(S.opnd g).1;unfold Jw at h;split at h
 case h_2=>cases h
 rename_i f first d o;obtain⟨FA,FB,a0,a1,a2,O⟩:=Iz o hv;have y:=Pv Y.hp (B3 (first++d));have m:=Xw Y.hp (B3 (first++d));have v:∀b∈V9 Y.hp (B3 (first++d)),b<Y.hp.length:=Xv Y.hp (B3 (first++d)) (· < Y.hp.length) (λb D c F=>by
  have e:Y.hp.getD b .dead=Y.hp[b]:=by rw[j2,a7 D];rfl
  rw[e] at F;exact S.hr.nms b D c F) (λc F=>hvn c (O c F))
 generalize V9 Y.hp (B3 (first++d))=l at *;split at h
 ·rename_i pf hS;unfold MQ at h;split at h
  case isFalse=>cases h
  rename_i j;rw[j4] at j;split at h
  case h_2=>cases h
  rename_i cL L hL;obtain⟨rfl,h⟩:=B1 h;obtain⟨H',B,s',h1,h2⟩:=Px L _ _ h;refine Un A A.hX.s z t u o y m v ?_ S P V U;unfold Lv;rw[if_pos j.1];have M:(l.map λb=>(Y.hp.getD b .dead).rn (D9 l)).all Tm=true:=by
   rw[ah3,o7];intro b D;have:=o7.1 j.2 b D;simp only[Function.comp];generalize Y.hp.getD b .dead=x at this;cases x<;>simp_all [Tm,Blk.rn]
  have e:clS C (List Blk × Option Out × X) (Di G (G3 (l++T3 C Y.hp 0) Y.sl) (λY k=>B2 C W J q Y k) (λY k=>B2 C W J i Y k)) f (rnL (D9 l) first++PV.yd::rnL (D9 l) d) (l.map λb=>(Y.hp.getD b .dead).rn (D9 l)) (I2 l Y.hp,none,Y.s)=some (.tup [],(l.map λb=>(Y.hp.getD b .dead).rn (D9 l)).map Ci,(H',B,s')):=by
   simp only[clS,hS];rw[if_pos M,hL];simp only[h1]
  rw[e];exact h2
 ·exact Un A A.hC z t u o y m v h S P V U
end
section
variable {J R : Type} {r : R} {C : Cfg} {I : J -> (Nat -> Prop) -> (Nat -> Prop) -> World -> Prop} {L : Ctx} {W : Nat -> Prop} {Y : St J} {a : Act} {w : World} {U : C9} {Z : Yh J} {K : Value} {o : Oper} {H : List Blk}
theorem SG(A:Ask C I U Z K)(hm:C.P.follows .mixedOrders=true):∀(c:Code) {ro:Option Nat} {n n0:Nat} {rf:Bool} {R:Type} {r:R} {L:Ctx} {W:Nat->Prop} {Y:St J} {a:Act} {w:World} {k:Out->St J->Option R} {Q:Exit->Act->World->Prop},
  M7 C rf c=true->L.yv=K->B2 C U Z c Y k=some r->SI C I L W Y a.tmps w->Mk n0 L W w a.defers->Ro ro L W w->ZU C I n0 L W Y.hp w k r Q->c.wpIn (D2 ro) n C.P Q a w:=by
 intro c
 induction c with
 | skip=>intro ro n n0 rf R r L W Y a w k Q b f h S z G q;exact wpIn_skip (q .normal Y a w L W h (Stp.refl S.hr) S z)
 | label l=>intro ro n n0 rf R r L W Y a w k Q b f h S z G q;exact wpIn_label (q .normal Y a w L W h (Stp.refl S.hr) S z)
 | region id T d=>
  intro ro n n0 rf R r L W Y a w k Q b f h S z G q;cases d with
  | false=>
   have h:Z9 C U Z T T.toList Y (λp=>k .normal (Kx (C.keepR id) Y.hp.length p))=some r:=by
    simp only[B2,MY] at h;split at h
    ·exact h
    ·cases h
   refine wpIn_region_list (BO A T.toList f h S ?_);intro p F w' Γ' i v u B D;obtain⟨N,V,M⟩:=Iv A.hI B u (C.keepR id) (o3 _);exact q .normal _ F w' N i v M V (by rw[D];exact z.step M)
  | true=>
   simp only[M7,j3,ab1] at b;refine Af0 A hm b f h S ?_;intro p F w' Γ' i v u B D;obtain⟨N,V,M⟩:=Iv A.hI B u (C.keepR id) (o3 _);exact q .normal _ F w' N i v M V (by rw[D];exact z.step M)
 | seq x y O P=>
  intro ro n n0 rf R r L W Y a w k Q b f h S z G q;simp only[M7,j4] at b;refine wpIn_seq (O b.1 f h S z G ?_);intro o p F w' Γ' i v u B D;cases o with
  | normal=>exact P b.2 (u.yv.trans f) v B D (G.step u) λo2 a3 a2 w2 N Φ2 k1 k2 k3 k4=>q o2 a3 a2 w2 N Φ2 k1 (u.trans k2) k3 k4
  | exit id=>exact q (.exit id) p F w' Γ' i v u B D
  | ret=>exact q .ret p F w' Γ' i v u B D
 | cond c x y O P=>
  intro ro n n0 rf R r L W Y a w k Q b f h S z G q;simp only[M7,j4] at b;simp only[B2] at h;split at h
  ·rename_i t hc;have hv:=(S.opnd c).1;rw[hc] at hv;have hb:=hv.inv_bool;cases t with
   | true=>exact wpIn_cond hb (O b.1 f h S z G q)
   | false=>exact wpIn_cond hb (P b.2 f h S z G q)
  ·cases h
 | block id x ih=>
  intro ro n n0 rf R r L W Y a w k Q b f h S z G q;refine wpIn_block (ih b f h S z G ?_);intro o p F w' Γ' i v u B D;cases o with
  | normal=>exact q .normal p F w' Γ' i v u B D
  | exit j=>
   simp only[Out.exit',Exit.inBlock];dsimp only at v;split at v
   ·rename_i e;rw[if_pos e];exact q .normal p F w' Γ' i v u B D
   ·rename_i e;rw[if_neg e];exact q (.exit j) p F w' Γ' i v u B D
  | ret=>exact q .ret p F w' Γ' i v u B D
 | loop x ih=>
  intro ro n n0 rf R r L W Y a w k Q b f h S z G q;simp only[B2] at h;refine OY (λm F w'=>∃p Γ' i,E2 Y.hp.length (C.keep (ET x)) (λY k=>B2 C U Z x Y k) m p k=some r/\Stp C L Y.hp w W Γ' p.hp w' i/\SI C I Γ' i p F.tmps w'/\Mk n0 Γ' i w' F.defers) C.lf ⟨_,L,W,h,by rw[Ax];exact Stp.refl S.hr,Aw S _,z⟩ ?_;rintro m a1 w1 ⟨a4,Γ1,Φ1,v,u,B,D⟩;cases m with
  | zero=>simp[E2] at v
  | succ m=>
   simp only[E2] at v;refine ih b (u.yv.trans f) v B D (G.step u) ?_;intro o p F w' Γ' i k1 k2 k3 k4;cases o with
   | normal=>
    obtain⟨N,V,M,X⟩:=ID A.hI k3 (u.trans k2);have a0:=Mk.sub k4 X;exact⟨m,Nat.lt_succ_self m,_,N,i,k1,by rw[Ax];exact M,Aw V _,a0⟩
   | exit j=>exact q (.exit j) _ F w' Γ' i k1 (by rw[Ax];exact u.trans k2) (Aw k3 _) k4
   | ret=>exact q .ret _ F w' Γ' i k1 (by rw[Ax];exact u.trans k2) (Aw k3 _) k4
 | exit id=>intro ro n n0 rf R r L W Y a w k Q b f h S z G q;exact wpIn_exit (q (.exit id) _ a w L W h (by rw[Ax];exact Stp.refl S.hr) (Aw S _) z)
 | ret=>intro ro n n0 rf R r L W Y a w k Q b f h S z G q;exact wpIn_ret (q .ret _ a w L W h (by rw[Ax];exact Stp.refl S.hr) (Aw S _) z)
 | scope x ih=>
  intro ro n n0 rf R r L W Y a w k Q b f h S z G q;refine IH (ih (Q:=λe a w=>(∀l,e≠.goto l)/\Q e a w) b f h S z G ?_);intro o p F w' Γ' i v u B D;exact⟨λl=>by cases o<;>simp[Out.exit'],q o p F w' Γ' i v u B D⟩
 | rangeFunc g ps x y O P=>
  intro ro n n0 rf R r L W Y a w k Q b f h S z G q;simp only[M7,j4] at b;obtain⟨hx,hy⟩:=b;simp only[B2] at h;exact TR A f (fun {R r ro n n0 L W Y a w k Q} v u B D h6 h5=>O hx v u B D h6 h5) (fun {R r ro n n0 L W Y a w k Q} v u B D h6 h5=>P hy v u B D h6 h5) h S z G q
 | _=>intro ro n n0 rf R r L W Y a w k Q b f h S z G q;simp[B2] at h
end
section
variable {J R : Type} {r : R} {C : Cfg} {I : J -> (Nat -> Prop) -> (Nat -> Prop) -> World -> Prop} {L : Ctx} {Y : Nat -> Prop} {W : St J} {a : Act} {w : World} {O : C9} {K : Yh J} {Z : Value} {o : Oper} {H : List Blk}
def Oq(b:Array Value):ResultVar->Sem Value
 | .tmp t=>pure (b.getD t undef)
 | .cell a t=>do loadVar t (<-asAddr (b.getD a undef))
theorem NI(fn:Func)(b:Array Value):results fn b=(fn.results.toList.mapM (Oq b) >>= λl=>pure (if h:l.length=1 then l[0] else .tuple l.toArray)):=by
 unfold results;have:∀(c:Array ResultVar),(c.mapM (Oq b) >>= λd=>(pure (if h:d.size=1 then d[0] else .tuple d):Sem Value))=(c.toList.mapM (Oq b) >>= λl=>pure (if h:l.length=1 then l[0] else .tuple l.toArray)):=by
  intro c;rw[Array.mapM_eq_mapM_toList,map_eq_pure_bind,bind_assoc]
  congr 1
 exact this fn.results
theorem Wx(S:SR L H w W.sl a.tmps)(t:Nat):VP L (A0 H) w (W.sl.getD t (.tup [])) (a.tmps.getD t undef)/\∀c∈(W.sl.getD t (.tup [])).nms,c<H.length:=by
 by_cases h:t<W.sl.length
 ·obtain⟨V,e,k⟩:=S.slot t h;have g:∀c∈(W.sl[t]).nms,c<H.length:=λc f=>S.nms c (A9.2 ⟨t,h,f⟩)
  simp_all
 ·have b:W.sl.getD t (.tup []) = .tup []:=by rw[j2,p4 (ab8 h)];rfl
  have d:a.tmps.getD t undef=undef:=by rw[Array.getD_eq_getD_getElem?,ab9 (by rw[S.size];exact ab8 h)];rfl
  rw[b,d];exact⟨P5,by simp[PV.nms,B3]⟩
def LR(L:Ctx)(sh:Nat->Option Shp)(w:World):List PV->List Value->Prop
 | [],[]=>True
 | v::r,V::q=>VP L sh w v V/\LR L sh w r q
 | _,_=>False
theorem LR.len{sh:Nat->Option Shp}:∀{l:List PV} {A:List Value},LR L sh w l A->A.length=l.length
 | [],[],_=>rfl
 | v::r,V::q,h=>by simp[LR.len h.2]
 | [],_::_,h=>h.elim
 | _::_,[],h=>h.elim
theorem LR.CR{sh:Nat->Option Shp}:∀{l:List PV} {A:List Value},LR L sh w l A->∀j (h:j<l.length),∃U,A[j]? = some U/\VP L sh w (l[j]) U
 | [],[],_,j,h=>by simp at h
 | v::r,V::q,h,0,_=>⟨V,rfl,h.1⟩
 | v::r,V::q,h,j+1,hj=>by
  obtain⟨U,e,k⟩:=LR.CR h.2 j (by simpa using hj);grind
 | [],_::_,h,_,_=>h.elim
 | _::_,[],h,_,_=>h.elim
theorem Ac3{t:TypeId}{A V:Value}{w':World}(h:(ah2 t A).run C.P w' = .ok V w'):(do loadVar t (<-asAddr A):Sem Value).run C.P w' = .ok V w':=by
 simp only[ah2] at h;unfold Instr.sureAddr at h;split at h
 ·exact h
 simp_all
theorem Jx(j:HR L H w)(S:SR L H w W.sl a.tmps):∀(n:List ResultVar) {k:List PV->Option R},Qj C W.sl H n k=some r->
  ∃e d,k e=some r/\(n.mapM (Oq a.tmps)).run C.P w = .ok d w/\LR L (A0 H) w e d/\∀c∈B3 e,c<H.length
 | [],k,h=>⟨[],[],h,by simp,trivial,by simp[B3]⟩
 | .tmp t::b,k,h=>by
  simp only[Qj] at h;obtain⟨e,d,g,m,i,q⟩:=Jx j S b h;obtain⟨f,p⟩:=Wx S t;refine⟨_,a.tmps.getD t undef::d,g,?_,⟨f,i⟩,λc l=>?_⟩
  ·rw[ag1];simp only[Oq,ae5,Sem.run_pure,ad4,m]
  ·simp only[B3,p7] at l;grind
 | .cell x t::b,k,h=>by
  simp only[Qj] at h;obtain⟨f,p⟩:=Wx S x;obtain⟨v,u,A,V,z,y⟩:=Po j h f;obtain⟨e,d,g,m,i,q⟩:=Jx j S b u;refine⟨_,V::d,g,?_,⟨z,i⟩,λc l=>?_⟩
  ·rw[ag1];have:=Ac3 (y w (Ext.refl w));rw[show Oq a.tmps (.cell x t)=(do loadVar t (<-asAddr (a.tmps.getD x undef)):Sem Value) from rfl];rw[ae5,this];simp_all
  ·simp only[B3,p7] at l;grind
theorem FR{b:List PV}{c:Nat}(h:c∈(U6 b).nms):c∈B3 b:=by
 unfold U6 at h;split at h
 ·simp[B3,h]
 ·exact h
theorem Ad4{f:List PV}{b:List Value}(h:LR L (A0 H) w f b):VP L (A0 H) w (U6 f) (if h:b.length=1 then b[0] else .tuple b.toArray):=by
 have c:=h.len;unfold U6;split
 ·rename_i v;cases b with
  | nil=>simp at c
  | cons V q=>
   cases q with
   | nil=>exact h.1
   | cons _ _=>simp at c
 ·rename_i d;have:b.length≠1:=by
   intro e;rw[e] at c
   match f,c with
   | [v],_=>exact d v rfl
  rw[dif_neg this];refine VP.mk_tup (by simpa using c) λj g=>?_
  obtain⟨U,e,k⟩:=h.CR j g;grind
def Dm(C:Cfg):Prop:=∀ f fn c,C.okf f=true->C.P.funcs[f]? = some fn->fn.body=some c->WD C c=true/\(fn.name == "runtime.NumGoroutine")=false
theorem Gm{f:Nat}{fn:Func}{c:Code}{d:Array Value}(g:C.P.funcs[f]? = some fn)(e:fn.body=some c)(h:(fn.name == "runtime.NumGoroutine")=false):(callFunc f d).run C.P w = .ok (.enter f d) w:=by
 have b:¬ fn.name = "runtime.NumGoroutine":=by simpa using h
 simp[callFunc,g,e,b,ad4]
theorem ZY{args:List PV}{d:Array Value}{n:Nat}(e:CR L (A0 H) w args d)(i:∀c∈B3 args,c<H.length) :
  SR L H w (args++j1 (n-args.length) (.tup [])) (d++z7 (n-d.size) undef):=by
 have h:CR L (A0 H) w (j1 (n-args.length) (.tup [])) (z7 (n-d.size) undef):=⟨by simp[e.1],λj f=>by
  simp only[List.length_replicate] at f;refine⟨undef,by rw[e.1];simp[f],?_⟩;simp only[List.getElem_replicate];exact P5⟩
 have g:=e.append h;refine⟨g.1,λc b=>?_,g.2⟩;rw[I4,p7] at b;rcases b with b|b
 ·exact i c b
 ·obtain⟨j,f,b⟩:=A9.1 b;simp[PV.nms,B3] at b
theorem Stp.put{Γ0 Γ':Ctx}{H0 H':List Blk}{w0 w':World}{Φ0 Φ':Nat->Prop}{D:Nat}{ob:Obj}(h:Stp C Γ0 H0 w0 Φ0 Γ' H' w' Φ')(hD:w0.heap.size<=D)(hO:Off Γ' Φ' w' D):Stp C Γ0 H0 w0 Φ0 Γ' H' (w'.putObj D ob) Φ':=by
 refine⟨h.os,h.tape,h.output,by rw[World.putObj_size];exact h.size,h.sub,h.stnew,h.own,h.foot,λg hg hn hp=>?_,h.yv,h.len,λb hb hf=>?_⟩
 ·rw[s9 (by omega)];exact h.frame g hg hn hp
 ·obtain⟨k1,k2,k3⟩:=h.keep b hb hf;refine⟨k1,k2,λg hg=>?_⟩;rw[<-k3 g hg];refine C4 (s9 ?_);rintro rfl;exact hO.2.2.1 b (k1.trans hg)
theorem QJ{F:Fence}{n:Nat}{fn:Func}{l:Ending->World->Prop}{f Γ':Ctx}{k:List Blk}{j:World}{g c:Nat->Prop}{d:St J}{b:Array Value}(q:HI I)
  (t:∀w',SI C I Γ' c d b w'->Stp C f k j g Γ' d.hp w' c->∃V,(results fn b).run C.P w' = .ok V w'/\l (.returned V) w') :
  ∀(e:List Nat) (w:World),e.Nodup->(∀D∈e,j.heap.size<=D/\Off Γ' c w D/\w.heap[D]? = some (.deferred (some [])))->SI C I Γ' c d b w->Stp C f k j g Γ' d.hp w c->LeavesInM F n C.P fn b l (e.map mkD) .returning w
 | [],w,_,_,S,h=>t w S h
 | D::e,w,y,p,S,h=>by
  obtain⟨u,m,v⟩:=p D (by simp);refine⟨by simp,.inl ⟨D,w.putObj D (.deferred none),rfl,run_takeDeferred v,?_⟩⟩;have i:=ac2.1 y;refine QJ q t e _ i.2 (λE x=>?_) (S.offW q (Ke.put m)) (h.put u m);obtain⟨z,A,B⟩:=p E (by simp[x]);refine⟨z,A.put,(s9 ?_).trans B⟩;grind
theorem Av(hX:XOK C)(hO:Dm C)(hm:C.P.follows .mixedOrders=true):∀d,T8 C (evC C d)
 | 0=>λJ I K Z D hy g args H s ret j k h=>by simp[evC] at h
 | d+1=>λJ I K Z D hy g args H s ret j k h L Y w u S hH hg hi A G hn=>by
  have ih:=Av hX hO hm d;simp only[evC] at h;split at h
  ·rename_i fn P M;split at h
   ·rename_i c F;obtain⟨m,p⟩:=hO g fn c P M F;intro ro n o a next Q N
    rw[Gm M F p];simp only[ab0];refine⟨λh=>(by simp[D2,aa5] at h),?_⟩;have key:CallsIn aa5 (n-1) C.P g u w λe i=>∃V,e = .returned V/\T7 C I L H w Y ret j k V i:=by
     refine callsIn_of_wp_marks M F trivial ?_;have S0:SI C I L Y { sl:=args++j1 (fn.ntmps-args.length) (.tup []),hp:=H,s:=s } (u++z7 (fn.ntmps-u.size) undef) w:=⟨hH,ZY G hn,hg,hi,A⟩
     refine SG (ro:=none) (rf:=true) (n:=n-1) (n0:=w.heap.size) (a:={ tmps:=u++z7 (fn.ntmps-u.size) undef,defers:=[] }) ⟨D,ih,hX,hy⟩ hm c m S h S0 (Mk.nil (o3 _)) Ro.none ?_;intro o f y w' Γ' t T U q ⟨_,Ds,k4,k5,k6⟩
     suffices z:∀w',SI C I Γ' t f y.tmps w'->Stp C L H w Y Γ' f.hp w' t->Qj C f.sl f.hp fn.results.toList (λv=>some (U6 v,f.hp,f.s))=some (ret,j,k)->∃V,(results fn y.tmps).run C.P w' = .ok V w'/\∃x,af3 V = .returned x/\T7 C I L H w Y ret j k x w' by
      have l:Qj C f.sl f.hp fn.results.toList (λv=>some (U6 v,f.hp,f.s))=some (ret,j,k)->LeavesInM (D2 none) (n-1) C.P fn y.tmps (λe i=>∃V,e = .returned V/\T7 C I L H w Y ret j k V i) y.defers .returning w':=λh=>by
       rw[k4];exact QJ D (λw' a b=>z w' a b h) Ds w' k5 k6 q U
      cases o with
      | normal=>exact l T
      | ret=>exact l T
      | exit id=>cases T
     intro w' q U;have z:∀(h:Qj C f.sl f.hp fn.results.toList (λv=>some (U6 v,f.hp,f.s))=some (ret,j,k)),∃V,(results fn y.tmps).run C.P w' = .ok V w'/\∃x,af3 V = .returned x/\T7 C I L H w Y ret j k x w':=λh=>by
      obtain⟨v,Us,X,h2,h3,h4⟩:=Jx q.hr q.sr _ h;simp only[a8,o5] at X;obtain⟨rfl,rfl,rfl⟩:=X;refine⟨_,?_,_,rfl,Γ',t,U,q.hr,Ad4 h3,λc G=>h4 c (FR G),q.inv,q.dis⟩;rw[NI,ae5,h2];rfl
     omega
    have B:CallsIn (D2 ro) (n-1) C.P g u w λe i=>∃V,e = .returned V/\T7 C I L H w Y ret j k V i:=key
    refine B.mono ?_;grind
   ·cases h
  ·cases h
end
end
section
open Go Go.ChangeShapes Go.RowKit Go.WideShapes
inductive Ty where
 | bool
 | int (k:IntKind)
 | str
 | slice (e:List Ty)
 deriving Inhabited
def YV(P:Program)(f:Nat->Option (List Ty)):List Field->Nat->Option (List Ty)
 | [],_=>some []
 | x::r,off=>if x.offset==off then match f x.type with
   | some a=>if P.cellsOf x.type==a.length then match YV P f r (off+a.length) with
    | some b=>some (a++b)
    | none=>none else none
   | none=>none else none
def Fz(P:Program):Nat->Nat->Option (List Ty)
 | 0,_=>none
 | d+1,t=>match P.underlying t with
  | some .bool=>some [.bool]
  | some (.int k)=>some [.int k]
  | some .string=>some [.str]
  | some (.slice e)=>match Fz P d e with
   | some a=>if P.cellsOf e==a.length&&decide (0<a.length) then some [.slice a] else none
   | none=>none
  | some (.struct b)=>match YV P (Fz P d) b.toList 0 with
   | some r=>if P.cellsOf t==r.length then some r else none
   | none=>none
  | some (.array n e)=>match Fz P d e with
   | some a=>if P.cellsOf e==a.length&&P.cellsOf t==n*a.length then some (j1 n a).flatten else none
   | none=>none
  | _=>none
mutual
def Ty.of:Ty->SV->Prop
 | .bool,v=>∃b,v = .bool b
 | .int k,v=>∃n,v = .int k n/\k.min<=n/\n<=k.max
 | .str,v=>∃l,v = .str l/\l.length<=maxLen
 | .slice e,v=>v = .sl true false e.length []\/∃els,v = .sl false false e.length els/\els.length<=maxLen/\∀el∈els,Ty.ofL e el
def Ty.ofL:List Ty->List SV->Prop
 | [],l=>l=[]
 | t::r,l=>∃v q,l=v::q/\t.of v/\Ty.ofL r q
end
theorem Ty.ofL_len:∀{ts:List Ty} {l:List SV},Ty.ofL ts l->l.length=ts.length
 | [],l,h=>by simp only[Ty.ofL] at h;subst h;rfl
 | t::r,l,h=>by
  simp only[Ty.ofL] at h;obtain⟨v,q,rfl,_,hq⟩:=h;simp[Ty.ofL_len hq]
theorem Ty.ofL_append:∀{a b:List Ty} {x y:List SV},Ty.ofL a x->Ty.ofL b y->Ty.ofL (a++b) (x++y)
 | [],b,x,y,h,k=>by simp only[Ty.ofL] at h;subst h;exact k
 | t::r,b,x,y,h,k=>by
  simp only[Ty.ofL] at h;obtain⟨v,q,rfl,hv,hq⟩:=h;simp only[v8,Ty.ofL];exact⟨v,q++y,rfl,hv,Ty.ofL_append hq k⟩
def CVS(St:Nat->Prop)(w:World)(l:List SV)(A:List Value):Prop:=A.length=l.length/\∀j (h:j<l.length),∃U,A[j]? = some U/\VS St w (l[j]) U
theorem CVS.append{St:Nat->Prop}{w:World}{x y:List SV}{X Y:List Value}(hx:CVS St w x X)(hy:CVS St w y Y):CVS St w (x++y) (X++Y):=by
 refine⟨by simp[hx.1,hy.1],λj hj=>?_⟩;by_cases h:j<x.length
 ·obtain⟨U,e,k⟩:=hx.2 j h;exact⟨U,by rw[List.getElem?_append_left (by rw[hx.1];exact h)];exact e,by rw[ab3 h];exact k⟩
 ·obtain⟨U,e,k⟩:=hy.2 (j-x.length) (by simp at hj;omega);exact⟨U,by rw[List.getElem?_append_right (by rw[hx.1];omega),hx.1];exact e,by rw[List.getElem_append_right (by omega)];exact k⟩
theorem CVS.one{St:Nat->Prop}{w:World}{v:SV}{V:Value}(h:VS St w v V):CVS St w [v] [V]:=⟨rfl,λj hj=>by
 have:j=0:=by simpa using hj
 subst this;exact⟨V,rfl,h⟩⟩
theorem UH{w:World}{a:Addr}{V:Value}(h:w.cell? a=some V):a.spot=none/\a.block<w.heap.size:=by
 unfold aj1 at h;split at h
 ·rename_i c t fr b;refine⟨?_,(s5.1 b).1⟩;cases d:a.spot with
  | none=>rfl
  | some x=>rw[d] at h;simp at h
 ·cases h
theorem DL{a:Addr}(h:a.spot=none)(n:Nat):a.add n=⟨a.block,a.off+n,none⟩:=by
 unfold Addr.add;split
 ·rename_i b;subst b;cases a;simp_all
 ·rfl
theorem ZX{a:Addr}{m n:Nat}(h:a.spot=none):(a.add m).add n=⟨a.block,a.off+m+n,none⟩:=by rw[DL h,DL rfl]
theorem Yl{H:Type}{enc:TypeId × Value->H}{P:Program}{w:World}{base:Nat}{sp:Nat->Bool}{held:Bool}{f:Nat->Option (List Ty)}{m:Nat}
  (q:∀t c g x,f t=some c->x3 enc P w base sp held m t g=some x->∃d,Ty.ofL c d/\CVS (· < w.heap.size) w d g) (g:List Value) :
  ∀(n:List Field) (off:Nat) (c:List Ty),YV P f n off=some c->(∀(i:Nat) (fl:Field),n[i]? = some fl->∃y,x3 enc P w base sp held m fl.type ((g.drop fl.offset).take (P.cellsOf fl.type))=some y)->
   ∃d,Ty.ofL c d/\CVS (· < w.heap.size) w d ((g.drop off).take c.length)
 | [],off,c,h,_=>by
  simp only[YV,a8] at h;subst h;exact⟨[],rfl,by simp,λj F=>by simp at F⟩
 | x::r,off,c,h,k=>by
  simp only[YV] at h;split at h
  ·rename_i l;simp only[beq_iff_eq] at l;split at h
   ·rename_i a B;split at h
    ·rename_i o;simp only[beq_iff_eq] at o;split at h
     ·rename_i b C;simp only[a8] at h;subst h;obtain⟨y,p⟩:=k 0 x rfl;rw[l,o] at p;obtain⟨G,u,v⟩:=q _ _ _ _ B p;obtain⟨I,z,A⟩:=Yl q g r _ b C (λi fl D=>k (i+1) fl (by simpa using D));refine⟨G++I,Ty.ofL_append u z,?_⟩;have:=v.append A;have e:(g.drop off).take (a++b).length=(g.drop off).take a.length++(g.drop (off+a.length)).take b.length:=by
       rw[aa7,ah1,ag0]
      rw[e];exact this
     ·cases h
    ·cases h
   ·cases h
  ·cases h
theorem DO{H:Type}{enc:TypeId × Value->H}{P:Program}{w:World}{base:Nat}{sp:Nat->Bool}{held:Bool}{e m:Nat}{a:List Ty}(c:List Value)
  (g:∀c x,x3 enc P w base sp held m e c=some x->∃b,Ty.ofL a b/\CVS (· < w.heap.size) w b c) (f:P.cellsOf e=a.length) :
  ∀(n k:Nat),(∀i,k<=i->i<k+n->∃y,x3 enc P w base sp held m e ((c.drop (i*P.cellsOf e)).take (P.cellsOf e))=some y)->
   ∃b,Ty.ofL (j1 n a).flatten b/\CVS (· < w.heap.size) w b ((c.drop (k*a.length)).take (n*a.length))
 | 0,k,_=>⟨[],by simp[Ty.ofL],by simp,λj r=>by simp at r⟩
 | n+1,k,hall=>by
  obtain⟨y,t⟩:=hall k (o3 _) (by omega);obtain⟨u,h,d⟩:=g _ _ t;obtain⟨v,l,o⟩:=DO c g f n (k+1) (λi p q=>hall i (by omega) (by omega));rw[f] at d;refine⟨u++v,?_,?_⟩
  ·rw[ad7,List.flatten_cons];exact Ty.ofL_append h l
  ·have:=d.append o;have e:(c.drop (k*a.length)).take ((n+1)*a.length)=(c.drop (k*a.length)).take a.length++(c.drop ((k+1)*a.length)).take (n*a.length):=by
    rw[show(n+1)*a.length=a.length+n*a.length by rw[Nat.add_mul,Nat.one_mul,Nat.add_comm],ah1,ag0,show k*a.length+a.length=(k+1)*a.length by rw[Nat.add_mul,Nat.one_mul]]
   rw[e];exact this
theorem Qx{H:Type}{enc:TypeId × Value->H}{P:Program}{w:World}{base:Nat}{sp:Nat->Bool}{held:Bool}:∀(n t:Nat) (q:List Ty) (m:Nat) (C:List Value) (x:DataW H × List MemPlace),Fz P n t=some q->
  x3 enc P w base sp held m t C=some x->∃p,Ty.ofL q p/\CVS (· < w.heap.size) w p C
 | 0,t,q,m,C,x,h,_=>by simp[Fz] at h
 | n+1,t,q,m,C,x,h,hd=>by
  simp only[Fz] at h;split at h
  ·rename_i B;simp only[a8] at h;subst h;obtain⟨b,rfl,_⟩:=DataW.trod_bool B hd;exact⟨[.bool b],by simp[Ty.ofL,Ty.of],CVS.one (.bool b)⟩
  ·rename_i k B;simp only[a8] at h;subst h;obtain⟨b,rfl,_,S⟩:=DataW.trod_int B hd;simp only[Lit.wf,j4,decide_eq_true_eq] at S;exact⟨[.int k b],by simp[Ty.ofL,Ty.of,S],CVS.one (.int k b)⟩
  ·rename_i B;simp only[a8] at h;subst h;obtain⟨b,rfl,_,S⟩:=DataW.trod_string B hd;exact⟨[.str b.data.toList],by simpa[Ty.ofL,Ty.of] using S,CVS.one (.str b)⟩
  ·rename_i e B;split at h
   ·rename_i a V;split at h
    ·rename_i F;simp only[j4,beq_iff_eq,decide_eq_true_eq] at F;simp only[a8] at h;subst h;rcases DataW.trod_slice B hd with⟨rfl,_⟩|⟨g,len,cap,T,a1,Q,_,rfl,_,hb,hl,hm,G,D,_,_⟩
     ·exact⟨[.sl true false a.length []],by simp[Ty.ofL,Ty.of],CVS.one (.nil _ _)⟩
     ·have v:∀i,i<len->∃M d,w.cells? base (g.add (i*a.length)) a.length=some d/\Ty.ofL a M/\CVS (· < w.heap.size) w M d:=λi f=>by
       have u:=D i f;rw[a7 (by omega),F.1,Option.bind_eq_some_iff] at u;obtain⟨d,o,K⟩:=u;obtain⟨M,h4,h5⟩:=Qx n e a Q d _ V K;exact⟨M,d,o,h4,h5⟩
      by_cases h0:len=0
      ·subst h0;exact⟨[.sl false false a.length []],by simp[Ty.ofL,Ty.of],CVS.one (.emp _ _ _ _ (by simp) hm)⟩
      ·let c:List (List SV):=(ag2 len).attach.map λi=>ab5 (v i.1 (List.mem_range.1 i.2))
       have N:c.length=len:=by simp[c]
       have l:∀i (f:i<c.length),∃d,w.cells? base (g.add (i*a.length)) a.length=some d/\Ty.ofL a (c[i])/\CVS (· < w.heap.size) w (c[i]) d:=λi f=>by
        have z:i<len:=by omega
        have e:c[i]=ab5 (v i z):=by simp[c]
        rw[e];exact ac4 (v i z)
       have A:g.spot=none/\g.block<w.heap.size:=by
        obtain⟨d,u,o,K⟩:=l 0 (by omega);obtain⟨_,Y,J⟩:=ae7 u;have:=J 0 F.2;rw[a7 (by omega)] at this;simp only[ah6,Addr.add,if_true] at this;exact UH this
       have D:∀i (f:i<c.length),(c[i]).length=a.length:=λi f=>by
        obtain⟨d,u,o,K⟩:=l i f;exact Ty.ofL_len o
       have y:∀i (f:i<c.length) j (I:j<(c[i]).length),∃U,w.cell? ⟨g.block,g.off+i*a.length+j,none⟩=some U/\VS (· < w.heap.size) w (c[i][j]) U:=λi f j I=>by
        obtain⟨d,u,o,K⟩:=l i f;obtain⟨_,Y,J⟩:=ae7 u;have X:j<a.length:=by rw[<-D i f];exact I
        obtain⟨U,L,R⟩:=K.2 j I;refine⟨U,?_,R⟩;rw[<-L,<-J j X,ZX A.1]
       refine⟨[.sl false false a.length c],?_,CVS.one ?_⟩
       ·simp only[Ty.ofL,Ty.of];refine⟨_,[],rfl,.inr ⟨c,rfl,by omega,λM a0=>?_⟩,rfl⟩;obtain⟨i,f,rfl⟩:=List.getElem_of_mem a0;obtain⟨d,u,o,K⟩:=l i f;exact o
       ·have e:g=⟨g.block,g.off,none⟩:=by cases g;simp_all
        rw[e];refine .sl false c g.block g.off len cap a.length (λi j=>(w.cell? ⟨g.block,g.off+i*a.length+j,none⟩).getD undef) N.symm hl hm (by simp) A.2 D (λi f j I=>?_) (λi f j I=>?_)
        ·obtain⟨U,L,R⟩:=y i f j I;rw[L];rfl
        ·obtain⟨U,L,R⟩:=y i f j I;rw[L];exact R
    ·cases h
   ·cases h
  ·rename_i fs B;split at h
   ·rename_i r hr;split at h
    ·rename_i F;simp only[beq_iff_eq] at F;simp only[a8] at h;subst h;obtain⟨xs,Q,_,_,G,O,W⟩:=DataW.trod_struct B hd;obtain⟨p,u,o⟩:=Yl (λt q C x=>Qx n t q Q C x) C fs.toList 0 r hr (λi fl f=>by
      have z:fs[i]? = some fl:=by simpa using f
      have:=W i fl z;have Z:i<xs.length:=by rw[O];exact(s5.1 z).1
      rw[a7 Z] at this;exact⟨_,this⟩)
     refine⟨p,u,?_⟩;rw[u9,x6 (by omega)] at o;exact o
    ·cases h
   ·cases h
  ·rename_i k e B;split at h
   ·rename_i a V;split at h
    ·rename_i F;simp only[j4,beq_iff_eq] at F;simp only[a8] at h;subst h;obtain⟨xs,Q,_,_,G,O,W⟩:=DataW.trod_array B hd;obtain⟨p,u,o⟩:=DO C (λC x=>Qx n e a Q C x V) F.1 k 0 (λi _ f=>by
      have:=W i (by omega);rw[a7 (by omega)] at this;exact⟨_,this⟩)
     refine⟨p,u,?_⟩;rw[ah6,u9,x6 (by omega)] at o;exact o
    ·cases h
   ·cases h
  ·cases h
def Sc(P:Program)(t:Nat):Bool:=match P.underlying t with
 | some (.struct _)=>true
 | some (.array _ _)=>true
 | _=>false
def CZ(P:Program)(t:Nat)(v:PV):Prop:=∃a l,Fz P 20 t=some a/\Ty.ofL a l/\((Sc P t=true/\v = .agg (l.map .s))\/(Sc P t=false/\∃x,l=[x]/\v = .s x))
def Eh(P:Program):List Nat->List PV->Prop
 | [],l=>l=[]
 | t::r,l=>∃v q,l=v::q/\CZ P t v/\Eh P r q
theorem CZ.nms{P:Program}{t:Nat}{v:PV}(h:CZ P t v):v.nms=[]:=by
 obtain⟨tys,l,_,_,h⟩:=h;rcases h with⟨_,rfl⟩|⟨_,x,_,rfl⟩
 ·simp only[PV.nms];rw[x7];intro c hc;obtain⟨j,hj,hc⟩:=A9.1 hc;simp[PV.nms] at hc
 ·rfl
theorem Eh.nms{P:Program}:∀{ts:List Nat} {l:List PV},Eh P ts l->B3 l=[]
 | [],l,h=>by simp only[Eh] at h;subst h;rfl
 | t::r,l,h=>by
  simp only[Eh] at h;obtain⟨v,q,rfl,h1,h2⟩:=h;simp[B3,h1.nms,h2.nms]
section
variable {H : Type} {enc : TypeId × Value -> H} {P : Program} {w : World}
theorem Ad2{v:Value}{r:Reach}{b:Nat}{t:Nat}(f:Sc P t=false)(a:w8 P w r b t v):∀c,v = .agg c->False:=by
 rintro c rfl;simp only[w8,Cell.okWide] at a;unfold Sc at f;split at a
 ·grind
 ·grind
 ·revert a
  cases e:P.underlying t with
  | none=>simp[Cell.ok,e]
  | some d=>cases d<;>simp[Cell.ok,e]
theorem XT{Γ:Ctx}{sh:Nat->Option Shp}{sp:Nat->Bool}{held:Bool}{r:Reach}{b z t:Nat}{v:Value}{d:DataW H}{G:List MemPlace}(hΓ:∀g,g<w.heap.size->Γ.St g)(l:(Fz P 20 t).isSome=true)(c:w8 P w r b t v)(B:DataW.Trod enc P w z sp held t v d G) :
  ∃y,CZ P t y/\VP Γ sh w y v:=by
 obtain⟨f,q⟩:=ab4.1 l;obtain⟨m,F⟩:=B;obtain⟨a,u,i⟩:=Qx 20 t f m _ _ q F;have lift:∀{x:SV} {V:Value},VS (· < w.heap.size) w x V->VS Γ.St w x V:=λh=>h.mono (λ_ _=>rfl) hΓ
 cases o:Sc P t with
 | true=>
  refine⟨.agg (a.map .s),⟨f,a,q,u,.inl ⟨o,rfl⟩⟩,?_⟩;have:∃n,v = .agg n:=by
   unfold Sc at o;simp only[w8] at c;grind
  obtain⟨n,rfl⟩:=this;simp only[Value.cells] at i;refine VP.mk_agg (by simpa using i.1) λj C=>?_
  have p:j<a.length:=by simpa using C
  obtain⟨U,e,k⟩:=i.2 j p;exact⟨U,by simpa using e,by rw[r9];exact .s _ _ (lift k)⟩
 | false=>
  have A:v.cells = #[v]:=by
   have:=Ad2 o c;cases v with
   | agg n=>exact(this n rfl).elim
   | _=>rfl
  rw[A] at i;have D:a.length=1:=by have:=i.1;simpa using this.symm
  obtain⟨x,rfl⟩:∃x,a=[x]:=by
   match a,D with
   | [x],_=>exact⟨x,rfl⟩
  obtain⟨U,e,k⟩:=i.2 0 (by simp);simp only[List.getElem?_cons_zero,a8] at e;subst e;exact⟨.s x,⟨f,[x],q,u,.inr ⟨o,x,rfl,rfl⟩⟩,.s _ _ (lift k)⟩
theorem Xx{Γ:Ctx}{sh:Nat->Option Shp}{sp:Nat->Bool}{held:Bool}{r:Reach}{b y:Nat}(hΓ:∀g,g<w.heap.size->Γ.St g):∀(i:List Nat) (l:List Value) (ds:List (DataW H)) (o:List MemPlace),(∀t∈i,(Fz P 20 t).isSome=true)->(∀(j:Nat) t v,i[j]? = some t->l[j]? = some v->w8 P w r b t v)->y5 enc P w y sp held i l ds o->
  ∃a,Eh P i a/\l.length=a.length/\ds.length=i.length/\∀j (h:j<a.length),∃U,l[j]? = some U/\VP Γ sh w (a[j]) U
 | [],l,ds,o,_,_,h=>by
  obtain⟨rfl,rfl,_⟩:=trodAll_nil h;exact⟨[],rfl,rfl,rfl,λj m=>by simp at m⟩
 | t::i,l,ds,o,c,f,h=>by
  obtain⟨v,u,d,n,p,q,rfl,rfl,rfl,D,F⟩:=trodAll_cons h;obtain⟨x,J,K⟩:=XT (Γ:=Γ) (sh:=sh) hΓ (c t (by simp)) (f 0 t v rfl rfl) D;obtain⟨a,z,A,B,C⟩:=Xx (Γ:=Γ) (sh:=sh) hΓ i u n q (λt G=>c t (by simp[G])) (λj t v m I=>f (j+1) t v (by simpa using m) (by simpa using I)) F;refine⟨x::a,⟨x,a,rfl,J,z⟩,by simp[A],by simp[B],λj m=>?_⟩;cases j with
  | zero=>exact⟨v,rfl,K⟩
  | succ j=>
   obtain⟨U,e,k⟩:=C j (by simpa using m);grind
theorem Sa(g:laidOutB P=true){w':World}{ts:List Nat}{vs:List Value}{ds:List (DataW H)}{ps:List MemPlace}:∀{ts:List Nat} {vs:List Value} {ds:List (DataW H)} {ps:List MemPlace},(∀t∈ts,P.readableRec t=true/\t<P.types.size)->y5 enc P w 0 (λ_=>true) true ts vs ds ps->(∀x∈ps,w.sameAt w' x)->∀sp:Nat->Bool,(∀x∈ps,sp x.block=true)->
  y5 enc P w' 0 sp true ts vs ds ps
 | [],vs,ds,ps,_,h,_,sp,_=>by
  obtain⟨rfl,rfl,rfl⟩:=trodAll_nil h;exact trodAll_mk0
 | t::ts,vs,ds,ps,e,h,i,sp,b=>by
  obtain⟨v,f,d,c,p,q,rfl,rfl,rfl,j,k⟩:=trodAll_cons h;refine⟨p,q,WideElems.Trod_stays g (e t (by simp)).1 (e t (by simp)).2 j (λx a=>i x (by simp[a])) (λx a=>b x (by simp[a])),Sa g (w':=w') (ts:=ts) (vs:=f) (ds:=c) (ps:=q) (λt l=>e t (by simp[l])) k (λx a=>i x (by simp[a])) sp (λx a=>b x (by simp[a])),rfl⟩
theorem Vw{f:Func}{s:ChangeSpec}{c fresh d k:Bool}{W m:World}{args:Array Value}{v:Value}{ds n:List (DataW H)}{a pa pv:List MemPlace}
  (u:ai0 enc P f.params.toList s.vars c W args.toList ds n a)
  (i:∀(b:Nat) (sp:Nat->Bool) (B:Bool),y5 enc P m b sp B f.resultTypes.toList (v.resultList f.resultTypes.size) (s.fn H (ds++n)).results [])
  (e:∀sp:Nat->Bool,(∀p∈a,sp p.block=true)->y5 enc P m 0 sp true f.params.toList args.toList (s.fn H (ds++n)).args pa)
  (g:∀sp:Nat->Bool,(∀p∈a,sp p.block=true)->DataW.TrodVars enc P m sp s.vars (s.fn H (ds++n)).vars pv)
  (l:a=pa++pv) (z:Below W.heap.size W m)
  (y:∀(j:Nat) (t:TypeId) (r:Value),f.resultTypes[j]? = some t->(v.resultList f.resultTypes.size)[j]? = some r->w8 P m .any 0 t r) :
  s.post enc P f c fresh d k W args v m:=by
 have h:∀p∈a,(λb=>decide (b<W.heap.size)) p.block=true:=λp o=>by simpa using u.lt p o
 refine⟨ds,n,a,[],pa,pv,u,i _ _ _,e _ h,g _ h,z.frame _,λ_=>?_⟩;have x:=u.lt;obtain⟨_,_,_,_,_,D,C⟩:=u;refine⟨y,_,_,([]++pa)++pv,⟨[]++pa,pv,trodAll_append (e _ (λ_ _=>rfl)) (i _ _ _),g _ (λ_ _=>rfl),rfl,?_,?_⟩,?_⟩
 ·intro b off o;have q:MemPlace.cell b off∈a:=by rw[l];simpa using o
  rw[z.frozen (x _ q)];exact D b off q
 ·intro A;have:=C A;rw[l] at this;simpa using this
 ·intro p o _;rw[l];simpa using o
end
theorem OW{P:Program}{f:Nat}{a:Array Value}{w:World}{R:Value->World->Prop}(b:(callFunc f a).run P w = .ok (.enter f a) w)(h:J2 P ((callFunc f a).run P w) R):Calls P f a w λe w'=>∃V,e = .returned V/\R V w':=by
 rw[b] at h;have:=h none 1 { op:=.move (.const undef),dst:=some 0,guard:=none,type:=0,after:=#[],pos:=default } { tmps:=#[undef],defers:=[] } (λg w'=>∃V,g.tmps[0]? = some V/\R V w') (λ_ _ _=>False) (λV w' k=>⟨V,by simp[Act.put],k⟩);rw[ab0] at this;have j:CallsIn aa5 0 P f a w _:=this.2;refine(callsIn_wide.1 j).mono λe w' d=>?_
 cases e with
 | returned v=>
  obtain⟨V,i,l⟩:=d;simp[Act.put] at i;grind
 | panicked c=>exact d.elim
 | outgrown=>obtain⟨_,_,h⟩:=d;exact h.elim
def noY:Yh Unit:=λ_ _=>none
theorem WF{H:Type}{enc:TypeId × Value->H}{C:Cfg}{f X:Nat}{fn:Func}{c:Code}{s:ChangeSpec}{apart fresh handsOn again:Bool}(hX:XOK C)(hO:Dm C)(hm:C.P.follows .mixedOrders=true)(hl:laidOutB C.P=true)(K:C.P.funcs[f]? = some fn)(hb:fn.body=some c)(r:(fn.name == "runtime.NumGoroutine")=false)
  (T:∀t∈fn.params.toList,(C.P.readableRec t=true/\t<C.P.types.size)/\(Fz C.P 20 t).isSome=true) (n:fn.resultTypes = #[X]) (a:C.P.underlying X=some .bool) (i:s.vars=[])
  (y:∀ds:List (DataW H),ds.length=fn.params.toList.length->s.fn H ds = { results:=[.lit (.bool true)],args:=ds })
  (J:∀args,Eh C.P fn.params.toList args->∃d G,evC C d Unit noY f args [] ()=some (.s (.bool true),G,()))
  (W:World) (hG:GOK C (· < W.heap.size) W) (base:Nat) (args:Array Value) (ds Y:List (DataW H)) (l:List MemPlace)
  (B:∀(j:Nat) t v,fn.params[j]? = some t->args[j]? = some v->w8 C.P W .any base t v)
  (R:ai0 enc C.P fn.params.toList s.vars apart W args.toList ds Y l) :
  Calls C.P f args W λe I=>∃v,e = .returned v/\s.post enc C.P fn apart fresh handsOn again W args v I:=by
 have o:=R;obtain⟨p,q,Q,F,rfl,a0,a1⟩:=R;rw[i] at F;obtain⟨rfl,rfl⟩:=trodVars_none F;let Γ:Ctx:={ St:=(· < W.heap.size),nm:=λ_=>none,yv:=.nilFunc,yv1:=rfl }
 obtain⟨D,P,Z,h3,h4⟩:=Xx (Γ:=Γ) (sh:=A0 []) (λ_ h=>h) fn.params.toList args.toList ds p (λt N=>(T t N).2) (λj t v L O=>B j t v (by simpa using L) (by simpa using O)) Q;obtain⟨d,G,S⟩:=J D P;have hS:=Av hX hO hm d Unit I0 noY .nilFunc VC VD f D [] () _ G () S Γ noΦ W args rfl (Em (λ_=>rfl) (λ_ h=>h)) hG (λ_ h=>h) (λb g h=>by cases h)
  ⟨by rw[<-Array.length_toList];exact Z,λj L=>by obtain⟨U,e,k⟩:=h4 j L;exact⟨U,by simpa using e,k⟩⟩ (by rw[P.nms];simp)
 refine(OW (Gm K hb r) hS).mono ?_;rintro e I ⟨V,rfl,Γ',Φ',z,hH,O,_⟩;have F:=O.inv_bool;subst F;have m:Below W.heap.size W I:=⟨z.os,z.tape,z.output,z.size,λk hk=>z.frame k hk (λb=>by simp[Γ]) (λx=>x)⟩
 simp only[aa0] at o;refine⟨_,rfl,?_⟩;have u:=y ds h3;have M:=o.lt;refine Vw (pa:=p) (pv:=[]) o (λb sp S=>?_) (λsp A=>?_) (λsp _=>?_) (by simp) m ?_
 ·rw[aa0,u,n];exact trodAll_cons_mk (shut_bool a _) trodAll_mk0
 ·rw[aa0,u];exact Sa hl (w:=W) (ts:=fn.params.toList) (vs:=args.toList) (ds:=ds) (ps:=p) (λt N=>(T t N).1) Q (λx hx=>m.same (M x hx)) sp A
 ·rw[aa0,u,i];rfl
 ·exact ok_one n rfl (okWide_bool_mk a _)
end
section
open Go
def B7(P:Program)(G:GT)(g:Nat)(pf:List PV->Tr):Prop:=
 ∀args ret c,F5 (pf args)=some (ret,c)->∀C:Cfg,C.P=P->C.G=G->∀a w d,(∀b,a.nm b=none)->HR a [] w->GOK C a.St w->CR a (A0 []) w args d->
  J2 P ((callFunc g d).run P w) (T7 C I0 a [] w noΦ ret c ())
theorem Hk{C₀:Cfg}{g:Nat}{pf:List PV->Tr}(y:XOK C₀)(x:Dm C₀)(B:C₀.P.follows .mixedOrders=true)
  (h:∀args ret c,F5 (pf args)=some (ret,c)->B3 args=[]/\∃d,evC C₀ d Unit noY g args [] ()=some (ret,c,())):B7 C₀.P C₀.G g pf:=by
 intro args ret c o C F f p w t n v u A;obtain⟨m,d,k⟩:=h args ret c o;have e:GOK C₀ p.St w:=u.congr f.symm;refine(Av y x B d Unit I0 noY p.yv VC VD g args [] () ret c () k p noΦ w t rfl v e (λ_ h=>h) (λb g h=>by rw[n] at h;cases h) A (by rw[m];simp)).mono ?_;rintro V w' ⟨q,r,a,i,D,hvn,l,j⟩;exact⟨q,r,⟨a.os,a.tape,a.output,a.size,a.sub,a.stnew,a.own,a.foot,a.frame,a.yv,a.len,λb z=>by simp at z⟩,i,D,hvn,l,j⟩
def Tr.snap:Tr->Tr
 | .ret v H=>cond (v.snap H).nms.isEmpty (.ret (v.snap H) []) .fail
 | .need c t=>.need c t.snap
 | .split c a b=>.split c a.snap b.snap
 | .fail=>.fail
theorem Tr.snap_res:∀{t:Tr} {v:PV} {H:List Blk},F5 t.snap=some (v,H)->∃v' H',F5 t=some (v',H')/\v=v'.snap H'/\H=[]/\v.nms=[]
 | .ret v' H',v,H,h=>by
  simp only[Tr.snap] at h;cases he:(v'.snap H').nms.isEmpty with
  | false=>rw[he] at h;cases h
  | true=>
   rw[he] at h;simp only[cond_true,F5,Ac,a8,o5] at h;obtain⟨rfl,rfl⟩:=h;exact⟨v',H',rfl,rfl,rfl,List.isEmpty_iff.1 he⟩
 | .need c t,v,H,h=>by
  cases c with
  | true=>exact Tr.snap_res (t:=t) h
  | false=>cases h
 | .split c a b,v,H,h=>by
  cases c with
  | true=>exact Tr.snap_res (t:=a) h
  | false=>exact Tr.snap_res (t:=b) h
 | .fail,_,_,h=>by cases h
theorem B7.snap{P:Program}{G:GT}{g:Nat}{pf:List PV->Tr}(h:B7 P G g pf):B7 P G g (λargs=>(pf args).snap):=by
 intro args ret Hc hpf C hP hGe Γ w Vs hnm hH hG hc;obtain⟨ret',Hc',hpf',rfl,rfl,hnr⟩:=Tr.snap_res hpf;refine(h args ret' Hc' hpf' C hP hGe Γ w Vs hnm hH hG hc).mono ?_;rintro V w' ⟨Γ1,Φ1,hs,hH1,hv,hvn,hi1,hd1⟩;let Γ2:Ctx:={ Γ1.all with nm:=λ_=>none }
 have hlt:∀g,Γ2.St g->g<w'.heap.size:=λg hg=>by
  rcases hg with hg|⟨b,hb⟩
  ·exact hH1.stlt g hg
  ·exact(hH1.lt b g hb).2.1
 refine⟨Γ2,Φ1,⟨hs.os,hs.tape,hs.output,hs.size,λg hg=>.inl (hs.sub g hg),λg hg=>?_,λb g h=>by simp[Γ2] at h,hs.foot,hs.frame,hs.yv,o3 _,λb hb=>by simp at hb⟩,
  Em (λ_=>rfl) hlt,?_,by rw[hnr];simp,hi1,λb g h=>by simp[Γ2] at h⟩
 ·rcases hg with hg|⟨b,hb⟩
  ·exact hs.stnew g hg
  ·rcases hs.own b g hb with⟨h',_⟩|h'
   all_goals grind
 ·exact VP.mono (Γ:=Γ1.all) (Γ':=Γ2) (w:=w') (w':=w') (sh:=A0 Hc') (ok:=λ_=>False) ⟨λ_ _=>rfl,λ_ h=>h,λ_ h=>h.elim,λ_ h=>h.elim,λ_ _ h=>h.elim,rfl⟩ (hv.snap hH1) (by rw[hnr];simp)
def CS:List (Nat × (List PV->Tr))->Nat->Option (List PV->Tr)
 | [],_=>none
 | (g,a)::r,n=>cond (w5 n g) (some a) (CS r n)
def L7(P:Program)(G:GT):List (Nat × (List PV->Tr))->Prop
 | []=>True
 | (g,a)::r=>B7 P G g a/\L7 P G r
theorem L7.x1{C:Cfg}{l:List (Nat × (List PV->Tr))}(hl:C.X=CS l)(h:L7 C.P C.G l):At2 C:=by
 intro g pf args ret Hc hg hpf Γ w Vs hnm hH hG hc;rw[hl] at hg;have key:∀l:List (Nat × (List PV->Tr)),L7 C.P C.G l->CS l g=some pf->B7 C.P C.G g pf:=by
  intro l
  induction l with
  | nil=>intro _ h;cases h
  | cons e r ih=>
   intro h1 h2;obtain⟨n,q⟩:=e;simp only[CS] at h2;cases hb:w5 g n with
   | true=>
    rw[hb] at h2;simp only[cond_true,a8] at h2;have:=u7 hb;subst this;subst h2;exact h1.1
   | false=>
    rw[hb] at h2;exact ih h1.2 h2
 exact key l h hg args ret Hc hpf C rfl rfl Γ w Vs hnm hH hG hc
theorem Te{C a:Cfg}(h:C.P=a.P):Dg C=Dg a:=by
 funext s
 unfold Dg;split
 ·simp only[Et,Cfg.sh,h]
 ·rfl
 ·rfl
theorem Stp.congr{C C':Cfg}(h:C.P=C'.P){Γ Γ':Ctx}{H H':List Blk}{w w':World}{Φ Φ':Nat->Prop}(s:Stp C Γ H w Φ Γ' H' w' Φ'):Stp C' Γ H w Φ Γ' H' w' Φ':=
 ⟨s.os,s.tape,s.output,s.size,s.sub,s.stnew,s.own,s.foot,s.frame,s.yv,s.len,λb hb hf=>s.keep b hb (by rw[Te h];exact hf)⟩
def Ir(P:Program)(G:GT)(g:Nat)(j:List PV->List Blk->Tr):Prop:=
 ∀C:Cfg,C.P=P->C.G=G->∀(i:Type) (I:i->(Nat->Prop)->(Nat->Prop)->World->Prop) (k:Yh i) (h:Value),HI I->JF P I k h->
  ∀args H s ret e,F5 (j args H)=some (ret,e)->∀a d w f,a.yv=h->HR a H w->GOK C a.St w->I s a.St d w->(∀b g,a.nm b=some g->¬d g)->CR a (A0 H) w args f->(∀c∈B3 args,c<H.length)->
   J2 P ((callFunc g f).run P w) (T7 C I a H w d ret e s)
def PE(P:Program)(G:GT)(g:Nat)(k:List PV->List Blk->Option (Bool × List (List PV))):Prop:=
 ∀C:Cfg,C.P=P->C.G=G->∀(j:Type) (I:j->(Nat->Prop)->(Nat->Prop)->World->Prop) (h:Yh j) (i:Value),HI I->JF P I h i->
  ∀args H L s f,k args H=some (true,L)->H.all Tm=true->X8 h L s=some f->∀a d w e,a.yv=i->HR a H w->GOK C a.St w->I s a.St d w->(∀b g,a.nm b=some g->¬d g)->CR a (A0 H) w args e->(∀c∈B3 args,c<H.length)->
   J2 P ((callFunc g e).run P w) (T7 C I a H w d (.tup []) (H.map Ci) f)
theorem VX{C o:Cfg}{σ:Type}{I:σ->(Nat->Prop)->(Nat->Prop)->World->Prop}{S:Ctx}{H D:List Blk}{w w':World}{Φ:Nat->Prop}{s':σ}{V:Value}(hP:o.P=C.P)(hb:H.all Tm=true)(hH:HR S H w)(h:T7 o I S H w Φ (.tup []) D s' V w'):T7 C I S H w Φ (.tup []) (H.map Ci) s' V w':=by
 obtain⟨n,T,l,G,k2,k3,k4,k5⟩:=h;have B:∀b g,(if b<H.length then n.nm b else none)=some g->b<H.length/\n.nm b=some g:=λb g h=>by grind
 have p:(H.map Ci).length=H.length:=p6 _;refine⟨{ n with nm:=λb=>if b<H.length then n.nm b else none },T,⟨l.os,l.tape,l.output,l.size,l.sub,l.stnew,λb g y=>l.own b g (B b g y).2,l.foot,l.frame,l.yv,by rw[p];exact o3 _,λb i hf=>?_⟩,
  ⟨λb U g K M=>G.inj b U g (B b g K).2 (B U g M).2,λb g y=>?_,G.stlt,λb i c Y=>?_,λb i=>?_⟩,?_,by simp[PV.nms,B3],k4,λb g y=>k5 b g (B b g y).2⟩
 ·obtain⟨Z,Q,R⟩:=l.keep b i (by rw[Te hP];exact hf);refine⟨by simp only;rw[if_pos i];exact Z,?_,R⟩;simp only[A0,x5];cases H[b]? with
  | none=>rfl
  | some x=>exact congrArg some (Wn x)
 ·obtain⟨q1,q2⟩:=B b g y;have:=G.lt b g q2;grind
 ·rw[r9,Wm] at Y;simp at Y
 ·rw[p] at i;rw[r9];have k:=o7.1 hb _ (j6 i);have X:=hH.blk b i;cases q:H[b] with
  | box cells=>
   rw[q] at X;obtain⟨g,a0,e,K,M,W,_⟩:=X;obtain⟨Z,Q,R⟩:=l.keep b i (by simp only[A0,a7 i,q];exact trivial);have z:b<D.length:=o6 i l.len;have v:=G.blk b z;have f:(D[b]).shp = .box:=by
    simp only[A0,a7 i,a7 z,aa1,a8] at Q;rw[Q,q];rfl
   cases t:D[b] with
   | box F=>
    rw[t] at v;obtain⟨J,m,e',L,u,a1,a2⟩:=v;have N:J=g:=by grind
    subst N;have r:=R J K;simp only[World.shape?,M,u,a8,o5] at r;refine⟨J,m,e',by simp only;rw[if_pos i];exact L,u,by rw[r.2,W];simp,λj O=>?_⟩;have P:j<m.size:=by rw[r.2,W];simpa using O
    exact⟨m[j],Array.getElem?_eq_getElem P,by rw[r9];exact .bad _⟩
   | arr a b c d=>rw[t] at f;cases f
   | iter a b=>rw[t] at f;cases f
   | mp a=>rw[t] at f;cases f
   | ms a b=>rw[t] at f;cases f
   | dead=>rw[t] at f;cases f
  | arr a b c d=>rw[q] at k;cases k
  | iter a b=>rw[q] at k;cases k
  | mp a=>rw[q] at k;cases k
  | ms a b=>rw[q] at k;cases k
  | dead=>rw[q] at k;cases k
 ·obtain⟨A,rfl,hA,a3⟩:=k2.inv_tup;exact VP.mk_tup hA λj O=>by simp at O
theorem HM{C₀:Cfg}{g:Nat}{n:List PV->List Blk->Option (Bool × List (List PV))}(u:XOK C₀)(r:Dm C₀)(A:C₀.P.follows .mixedOrders=true)
  (h:∀args H L,n args H=some (true,L)->∀(a:Type) (f:Yh a) (s e:a),X8 f L s=some e->∃d i,evC C₀ d a f g args H s=some (.tup [],i,e)):PE C₀.P C₀.G g n:=by
 intro C t p a I f G q F args H L s e k v c J K w o l m y z b x B;obtain⟨d,i,j⟩:=h args H L k a f s e c;exact(Av u r A d a I f G q F g args H s _ i e j J K w o l m (y.congr p.symm) z b x B).mono λV w' D=>VX t.symm v m D
def Ee{a:Type}:List (Nat × a)->Nat->Option a
 | [],_=>none
 | (g,b)::r,n=>cond (w5 n g) (some b) (Ee r n)
theorem Mm{b:Type}:∀{l:List (Nat × b)} {g:Nat} {a:b},Ee l g=some a->(g,a)∈l
 | [],_,_,h=>by cases h
 | (n,q)::r,g,a,h=>by
  simp only[Ee] at h;cases c:w5 g n with
  | true=>
   simp_all
  | false=>
   rw[c] at h;exact ad1 _ (Mm h)
def Cz(P:Program)(G:GT):List (Nat × (List PV->List Blk->Tr))->Prop
 | []=>True
 | (g,a)::r=>Ir P G g a/\Cz P G r
def Cy(P:Program)(G:GT):List (Nat × (List PV->List Blk->Option (Bool × List (List PV))))->Prop
 | []=>True
 | (g,a)::r=>PE P G g a/\Cy P G r
theorem Cz.mem{P:Program}{G:GT}:∀{l:List (Nat × (List PV->List Blk->Tr))} {g:Nat} {pf:List PV->List Blk->Tr},Cz P G l->(g,pf)∈l->Ir P G g pf
 | [],_,_,_,hm=>by simp at hm
 | (n,q)::r,g,pf,h,hm=>by
  rcases p9.1 hm with e|hm
  ·cases e;exact h.1
  ·exact Cz.mem h.2 hm
theorem Cy.mem{P:Program}{G:GT}:∀{l:List (Nat × (List PV->List Blk->Option (Bool × List (List PV))))} {g:Nat} {pf:List PV->List Blk->Option (Bool × List (List PV))},Cy P G l->(g,pf)∈l->PE P G g pf
 | [],_,_,_,hm=>by simp at hm
 | (n,q)::r,g,pf,h,hm=>by
  rcases p9.1 hm with e|hm
  ·cases e;exact h.1
  ·exact Cy.mem h.2 hm
theorem Cz.ok{C:Cfg}{l:List (Nat × (List PV->List Blk->Tr))}(hl:C.Y=Ee l)(h:Cz C.P C.G l):T8 C (clY C):=by
 intro σ I yh yv hI hy g args H s ret Hc s' hcl Γ Φ w Vs hyv hH hg hi hd hc hn;simp only[clY,hl] at hcl;split at hcl
 ·rename_i pf hpf;split at hcl
  ·rename_i r' h' hr;simp only[a8,o5] at hcl;obtain⟨rfl,rfl,rfl⟩:=hcl;exact h.mem (Mm hpf) C rfl rfl σ I yh yv hI hy args H s _ _ hr Γ Φ w Vs hyv hH hg hi hd hc hn
  grind
 ·cases hcl
theorem Cy.ok{C:Cfg}{l:List (Nat × (List PV->List Blk->Option (Bool × List (List PV))))}(hl:C.S=Ee l)(h:Cy C.P C.G l):T8 C (clS C):=by
 intro σ I yh yv hI hy g args H s ret Hc s' hcl Γ Φ w Vs hyv hH hg hi hd hc hn;simp only[clS,hl] at hcl;split at hcl
 ·rename_i pf hpf;split at hcl
  ·rename_i hb;split at hcl
   ·rename_i L hL;split at hcl
    ·rename_i s2 hr;simp only[a8,o5] at hcl;obtain⟨rfl,rfl,rfl⟩:=hcl;exact h.mem (Mm hpf) C rfl rfl σ I yh yv hI hy args H L s _ hL hb hr Γ Φ w Vs hyv hH hg hi hd hc hn
    grind
   grind
  grind
 ·cases hcl
theorem Kc{C:Cfg}{lx:List (Nat × (List PV->Tr))}{ly:List (Nat × (List PV->List Blk->Tr))}{ls:List (Nat × (List PV->List Blk->Option (Bool × List (List PV))))}(a:C.X=CS lx)(b:C.Y=Ee ly)(c:C.S=Ee ls)(x:L7 C.P C.G lx)(y:Cz C.P C.G ly)(s:Cy C.P C.G ls)(d:C.Z=Ee []:=by rfl):XOK C:=
 ⟨L7.x1 a x,Cz.ok b y,Cy.ok c s,λg e h=>by rw[d] at h;cases h⟩
theorem L7.ok{C:Cfg}{l:List (Nat × (List PV->Tr))}(hl:C.X=CS l)(h:L7 C.P C.G l)(h2:C.Y=Ee []:=by rfl)(h3:C.S=Ee []:=by rfl)(h4:C.Z=Ee []:=by rfl):XOK C:=
 Kc hl h2 h3 h trivial trivial h4
def okL:List Nat->Nat->Bool
 | [],_=>false
 | a::r,n=>w5 n a||okL r n
def LW(C:Cfg)(l:List Nat):Bool:=l.all λf=>match C.P.funcs[f]? with
 | some fn=>match fn.body with
  | some c=>WD C c && !(fn.name == "runtime.NumGoroutine")
  | none=>true
 | none=>true
theorem J0{C:Cfg}{l:List Nat}(d:C.okf=okL l)(h:LW C l=true):Dm C:=by
 intro f fn c b g e;have key:∀l:List Nat,okL l f=true->f∈l:=by
  intro l
  induction l with
  | nil=>intro h;cases h
  | cons a r j=>
   intro h;simp only[okL,Bool.or_eq_true] at h;rcases h with h|h
   all_goals simp_all
 have i:f∈l:=key l (by rw[<-d];exact b);simp only[LW,o7] at h;grind
def cd:List Nat->Code->Code
 | [],c=>c
 | 0::p,.seq a _=>cd p a
 | 1::p,.seq _ b=>cd p b
 | 0::p,.cond _ a _=>cd p a
 | 1::p,.cond _ _ b=>cd p b
 | 0::p,.block _ a=>cd p a
 | 0::p,.loop a=>cd p a
 | 0::p,.scope a=>cd p a
 | 0::p,.rangeFunc _ _ a _=>cd p a
 | 1::p,.rangeFunc _ _ _ b=>cd p b
 | _,_=>.skip
def O0:List Nat->Code->Code->Code
 | [],b,_=>b
 | 0::p,b,.seq x y=>.seq (O0 p b x) y
 | 1::p,b,.seq x y=>.seq x (O0 p b y)
 | 0::p,b,.cond c x y=>.cond c (O0 p b x) y
 | 1::p,b,.cond c x y=>.cond c x (O0 p b y)
 | 0::p,b,.block id x=>.block id (O0 p b x)
 | 0::p,b,.loop x=>.loop (O0 p b x)
 | 0::p,b,.scope x=>.scope (O0 p b x)
 | 0::p,b,.rangeFunc g a x y=>.rangeFunc g a (O0 p b x) y
 | 1::p,b,.rangeFunc g a x y=>.rangeFunc g a x (O0 p b y)
 | _,_,c=>c
def F6(f:Func):Code:=f.body.getD .skip
section
variable {Y R : Type}
def bd(C:Cfg)(a:C9)(d:Yh Y)(c:Code):St Y->(Out->St Y->Option R)->Option R:=λb k=>B2 C a d c b k
def I1(C:Cfg)(c:C9)(d:Yh Y)(b:Code)(k:Out->St Y->Option R):Out->St Y->Option R:=λo a=>match o with
 | .normal=>B2 C c d b a k
 | o=>k o a
def H4(id:Nat)(k:Out->St Y->Option R):Out->St Y->Option R:=λo a=>match o with
 | .exit j=>if j=id then k .normal a else k (.exit j) a
 | o=>k o a
def K6(C:Cfg)(fn:Func):Out->St Y->Option (PV × List Blk × Y):=λo a=>match o with
 | .normal=>Qj C a.sl a.hp fn.results.toList λb=>some (U6 b,a.hp,a.s)
 | .ret=>Qj C a.sl a.hp fn.results.toList λb=>some (U6 b,a.hp,a.s)
 | _=>none
def lpK(L:Nat)(ds:Option (List Nat))(a:St Y->(Out->St Y->Option R)->Option R)(n:Nat)(k:Out->St Y->Option R):Out->St Y->Option R:=λo b=>match o with
 | .normal=>E2 L ds a n (Ev ds (P4 L b)) k
 | o=>k o (Ev ds b)
end
theorem An1{C:Cfg}{d f:Nat}{fn:Func}{e:Type}{g:Yh e}{args:List PV}{H:List Blk}{s:e}(i:C.P.funcs[f]? = some fn)(h:C.okf f=true)(a:fn.body=some (F6 fn)) :
  evC C (d+1) e g f args H s=B2 C (evC C d) g (F6 fn) { sl:=args++j1 (fn.ntmps-args.length) (.tup []),hp:=H,s:=s } (K6 C fn):=by
 simp only[evC,h,i];split
 ·rename_i c b;rw[b] at a;simp only[a8] at a;rw[<-a];rfl
 ·rename_i b;rw[b] at a;cases a
theorem evE{C:Cfg}{d f:Nat}{fn:Func}{a:Type}{b:Yh a}{args:List PV}{H:List Blk}{s:a}(h:(C.P.funcs[f]?,C.okf f,fn.body)=(some fn,true,some (F6 fn))) :
  evC C (d+1) a b f args H s=B2 C (evC C d) b (F6 fn) { sl:=args++j1 (fn.ntmps-args.length) (.tup []),hp:=H,s:=s } (K6 C fn):=by
 simp only[o5] at h;exact An1 h.1 h.2.1 h.2.2
def De:List Nat->List Blk->List Blk
 | [],H=>H
 | i::r,H=>De r (H.set i .dead)
def KD(a:List Nat)(ret:PV)(H:List Blk):Bool:=a.all λi=>!(ret.nms.contains i)&&(De a H).all λb=>!(b.nms.contains i)
theorem Pf:∀(b:List Nat) (H:List Blk),(De b H).length=H.length/\∀i (h:i<(De b H).length) (c:i<H.length),(i∈b/\(De b H)[i] = .dead)\/(i∉b/\(De b H)[i]=H[i])
 | [],H=>⟨rfl,λi h c=>.inr ⟨by simp,rfl⟩⟩
 | a::r,H=>by
  obtain⟨d,e⟩:=Pf r (H.set a .dead);simp only[De];grind
theorem T7.dead{C:Cfg}{Γ:Ctx}{w w':World}{ret:PV}{Hc:List Blk}{V:Value}{idx:List Nat}(h:T7 C I0 Γ [] w noΦ ret Hc () V w')(hok:KD idx ret Hc=true):T7 C I0 Γ [] w noΦ ret (De idx Hc) () V w':=by
 obtain⟨Γ1,Φ1,hs,hH1,hv,hvn,hi1,hd1⟩:=h;obtain⟨hl,hsp⟩:=Pf idx Hc;simp only[KD,o7,j4,Bool.not_eq_true',ac6,<-Bool.not_eq_true] at hok;let Γ2:Ctx:={ Γ1 with nm:=λb=>if b∈idx then none else Γ1.nm b }
 have hnm:∀b g,Γ2.nm b=some g->b∉idx/\Γ1.nm b=some g:=λb g h=>by
  simp only[Γ2] at h;split at h
  ·cases h
  ·exact⟨‹_›,h⟩
 have M:P6 Γ1 (A0 Hc) w' Γ2 (A0 (De idx Hc)) w' (·∉idx):=⟨λ_ _=>rfl,λ_ h=>h,λb hb=>by simp only[Γ2];rw[if_neg hb],λb hb=>by
  simp only[A0];by_cases hlt:b<Hc.length
  ·rcases hsp b (by omega) hlt with⟨q,_⟩|⟨_,q⟩
   ·exact absurd q hb
   ·rw[a7 (by omega),a7 hlt,q]
  ·rw[p4 (by omega),p4 (by omega)],λ_ _ _ _=>rfl,rfl⟩
 refine⟨Γ2,Φ1,⟨hs.os,hs.tape,hs.output,hs.size,hs.sub,hs.stnew,λb g h=>hs.own b g (hnm b g h).2,hs.foot,hs.frame,hs.yv,af1 _,λb hb=>by simp at hb⟩,
  ⟨λb b' g h1 h2=>hH1.inj b b' g (hnm b g h1).2 (hnm b' g h2).2,λb g h=>by have:=hH1.lt b g (hnm b g h).2;rw[hl];exact this,hH1.stlt,λb hb c hc=>?_,λb hb=>?_⟩,
  hv.mono M (λb hb hi=>by have:=(hok b hi).1;exact this hb),λc hc=>by rw[hl];exact hvn c hc,hi1,λb g h=>hd1 b g (hnm b g h).2⟩
 ·have hlt:b<Hc.length:=by omega
  rcases hsp b hb hlt with⟨_,q⟩|⟨_,q⟩
  ·rw[q] at hc;simp[Blk.nms] at hc
  ·rw[q] at hc;rw[hl];exact hH1.nms b hlt c hc
 ·have hlt:b<Hc.length:=by omega
  rcases hsp b hb hlt with⟨_,q⟩|⟨q0,q⟩
  ·rw[q];trivial
  ·rw[q];refine(hH1.blk b hlt).mono M (M.nm b q0) (λ_ _=>rfl) (λc hc hi=>?_);have:=(hok c hi).2 _ (j6 hb);rw[q] at this;exact this hc
theorem Fq{C₀:Cfg}{g:Nat}{pf:List PV->Tr}(y:XOK C₀)(u:Dm C₀)(B:C₀.P.follows .mixedOrders=true)
  (h:∀args ret i,F5 (pf args)=some (ret,i)->B3 args=[]/\∃d e c,evC C₀ d Unit noY g args [] ()=some (ret,e,())/\KD c ret e=true/\De c e=i):B7 C₀.P C₀.G g pf:=by
 intro args ret i f C v j D w o m t q z;obtain⟨l,d,e,c,k,A,rfl⟩:=h args ret i f;have p:=Hk (C₀:=C₀) (g:=g) (pf:=λa=>match F5 (pf a) with|some _=>(match evC C₀ d Unit noY g a [] () with|some (r,H,_)=>cond (B3 a).isEmpty (.ret r H) .fail|none=>.fail)|none=>.fail) y u B (λa r H b=>by
  split at b
  ·split at b
   ·rename_i G H' _ F;cases n:(B3 a).isEmpty with
    | true=>
     rw[n] at b;simp only[cond_true,F5,Ac,a8,o5] at b;grind
    | false=>rw[n] at b;cases b
   ·cases b
  ·cases b)
 refine(p args ret e ?_ C v j D w o m t q z).mono λV w' x=>x.dead A
 dsimp only;rw[f];dsimp only;rw[k];dsimp only;rw[l];rfl
theorem CV{C₀:Cfg}{g:Nat}{pf:List PV->Tr}(y:XOK C₀)(v:Dm C₀)(A:C₀.P.follows .mixedOrders=true)
  (h:∀args ret f,F5 (pf args)=some (ret,f)->B3 args=[]/\f=[]/\ret.nms=[]/\∃d b e,evC C₀ d Unit noY g args [] ()=some (b,e,())/\b.snap e=ret):B7 C₀.P C₀.G g pf:=by
 intro args ret f n C x i B w p l u t z;obtain⟨k,rfl,m,d,b,e,j,rfl⟩:=h args ret f n;have q:=Hk (C₀:=C₀) (g:=g) (pf:=λa=>match evC C₀ d Unit noY g a [] () with|some (r,H,_)=>cond (B3 a).isEmpty (.ret r H) .fail|none=>.fail) y v A (λa r H c=>by
  split at c
  ·rename_i F H' _ D;cases o:(B3 a).isEmpty with
   | true=>
    rw[o] at c;simp only[cond_true,F5,Ac,a8,o5] at c;grind
   | false=>rw[o] at c;cases c
  ·cases c)
 refine q.snap args (b.snap e) [] ?_ C x i B w p l u t z;dsimp only;rw[j];dsimp only;rw[k];simp only[List.isEmpty_nil,cond_true,Tr.snap,m];rfl
section
variable {L R : Type} {C : Cfg} {Q : C9} {W : Yh L} {c a b : Code} {Y : St L} {k : Out -> St L -> Option R} {id : Nat}
theorem A1{b:Bool}{x y d e:Option R}(f:x=d)(g:y=e):cond b x y=cond b d e:=by rw[f,g]
end
def A5{b:Type}:List (Nat × b)->Nat->Option b
 | [],_=>none
 | (a,l)::r,n=>cond (w5 n a) (some l) (A5 r n)
def bds(n:Nat):List PV:=j1 n .bad
def tps(n:Nat):List PV:=j1 n (.tup [])
def gp:List (Nat × PV)->Nat->List PV
 | [],n=>bds n
 | (m,v)::r,n=>bds m++v::gp r n
abbrev LL:=List (List SV)
abbrev By:=List UInt8
def A2(n:Int):Int:=j9 .i64 n
def Av8(n:Int):Int:=j9 .u64 n
def Av7(n:Int):Int:=j9 .u32 n
def Av6(n:Int):Int:=j9 .u16 n
def wu8(n:Int):Int:=j9 .u8 n
def inR(n:Int)(m:Nat):Bool:=decide (0<=n)&&decide (n<m)
def Ed:TI:=⟨true,false,[.int .i64]⟩
def Iq:TI:=⟨true,false,[.str]⟩
def okE(t:TI)(l:LL)(i o:Nat):Bool:=decide (i<l.length)&&okS t (l.getD i []) o
def gC(l:LL)(i j:Nat):SV:=(l.getD i []).getD j .nilp
def gE(l:LL)(i j:Nat):Int:=(gC l i j).gI
def gX(l:LL)(i j:Nat):By:=(gC l i j).gS
def gY(l:LL)(i j:Nat):Bool:=(gC l i j).gB
def bAt(s:By)(n:Int):Int:=((s.getD n.toNat 0).toNat:Int)
def O2(l h:Int)(n:Nat):Bool:=decide (0<=l)&&decide (l<=h)&&decide (h<=n)
def cut{a:Type}(s:List a)(l h:Int):List a:=(s.take h.toNat).drop l.toNat
def Ax0:Code->Bool | .rangeFunc _ _ _ _=>true|_=>false
def rgX:Code->Operand | .rangeFunc x _ _ _=>x|_=>.tmp 0
def rgP:Code->Array Tmp | .rangeFunc _ p _ _=>p|_=>#[]
theorem AM:∀(p:List Nat),cd p .skip = .skip
 | []=>rfl
 | 0::_=>rfl
 | 1::_=>rfl
 | (_+2)::_=>rfl
theorem Bh:∀(p q:List Nat) (c:Code),cd (p++q) c=cd q (cd p c)
 | [],q,c=>rfl
 | i::p,q,c=>by
  rw[v8]
  match i,c with
  | 0,.seq a b=>exact Bh p q a
  | 1,.seq a b=>exact Bh p q b
  | 0,.cond _ a b=>exact Bh p q a
  | 1,.cond _ a b=>exact Bh p q b
  | 0,.block _ a=>exact Bh p q a
  | 0,.loop a=>exact Bh p q a
  | 0,.scope a=>exact Bh p q a
  | 0,.rangeFunc _ _ a b=>exact Bh p q a
  | 1,.rangeFunc _ _ a b=>exact Bh p q b
  | 0,.skip|0,.region _ _ _|0,.exit _|0,.label _|0,.goto _|0,.ret|0,.refuse _=>exact(AM q).symm
  | 1,.skip|1,.region _ _ _|1,.exit _|1,.scope _|1,.label _|1,.goto _|1,.ret|1,.refuse _|1,.block _ _|1,.loop _=>exact(AM q).symm
  | _+2,.skip|_+2,.region _ _ _|_+2,.exit _|_+2,.scope _|_+2,.label _|_+2,.goto _|_+2,.ret|_+2,.refuse _|_+2,.block _ _|_+2,.loop _|_+2,.seq _ _|_+2,.cond _ _ _|_+2,.rangeFunc _ _ _ _=>exact(AM q).symm
section
variable {W R : Type} {C : Cfg} {L : C9} {Y : Yh W} {B : Code} {Q : St W} {k : Out -> St W -> Option R}
theorem At9(p:List Nat)(h:Ax0 (cd p B)=true):B2 C L Y (cd p B) Q k=Jw C L (opnd C Q.sl (rgX (cd p B))) Q (λa=>Di (rgP (cd p B)) a (bd C L Y (cd (p++[0]) B)) (bd C L Y (cd (p++[1]) B))) (λa=>R0 (rgP (cd p B)) a (bd C L Y (cd (p++[0]) B)) (bd C L Y (cd (p++[1]) B))) k:=by rw[Bh,Bh];cases b:cd p B<;>rw[b] at h<;>first|rfl|cases h
theorem LP{c:Bool}{x y:Option R}(h:x=y):need c x=cond c y none:=by rw[h];rfl
end
abbrev pS(l:List UInt8):PV:=.s (.str l)
abbrev pB(b:Bool):PV:=.s (.bool b)
abbrev pI(n:Int):PV:=.s (.int .i64 n)
abbrev p8(n:Int):PV:=.s (.int .u8 n)
abbrev vl{a b:Type}(e:a)(f:a->b):b:=f e
theorem A6{a R:Type}{e:a}{f g:a->Option R}(h:∀x,f x=g x):vl e f=vl e g:=h e
def Ak6(m n:Nat):Bool:=decide (m+n<4611686018427387904)
theorem fx1{A R:Type}{f g:A->R}(b:∀a,f a=g a):f=g:=funext b
theorem fx2{A B R:Type}{f g:A->B->R}(c:∀a b,f a b=g a b):f=g:=funext λa=>fx1 (c a)
theorem fx3{A B C R:Type}{f g:A->B->C->R}(d:∀a b c,f a b c=g a b c):f=g:=funext λa=>fx2 (d a)
theorem fx4{A B C D R:Type}{f g:A->B->C->D->R}(e:∀a b c d,f a b c d=g a b c d):f=g:=funext λa=>fx3 (e a)
theorem fx5{A B C D E R:Type}{f g:A->B->C->D->E->R}(h:∀a b c d e,f a b c d e=g a b c d e):f=g:=funext λa=>fx4 (h a)
theorem fx6{A B C D E H R:Type}{f g:A->B->C->D->E->H->R}(i:∀a b c d e h,f a b c d e h=g a b c d e h):f=g:=funext λa=>fx5 (i a)
theorem fx7{A B C D E H I R:Type}{f g:A->B->C->D->E->H->I->R}(j:∀a b c d e h i,f a b c d e h i=g a b c d e h i):f=g:=funext λa=>fx6 (j a)
theorem fx8{A B C D E H I J R:Type}{f g:A->B->C->D->E->H->I->J->R}(k:∀a b c d e h i j,f a b c d e h i j=g a b c d e h i j):f=g:=funext λa=>fx7 (k a)
theorem fx9{A B C D E H I J K R:Type}{f g:A->B->C->D->E->H->I->J->K->R}(l:∀a b c d e h i j k,f a b c d e h i j k=g a b c d e h i j k):f=g:=funext λa=>fx8 (l a)
theorem Ab6{A B C D E H I J K L R:Type}{f g:A->B->C->D->E->H->I->J->K->L->R}(m:∀a b c d e h i j k l,f a b c d e h i j k l=g a b c d e h i j k l):f=g:=funext λa=>fx9 (m a)
def Av1{α a:Type}(z:α)(f:a->List a->α->α):List a->α
 | []=>z
 | x::xs=>f x xs (Av1 z f xs)
def Qh(n:Nat):PV->PV
 | .s (.sl z t k a)=>if n=0 then .s (.sl z t k a) else if k=n then .s (.sl z t k a) else .s (.sl z t (cond z n k) a)
 | v=>v
def Oa:List Nat->List PV->List PV
 | n::r,v::l=>Qh n v::Oa r l
 | _,l=>l
def An2(a:List Nat):PV->PV
 | .agg l=>.agg (Oa a l)
 | v=>Qh (a.headD 0) v
def F2:List (List Nat)->List PV->List PV
 | s::r,v::l=>An2 s v::F2 r l
 | _,l=>l
section
variable {L : Ctx} {sh : Nat -> Option Shp} {w : World}
theorem Qp{n:Nat}{v:PV}{V:Value}(h:VP L sh w v V):VP L sh w (Qh n v) V:=by
 unfold Qh;split
 ·rename_i z t k a;split
  ·exact h
  ·split
   ·exact h
   ·cases z with
    | false=>exact h
    | true=>
     have b:=h.inv_s;cases b with
     | nil=>exact .s _ _ (.nil _ _)
 ·exact h
theorem Kw:∀(a:List Nat) (l:List PV),(Oa a l).length=l.length
 | [],_=>rfl
 | _::_,[]=>rfl
 | n::r,v::l=>by simp[Oa,Kw r l]
theorem Td:∀(a:List Nat) (l:List PV) (j:Nat) (h:j<l.length) (b:j<(Oa a l).length),∃n,(Oa a l)[j]=Qh n l[j]
 | [],l,j,h,b=>⟨0,by
  have e:Oa [] l=l:=by cases l<;>rfl
  simp only[e];unfold Qh;split
  ·rename_i c;rw[c];simp
  ·rfl⟩
 | n::r,v::l,0,h,b=>⟨n,rfl⟩
 | n::r,v::l,j+1,h,b=>by
  obtain⟨m,e⟩:=Td r l j (by simpa using h) (by simpa[Oa] using b);exact⟨m,by simpa[Oa] using e⟩
theorem Ab4{b:List Nat}{v:PV}{V:Value}(h:VP L sh w v V):VP L sh w (An2 b v) V:=by
 unfold An2;split
 ·rename_i l;obtain⟨A,rfl,f,g⟩:=h.inv_agg;refine VP.mk_agg (by rw[Kw];exact f) λj c=>?_
  have a:j<l.length:=by rw[Kw] at c;exact c
  obtain⟨U,e,k⟩:=g j a;obtain⟨m,d⟩:=Td b l j a c;exact⟨U,e,by rw[d];exact Qp k⟩
 ·exact Qp h
theorem ER:∀(a:List (List Nat)) (l:List PV),(F2 a l).length=l.length
 | [],_=>rfl
 | _::_,[]=>rfl
 | n::r,v::l=>by simp[F2,ER r l]
theorem Ab5:∀(a:List (List Nat)) (l:List PV) (V:Array Value),CR L sh w l V->CR L sh w (F2 a l) V:=by
 intro a l V h;refine⟨by rw[ER];exact h.1,?_⟩;have key:∀(a:List (List Nat)) (l:List PV) (b:Nat->Option Value),(∀j (h:j<l.length),∃U,b j=some U/\VP L sh w (l[j]) U)->∀j (h:j<(F2 a l).length),∃U,b j=some U/\VP L sh w ((F2 a l)[j]) U:=by
  intro a
  induction a with
  | nil=>intro l b d j c;exact d j (by cases l<;>exact c)
  | cons s r f=>
   intro l b d j c;cases l with
   | nil=>simp[F2] at c
   | cons v l=>
    cases j with
    | zero=>
     obtain⟨U,e,k⟩:=d 0 (by simp);exact⟨U,e,Ab4 k⟩
    | succ j=>
     have:=f l (λj=>b (j+1)) (λj h=>d (j+1) (by simpa using h)) j (by simpa[F2] using c);simpa[F2] using this
 exact key a l (λj=>V[j]?) h.2
end
theorem B7.fix{P:Program}{G:GT}{g:Nat}{pf:List PV->Tr}(szs:List (List Nat))(h:B7 P G g pf):B7 P G g (λargs=>pf (F2 szs args)):=
 λargs ret Hc hpf C hP hGe Γ w Vs hnm hH hG hc=>h (F2 szs args) ret Hc hpf C hP hGe Γ w Vs hnm hH hG (Ab5 szs args Vs hc)
theorem N0{v:PV}{H:List Blk}{ret:PV}{a:List Blk}(h:F5 (.ret v H)=some (ret,a)):ret=v/\a=H:=by simp only[F5,Ac,a8,o5] at h;grind
theorem G5{c:Bool}{t:Tr}{ret:PV}{a:List Blk}(h:F5 (.need c t)=some (ret,a)):c=true/\F5 t=some (ret,a):=by
 cases c with
 | true=>exact⟨rfl,h⟩
 | false=>cases h
theorem YT{c:Bool}{a b:Tr}{ret:PV}{d:List Blk}(h:F5 (.split c a b)=some (ret,d)):(c=true/\F5 a=some (ret,d))\/(c=false/\F5 b=some (ret,d)):=by
 cases c with
 | true=>exact .inl ⟨rfl,h⟩
 | false=>exact .inr ⟨rfl,h⟩
theorem Ak1:∃n:Nat,100000000000000000000<=n:=⟨_,o3 _⟩
noncomputable def LF:Nat:=ab5 Ak1
theorem G7:100000000000000000000<=LF:=ac4 Ak1
attribute [irreducible] LF
theorem SD(b:UInt8):Vk (E5 b)=b:=by simp[Vk,E5,SV.gI]
theorem Lg(l:List UInt8):(l.map E5).map Vk=l:=by
 rw[ac1];have:Vk ∘ E5=id:=by funext b;exact SD b
 rw[this,ai2]
theorem SQ(b:UInt8):AZ (E5 b)=true:=by have:=b.toNat_lt;simp only[AZ,E5,j4,decide_eq_true_eq];omega
theorem Kh(l:List UInt8):(l.map E5).all AZ=true:=by rw[ah3];simp[Function.comp_def,SQ]
theorem Aq5(n:Nat):j9 .u8 (n:Int)=((n % 256:Nat):Int):=by simp[j9,aa4,x4]
theorem Ah9(n:Nat):j9 .u16 (n:Int)=((n % 65536:Nat):Int):=by simp[j9,aa4,x4]
theorem Ai0(n:Nat):j9 .u32 (n:Int)=((n % 4294967296:Nat):Int):=by simp[j9,aa4,x4]
theorem Ai1(n:Nat):j9 .u64 (n:Int)=((n % 18446744073709551616:Nat):Int):=by simp[j9,aa4,x4]
theorem Ah8(n:Int)(a:-9223372036854775808<=n)(b:n<9223372036854775808):j9 .i64 n=n:=by simp[j9,aa4,x4];split<;>omega
theorem Au0(n m:Nat):Int.fdiv (n:Int) (m:Int)=((n / m:Nat):Int):=by rw[Int.fdiv_eq_ediv_of_nonneg _ (by omega)];rfl
theorem I6(n m:Nat):u6 (n:Int) (m:Int)=((n / m:Nat):Int):=by rw[Int.tdiv_eq_ediv_of_nonneg (by omega)];rfl
theorem Ef(n m:Nat):Int.tmod (n:Int) (m:Int)=((n % m:Nat):Int):=by rw[Int.tmod_eq_emod_of_nonneg (by omega)];rfl
end
section
open Go Go.ChangeShapes Go.RowKit Go.Sort Go.WideShapes
theorem Y5{P:Program}{f:Nat}{fn:Func}{d:Array Value}{w:World}{R:Value->World->Prop}(m:P.funcs[f]? = some fn)(j:fn.body.isSome=true)(p:(fn.name == "runtime.NumGoroutine")=false)
  (h:Calls P f d w λe w'=>∃V,e = .returned V/\R V w'):J2 P ((callFunc f d).run P w) R:=by
 obtain⟨c,j⟩:=ab4.1 j;intro q n o a next Q b
 have g:(callFunc f d).run P w = .ok (.enter f d) w:=by
  have k:¬ fn.name = "runtime.NumGoroutine":=by simpa using p
  simp[callFunc,m,j,k,ad4]
 rw[g];simp only[ab0];refine⟨λh=>(by simp[D2,aa5] at h),?_⟩;have key:CallsIn aa5 (n-1) P f d w λe w'=>∃V,e = .returned V/\R V w':=callsIn_wide.2 h
 have i:CallsIn (D2 q) (n-1) P f d w λe w'=>∃V,e = .returned V/\R V w':=key
 refine i.mono ?_;rintro e w' ⟨V,rfl,l⟩;exact b V w' l
theorem WG{C:Cfg}{d:Ctx}{w w':World}{ret:PV}{V:Value}(a:∀b,d.nm b=none)(f:HR d [] w)(c:Below w.heap.size w w')(j:VP d (A0 []) w' ret V)(i:ret.nms=[]):T7 C I0 d [] w noΦ ret [] () V w':=by
 refine⟨d,noΦ,⟨c.os,c.tape,c.output,c.size,λ_ h=>h,λ_ h=>.inl h,λb g h=>(by rw[a] at h;cases h),λ_ h=>h.elim,λg e _ _=>c.block g e,rfl,o3 _,λb h=>(by simp at h)⟩,
  ⟨λb k g h=>(by rw[a] at h;cases h),λb g h=>(by rw[a] at h;cases h),λg e=>o6 (f.stlt g e) c.size,λb h=>(by simp at h),λb h=>(by simp at h)⟩,j,by rw[i];simp,λ_ h=>h,λb g h=>(by rw[a] at h;cases h)⟩
section
variable {Γ : Ctx} {sh : Nat -> Option Shp} {w : World}
theorem CR.arr1{a:PV}{A:Array Value}(h:CR Γ sh w [a] A):∃U,A = #[U]/\VP Γ sh w a U:=by obtain⟨U,e,k⟩:=h.2 0 (by simp);refine⟨U,?_,k⟩;have hs:A.size=1:=h.1;grind
theorem CR.arr2{a b:PV}{A:Array Value}(h:CR Γ sh w [a,b] A):∃U V,A = #[U,V]/\VP Γ sh w a U/\VP Γ sh w b V:=by obtain⟨U,e,k⟩:=h.2 0 (by simp);obtain⟨V,e',k'⟩:=h.2 1 (by simp);refine⟨U,V,?_,k,k'⟩;have hs:A.size=2:=h.1;grind
theorem CR.arr3{a b c:PV}{A:Array Value}(h:CR Γ sh w [a,b,c] A):∃U V W,A = #[U,V,W]/\VP Γ sh w a U/\VP Γ sh w b V/\VP Γ sh w c W:=by obtain⟨U,e,k⟩:=h.2 0 (by simp);obtain⟨V,e',k'⟩:=h.2 1 (by simp);obtain⟨W,e'',k''⟩:=h.2 2 (by simp);refine⟨U,V,W,?_,k,k',k''⟩;have hs:A.size=3:=h.1;grind
theorem VP.mk_int(k:IntKind)(n:Int):VP Γ sh w (.s (.int k n)) (.int k n):=.s _ _ (.int k n)
end
theorem Hj{P:Program}{G:GT}{g:Nat}{fn:Func}{k:List PV->Tr}(q:P.funcs[g]? = some fn)(d:fn.body.isSome=true)(t:(fn.name == "runtime.NumGoroutine")=false)
  (h:∀args ret b,F5 (k args)=some (ret,b)->b=[]/\ret.nms=[]/\∀C:Cfg,C.P=P->C.G=G->∀a w c,GOK C a.St w->(∀g,a.St g->g<w.heap.size)->CR a (A0 []) w args c->
   Calls P g c w λe w'=>∃V,e = .returned V/\Below w.heap.size w w'/\VP a (A0 []) w' ret V):B7 P G g k:=by
 intro args ret b i C n m a w c f j r o;obtain⟨rfl,u,l⟩:=h args ret b i;exact Y5 q d t ((l C n m a w c r j.stlt o).mono λe w' ⟨V,p,d,v⟩=>⟨V,p,WG f j d v u⟩)
def PV.stab(szs:List Nat)(H:List Blk):PV->PV
 | .tup l=>.tup (Oa szs (I8 H l))
 | v=>Qh (szs.headD 0) (v.snap H)
theorem VP.stab{Γ:Ctx}{H:List Blk}{w:World}(szs:List Nat)(hH:HR Γ H w){v:PV}{V:Value}(h:VP Γ (A0 H) w v V):VP Γ.all (A0 H) w (v.stab szs H) V:=by
 by_cases ht:∃l,v = .tup l
 ·obtain⟨l,rfl⟩:=ht;obtain⟨A,rfl,hA,hc⟩:=h.inv_tup;simp only[PV.stab];have hl:(Oa szs (I8 H l)).length=l.length:=by rw[Kw,Cg,p6]
  refine VP.mk_tup (by rw[hl];exact hA) λj hj=>?_
  obtain⟨U,e,k⟩:=hc j (by omega);refine⟨U,e,?_⟩;have hj':j<(I8 H l).length:=by rw[Cg,p6];omega
  obtain⟨n,en⟩:=Td szs (I8 H l) j hj' hj;rw[en];have e2:(I8 H l)[j]=(l[j]'(by omega)).snap H:=by
   simp only[Cg,r9]
  rw[e2];exact Qp (k.snap hH)
 ·have e:v.stab szs H=Qh (szs.headD 0) (v.snap H):=by
   cases v with
   | tup l=>exact absurd ⟨l,rfl⟩ ht
   | _=>rfl
  rw[e];exact Qp (h.snap hH)
theorem PA(f:List Blk->PV->PV)(Q:∀{Γ:Ctx} {H:List Blk} {w:World},HR Γ H w->∀{v:PV} {V:Value},VP Γ (A0 H) w v V->VP Γ.all (A0 H) w (f H v) V){C₀:Cfg}{g:Nat}{pf:List PV->Tr}(N:XOK C₀)(L:Dm C₀)(R:C₀.P.follows .mixedOrders=true)
  (h:∀args ret p,F5 (pf args)=some (ret,p)->B3 args=[]/\p=[]/\ret.nms=[]/\∃d c l,evC C₀ d Unit noY g args [] ()=some (c,l,())/\f l c=ret):B7 C₀.P C₀.G g pf:=by
 intro args ret p B C M t Γ w G A K J O;obtain⟨z,rfl,n,d,c,l,u,rfl⟩:=h args ret p B;have I:=Hk (C₀:=C₀) (g:=g) (pf:=λa=>match evC C₀ d Unit noY g a [] () with|some (r,H,_)=>cond (B3 a).isEmpty (.ret r H) .fail|none=>.fail) N L R (λa r H k=>by
  split at k
  ·rename_i U H' _ T;cases F:(B3 a).isEmpty with
   | true=>
    rw[F] at k;simp only[cond_true,F5,Ac,a8,o5] at k;grind
   | false=>rw[F] at k;cases k
  ·cases k)
 refine(I args c l (by dsimp only;rw[u];dsimp only;rw[z];rfl) C M t Γ w G A K J O).mono ?_;rintro V w' ⟨o,D,e,j,S,hvn,x,P⟩;let Γ2:Ctx:={ o.all with nm:=λ_=>none }
 have y:∀g,Γ2.St g->g<w'.heap.size:=λg i=>by
  rcases i with i|⟨b,m⟩
  ·exact j.stlt g i
  ·exact(j.lt b g m).2.1
 refine⟨Γ2,D,⟨e.os,e.tape,e.output,e.size,λg i=>.inl (e.sub g i),λg i=>?_,λb g h=>by simp[Γ2] at h,e.foot,e.frame,e.yv,o3 _,λb m=>by simp at m⟩,
  Em (λ_=>rfl) y,?_,by rw[n];simp,x,λb g h=>by simp[Γ2] at h⟩
 ·rcases i with i|⟨b,m⟩
  ·exact e.stnew g i
  ·rcases e.own b g m with⟨q,_⟩|q
   ·simp at q
   ·exact .inr q
 ·exact VP.mono (Γ:=o.all) (Γ':=Γ2) (w:=w') (w':=w') (sh:=A0 l) (ok:=λ_=>False) ⟨λ_ _=>rfl,λ_ h=>h,λ_ h=>h.elim,λ_ h=>h.elim,λ_ _ h=>h.elim,rfl⟩ (Q j S) (by rw[n];simp)
theorem Q6(b:List Nat){C₀:Cfg}{g:Nat}{f:List PV->Tr}(k:XOK C₀)(j:Dm C₀)(l:C₀.P.follows .mixedOrders=true)
  (h:∀args ret e,F5 (f args)=some (ret,e)->B3 args=[]/\e=[]/\ret.nms=[]/\∃d a c,evC C₀ d Unit noY g args [] ()=some (a,c,())/\a.stab b c=ret):B7 C₀.P C₀.G g f:=
 PA (λH v=>v.stab b H) (λi _ _ h=>h.stab b i) k j l h
def Tr.Good(szs:List Nat)(args:List PV)(e:Option (PV × List Blk × Unit)):Tr->Prop
 | .ret v H=>B3 args=[]/\H=[]/\v.nms=[]/\∃r H0,e=some (r,H0,())/\r.stab szs H0=v
 | .need c t=>c=true->Good szs args e t
 | .split c a b=>(c=true->Good szs args e a)/\(c=false->Good szs args e b)
 | .fail=>True
theorem Tr.Good.res{szs:List Nat}{args:List PV}{e:Option (PV × List Blk × Unit)}{ret:PV}{Hc:List Blk}:∀{t:Tr},t.Good szs args e->F5 t=some (ret,Hc)->B3 args=[]/\Hc=[]/\ret.nms=[]/\∃r H0,e=some (r,H0,())/\r.stab szs H0=ret
 | .ret v H,h,hr=>by
  obtain⟨rfl,rfl⟩:=N0 hr;exact h
 | .need c t,h,hr=>by
  obtain⟨h0,hr⟩:=G5 hr;exact res (h h0) hr
 | .split c a b,h,hr=>by
  rcases YT hr with⟨h0,hr⟩|⟨h0,hr⟩
  ·exact res (h.1 h0) hr
  ·exact res (h.2 h0) hr
theorem xf(b:List Nat)(a:Cfg){g:Nat}(d:List PV->Tr){e:List (List Nat)}{l:List (Nat × (List PV->Tr))}{c:List Nat}(n:a.X=CS l)(t:L7 a.P a.G l)(p:a.okf=okL c)(m:LW a c=true)(o:a.P.follows .mixedOrders=true)
  (h:∀args,(d args).Good b args (evC a 1 Unit noY g args [] ())) (i:a.Y=Ee []:=by rfl) (j:a.S=Ee []:=by rfl) (k:a.Z=Ee []:=by rfl):B7 a.P a.G g (λargs=>d (F2 e args)):=
 B7.fix e (Q6 b (L7.ok n t i j k) (J0 p m) o λargs ret z q=>by
  obtain⟨u,v,w,r,f,x,y⟩:=(h args).res q;exact⟨u,v,w,1,r,f,x,y⟩)
end
section
open Go
def KU(n:Nat)(ret:PV)(H:List Blk):Bool:=ret.nms.all (ae4 · n)&&H.all λb=>b.nms.all (ae4 · n)
theorem T7.head{C:Cfg}{σ:Type}{I:σ->(Nat->Prop)->(Nat->Prop)->World->Prop}{Γ:Ctx}{H Hc T:List Blk}{w w':World}{Φ:Nat->Prop}{s':σ}{ret:PV}{V:Value}
  (h:T7 C I Γ H w Φ ret (Hc++T) s' V w') (hl:H.length<=Hc.length) (hok:KU Hc.length ret Hc=true):T7 C I Γ H w Φ ret Hc s' V w':=by
 obtain⟨Γ1,Φ1,hs,hH1,hv,hvn,hi1,hd1⟩:=h;simp only[KU,j4,o7,ag4] at hok;let Γ2:Ctx:={ Γ1 with nm:=λb=>if b<Hc.length then Γ1.nm b else none }
 have hnm:∀b g,Γ2.nm b=some g->b<Hc.length/\Γ1.nm b=some g:=λb g h=>by grind
 have get:∀b (h:b<Hc.length) (h':b<(Hc++T).length),(Hc++T)[b]=Hc[b]:=λb h h'=>ab3 h
 have shp:∀b,b<Hc.length->A0 Hc b=A0 (Hc++T) b:=λb hb=>by
  simp only[A0];grind
 have M:P6 Γ1 (A0 (Hc++T)) w' Γ2 (A0 Hc) w' (· < Hc.length):=⟨λ_ _=>rfl,λ_ h=>h,λb hb=>by simp only[Γ2];rw[if_pos hb],λb hb=>shp b hb,λ_ _ _ _=>rfl,rfl⟩
 refine⟨Γ2,Φ1,⟨hs.os,hs.tape,hs.output,hs.size,hs.sub,hs.stnew,λb g h=>hs.own b g (hnm b g h).2,hs.foot,hs.frame,hs.yv,hl,λb hb hf=>?_⟩,
  ⟨λb b' g h1 h2=>hH1.inj b b' g (hnm b g h1).2 (hnm b' g h2).2,λb g h=>by have:=hH1.lt b g (hnm b g h).2;exact⟨(hnm b g h).1,this.2⟩,hH1.stlt,λb hb c hc=>hok.2 _ (j6 hb) c hc,λb hb=>?_⟩,
  hv.mono M (λb hb=>hok.1 b hb),λc hc=>hok.1 c hc,hi1,λb g h=>hd1 b g (hnm b g h).2⟩
 ·obtain⟨m1,m2,m3⟩:=hs.keep b hb hf;have hb2:b<Hc.length:=o6 hb hl;exact⟨by simp only[Γ2];rw[if_pos hb2];exact m1,by rw[shp b hb2];exact m2,m3⟩
 ·have hb':b<(Hc++T).length:=by rw[aa7];omega
  have:=hH1.blk b hb';rw[get b hb hb'] at this;exact this.mono M (M.nm b hb) (λ_ _=>rfl) (λc hc=>hok.2 _ (j6 hb) c hc)
theorem Ar{C₀:Cfg}{g:Nat}{n:List PV->List Blk->Tr}(x:XOK C₀)(u:Dm C₀)(F:C₀.P.follows .mixedOrders=true)
  (h:∀args H ret a,F5 (n args H)=some (ret,a)->s6 H.length a.length=true/\KU a.length ret a=true/\∀(b:Type) (f:Yh b) (s:b),∃d c,evC C₀ d b f g args H s=some (ret,c,s)/\c.take a.length=a):Ir C₀.P C₀.G g n:=by
 intro C v q b I f S t M args H s ret a j T U w o k r A B z y G;obtain⟨D,i,p⟩:=h args H ret a j;obtain⟨d,c,e,L⟩:=p b f s;rw[<-List.take_append_drop a.length c,L] at e;refine(Av x u F d b I f S t M g args H s ret (a++c.drop a.length) s e T U w o k r (A.congr q.symm) B z y G).mono ?_;rintro V w' J;obtain⟨l,m,K,N,O,P,Q,R⟩:=J.head (Nat.le_of_ble_eq_true D) i;exact⟨l,m,K.congr v.symm,N,O,P,Q,R⟩
def Rx(P:Program):List (Nat × (SV->List (List SV)->Bool × List (List SV)))->Prop
 | []=>True
 | (g,a)::r=>DK P g a/\Rx P r
theorem Rx.mem{P:Program}:∀{l:List (Nat × (SV->List (List SV)->Bool × List (List SV)))} {g:Nat} {pf:SV->List (List SV)->Bool × List (List SV)},Rx P l->(g,pf)∈l->DK P g pf
 | [],_,_,_,hm=>by simp at hm
 | (n,q)::r,g,pf,h,hm=>by
  rcases p9.1 hm with e|hm
  ·cases e;exact h.1
  ·exact Rx.mem h.2 hm
theorem Aw0{C:Cfg}{lx:List (Nat × (List PV->Tr))}{ly:List (Nat × (List PV->List Blk->Tr))}{ls:List (Nat × (List PV->List Blk->Option (Bool × List (List PV))))}{lz:List (Nat × (SV->List (List SV)->Bool × List (List SV)))}(a:C.X=CS lx)(b:C.Y=Ee ly)(c:C.S=Ee ls)(d:C.Z=Ee lz)(x:L7 C.P C.G lx)(y:Cz C.P C.G ly)(s:Cy C.P C.G ls)(z:Rx C.P lz):XOK C:=
 ⟨L7.x1 a x,Cz.ok b y,Cy.ok c s,λg e h=>by rw[d] at h;exact z.mem (Mm h)⟩
def Nh:List Int:=(ag2 32).map λi=>((if i % 2=0 then Lib.accLo (i / 2) else Lib.accHi (i / 2):Nat):Int)
def GX:GT:=⟨λg=>cond (w5 g 1) (some (.u8,ae2)) (cond (w5 g 2) (some (.u8,Nh)) none),λg=>w5 g 0⟩
def Au7:List (Nat × Nat × Nat × Nat)->Nat->Nat->Nat × Nat
 | [],_,_=>(0,0)
 | (t,j,e,k)::r,b,a=>cond (w5 t b&&w5 j a) (e,k) (Au7 r b a)
def Al0:List (Nat × Nat)->Nat->Option Nat
 | [],_=>none
 | (a,b)::r,i=>cond (w5 a i) (some b) (Al0 r i)
noncomputable def D1(f:Nat)(e:List Nat)(d:Nat->Option (List Nat))(X:List (Nat × (List PV->Tr)))(b:Nat->Option (List Nat):=λ_=>none)(g:List Nat:=[])(a:Nat->Option (List Nat):=λ_=>none)(c:Option (List Nat):=none)(Y:List (Nat × (List PV->List Blk->Tr)):=[])(S:List (Nat × (List PV->List Blk->Option (Bool × List (List PV)))):=[])(lend:List Nat:=[])(nt:List (Nat × Nat × Nat × Nat):=[])(rw:List (Nat × Nat):=[])(Z:List (Nat × (SV->List (List SV)->Bool × List (List SV))):=[])(fr:List (Nat × List Nat × List Nat):=[])(h:List Nat:=[]):Cfg:=
 { P:=c9,G:=GX,X:=CS X,lend:=okL lend,okf:=okL e,lf:=f,keep:=d,keepR:=b,xp:=okL g,keepE:=a,keepT:=c,Y:=Ee Y,S:=Ee S,nilT:=Au7 nt,rowR:=Al0 rw,Z:=Ee Z,farR:=A5 fr,stab:=okL h }
theorem follows:c9.follows .mixedOrders=true:=by kernel_rfl
theorem TZ{n:Nat}:F8 n=true↔n<=68719476736:=by simp[F8]
theorem E9{n:Nat}(h:n<=68719476736):F8 n=true:=TZ.2 h
theorem C6{a b:Int}(h:a<b):ltI a b=true:=by rw[Jp];simpa using h
theorem F3{a b:Int}(h:b<=a):ltI a b=false:=by rw[Jp];simpa using h
theorem QM{a b:Int}:ltI a b=true↔a<b:=by rw[Jp];simp
theorem G6{n:Int}(a:-9223372036854775808<=n)(b:n<9223372036854775808):A2 n=n:=Ah8 n a b
theorem Ai4{n:Int}(a:0<=n)(b:n<18446744073709551616):Av8 n=n:=by obtain⟨m,rfl⟩:=j8 a;unfold Av8;rw[Ai1,w6 (by omega)]
theorem Ai3{n:Int}(a:0<=n)(b:n<4294967296):Av7 n=n:=by obtain⟨m,rfl⟩:=j8 a;unfold Av7;rw[Ai0,w6 (by omega)]
theorem Ai2{n:Int}(a:0<=n)(b:n<65536):Av6 n=n:=by obtain⟨m,rfl⟩:=j8 a;unfold Av6;rw[Ah9,w6 (by omega)]
theorem ZB{n:Int}(a:0<=n)(b:n<256):wu8 n=n:=by obtain⟨m,rfl⟩:=j8 a;unfold wu8;rw[Aq5,w6 (by omega)]
theorem A8{a b:Int}(h:a<b:=by omega):ltI a b=true:=C6 h
theorem A4{a b:Int}(h:b<=a:=by omega):ltI a b=false:=F3 h
theorem A3{n:Int}(h:-9223372036854775808<=n:=by omega)(g:n<9223372036854775808:=by omega):A2 n=n:=G6 h g
theorem W0{n:Int}(h:0<=n:=by omega)(g:n<256:=by omega):wu8 n=n:=ZB h g
theorem Th{d:Sort _}{c:Prop}[Decidable c]{a b:d}(h:c:=by omega):(if c then a else b)=a:=if_pos h
theorem V8{d:Sort _}{c:Prop}[Decidable c]{a b:d}(h:¬c:=by omega):(if c then a else b)=b:=if_neg h
theorem P3{l h:Int}{n:Nat}(a:0<=l)(b:l<=h)(c:h<=n):O2 l h n=true:=by simp[O2,a,b,c]
theorem M5{i:Int}{n:Nat}(a:0<=i)(b:i<n):inR i n=true:=by simp[inR,a,b]
theorem Kb{l h:Int}{n:Nat}(a:0<=l:=by omega)(b:l<=h:=by omega)(c:h<=n:=by omega):O2 l h n=true:=P3 a b c
theorem K7{i:Int}{n:Nat}(a:0<=i:=by omega)(b:i<n:=by omega):inR i n=true:=M5 a b
end
section
open Go Go.Proofs
def Qy(r:Option (PV × List Blk × Unit)):Bool:=match r with
 | some (.s (.bool true),_,_)=>true
 | _=>false
theorem CD{r:Option (PV × List Blk × Unit)}(h:Qy r=true):∃H,r=some (.s (.bool true),H,()):=by
 unfold Qy at h;split at h
 ·exact⟨_,rfl⟩
 ·cases h
theorem PB{C₀:Cfg}{g d:Nat}(f:XOK C₀)(c:Dm C₀)(i:C₀.P.follows .mixedOrders=true)(h:Qy (evC C₀ d Unit noY g [] [] ())=true):B7 C₀.P C₀.G g (λargs=>match args with|[]=>.ret (.s (.bool true)) []|_=>.fail):=
 CV f c i λargs ret j b=>by
  cases args with
  | nil=>
   obtain⟨rfl,rfl⟩:=N0 b;obtain⟨H,e⟩:=CD h;exact⟨rfl,rfl,rfl,d,_,H,e,rfl⟩
  | cons a r=>cases b
end
section
open Go
def G8(l:List By):LL:=l.map λs=>[SV.str s]
def Ax5(l:List Nat):LL:=l.map λn=>[SV.int .u16 (Int.ofNat n)]
def G4(c:UInt8):By->By->List By
 | a,[]=>[a]
 | a,b::r=>if b=c then a::G4 c [] r else G4 c (a++[b]) r
def pcs(c:UInt8)(s:By):List By:=G4 c [] s
theorem Cv(c:UInt8):∀(s a:By),(G4 c a s).length=s.count c+1
 | [],a=>rfl
 | b::r,a=>by
  simp only[G4,af5];by_cases h:b=c
  ·simp[h,Cv c r]
  ·simp[h,Cv c r]
theorem Ap(c:UInt8):∀(s a:By),c∉s->G4 c a s=[a++s]
 | [],a,_=>by simp[G4]
 | b::r,a,h=>by
  simp only[p9,not_or] at h;simp only[G4];rw[if_neg (λe=>h.1 e.symm),Ap c r _ h.2];simp
theorem Qa(c:UInt8):∀(p a s:By),c∉p->G4 c a (p++c::s)=(a++p)::G4 c [] s
 | [],a,s,_=>by simp[G4]
 | b::r,a,s,h=>by
  simp only[p9,not_or] at h;simp only[v8,G4];rw[if_neg (λe=>h.1 e.symm),Qa c r _ s h.2];simp
theorem OP(c:UInt8)(s a:By):G4 c a s≠[]:=by intro h;have:=Cv c s a;rw[h] at this;simp at this
theorem Hi(c:UInt8):∀(s a:By),c∉a->∀x∈G4 c a s,c∉x/\x.length<=a.length+s.length
 | [],a,h,x,d=>by
  simp only[G4,List.mem_singleton] at d;subst d;exact⟨h,by simp⟩
 | b::r,a,h,x,d=>by
  simp only[G4] at d;split at d
  ·rcases p9.1 d with rfl|d
   ·exact⟨h,by simp⟩
   ·have:=Hi c r [] (by simp) x d;refine⟨this.1,?_⟩;have:=this.2;simp at this ⊢;omega
  ·rename_i e;have:=Hi c r (a++[b]) (by simp[h,ah7 e]) x d;refine⟨this.1,?_⟩;have:=this.2;simp at this ⊢;omega
def Ax1(b:UInt8):UInt8:=if 65<=b/\b<=90 then b+32 else b
def Au5(s:By):By:=s.map Ax1
def dig(b:UInt8):Nat:=
 if 48<=b.toNat/\b.toNat<=57 then b.toNat-48 else if 97<=b.toNat/\b.toNat<=102 then b.toNat-87 else if 65<=b.toNat/\b.toNat<=70 then b.toNat-55 else 99
def Ip:Nat:=1099511627776
def D7(base:Nat):Nat->By->Option Nat
 | n,[]=>some n
 | n,b::r=>if dig b<base then D7 base (min (n*base+dig b) Ip) r else none
def U3(s:By):Bool:=s.getD 0 0==48&&(s.getD 1 0==120||s.getD 1 0==88)
def Bu(s:By):Option Nat:=
 if s=[] then none else if U3 s then D7 16 0 (s.drop 2) else if 1<s.length/\s.getD 0 0=48 then D7 8 0 (s.drop 1) else D7 10 0 s
def E1(s:By):List By:=if 1<(pcs 46 s).length/\(pcs 46 s).getLastD []=[] then (pcs 46 s).dropLast else pcs 46 s
def Du(s:By):By:=(E1 s).getLastD []
def P0(s:By):Bool:=if U3 (Du s) then (D7 16 0 ((Du s).drop 2)).isSome else !(Du s).isEmpty&&(D7 10 0 (Du s)).isSome
def Ax4(free:Nat):Nat->List By->Option Nat
 | _,[]=>none
 | v,p::r=>match Bu p with
  | none=>none
  | some n=>match r with
   | []=>if n<2 ^ free then some (v*2 ^ free+n) else none
   | r=>if n<=255 then Ax4 free (v*256+n) r else none
def oct(s:By):Option Nat:=match D7 10 0 s with
 | some n=>if n<=255/\ab2 n=s then some n else none
 | none=>none
def Au9:Nat->List By->Option Nat
 | v,[]=>some v
 | v,p::r=>match oct p with
  | some n=>Au9 (v*256+n) r
  | none=>none
def v4B(s:By):Option Nat:=if (pcs 46 s).length=4 then Au9 0 (pcs 46 s) else none
def Ak7:Nat->By->Option Nat
 | n,[]=>some n
 | n,b::r=>if dig b<16 then Ak7 (n*16+dig b) r else none
def grp(s:By):Option Nat:=if s=[]\/4<s.length then none else Ak7 0 s
def Au1(last:Bool):List By->Option (List Nat)
 | []=>some []
 | x::r=>match grp x with
  | some v=>(Au1 last r).map (v::·)
  | none=>match v4B x with
   | some v=>if last=true/\r=[] then some [v / 65536,v % 65536] else none
   | none=>none
def Ak8(s:By)(last:Bool):Option (List Nat):=if s=[] then some [] else Au1 last (pcs 58 s)
def Au2(n:Nat):UInt8:=if n<10 then p5 (48+n) else p5 (87+n)
def An5(v:Nat):By:=if h:v<16 then [Au2 v] else An5 (v / 16)++[Au2 (v % 16)]
 termination_by v
 decreasing_by omega
def Au4(l:List Nat):By:=ad0 (l.map An5) [58]
def Bq(n:Nat):Bool:=s6 n 1114111&&(ae4 n 55296||ae4 57343 n)
def Ni(d k:Nat):Nat:=if h:455<d then Ni (d / 35) (k+36) else k+36*d / (d+38)
 termination_by d
 decreasing_by omega
def K3(delta count:Nat)(first:Bool):Nat:=
 let d:=if first then delta / 700 else delta / 2
 Ni (d+d / count) 0
def thr(k a:Nat):Nat:=max 1 (min 26 (36*(k+1)-a))
theorem N6(k a:Nat):1<=thr k a/\thr k a<=26:=by unfold thr;omega
def Q5(d:Nat):UInt8:=if d<26 then p5 (97+d) else p5 (22+d)
def Ga(b:UInt8):Option Nat:=
 if 97<=b.toNat/\b.toNat<=122 then some (b.toNat-97) else if 65<=b.toNat/\b.toNat<=90 then some (b.toNat-65) else if 48<=b.toNat/\b.toNat<=57 then some (b.toNat-22) else none
def J5(q k a:Nat):By:=
 if h:q<thr k a then [Q5 q] else Q5 (thr k a+(q-thr k a) % (36-thr k a))::J5 ((q-thr k a) / (36-thr k a)) (k+1) a
 termination_by q
 decreasing_by
  have:=N6 k a;exact Nat.lt_of_le_of_lt (ac3 _ _) (by omega)
structure DA where
 delta:Nat
 bias:Nat
 done:Nat
 out:By
def E6(n a:Nat):List Nat->DA->DA
 | [],s=>s
 | p::r,s=>if p<n then E6 n a r { s with delta:=s.delta+1 }
  else if p=n then E6 n a r { delta:=0,bias:=K3 s.delta (s.done+1) (s.done==a),done:=s.done+1,out:=s.out++J5 s.delta 0 s.bias }
  else E6 n a r s
def F7(n:Nat):List Nat->Nat->Nat
 | [],m=>m
 | p::r,m=>F7 n r (if n<=p then min m p else m)
def Q3(b:List Nat)(a:Nat):Nat->Nat->DA->DA
 | 0,_,s=>s
 | f+1,n,s=>if s.done<b.length then
   let m:=F7 n b 1114112;let c:=E6 m a b { s with delta:=s.delta+(m-n)*(s.done+1) }
   Q3 b a f (m+1) { c with delta:=c.delta+1 }
  else s
def E4(a:List Nat):By:=(a.filter (· < 128)).map p5
def Im(a:List Nat):By × Nat:=
 if 256<a.length then ([],3) else if !(a.all Bq) then ([],2)
 else ((Q3 a (E4 a).length 256 128 { delta:=0,bias:=72,done:=(E4 a).length,out:=if (E4 a).isEmpty then [] else E4 a++[45] }).out,0)
def C1(a:Nat):By->Nat->Nat->Nat->Nat × By × Nat
 | [],i,w,k=>(0,[],4)
 | b::r,i,w,k=>match Ga b with
  | none=>(0,[],4)
  | some x=>if Ip<i+x*w then (0,[],19) else if x<thr k a then (i+x*w,r,0)
   else if Ip<w*(36-thr k a) then (0,[],19) else C1 a r (i+x*w) (w*(36-thr k a)) (k+1)
theorem Hs(a:Nat):∀(s:By) (i w k:Nat),(C1 a s i w k).2.2=0->(C1 a s i w k).2.1.length<s.length
 | [],i,w,k,h=>by simp[C1] at h
 | b::r,i,w,k,h=>by
  unfold C1 at h ⊢;cases d:Ga b with
  | none=>simp[d] at h
  | some x=>
   simp only[d] at h ⊢;split at h
   ·simp at h
   ·rename_i e;rw[if_neg e];split at h
    ·rename_i c;rw[if_pos c];simp
    ·rename_i c;rw[if_neg c];split at h
     ·simp at h
     ·rename_i f;rw[if_neg f];have:=Hs a r _ _ _ h;simp only[x8];omega
def N2(l:List Nat)(i n:Nat):List Nat:=l.take i++n::l.drop i
def E0(s:By)(b:List Nat)(n i a:Nat)(first:Bool):List Nat × Nat:=
 if e:s=[] then (b,0) else
  let q:=C1 a s i 1 0
  if d:q.2.2=0 then
   let count:=b.length+1;let c:=n+q.1 / count
   if Bq c then (if 256<count then ([],3) else E0 q.2.1 (N2 b (q.1 % count) c) c (q.1 % count+1) (K3 (q.1-i) count first) false)
   else ([],2)
  else ([],q.2.2)
 termination_by s.length
 decreasing_by exact Hs a s i 1 0 d
def D5:By->Nat
 | []=>0
 | b::r=>if 45∈r then D5 r+1 else 0
def I3(s:By):List Nat × Nat:=
 if 1024<s.length then ([],3) else if s.any (λb=>s6 128 b.toNat) then ([],4)
 else if 256<D5 s then ([],3)
 else E0 (if D5 s=0 then s else s.drop (D5 s+1)) ((s.take (D5 s)).map (·.toNat)) 128 0 72 true
def Y3(s:By):Bool:=
 (I3 s).2==0&&!((I3 s).1.any λp=>s6 65 p&&s6 p 90)&&((I3 s).1.any λp=>s6 128 p)&&(Im (I3 s).1).2==0&&(Im (I3 s).1).1==s
def P8(b:UInt8):Bool:=(s6 97 b.toNat&&s6 b.toNat 122)||(s6 48 b.toNat&&s6 b.toNat 57)||b==45||b==95
def xnB:By:=[120,110,45,45]
def X9(s:By):Bool:=
 !s.isEmpty&&s6 s.length 63&&s.getD 0 0 !=45&&s.getD (s.length-1) 0 !=45&&s.all P8&&(!(xnB.isPrefixOf s)||Y3 (s.drop 4))
def K5(s:By):Bool:=s6 s.length 253&&!(P0 s)&&(pcs 46 s).all X9
def A7(n:Nat):Bool:=decide (n<=1000000000)
theorem Yg{n:Nat}:A7 n=true↔n<=1000000000:=by simp[A7]
def isS:List SV->Bool|[.str _]=>true|_=>false
def elS(a:List SV):By:=(a.getD 0 .nilp).gS
def Jt(o:Option Nat):Nat:=o.getD 0
def u8n(c:Int):UInt8:=p5 c.toNat
def Su(s p:By):By:=if p.isPrefixOf s then s.drop p.length else s
def ltN(v:Int)(n:Nat):Bool:=match v with
 | .ofNat m=>s6 (m+1) n
 | .negSucc _=>false
theorem J7{v:Int}{n:Nat}:ltN v n=true↔0<=v/\v<(n:Int):=by
 cases v with
 | ofNat m=>
  simp only[ltN,ag3,Int.ofNat_eq_natCast];omega
 | negSucc m=>
  refine⟨λh=>(by cases h),λh=>?_⟩;have:=Int.negSucc_lt_zero m;omega
def Ak2(b:Nat):List PV->Tr
 | [.s (.int .i64 n)]=>.need (ltN n b) (.ret (.s (.str (ab2 (h9 n)))) [])
 | _=>.fail
def gvs(s:By)(last:Bool):List Nat:=(Ak8 s last).getD []
def Au3:List SV->Bool|[.int .u16 n]=>ltN n 65536|_=>false
def elN(a:List SV):Nat:=(a.getD 0 .nilp).gI.toNat
def ptI(n:Int):Bool:=match n with | .ofNat m=>Bq m | .negSucc _=>false
def C2(b:UInt8):Int:=match Ga b with|some n=>n|none=>-1
def G9(k b:Int):Int:=max 1 (min 26 (k+36-b))
def Lb:List SV->Bool|[.int .i64 _]=>true|_=>false
def elI(a:List SV):Int:=(a.getD 0 .nilp).gI
def V6(l:List Int):By × Nat:=if 256<l.length then ([],3) else if l.all ptI then Im (l.map h9) else ([],2)
def M3(b:Int):By->Int->Int->Int->Int × By × Int
 | [],i,w,k=>(4,[],i)
 | c::r,i,w,k=>if C2 c<0 then (4,c::r,i) else if 1099511627776<i+C2 c*w then (19,r,i+C2 c*w)
  else if C2 c<G9 k b then (0,r,i+C2 c*w) else if 1099511627776<w*(36-G9 k b) then (19,r,i+C2 c*w)
  else M3 b r (i+C2 c*w) (w*(36-G9 k b)) (k+36)
def Uc(b:Int)(s:By)(i:Int):Int:=(M3 b s i 1 0).1
def Ud(b:Int)(s:By)(i:Int):By:=(M3 b s i 1 0).2.1
def Js(b:Int)(s:By)(i:Int):Int:=(M3 b s i 1 0).2.2
def Ex(l:List (List SV))(i:Nat)(n:Int):List (List SV):=l.take i++[SV.int .i64 n]::l.drop i
structure DS where
 rest:By
 n:Int
 i:Int
 b:Int
 st:Bool
 l:List (List SV)
def C5(s:DS):Int × DS:=
 if Uc s.b s.rest s.i=0 then
  let c:Int:=s.l.length+1;let x:=Js s.b s.rest s.i;let d:DS:={ rest:=Ud s.b s.rest s.i,n:=s.n+u6 x c,i:=Int.tmod x c,b:=K3 (x-s.i).toNat c.toNat (!s.st),st:=true,l:=s.l }
  if ptI d.n then (if 256<c then (3,d) else (0,{ d with i:=d.i+1,l:=Ex s.l d.i.toNat d.n })) else (2,d)
 else (Uc s.b s.rest s.i,{ s with rest:=Ud s.b s.rest s.i,i:=Js s.b s.rest s.i })
def F4(c:UInt8):By->Int
 | []=>-1
 | b::r=>if F4 c r<0 then (if b=c then 0 else -1) else F4 c r+1
def Qi(l:List Nat):List (List SV):=l.map λx:Nat=>[SV.int .i64 (x:Int)]
attribute [simp] C6 F3 G6 Ai4 Ai3 Ai2 ZB P3 M5 E9
attribute [simp] vl
@[simp] theorem Q0{n:Nat}(h:n<=1000000000):A7 n=true:=Yg.2 h
@[simp] theorem QN{v:Int}{n:Nat}(h:0<=v)(a:v<n):ltN v n=true:=J7.2 ⟨h,a⟩
theorem Ag5{n:Nat}(h:n<=1000000000:=by omega):A7 n=true:=Q0 h
theorem J8{v:Int}{n:Nat}(h:0<=v:=by omega)(g:v<n:=by omega):ltN v n=true:=QN h g
@[simp] theorem Aw6{m n:Nat}(h:m+n<4611686018427387904):Ak6 m n=true:=by simp[Ak6,h]
abbrev rv(v:PV)(H:List Blk):Option (PV × List Blk × Unit):=some (v,H,())
theorem Z8{n:Nat}(h:A7 n=true):n<=1000000000:=Yg.1 h
theorem K2(s:By)(i:Nat)(h:i<s.length):s.drop i=s.getD i 0::s.drop (i+1):=by rw[j2,a7 h,Option.getD_some,List.getElem_cons_drop]
theorem UP(s:By)(i:Nat)(h:i<s.length):s.take (i+1)=s.take i++[s.getD i 0]:=by rw[List.take_add_one,j2,a7 h];rfl
@[simp] theorem L5(s:By)(i:Nat):bAt s (i:Int)=((s.getD i 0).toNat:Int):=by simp[bAt]
@[simp] theorem Gi(s:By):bAt s 0=((s.getD 0 0).toNat:Int):=by simp[bAt]
@[simp] theorem PT(s:By):bAt s 1=((s.getD 1 0).toNat:Int):=by simp[bAt]
theorem Kn{c:Type}(s:List c)(a b:Nat):cut s (a:Int) (b:Int)=(s.take b).drop a:=by simp[cut]
@[simp] theorem Af{b:Type}(s:List b)(a:Int):cut s a (s.length:Int)=s.drop a.toNat:=by simp[cut]
@[simp] theorem Bk{a:Type}(s:List a)(b:Int):cut s 0 b=s.take b.toNat:=by simp[cut]
@[simp] theorem L3(l:List By):(G8 l).length=l.length:=by simp[G8]
@[simp] theorem Ew(l:List By)(i:Nat):gX (G8 l) i 0=l.getD i []:=by
 unfold gX gC G8;by_cases h:i<l.length
 ·simp[j2,a7 h,SV.gS]
 ·simp[j2,p4 (show l.length<=i by omega),SV.gS]
@[simp] theorem Bw{l:List By}{i:Nat}(h:i<l.length):okE Iq (G8 l) i 0=true:=by unfold okE G8;simp[j2,a7 h,h,Iq,okS,SV.has]
theorem Ve(a b:List By):G8 (a++b)=G8 a++G8 b:=by simp[G8]
theorem Rc(b:UInt8):u8n (b.toNat:Int)=b:=by simp[u8n]
theorem YW(b:UInt8):inR (b.toNat:Int) 256=true:=by have:=b.toNat_lt;exact K7
theorem Al3{a b:UInt8}:((a.toNat:Int)==(b.toNat:Int))=(a==b):=by
 rw[af2];simp only[beq_iff_eq];constructor
 ·intro h;exact UInt8.toNat_inj.1 (by omega)
 ·intro h;rw[h]
theorem R9(a:UInt8)(n:Nat)(h:n<256):((a.toNat:Int)==(n:Int))=(a==p5 n):=by rw[<-Al3];simp[w6 h]
theorem Fu(p s:By):p.isPrefixOf s=(decide (p.length<=s.length)&&(s.take p.length==p)):=by
 rw[af2];simp only[v7,j4,decide_eq_true_eq,beq_iff_eq];constructor
 ·intro h;exact⟨h.length_le,(ab7.1 h).symm⟩
 ·rintro⟨_,h⟩;exact ab7.2 h.symm
end
section
open Go Go.ChangeAt Go.ChangeShapes Go.Proofs Go.RowKit Go.WideShapes
set_option maxRecDepth 100000
theorem own:ownKnob c9.godebug=none:=by kernel_rfl
theorem Ac2:laidOutB c9=true:=by kernel_rfl
noncomputable def gTy(g:Nat):Nat:=match c9.globals[g]? with|some x=>x.type|none=>0
noncomputable def Zx:Nat:=gTy 2
noncomputable def Ab3:Nat:=gTy 1
noncomputable def Zw:Nat:=match c9.underlying Zx with|some (.array _ e)=>e|_=>0
noncomputable def Ng:Array Field:=match c9.underlying Zw with|some (.struct a)=>a|_=>#[]
noncomputable def Wg:Field:=match Ng.toList with|a::_=>a|_=>default
noncomputable def Wh:Field:=match Ng.toList with|_::a::_=>a|_=>default
theorem Am0:Ng[0]? = some Wg:=by unfold Wg Ng Zw Zx gTy;kernel_rfl
theorem Am1:Ng[1]? = some Wh:=by unfold Wh Ng Zw Zx gTy;kernel_rfl
def Cm:List (String × DataW Unit):=[("unicode/utf8.acceptRanges", Rows.laid_unicode_utf8_acceptRanges), ("unicode/utf8.first", Rows.laid_unicode_utf8_first)]
theorem Ym{W:World}{n:String}{g:Nat}{a:Array Value}(b:c9.globalNamed n=some g)(h:W.var? c9 n=some a):∃e x,W.heap[g]? = some (.cells a e x):=by
 unfold World.var? at h;rw[b,b8] at h;split at h
 ·rename_i c e x d;simp only[a8] at h;subst h;exact⟨e,x,d⟩
 ·cases h
theorem UO{W:World}{n:String}{g t e m:Nat}{k:IntKind}{f:List Int}(l:c9.globalNamed n=some g)(d:(c9.globals[g]?).map (·.type)=some t)(w:c9.underlying t=some (.array m e))(v:c9.underlying e=some (.int k))(a:c9.cellsOf e=1)(c:c9.cellsOf t=m)
  (h:ac0 c9 W n (af0 k f)):∃e x,W.heap[g]? = some (.cells (f.map λz=>x9 k z).toArray e x):=by
 obtain⟨y,A,o,i,p,q,r,j,u⟩:=h;obtain rfl:=o9 (l.symm.trans q);obtain rfl:=o9 (d.symm.trans r);have b:=Lib.cells_of_tab w v a c u;have:o=(f.map λz=>x9 k z).toArray:=by rw[<-b]
 rw[this] at j;exact Ym l j
theorem Vf{H:Type}{enc:TypeId × Value->H}{P:Program}{w:World}{base:Nat}{sp:Nat->Bool}{held:Bool}{a:Nat}{t e:TypeId}{n:Nat}{b:List Value}{d:DataW H}{p:List MemPlace}(f:P.underlying t=some (.array n e))
  (h:x3 enc P w base sp held a t b=some (d,p)):b.length=P.cellsOf t:=by
 cases a with
 | zero=>simp[x3] at h
 | succ a=>
  simp only[x3,f] at h;split at h
  ·rename_i c;simpa using c
  ·cases h
theorem RM{W:World}(D : c9.globalNamed "unicode/utf8.acceptRanges" = some 2)(h:ac0 c9 W "unicode/utf8.acceptRanges" ac9) :
  ∃e x,W.heap[2]? = some (.cells (Nh.map λz=>x9 .u8 z).toArray e x):=by
 obtain⟨N,t,w,y,p,I,a,A,B⟩:=h;obtain rfl:=o9 (D.symm.trans I);have o:(c9.globals[2]?).map (·.type)=some Zx:=by unfold Zx;kernel_rfl
 obtain rfl:=o9 (o.symm.trans a);have G:c9.underlying Zx=some (.array 16 Zw):=by unfold Zx Zw;kernel_rfl
 have O:=Vf G B;have J:c9.cellsOf Zx=32:=by unfold Zx;kernel_rfl
 have b:c9.cellsOf Zw=2:=by unfold Zw;kernel_rfl
 have L:∃j,c9.underlying Zw=some (.struct j)/\j.size=2/\∀(i:Nat) (f:Field),j[i]? = some f->c9.underlying f.type=some (.int .u8)/\f.offset=i/\c9.cellsOf f.type=1:=by
  refine⟨Ng,by unfold Zw Ng;kernel_rfl,by unfold Ng;kernel_rfl,λi f n=>?_⟩;have:i<2:=by
   have:=(s5.1 n).1;rwa [show Ng.size=2 by unfold Ng;kernel_rfl] at this
  match i,this with
  | 0,_=>
   obtain rfl:=o9 (n.symm.trans (show Ng[0]? = some Wg from Am0));exact⟨by unfold Wg;kernel_rfl,by unfold Wg;kernel_rfl,by unfold Wg;kernel_rfl⟩
  | 1,_=>
   obtain rfl:=o9 (n.symm.trans (show Ng[1]? = some Wh from Am1));exact⟨by unfold Wh;kernel_rfl,by unfold Wh;kernel_rfl,by unfold Wh;kernel_rfl⟩
 obtain⟨j,r,u,v⟩:=L;have m:w.toList=Nh.map λz=>x9 .u8 z:=by
  have F:(Nh.map λz=>x9 .u8 z).length=32:=by rw[p6];rfl
  apply List.ext_getElem?;intro q;by_cases K:q<32
  ·obtain⟨l,d,P,c,C⟩:=Lib.array_elem G B (q / 2) (by omega);simp only[x5,ad6 (show q / 2<16 by omega),aa1,a8] at c;subst c;rw[b] at C;have M:=Lib.ints_of_struct r v (by rw[b,u]) C;have k:=congrArg (·[q % 2]?) M;simp only[List.getElem?_take,List.getElem?_drop] at k;rw[Th,show q / 2*2+q % 2=q by omega] at k;rw[k];unfold Nh;have H:∀g:Nat->Value,(y8 g (ag2 32))[q]? = some (g q):=λg=>by
    rw[x5,ad6 K];rfl
   rw[ac1,H];rcases Nat.mod_two_eq_zero_or_one q with a|a
   ·simp[a]
   ·simp[a]
  ·rw[p4 (by omega),p4 (by omega)]
 have:w=(Nh.map λz=>x9 .u8 z).toArray:=by rw[<-m]
 rw[this] at A;exact Ym D A
theorem KT{C:Cfg}(l:C.G=GX){W:World}(n:laidMet c9 Cm W)(i:W.ShapedOpen c9):GOK C (· < W.heap.size) W:=by
 have lt:∀{g:Nat} {o:Obj},W.heap[g]? = some o->g<W.heap.size:=λh=>(s5.1 h).1
 have B:ac0 c9 W "unicode/utf8.acceptRanges" ac9:=ae3 n (by rw [show ac9=Rows.laid_unicode_utf8_acceptRanges by kernel_rfl];simp [Cm])
 have D:ac0 c9 W "unicode/utf8.first" (af0 .u8 ae2):=ae3 n (by rw [show (af0 .u8 ae2:DataW Unit)=Rows.laid_unicode_utf8_first by kernel_rfl];simp [Cm])
 have u:=RM (by kernel_rfl) B;have v:=UO (g:=1) (t:=Ab3) (e:=5) (m:=256) (by kernel_rfl) (by unfold Ab3;kernel_rfl) (by unfold Ab3;kernel_rfl) (by kernel_rfl) (by kernel_rfl) (by unfold Ab3;kernel_rfl) D;have w:=cell_of_shapedOpen_int (k:=.i64) (g:=0) (t:=3) (zero:=#[.int .i64 0]) i (of_decide_eq_true (by kernel_rfl)) (by kernel_rfl) rfl (by kernel_rfl) (by kernel_rfl) (by kernel_rfl);refine⟨λg k r h=>?_,λg h=>?_⟩
 ·rw[l] at h;simp only[GX] at h;have key:∀{j:Nat} {q:IntKind} {a:List Int},(∃e x,W.heap[j]? = some (.cells (a.map λz=>x9 q z).toArray e x))->g=j->(q,a)=(k,r)->g<W.heap.size/\∃e x,W.heap[g]? = some (.cells (r.map λz=>x9 k z).toArray e x):=λb y A=>by
   subst y;cases A;obtain⟨e,x,b⟩:=b;exact⟨lt b,e,x,b⟩
  cases c:w5 g 1 with
  | true=>rw[c,cond_true] at h;exact key v (u7 c) (o9 h)
  | false=>
   rw[c,cond_false] at h;cases d:w5 g 2 with
   | true=>rw[d,cond_true] at h;exact key u (u7 d) (o9 h)
   | false=>
    rw[d,cond_false] at h;cases h
 ·rw[l] at h;have e:=u7 h;subst e;obtain⟨m,p⟩:=w;refine⟨?_,m,p⟩;apply aa8;intro f;simp[aj1,ab9 (ab8 f)] at p
theorem Oi(os:Os)(args:Array Value):((w9 c9 os Cm).forCall (λ_ _=>0) ⟨#[],args,[]⟩).Shaped c9:=
 World.shaped_of_ZipB (by kernel_rfl) (by kernel_rfl)
theorem Vm(os:Os)(args:Array Value):laidMetH c9 Cm ((w9 c9 os Cm).forCall (λ_ _=>0) ⟨#[],args,[]⟩).memory:=by rw[aa9 _ _ _ (by kernel_rfl)];exact laidMet_laidAll _ (by kernel_rfl) (by kernel_rfl)
theorem KZ{H:Type}{enc:TypeId × Value->H}{os:Os}(j:os.Started){C:Cfg}(u:C.P=c9)(r:C.G=GX)(Z:XOK C)(W:Dm C){f tb:Nat}{fn:Func}{c:Code}{s:ChangeSpec}{g:List PathCond}{apart fresh handsOn again:Bool}(l:c9.inits.idxOf? f=none)(x:c9.funcs[f]? = some fn)(hb:fn.body=some c)(n:(fn.name == "runtime.NumGoroutine")=false)
  (I:∀t∈fn.params.toList,(c9.readableRec t=true/\t<c9.types.size)/\(Fz c9 20 t).isSome=true) (z:fn.resultTypes = #[tb]) (m:c9.underlying tb=some .bool) (q:s.vars=[])
  (p:∀ds:List (DataW H),ds.length=fn.params.toList.length->s.fn H ds = { results:=[.lit (.bool true)],args:=ds })
  (a:Array Value) (h:Nat) (o:Input.okWideB c9 ((w9 c9 os Cm).forCall (λ_ _=>0) ⟨#[],a,[]⟩) f ⟨#[],a,[]⟩=true)
  (EX:s.preB enc c9 fn g apart ((w9 c9 os Cm).forCall (λ_ _=>0) ⟨#[],a,[]⟩).memory a h=true)
  (K:s.sizedB enc c9 fn apart ((w9 c9 os Cm).forCall (λ_ _=>0) ⟨#[],a,[]⟩).memory a h=true)
  (F:∀args,Eh c9 fn.params.toList args->∃d T,evC C d Unit noY f args [] ()=some (.s (.bool true),T,())) :
  ReturnsInHanded {} ae6 os f .any (λw args=>(s.pre enc c9 fn g apart w args/\laidMetH c9 Cm w)/\sizedMet enc c9 fn (OpenSpec.ofChange s) apart w args) (s.post enc c9 fn apart fresh handsOn again):=by
 obtain⟨P,G,X,lend,a0,lf,R,N,xp,M,O,Y,S,nt,a1⟩:=C;simp only at u r;subst u;refine returnsInHanded_of_calls (C:=ae6) own j l
  (ChangeSpec.witness_shaped (enc:=enc) (C:=ae6) (os:=os) (X:=λw _=>laidMetH c9 Cm w) false (w9 c9 os Cm) a h (World.laidAll_os _ _ _) (Oi os a) o EX K (Vm os a)) ?_
 intro w b i _ J _ o EX B;obtain⟨_,_,_,D,y,_,_,_,_,A⟩:=o;have e:D=fn:=o9 (y.symm.trans x);subst e;obtain⟨⟨⟨ds,U,k,hw,hc⟩,Q⟩,hz⟩:=EX;have L:=DataW.Whole.of_heap (w':=w.forCall b i) (by rfl) hw;have V:laidMet c9 Cm (w.forCall b i):=by
  rw[aa9 _ _ _ (by kernel_rfl)] at Q;exact laidMet.of_heap (w':=w.forCall b i) (by rfl) Q
 refine(WF (apart:=apart) (fresh:=fresh) (handsOn:=handsOn) (again:=again) Z W follows Ac2 x hb n I z m q p F (w.forCall b i) (KT r V J) w.heap.size i.args ds U k A L).mono λe W' ⟨v,he,I⟩=>?_
 subst he;exact ChangeSpec.post_blind I
end
section
open Go Go.Proofs
set_option maxRecDepth 100000
section
def Al8:List PV->Tr
 | [.s (.str s),.s (.str p),.s (.int .i64 v),.s (.int .i64 n)]=>.need (A7 (b7 s)) (.need ((b7 p)==1) (.need (v==(0:Int)) (.need (n==((-1):Int)) (.ret (.vw 0 0 (b7 (pcs (o8 p 0 0) s))) [.arr false 9 1 (G8 (pcs (o8 p 0 0) s))]))))
 | _=>.fail
def Al9:List PV->Tr
 | [.s (.str s),.s (.str p)]=>.need (A7 (b7 s)) (.need ((b7 p)==1) (.ret (.vw 0 0 (b7 (pcs (o8 p 0 0) s))) [.arr false 9 1 (G8 (pcs (o8 p 0 0) s))]))
 | _=>.fail
def Yu:List PV->Tr
 | [.s (.str s),.s (.str p)]=>.need (A7 (b7 s)) (.ret (.s (.bool (k9 p s))) [])
 | _=>.fail
def IR(args:List PV):Tr:=Yu (F2 [[0],[0]] args)
def Yt:List PV->Tr
 | [.s (.str s),.s (.str p)]=>.need (A7 (b7 s)) (.ret (.s (.bool (k9 p s))) [])
 | _=>.fail
def VG(args:List PV):Tr:=Yt (F2 [[0],[0]] args)
def Rf:List PV->Tr
 | [.s (.str s),.s (.str p)]=>.need (A7 (b7 s)) (.ret (.tup [.s (.str (Su s p)),.s (.bool (k9 p s))]) [])
 | _=>.fail
def PH(args:List PV):Tr:=Rf (F2 [[0],[0]] args)
def Yp:List PV->Tr
 | [.s (.str s),.s (.str p)]=>.need (A7 (b7 s)) (.ret (.tup [.s (.str (Su s p)),.s (.bool (k9 p s))]) [])
 | _=>.fail
def VF(args:List PV):Tr:=Yp (F2 [[0],[0]] args)
def Zn:List PV->Tr
 | [.s (.str s),.s (.str p)]=>.need (A7 (b7 s)) (.ret (.s (.int .i64 (ab6 s p))) [])
 | _=>.fail
def Zm(args:List PV):Tr:=Zn (F2 [[0],[0]] args)
def Zl:List PV->Tr
 | [.s (.str s),.s (.str p)]=>.need ((b7 p)==1) (.ret (.s (.int .i64 (↑(List.count (o8 p 0 0) s):Int))) [])
 | _=>.fail
def VN(args:List PV):Tr:=Zl (F2 [[0],[0]] args)
def Rd:List PV->Tr
 | [.s (.str s),.s (.int .i64 n)]=>.fail
 | _=>.fail
def Hn(args:List PV):Tr:=Rd (F2 [[0],[0]] args)
def Mu:List PV->Tr
 | [.s (.str s),.s (.str p),.s (.int .i64 v),.s (.int .i64 n)]=>.need (A7 (b7 s)) (.need ((b7 p)==1) (.need (v==(0:Int)) (.need (n==((-1):Int)) (.ret (.s (.sl false false 1 (G8 (pcs (o8 p 0 0) s)))) []))))
 | _=>.fail
def DF(args:List PV):Tr:=Mu (F2 [[0],[0],[0],[0]] args)
def Nf:List PV->Tr
 | [.s (.str s),.s (.str p)]=>.need (A7 (b7 s)) (.need ((b7 p)==1) (.ret (.s (.sl false false 1 (G8 (pcs (o8 p 0 0) s)))) []))
 | _=>.fail
def DJ(args:List PV):Tr:=Nf (F2 [[0],[0]] args)
def Aw1:List PV->Tr
 | [.s (.int .i64 n)]=>.need (ltN n 4294967296) (.ret (.s (.str (ab2 (h9 n)))) [])
 | _=>.fail
def Aw4:List PV->Tr
 | [.s (.str s)]=>.need (A7 (b7 s)) (.ret (.s (.str (Au5 s))) [])
 | _=>.fail
def Ys:List PV->Tr
 | [.s (.str s)]=>.need (A7 (b7 s)) (.ret (.s (.bool (U3 s))) [])
 | _=>.fail
def IP(args:List PV):Tr:=Ys (F2 [[0]] args)
def Yq:List PV->Tr
 | [.s (.str s),.s (.int .i64 base)]=>.need (A7 (b7 s)) (.need (ltN base 17) (.ret (.tup [.s (.int .i64 (↑(Jt (D7 (h9 base) 0 s)):Int)),.s (.bool (o0 (D7 (h9 base) 0 s)))]) []))
 | _=>.fail
def IO(args:List PV):Tr:=Yq (F2 [[0],[0]] args)
def IT:List PV->Tr
 | [.s (.str s)]=>.need (A7 (b7 s)) (.ret (.tup [.s (.int .i64 (↑(Jt (Bu s)):Int)),.s (.bool (o0 (Bu s)))]) [])
 | _=>.fail
def Ak3(args:List PV):Tr:=IT (F2 [[0]] args)
def Rj:List PV->Tr
 | [.s (.str s)]=>.need (A7 (b7 s)) (.ret (.s (.sl false false 1 (G8 (E1 s)))) [])
 | _=>.fail
def PJ(args:List PV):Tr:=Rj (F2 [[0]] args)
def Je:List PV->Tr
 | [.s (.str s)]=>.need (A7 (b7 s)) (.ret (.s (.bool (P0 s))) [])
 | _=>.fail
def Mw(args:List PV):Tr:=Je (F2 [[0]] args)
def Jf:List PV->Tr
 | [.s (.str s)]=>.need (A7 (b7 s)) (.ret (.s (.bool ((not (u4 s))&&(o0 (D7 10 0 s))))) [])
 | _=>.fail
def Wf(args:List PV):Tr:=Jf (F2 [[0]] args)
def Nd:List PV->Tr
 | [.s (.str s),.s (.int .u8 c)]=>.need (A7 (b7 s)) (.need (inR c 256) (.ret (.s (.sl false false 1 (G8 (pcs (u8n c) s)))) []))
 | _=>.fail
def Kg(args:List PV):Tr:=Nd (F2 [[0],[0]] args)
def Zd:List PV->Tr
 | [.s (.int .u8 b)]=>.need (inR b 256) (.ret (.s (.int .i64 (↑(dig (u8n b)):Int))) [])
 | _=>.fail
def VJ(args:List PV):Tr:=Zd (F2 [[0]] args)
def Zh:List PV->Tr
 | [.s (.str s)]=>.need (A7 (b7 s)) (.ret (.tup [.s (.int .i64 (↑(Jt (Bu s)):Int)),.s (.bool (o0 (Bu s)))]) [])
 | _=>.fail
def VL(args:List PV):Tr:=Zh (F2 [[0]] args)
def Nb:List PV->Tr
 | [.s (.str s)]=>.need (A7 (b7 s)) (.ret (.s (.sl false false 1 (G8 (E1 s)))) [])
 | _=>.fail
def DI(args:List PV):Tr:=Nb (F2 [[0]] args)
def Gg:List PV->Tr
 | [.s (.str s)]=>.need (A7 (b7 s)) (.ret (.s (.bool (P0 s))) [])
 | _=>.fail
def Rp(args:List PV):Tr:=Gg (F2 [[0]] args)
def At4:List PV->Tr
 | [.s (.str s),.s (.bool last)]=>.need (A7 (b7 s)) (.ret (.tup [.s (.sl (u4 (gvs s last)) (u4 (gvs s last)) 1 (Ax5 (gvs s last))),.s (.bool (o0 (Ak8 s last)))]) [])
 | _=>.fail
def At3:List PV->Tr
 | [.s (.sl c a 0 ds),.s (.int .u64 v),.s (.int .i64 b),.s (.bool neg),.s (.bool app)]=>.need (ltN v 65536) (.need (b==(16:Int)) (.need (not neg) (.need (not app) (.ret (.tup [.s (.sl true true 1 List.nil),.s (.str (An5 (h9 v)))]) []))))
 | _=>.fail
def Aw9:List PV->Tr
 | [.s (.sl b a 1 l)]=>.need (ai1 l Au3) (.need (s6 (b7 l) 8) (.ret (.s (.str (Au4 (y8 elN l)))) []))
 | _=>.fail
def My:List PV->Tr
 | [.s (.int .i64 n)]=>.ret (.s (.bool (ptI n))) []
 | _=>.fail
def Ge(args:List PV):Tr:=My (F2 [[0]] args)
def Mx:List PV->Tr
 | [.s (.int .i64 d),.s (.int .i64 c),.s (.bool f)]=>.need (ltN d 1152921504606846976) (.need (ltN c 1000000) (.need (ltI (0:Int) c) (.ret (.s (.int .i64 (↑(K3 (h9 d) (h9 c) f):Int))) [])))
 | _=>.fail
def Gd(args:List PV):Tr:=Mx (F2 [[0],[0],[0]] args)
def Yz:List PV->Tr
 | [.s (.int .i64 d)]=>.need (ltN d 36) (.ret (.s (.int .u8 (↑(aj0 (Q5 (h9 d))):Int))) [])
 | _=>.fail
def IU(args:List PV):Tr:=Yz (F2 [[0]] args)
def Zc:List PV->Tr
 | [.s (.int .u8 b)]=>.need (inR b 256) (.ret (.s (.int .i64 (C2 (u8n b)))) [])
 | _=>.fail
def IV(args:List PV):Tr:=Zc (F2 [[0]] args)
def Zb:List PV->Tr
 | [.s (.int .i64 b)]=>.ret (.fnr (Fn.func 131) [] [.ptr 1 0 0,.ptr 0 0 0]) [.box [.s (.int .i64 b)],.box [.s (.int .i64 (0:Int))]]
 | _=>.fail
def Rk(args:List PV):Tr:=Zb (F2 [[0]] args)
def Ho:List PV->List Blk->Tr
 | [.ptr 0 0 0,.ptr 1 0 0],[.box [.s (.int .i64 k)],.box [.s (.int .i64 b)]]=>.need (ltN k 1000000000000) (.need (ltN b 1000000) (.ret (.s (.int .i64 (G9 k b))) [.box [.s (.int .i64 (Int.add k (36:Int)))],.box [.s (.int .i64 b)]]))
 | _,_=>.fail
def Yx:List PV->List Blk->Tr
 | [.fl 0,.s (.int .i64 q),.s (.int .i64 b)],[.arr z 5 1 l]=>.need (ltN q 1152921504606846976) (.need (ltN b 1000000) (.need (s6 (b7 l) 100000) (.ret (.fl 0) [.arr z 5 1 (List.append l (y8 E5 (J5 (h9 q) 0 (h9 b))))])))
 | _,_=>.fail
def Za:List PV->Tr
 | [.s (.sl b a 1 p)]=>.need (ai1 p Lb) (.ret (.tup [.s (.str ((V6 (y8 elI p))).1),.s (.int .i64 (↑((V6 (y8 elI p))).2:Int))]) [])
 | _=>.fail
def VI(args:List PV):Tr:=Za (F2 [[1]] args)
def Zo:List PV->List Blk->Tr
 | [.fl 0,.s (.int .i64 i),.fl 1],[.arr z 3 1 l,.arr false 3 1 [[.int .i64 n]]]=>.need (ltN i (Nat.add (b7 l) 1)) (.need (s6 (b7 l) 100000) (.ret (.fl 0) [.arr z 3 1 (Ex l (h9 i) n),.arr false 3 1 [[.int .i64 n]]]))
 | _,_=>.fail
def Yr:List PV->List Blk->Tr
 | [.ptr 0 0 0],[.box [.s (.str a),.fl 1,.s (.int .i64 n),.s (.int .i64 i),.s (.int .i64 b),.s (.bool c)],.arr z 3 1 l]=>.need (A7 (b7 a)) (.need (ltN b 1000000) (.need (ltN i 1099511627777) (.ret (.s (.int .i64 (Uc b a i))) [.box [.s (.str (Ud b a i)),.fl 1,.s (.int .i64 n),.s (.int .i64 (Js b a i)),.s (.int .i64 b),.s (.bool c)],.arr z 3 1 l])))
 | _,_=>.fail
def Ql:List PV->List Blk->Tr
 | [.ptr 0 0 0],[.box [.s (.str a),.fl 1,.s (.int .i64 n),.s (.int .i64 i),.s (.int .i64 b),.s (.bool c)],.arr z 3 1 l]=>.need (A7 (b7 a)) (.need (ltN b 1000000) (.need (ltN i 1099511627777) (.need (ltN n 1152921504606846976) (.need (s6 (b7 l) 100000) (.ret (.s (.int .i64 ((C5 (DS.mk a n i b c l))).1)) [.box [.s (.str (DS.rest ((C5 (DS.mk a n i b c l))).2)),.fl 1,.s (.int .i64 (DS.n ((C5 (DS.mk a n i b c l))).2)),.s (.int .i64 (DS.i ((C5 (DS.mk a n i b c l))).2)),.s (.int .i64 (DS.b ((C5 (DS.mk a n i b c l))).2)),.s (.bool (DS.st ((C5 (DS.mk a n i b c l))).2))],.arr z 3 1 (DS.l ((C5 (DS.mk a n i b c l))).2)])))))
 | _,_=>.fail
def Mv:List PV->Tr
 | [.s (.str s),.s (.int .u8 c)]=>.need (A7 (b7 s)) (.need (inR c 256) (.ret (.s (.int .i64 (F4 (u8n c) s))) []))
 | _=>.fail
def DG(args:List PV):Tr:=Mv (F2 [[0],[0]] args)
def Re:List PV->Tr
 | [.s (.str s),.s (.int .u8 c)]=>.need (A7 (b7 s)) (.need (inR c 256) (.ret (.s (.int .i64 (F4 (u8n c) s))) []))
 | _=>.fail
def Ei(args:List PV):Tr:=Re (F2 [[0],[0]] args)
def Yy:List PV->Tr
 | [.s (.str s)]=>.need (A7 (b7 s)) (.ret (.tup [.s (.sl (u4 ((I3 s)).1) (u4 ((I3 s)).1) 1 (Qi ((I3 s)).1)),.s (.int .i64 (↑((I3 s)).2:Int))]) [])
 | _=>.fail
def VH(args:List PV):Tr:=Yy (F2 [[0]] args)
def DE:List PV->Tr
 | [.s (.str t)]=>.fail
 | _=>.fail
def Kf(args:List PV):Tr:=DE (F2 [[0]] args)
def Ri:List PV->Tr
 | [.s (.str t),.s (.str p),.s (.int .i64 n)]=>.ret (.fnr (Fn.func 65) [] [.ptr 1 0 0,.ptr 0 0 0,.ptr 2 0 0]) [.box [.s (.str t)],.box [.s (.str p)],.box [.s (.int .i64 n)]]
 | _=>.fail
def Yv(args:List PV):Tr:=Ri (F2 [[0],[0],[0]] args)
def Zp:List PV->Tr
 | [.s (.str t),.s (.str p)]=>.ret (.fnr (Fn.func 65) [] [.ptr 1 0 0,.ptr 0 0 0,.ptr 2 0 0]) [.box [.s (.str t)],.box [.s (.str p)],.box [.s (.int .i64 (0:Int))]]
 | _=>.fail
def IY(args:List PV):Tr:=Zp (F2 [[0],[0]] args)
def Qm:List PV->List Blk->Option (Bool × List (List PV))
 | [.yd,.ptr 0 0 0,.ptr 1 0 0,.ptr 2 0 0],[.box [.s (.str p)],.box [.s (.str t)],.box [.s (.int .i64 n)]]=>some (((A7 (b7 t))&&(((b7 p)==1)&&(n==(0:Int)))),y8 (λ(x:By)=>([.s (.str x)]:List PV)) (pcs (o8 p 0 0) t))
 | _,_=>none
def Nc:List PV->Tr
 | [.s (.int .i64 n)]=>.ret (.s (.bool (ptI n))) []
 | _=>.fail
def Rt(args:List PV):Tr:=Nc (F2 [[0]] args)
def Mz:List PV->Tr
 | [.s (.int .i64 d),.s (.int .i64 c),.s (.bool f)]=>.need (ltN d 1152921504606846976) (.need (ltN c 1000000) (.need (ltI (0:Int) c) (.ret (.s (.int .i64 (↑(K3 (h9 d) (h9 c) f):Int))) [])))
 | _=>.fail
def Rl(args:List PV):Tr:=Mz (F2 [[0],[0],[0]] args)
def Zi:List PV->Tr
 | [.s (.int .i64 k),.s (.int .i64 b)]=>.need (ltN k 10000000000) (.need (ltN b 1000000) (.ret (.s (.int .i64 (G9 (Int.mul (36:Int) k) b))) []))
 | _=>.fail
def IX(args:List PV):Tr:=Zi (F2 [[0],[0]] args)
def Rm:List PV->Tr
 | [.s (.int .i64 d)]=>.need (ltN d 36) (.ret (.s (.int .u8 (↑(aj0 (Q5 (h9 d))):Int))) [])
 | _=>.fail
def PK(args:List PV):Tr:=Rm (F2 [[0]] args)
def Zk:List PV->Tr
 | [.s (.int .u8 b)]=>.need (inR b 256) (.ret (.s (.int .i64 (C2 (u8n b)))) [])
 | _=>.fail
def VM(args:List PV):Tr:=Zk (F2 [[0]] args)
def Ze:List PV->Tr
 | [.s (.sl b a 1 p)]=>.need (ai1 p Lb) (.ret (.tup [.s (.str ((V6 (y8 elI p))).1),.s (.int .i64 (↑((V6 (y8 elI p))).2:Int))]) [])
 | _=>.fail
def VK(args:List PV):Tr:=Ze (F2 [[1]] args)
def Rs:List PV->Tr
 | [.s (.str s)]=>.need (A7 (b7 s)) (.ret (.tup [.s (.sl (u4 ((I3 s)).1) (u4 ((I3 s)).1) 1 (Qi ((I3 s)).1)),.s (.int .i64 (↑((I3 s)).2:Int))]) [])
 | _=>.fail
def PN(args:List PV):Tr:=Rs (F2 [[0]] args)
def Rg:List PV->Tr
 | [.s (.str s)]=>.need (A7 (b7 s)) (.ret (.s (.bool (Y3 s))) [])
 | _=>.fail
def PI(args:List PV):Tr:=Rg (F2 [[0]] args)
def Yw:List PV->Tr
 | [.s (.str s)]=>.need (A7 (b7 s)) (.ret (.s (.bool (X9 s))) [])
 | _=>.fail
def IS(args:List PV):Tr:=Yw (F2 [[0]] args)
def Ru:List PV->Tr
 | [.s (.str s)]=>.need (A7 (b7 s)) (.ret (.s (.bool (Y3 s))) [])
 | _=>.fail
def PO(args:List PV):Tr:=Ru (F2 [[0]] args)
def Rn:List PV->Tr
 | [.s (.str s)]=>.need (A7 (b7 s)) (.ret (.s (.bool (X9 s))) [])
 | _=>.fail
def PL(args:List PV):Tr:=Rn (F2 [[0]] args)
def IQ:List PV->Tr
 | [.s (.str s)]=>.need (A7 (b7 s)) (.ret (.s (.bool (K5 s))) [])
 | _=>.fail
def PG(args:List PV):Tr:=IQ (F2 [[0]] args)
def Zf:List PV->Tr
 | [.s (.str s)]=>.need (A7 (b7 s)) (.ret (.s (.bool (K5 s))) [])
 | _=>.fail
def IW(args:List PV):Tr:=Zf (F2 [[0]] args)
end
section
variable {W R : Type} (L : Nat) (Q : C9) (Y : Yh W) (s : W) (k : Out -> St W -> Option R)
noncomputable def Sk(L:Nat):Cfg:=D1 L [95] (A5 []) [] (A5 [(1,[2]),(0,[0])]) [] (A5 []) (some [2]) [] [] []
noncomputable def BW{R:Type}(L:Nat)(n0:Int)(a:Bool->Option R):Option R:=cond (not (ltI n0 0)) (cond (not (ltI 1114111 n0)) (cond (ltI n0 55296) (a true) (a (ltI 57343 n0))) (a false)) (a false)
theorem TM(d:Nat)(n0):evC (Sk L) (d+1) W Y 95 [pI n0] [] s=BW L n0 (λa=>some (pB a,[],s)):=by refine(evE (fn:=Tryz.f95) (by kernel_rfl)).trans ?_;generalize evC (Sk L) d=Q;unfold BW;kernel_rfl
noncomputable abbrev Gj:Code:=F6 ag9
noncomputable def O4(L:Nat):Cfg:=D1 L [97] (A5 [(6,[0,5,0])]) [] (A5 [(9,[6]),(8,[0,6]),(7,[0,6]),(6,[0,6,11]),(5,[0,6]),(4,[0]),(2,[0,0]),(3,[0,0]),(1,[0,0,6]),(0,[0,0,0])]) [] (A5 [(0,[0,6]),(1,[0,6])]) (some [6]) [] [] []
noncomputable def Az{R:Type}(L n:Nat)(a b:Int)(e:Int->Int->Option R):Option R:=match n with|0=>none|n+1=>cond (ltI 455 a) (vl (A2 (u6 a (35:Int))) λc=>vl (A2 (b+36)) λd=>Az L n c d e) (e a b)
theorem BQ(n a b):E2 0 ((O4 L).keep 6) (bd (O4 L) Q Y (cd [1,1,1,1,0,0,0] Gj)) n ⟨gp [(0,pI a),(6,pI b)] 23,[],s⟩ k =
 Az L n a b (λa b=>k (.exit 0) ⟨gp [(0,pI a),(6,pI b)] 23,[],s⟩):=by
 induction n generalizing a b with
 | zero=>rfl
 | succ n c=>rw[Az];simp only[<-c];kernel_rfl
noncomputable def Ay{R:Type}(L:Nat)(c b:Int)(i:Int->Option R):Option R:=cond (b !=0) (vl (A2 (u6 c b)) λh=>Az L L (A2 (c+h)) 0 (λa e=>vl (A2 ((36:Int)*a)) λf=>vl (A2 (a+38)) λd=>cond (d !=0) (vl (A2 (u6 f d)) λg=>i (A2 (e+g))) none)) none
abbrev Pt(b:Code):Prop:=∀(k:Out->St W->Option R) delta0 count1,B2 (O4 L) Q Y b ⟨gp [(0,pI delta0),(0,pI count1)] 29,[],s⟩ k=Ay L delta0 count1 (λn0=>k .ret ⟨gp [(6,pI n0)] 24,[],s⟩)
theorem BP:Pt (R:=R) L Q Y s (cd [1,1] Gj):=by intro k a b;unfold Ay;exact(j5 (by kernel_rfl) (A1 (A6 λc=>((BQ L Q Y s (H4 0 (I1 (O4 L) Q Y (cd [1,1,1,1,1] Gj) k)) L (A2 (a+c)) 0).trans (by kernel_rfl))) rfl))
noncomputable def Ui{R:Type}(L:Nat)(b a:Int)(c:Bool)(h:Int->Option R):Option R:=cond c (vl (A2 (u6 b (700:Int))) λf=>Ay L f a (λd=>h d)) (vl (A2 (u6 b (2:Int))) λg=>Ay L g a (λe=>h e))
theorem TD(e:Code)(a:Pt (R:=PV × List Blk × W) L Q Y s e)(c b:Int)(d:Bool):B2 (O4 L) Q Y (cd [] (O0 [1,1] e Gj)) ⟨[pI c,pI b,pB d]++tps 28,[],s⟩ (K6 (O4 L) ag9)=Ui L c b d (λi=>some (pI i,[],s)):=by unfold Ui;exact let h:=(K6 (O4 L) ag9);(j5 (by kernel_rfl) (A1 (A6 λf=>((a h f b).trans (by kernel_rfl))) (A6 λg=>((a h g b).trans (by kernel_rfl)))))
theorem TE(d:Nat)(delta0 count1 first2):evC (O4 L) (d+1) W Y 97 [pI delta0,pI count1,pB first2] [] s=Ui L delta0 count1 first2 (λa=>some (pI a,[],s)):=
 (evE (fn:=ag9) (by kernel_rfl)).trans (j5 (by kernel_rfl) (TD L (evC (O4 L) d) Y s (cd [1,1] Gj) (BP L (evC (O4 L) d) Y s) delta0 count1 first2))
noncomputable def JQ(L:Nat):Cfg:=D1 L [113] (A5 []) [] (A5 [(3,[2]),(2,[2]),(1,[0,3]),(0,[0])]) [] (A5 []) (some [2]) [] [] []
noncomputable def Ad8{R:Type}(L:Nat)(a:Int)(d:Int->Option R):Option R:=cond (ltI a 26) (vl (wu8 (A2 ((97:Int)+a))) λb=>d b) (vl (A2 ((A2 ((48:Int)+a))-26)) λc=>d (wu8 c))
theorem Ad9(d:Nat)(d0):evC (JQ L) (d+1) W Y 113 [pI d0] [] s=Ad8 L d0 (λa=>some (p8 a,[],s)):=by refine(evE (fn:=Tryz.f113) (by kernel_rfl)).trans ?_;generalize evC (JQ L) d=Q;unfold Ad8;kernel_rfl
noncomputable abbrev Jj:Code:=F6 ae9
noncomputable def Da(L:Nat):Cfg:=D1 L [128] (A5 []) [] (A5 [(7,[2]),(2,[2]),(4,[2]),(6,[2]),(5,[0,22]),(3,[0,12]),(1,[0,2]),(0,[0])]) [] (A5 [(0,[])]) (some [2]) [] [] []
noncomputable def Ls{R:Type}(a:Int)(g:Bool)(e:Int->Option R)(f:Int->Bool->Option R):Option R:=cond g (vl (A2 (wu8 (a-65))) λb=>e b) (cond (not (ltI a 48)) (cond (not (ltI 57 a)) (vl (A2 (wu8 (a-48))) λc=>vl (A2 (c+26)) λd=>e d) (f a (not (ltI 57 a)))) (f a false))
abbrev Xt(b:Code):Prop:=∀(k:Out->St W->Option R) a c,B2 (Da L) Q Y b ⟨gp [(0,p8 a),(12,pB c)] 20,[],s⟩ k=Ls a c (λn0=>k .ret ⟨gp [(2,pI n0)] 31,[],s⟩) (λa c=>k .normal ⟨gp [(0,p8 a),(22,pB c)] 10,[],s⟩)
theorem MN:Xt (R:=R) L Q Y s (cd [1,0,0,1,1,1] Jj):=by intro k a b;unfold Ls;kernel_rfl
noncomputable def Lt{R:Type}(a:Int)(l:Bool)(f:Int->Option R)(j:Int->Bool->Option R):Option R:=cond l (vl (A2 (wu8 (a-97))) λg=>f g) (cond (not (ltI a 65)) (Ls a (not (ltI 90 a)) (λh=>f h) (λb c=>j b c)) (Ls a false (λi=>f i) (λd e=>j d e)))
abbrev On(b:Code):Prop:=∀(k:Out->St W->Option R) a c,B2 (Da L) Q Y b ⟨gp [(0,p8 a),(2,pB c)] 30,[],s⟩ k=Lt a c (λn0=>k .ret ⟨gp [(2,pI n0)] 31,[],s⟩) (λa c=>k .normal ⟨gp [(0,p8 a),(22,pB c)] 10,[],s⟩)
theorem MO(a:Code)(b:Xt (R:=R) L Q Y s a):On (R:=R) L Q Y s (cd [1,0,0,1] (O0 [1,0,0,1,1,1] a Jj)):=by intro k c d;unfold Lt;simp only[<-b k];kernel_rfl
theorem MP:On (R:=R) L Q Y s (cd [1,0,0,1] Jj):=by intro k a b;exact j5 (by kernel_rfl) (MO L Q Y s (cd [1,0,0,1,1,1] Jj) (MN L Q Y s) k a b)
noncomputable def XP{R:Type}(L:Nat)(c:Int)(d:Int->Option R):Option R:=cond (not (ltI c 97)) (Lt c (not (ltI 122 c)) (λa=>d a) (λe f=>d (-1))) (Lt c false (λb=>d b) (λg h=>d (-1)))
theorem Ae6(b:Code)(a:On (R:=PV × List Blk × W) L Q Y s b)(c:Int):B2 (Da L) Q Y (cd [] (O0 [1,0,0,1] b Jj)) ⟨[p8 c]++tps 33,[],s⟩ (K6 (Da L) ae9)=XP L c (λe=>some (pI e,[],s)):=by unfold XP;exact let d:=(H4 0 (I1 (Da L) Q Y (cd [1,1] Jj) (K6 (Da L) ae9)));(j5 (by kernel_rfl) (A1 ((a d c (not (ltI 122 c))).trans (by kernel_rfl)) ((a d c false).trans (by kernel_rfl))))
theorem Ae7(d:Nat)(b0):evC (Da L) (d+1) W Y 128 [p8 b0] [] s=XP L b0 (λa=>some (pI a,[],s)):=
 (evE (fn:=ae9) (by kernel_rfl)).trans (j5 (by kernel_rfl) (Ae6 L (evC (Da L) d) Y s (cd [1,0,0,1] Jj) (MP L (evC (Da L) d) Y s) b0))
end
section
variable {W R : Type} (L : Nat) (Q : C9) (Y : Yh W) (s : W) (k : Out -> St W -> Option R)
noncomputable def JP(L:Nat):Cfg:=D1 L [91] (A5 []) [] (A5 [(1,[4]),(0,[0,0])]) [] (A5 []) (some [4]) [] [] []
noncomputable def Ac4{R:Type}(L:Nat)(c a:By)(d:Bool->Option R):Option R:=cond (not (ltI (c.length:Int) (a.length:Int))) (cond (O2 0 (a.length:Int) c.length) (vl (cut c 0 (a.length:Int)) λb=>d (b==a)) none) (d false)
theorem Ac5(d:Nat)(s0 prefix1):evC (JP L) (d+1) W Y 91 [pS s0,pS prefix1] [] s=Ac4 L s0 prefix1 (λa=>some (pB a,[],s)):=by refine(evE (fn:=Tryz.f91) (by kernel_rfl)).trans ?_;generalize evC (JP L) d=Q;unfold Ac4;kernel_rfl
noncomputable def JO(L:Nat):Cfg:=D1 L [64] (A5 []) [(91,IR)] (A5 [(1,[4]),(0,[0,0])]) [91] (A5 []) (some [4]) [] [] []
noncomputable def EX{R:Type}(L:Nat)(b a:By)(c:Bool->Option R):Option R:=cond (A7 b.length) (c (k9 a b)) none
theorem Ab9(d:Nat)(s0 prefix1):evC (JO L) (d+1) W Y 64 [pS s0,pS prefix1] [] s=EX L s0 prefix1 (λa=>some (pB a,[],s)):=by refine(evE (fn:=Tryz.f64) (by kernel_rfl)).trans ?_;generalize evC (JO L) d=Q;unfold EX;kernel_rfl
noncomputable def AF(L:Nat):Cfg:=D1 L [68] (A5 []) [(91,IR)] (A5 [(3,[4,0]),(2,[4,0]),(1,[0,0,7]),(0,[0,0])]) [91] (A5 []) (some [4,0]) [] [] []
noncomputable def QI{R:Type}(L:Nat)(b a:By)(d:By->Bool->Option R):Option R:=cond (A7 b.length) (cond (not (k9 a b)) (d b false) (cond (O2 (a.length:Int) (b.length:Int) b.length) (vl (cut b (a.length:Int) (b.length:Int)) λc=>d c true) none)) none
theorem WX(d:Nat)(s0 prefix1):evC (AF L) (d+1) W Y 68 [pS s0,pS prefix1] [] s=QI L s0 prefix1 (λa b=>some (.tup [pS a,pB b],[],s)):=by refine(evE (fn:=Tryz.f68) (by kernel_rfl)).trans ?_;generalize evC (AF L) d=Q;unfold QI;kernel_rfl
noncomputable def JM(L:Nat):Cfg:=D1 L [50] (A5 []) [(68,PH)] (A5 [(1,[4,0]),(0,[0,0])]) [68] (A5 []) (some [4,0]) [] [] []
noncomputable def Aa2{R:Type}(L:Nat)(b a:By)(c:By->Bool->Option R):Option R:=cond (A7 b.length) (c (Su b a) (k9 a b)) none
theorem Aa3(d:Nat)(s0 prefix1):evC (JM L) (d+1) W Y 50 [pS s0,pS prefix1] [] s=Aa2 L s0 prefix1 (λa b=>some (.tup [pS a,pB b],[],s)):=by refine(evE (fn:=Tryz.f50) (by kernel_rfl)).trans ?_;generalize evC (JM L) d=Q;unfold Aa2;kernel_rfl
noncomputable abbrev DP:Code:=F6 ai9
noncomputable def Be(L:Nat):Cfg:=D1 L [90] (A5 [(11,[0,0,0,0,4,0,0])]) [(104,Hn),(105,VN),(67,Zm)] (A5 [(18,[8]),(17,[9,0]),(16,[0,0,0,0,5,0]),(15,[0,0,0,0,5,0]),(14,[0,0,0,0,5,0,0]),(13,[0,0,0,0,5,0,0,29]),(12,[0,0,0,0,5,0,0]),(11,[0,0,0,0,5,0,25]),(10,[0,0,0,0,5,0]),(9,[0,0,0,0,5]),(8,[0,0,0,0,5]),(7,[0,0,0,0]),(6,[0,0,0,0]),(5,[0,0,0,0,16]),(4,[8]),(3,[0,0,0,0,11]),(2,[8]),(1,[0,0,0,0,9]),(0,[0,0,0,0])]) [105,67] (A5 [(0,[0,8,0]),(1,[0,0,0,0,5,0])]) (some [8]) [] [] []
noncomputable def T0{R:Type}(L n:Nat)(c b:By)(a l d:Int)(g:LL)(j:By->Int->LL->Option R):Option R:=match n with|0=>none|n+1=>cond (ltI d l) (cond (A7 c.length) (cond (ltI (ab6 c b) (0:Int)) (j c d g) (vl (A2 ((ab6 c b)+a)) λe=>cond (O2 0 e c.length) (cond (inR d g.length) (cond (decide ((h9 d)<g.length)) (vl (ad3 g (h9 d) (E3 (o8 g (h9 d) []) 0 [(SV.str (cut c 0 e))])) λh=>vl (A2 ((ab6 c b)+(b.length:Int))) λf=>cond (O2 f (c.length:Int) c.length) (vl (cut c f (c.length:Int)) λi=>T0 L n i b a l (A2 (d+1)) h j) none) none) none) none)) none) (j c d g)
theorem Kz(n a sep1 sepSave2 n3 i4 l5):E2 1 ((Be L).keep 11) (bd (Be L) Q Y (cd [1,1,1,1,1,1,1,1,0,0,0] DP)) n ⟨gp [(0,pS a),(0,pS sep1),(0,pI sepSave2),(0,pI n3),(5,.fl 0),(0,pI i4)] 55,[.arr false 9 1 l5],s⟩ k =
 T0 L n a sep1 sepSave2 n3 i4 l5 (λa b d=>k (.exit 0) ⟨gp [(0,pS a),(8,.fl 0),(0,pI b)] 55,[.arr false 9 1 d],s⟩):=by
 induction n generalizing a sep1 sepSave2 n3 i4 l5 with
 | zero=>rfl
 | succ n c=>rw[T0];simp only[<-c];kernel_rfl
noncomputable def Tf{R:Type}(L:Nat)(t d:By)(a u:Int)(w:Unit->Option R)(v:Nat->LL->Option R):Option R:=cond (u==0) (w ()) (cond (d==[]) none (cond (ltI u 0) (cond (d.length==1) (vl (↑(List.count (o8 d 0 0) t):Int) λn=>vl (A2 ((t.length:Int)+1)) λo=>vl (if (o<(A2 (n+1))) then o else (A2 (n+1))) λg=>cond (((decide ((0:Int)<=g))&&(decide (g<=g)))&&(F8 (h9 g))) (T0 L L t d a (A2 (g-1)) 0 (j1 (h9 g) [(SV.str ([]:List UInt8))]) (λq b e=>cond (inR b e.length) (cond (decide ((h9 b)<e.length)) (vl (ad3 e (h9 b) (E3 (o8 e (h9 b) []) 0 [(SV.str q)])) λi=>vl (A2 (b+1)) λl=>cond (O2 0 l i.length) (v ((h9 l)-0) i) none) none) none)) none) none) (vl (A2 ((t.length:Int)+1)) λp=>vl (if (p<u) then p else u) λh=>cond (((decide ((0:Int)<=h))&&(decide (h<=h)))&&(F8 (h9 h))) (T0 L L t d a (A2 (h-1)) 0 (j1 (h9 h) [(SV.str ([]:List UInt8))]) (λr c f=>cond (inR c f.length) (cond (decide ((h9 c)<f.length)) (vl (ad3 f (h9 c) (E3 (o8 f (h9 c) []) 0 [(SV.str r)])) λj=>vl (A2 (c+1)) λm=>cond (O2 0 m j.length) (v ((h9 m)-0) j) none) none) none)) none)))
theorem SK(d:Nat)(s0 sep1 sepSave2 n3):evC (Be L) (d+1) W Y 90 [pS s0,pS sep1,pI sepSave2,pI n3] [] s=Tf L s0 sep1 sepSave2 n3 (λ_=>some (.fl 0,[.arr true 9 1 []],s)) (λc f=>some (.vw 0 0 c,[.arr false 9 1 f],s)):=by refine(evE (fn:=ai9) (by kernel_rfl)).trans ?_;generalize evC (Be L) d=Q;unfold Tf;exact let e:=(H4 0 (I1 (Be L) Q Y (cd [1,1,1,1,1,1,1,1,1] DP) (K6 (Be L) ai9)));(j5 (by kernel_rfl) (A1 rfl (A1 rfl (A1 (A1 (A6 λg=>(A6 λh=>(A6 λa=>(A1 ((Kz L Q Y s e L s0 sep1 sepSave2 (A2 (a-1)) 0 (j1 (h9 a) [(SV.str ([]:List UInt8))])).trans (by kernel_rfl)) rfl)))) rfl) (A6 λi=>(A6 λb=>(A1 ((Kz L Q Y s e L s0 sep1 sepSave2 (A2 (b-1)) 0 (j1 (h9 b) [(SV.str ([]:List UInt8))])).trans (by kernel_rfl)) rfl)))))))
noncomputable def Sn(L:Nat):Cfg:=D1 L [63] (A5 []) [(90,DF)] (A5 [(1,[4]),(0,[0,0])]) [] (A5 []) (some [4]) [] [] []
noncomputable def CN{R:Type}(L:Nat)(c a:By)(d:LL->Option R):Option R:=cond (A7 c.length) (cond (a.length==1) (cond ((0:Int)==0) (cond (((-1):Int)==((-1):Int)) (vl (G8 (pcs (o8 a 0 0) c)) λb=>d b) none) none) none) none
theorem UL(d:Nat)(s0 sep1):evC (Sn L) (d+1) W Y 63 [pS s0,pS sep1] [] s=CN L s0 sep1 (λa=>some (.s (.sl false false 1 a),[],s)):=by refine(evE (fn:=Tryz.f63) (by kernel_rfl)).trans ?_;generalize evC (Sn L) d=Q;unfold CN;kernel_rfl
noncomputable def JN(L:Nat):Cfg:=D1 L [46] (A5 []) [(64,VG)] (A5 [(1,[2]),(0,[0])]) [64] (A5 []) (some [2]) [] [] []
noncomputable def Ab7{R:Type}(L:Nat)(a:By)(b:Bool->Option R):Option R:=cond (A7 a.length) (cond (k9 ([48,120]:List UInt8) a) (b true) (cond (A7 a.length) (b (k9 ([48,88]:List UInt8) a)) none)) none
theorem Ab8(d:Nat)(s0):evC (JN L) (d+1) W Y 46 [pS s0] [] s=Ab7 L s0 (λa=>some (pB a,[],s)):=by refine(evE (fn:=Tryz.f46) (by kernel_rfl)).trans ?_;generalize evC (JN L) d=Q;unfold Ab7;kernel_rfl
noncomputable abbrev Z6:Code:=F6 ag7
noncomputable def N8(L:Nat):Cfg:=D1 L [48] (A5 [(3,[0,0,2,0,0,4,0])]) [] (A5 [(18,[4,0]),(17,[0,0,4,4,0]),(16,[0,0,4,4,0]),(15,[4,0]),(14,[0,0,4,1,2,0,39]),(9,[0,0,4,1,2,0]),(11,[0,0,4,1,2,0]),(13,[0,0,4,1,2,0]),(7,[4,0]),(12,[0,0,4,2,1,0,26]),(10,[0,0,4,2,1,0,15]),(8,[0,0,4,2,1,0,5]),(6,[0,0,4,2,1,0]),(5,[0,0,4,0,3,0]),(4,[0,0,4,0,3,0]),(3,[0,0,4,4,0,0]),(2,[0,0,4,4,0]),(1,[0,0,4]),(0,[0,0])]) [] (A5 [(0,[6]),(1,[0,0,4,4,0]),(2,[0,0,4,1,2,0])]) (some [4,0]) [] [] []
noncomputable def Ko{R:Type}(m:By)(a i b j l:Int)(n:Bool)(g:By->Int->Int->Int->Int->Int->Option R)(h:Unit->Option R):Option R:=cond n (vl (A2 (wu8 (b-97))) λc=>vl (A2 (c+10)) λd=>g m a i d j l) (cond (not (ltI b 65)) (cond (not (ltI 70 b)) (vl (A2 (wu8 (b-65))) λe=>vl (A2 (e+10)) λf=>g m a i f j l) (h ())) (h ()))
abbrev Wt(b:Code):Prop:=∀(k:Out->St W->Option R) f a c b3 d e b6,B2 (N8 L) Q Y b ⟨gp [(0,pS f),(0,pI a),(4,pI c),(2,p8 b3),(1,pI d),(0,pI e),(15,pB b6)] 32,[],s⟩ k=Ko f a c b3 d e b6 (λf a c g d e=>k .normal ⟨gp [(0,pS f),(0,pI a),(4,pI c),(1,pI g),(2,pI d),(0,pI e)] 48,[],s⟩) (λ_=>k .ret ⟨gp [(4,pI (0:Int)),(0,pB false)] 55,[],s⟩)
theorem KF:Wt (R:=R) L Q Y s (cd [1,1,0,1,0,0,1,1,0,0,1,1,0,1,0,1,1,1] Z6):=by intro k g a d b e f c;unfold Ko;kernel_rfl
noncomputable def Kp{R:Type}(v:By)(a q d r t:Int)(x:Bool)(m:By->Int->Int->Int->Int->Int->Option R)(w:Unit->Option R):Option R:=cond x (vl (A2 (wu8 (d-48))) λn=>m v a q n r t) (cond (not (ltI d 97)) (Ko v a q d r t (not (ltI 102 d)) (λu c o l p f=>m u c o l p f) (λ_=>w ())) (Ko v a q d r t false (λj b g e h i=>m j b g e h i) (λ_=>w ())))
abbrev Ht(b:Code):Prop:=∀(k:Out->St W->Option R) f a c b3 d e b6,B2 (N8 L) Q Y b ⟨gp [(0,pS f),(0,pI a),(4,pI c),(2,p8 b3),(1,pI d),(0,pI e),(5,pB b6)] 42,[],s⟩ k=Kp f a c b3 d e b6 (λf a c g d e=>k .normal ⟨gp [(0,pS f),(0,pI a),(4,pI c),(1,pI g),(2,pI d),(0,pI e)] 48,[],s⟩) (λ_=>k .ret ⟨gp [(4,pI (0:Int)),(0,pB false)] 55,[],s⟩)
theorem KG(a:Code)(b:Wt (R:=R) L Q Y s a):Ht (R:=R) L Q Y s (cd [1,1,0,1,0,0,1,1,0,0,1,1,0,1,0,1] (O0 [1,1,0,1,0,0,1,1,0,0,1,1,0,1,0,1,1,1] a Z6)):=by intro k i c f d g h e;unfold Kp;simp only[<-b k];kernel_rfl
theorem KH:Ht (R:=R) L Q Y s (cd [1,1,0,1,0,0,1,1,0,0,1,1,0,1,0,1] Z6):=by intro k g a d b e f c;exact j5 (by kernel_rfl) (KG L Q Y s (cd [1,1,0,1,0,0,1,1,0,0,1,1,0,1,0,1,1,1] Z6) (KF L Q Y s) k g a d b e f c)
noncomputable def Kq{R:Type}(j:By)(a g d h i:Int)(e:Unit->Option R)(f:By->Int->Int->Int->Int->Option R):Option R:=cond (not (ltI d a)) (e ()) (vl (A2 ((A2 (g*a))+d)) λb=>vl (if ((1099511627776:Int)<b) then (1099511627776:Int) else b) λc=>f j a c h i)
abbrev Nv(b:Code):Prop:=∀(k:Out->St W->Option R) e a c d3 d n5,B2 (N8 L) Q Y b ⟨gp [(0,pS e),(0,pI a),(4,pI c),(1,pI d3),(2,pI d),(0,pI n5)] 48,[],s⟩ k=Kq e a c d3 d n5 (λ_=>k .ret ⟨gp [(4,pI (0:Int)),(0,pB false)] 55,[],s⟩) (λe a c f d=>k .normal ⟨gp [(0,pS e),(0,pI a),(4,pI c),(4,pI f),(0,pI d)] 48,[],s⟩)
theorem KI:Nv (R:=R) L Q Y s (cd [1,1,0,1,0,0,1,1,0,0,1,1,1] Z6):=by intro k f a c b d e;unfold Kq;kernel_rfl
noncomputable def Ck{R:Type}(L n:Nat)(g:By)(e H I f:Int)(h:Unit->Option R)(G:Int->Option R):Option R:=match n with|0=>none|n+1=>cond (ltI f I) (cond (inR f g.length) (cond (not (ltI (bAt g f) (48:Int))) (Kp g e H (bAt g f) I f (not (ltI 57 (bAt g f))) (λB a l i m o=>Kq B a l i m o (λ_=>h ()) (λC b p q r=>vl (A2 (r+1)) λt=>Ck L n C b p q t h G)) (λ_=>h ())) (Kp g e H (bAt g f) I f false (λD c u j v w=>Kq D c u j v w (λ_=>h ()) (λF d x y z=>vl (A2 (z+1)) λA=>Ck L n F d x y A h G)) (λ_=>h ()))) none) (G H)
theorem KJ(b:Code)(d:Ht (R:=R) L Q Y s b)(a:Code)(e:Nv (R:=R) L Q Y s a)(n:Nat)(l:By)(c C D j:Int):E2 0 ((N8 L).keep 3) (bd (N8 L) Q Y (cd [1,1,0,1,0,0] (O0 [1,1,0,1,0,0,1,1,0,0,1,1,1] a (O0 [1,1,0,1,0,0,1,1,0,0,1,1,0,1,0,1] b Z6)))) n ⟨gp [(0,pS l),(0,pI c),(4,pI C),(4,pI D),(0,pI j)] 48,[],s⟩ k =
 Ck L n l c C D j (λ_=>k .ret ⟨gp [(4,pI (0:Int)),(0,pB false)] 55,[],s⟩) (λn0=>k (.exit 0) ⟨gp [(6,pI n0)] 54,[],s⟩):=by
 induction n generalizing l c C D j with
 | zero=>rfl
 | succ n M=>rw[Ck];exact let J:=(H4 1 (I1 (N8 L) Q Y (cd [1,1,0,1,0,0,1,1,1] Z6) (lpK 0 ((N8 L).keep 3) (bd (N8 L) Q Y (cd [1,1,0,1,0,0] (O0 [1,1,0,1,0,0,1,1,0,0,1,1,1] a (O0 [1,1,0,1,0,0,1,1,0,0,1,1,0,1,0,1] b Z6)))) n k)));let K:=(H4 2 (I1 (N8 L) Q Y a J));(j5 (by kernel_rfl) (A1 (A1 (A1 ((d K l c C (bAt l j) D j (not (ltI 57 (bAt l j)))).trans (congr (congr rfl (fx6 λF f p m q r=>(j5 (by kernel_rfl) ((e J F f p m q r).trans (congr (congr rfl (by kernel_rfl)) (fx5 λG g t u N=>(j5 (by kernel_rfl) (A6 λv=>(M G g t u v))))))))) (by kernel_rfl))) ((d K l c C (bAt l j) D j false).trans (congr (congr rfl (fx6 λH h w o x y=>(j5 (by kernel_rfl) ((e J H h w o x y).trans (congr (congr rfl (by kernel_rfl)) (fx5 λI i z A O=>(j5 (by kernel_rfl) (A6 λB=>(M I i z A B))))))))) (by kernel_rfl)))) rfl) rfl))
noncomputable def WI{R:Type}(L:Nat)(d:By)(a:Int)(c:Int->Bool->Option R):Option R:=Ck L L d a 0 (d.length:Int) 0 (λ_=>c 0 false) (λb=>c b true)
theorem Aa7(a:Code)(d:Ht (R:=PV × List Blk × W) L Q Y s a)(b:Code)(e:Nv (R:=PV × List Blk × W) L Q Y s b)(f:By)(c:Int):B2 (N8 L) Q Y (cd [] (O0 [1,1,0,1,0,0,1,1,0,0,1,1,1] b (O0 [1,1,0,1,0,0,1,1,0,0,1,1,0,1,0,1] a Z6))) ⟨[pS f,pI c]++tps 59,[],s⟩ (K6 (N8 L) ag7)=WI L f c (λg h=>some (.tup [pI g,pB h],[],s)):=by unfold WI;exact(j5 (by kernel_rfl) ((KJ L Q Y s (H4 0 (I1 (N8 L) Q Y (cd [1,1,1] Z6) (K6 (N8 L) ag7))) a d b e L f c 0 (f.length:Int) 0).trans (by kernel_rfl)))
theorem Aa8(d:Nat)(s0 base1):evC (N8 L) (d+1) W Y 48 [pS s0,pI base1] [] s=WI L s0 base1 (λa b=>some (.tup [pI a,pB b],[],s)):=
 (evE (fn:=ag7) (by kernel_rfl)).trans (j5 (by kernel_rfl) (Aa7 L (evC (N8 L) d) Y s (cd [1,1,0,1,0,0,1,1,0,0,1,1,0,1,0,1] Z6) (KH L (evC (N8 L) d) Y s) (cd [1,1,0,1,0,0,1,1,0,0,1,1,1] Z6) (KI L (evC (N8 L) d) Y s) s0 base1))
noncomputable def VY(L:Nat):Cfg:=D1 L [47] (A5 []) [(46,IP),(48,IO)] (A5 [(7,[2,0]),(2,[2,0]),(4,[2,0]),(6,[2,0]),(5,[0,14]),(3,[0,6]),(1,[0,3]),(0,[0])]) [46,48] (A5 [(0,[0])]) (some [2,0]) [] [] []
noncomputable def num{R:Type}(L:Nat)(a:By)(d:Int->Bool->Option R):Option R:=cond (a==[]) (d 0 false) (cond (A7 a.length) (cond (U3 a) (cond (O2 2 (a.length:Int) a.length) (vl (cut a 2 (a.length:Int)) λb=>cond (A7 b.length) (cond (ltN 16 17) (vl (↑(Jt (D7 16 0 b)):Int) λe=>d e (o0 (D7 16 0 b))) none) none) none) (cond (ltI 1 (a.length:Int)) (cond (inR 0 a.length) (cond ((bAt a (0:Int))==48) (cond (O2 1 (a.length:Int) a.length) (vl (cut a 1 (a.length:Int)) λc=>cond (A7 c.length) (cond (ltN 8 17) (vl (↑(Jt (D7 8 0 c)):Int) λf=>d f (o0 (D7 8 0 c))) none) none) none) (cond (A7 a.length) (cond (ltN 10 17) (vl (↑(Jt (D7 10 0 a)):Int) λg=>d g (o0 (D7 10 0 a))) none) none)) none) (cond (A7 a.length) (cond (ltN 10 17) (vl (↑(Jt (D7 10 0 a)):Int) λh=>d h (o0 (D7 10 0 a))) none) none))) none)
theorem Ao2(d:Nat)(s0):evC (VY L) (d+1) W Y 47 [pS s0] [] s=num L s0 (λa b=>some (.tup [pI a,pB b],[],s)):=by refine(evE (fn:=Tryz.f47) (by kernel_rfl)).trans ?_;generalize evC (VY L) d=Q;unfold num;kernel_rfl
noncomputable def AH(L:Nat):Cfg:=D1 L [45] (A5 []) [(63,DJ)] (A5 [(5,[2]),(4,[3]),(3,[3,0,13]),(2,[3,0]),(1,[3]),(0,[0])]) [] (A5 []) (some [2]) [] [] []
noncomputable def parts{R:Type}(L:Nat)(e:By)(c:LL->Option R):Option R:=cond (A7 e.length) (cond (1==1) (vl (G8 (pcs (o8 ([46]:List UInt8) 0 0) e)) λa=>vl (A2 ((a.length:Int)-1)) λb=>cond (ltI 0 b) (cond (inR b a.length) (cond (okE Iq a (h9 b) 0) (vl (gX a (h9 b) 0) λd=>cond (d==[]) (cond (O2 0 b a.length) (c (cut a 0 b)) none) (c a)) none) none) (c a)) none) none
theorem XL(d:Nat)(s0):evC (AH L) (d+1) W Y 45 [pS s0] [] s=parts L s0 (λa=>some (.s (.sl false false 1 a),[],s)):=by refine(evE (fn:=Tryz.f45) (by kernel_rfl)).trans ?_;generalize evC (AH L) d=Q;unfold parts;kernel_rfl
noncomputable def Nq(L:Nat):Cfg:=D1 L [27] (A5 []) [(45,PJ),(46,IP),(47,Ak3),(48,IO)] (A5 [(7,[2]),(6,[4,3]),(5,[2]),(4,[6]),(3,[4,13]),(2,[4]),(1,[3]),(0,[0])]) [46,47,48] (A5 []) (some [2]) [] [] []
noncomputable def Qt{R:Type}(L:Nat)(c:By)(d:Bool->Option R):Option R:=cond (A7 c.length) (vl (A2 ((↑(b7 (G8 (E1 c))):Int)-1)) λb=>cond (inR b (b7 (G8 (E1 c)))) (cond (okE Iq (G8 (E1 c)) (h9 b) 0) (vl (gX (G8 (E1 c)) (h9 b) 0) λa=>cond (A7 a.length) (cond (U3 a) (cond (A7 a.length) (vl (↑(Jt (Bu a)):Int) λe=>d (o0 (Bu a))) none) (cond (A7 a.length) (cond (ltN 10 17) (vl (↑(Jt (D7 10 0 a)):Int) λf=>cond (o0 (D7 10 0 a)) (d (not (a==[]))) (d false)) none) none)) none) none) none) none
theorem LV(d:Nat)(s0):evC (Nq L) (d+1) W Y 27 [pS s0] [] s=Qt L s0 (λa=>some (pB a,[],s)):=by refine(evE (fn:=Tryz.f27) (by kernel_rfl)).trans ?_;generalize evC (Nq L) d=Q;unfold Qt;kernel_rfl
noncomputable abbrev Wl:Code:=F6 ai8
noncomputable def W5(L:Nat):Cfg:=D1 L [42] (A5 [(2,[0,1,0])]) [] (A5 [(6,[2]),(3,[0,2]),(5,[2]),(4,[0,2,15]),(2,[0,2,3]),(1,[0,2]),(0,[0])]) [] (A5 [(0,[0]),(1,[0,2])]) (some [2]) [] [] []
noncomputable def R4{R:Type}(L n:Nat)(a:By)(b:Int)(c:Unit->Option R)(d:By->Option R):Option R:=match n with|0=>none|n+1=>cond (ltI b (a.length:Int)) (cond (inR b a.length) (cond (ltI (bAt a b) (48:Int)) (c ()) (cond (inR b a.length) (cond (ltI 57 (bAt a b)) (c ()) (R4 L n a (A2 (b+1)) c d)) none)) none) (d a)
theorem Vx(n a i1):E2 0 ((W5 L).keep 2) (bd (W5 L) Q Y (cd [1,0,1,0,0] Wl)) n ⟨gp [(0,pS a),(2,pI i1)] 18,[],s⟩ k =
 R4 L n a i1 (λ_=>k .ret ⟨gp [(2,pB false)] 19,[],s⟩) (λa=>k (.exit 0) ⟨gp [(0,pS a)] 21,[],s⟩):=by
 induction n generalizing a i1 with
 | zero=>rfl
 | succ n b=>rw[R4];simp only[<-b];kernel_rfl
noncomputable def Qw{R:Type}(L:Nat)(c:By)(b:Bool->Option R):Option R:=R4 L L c 0 (λ_=>b false) (λa=>b (not (a==[])))
theorem MW(d:Nat)(s0):evC (W5 L) (d+1) W Y 42 [pS s0] [] s=Qw L s0 (λa=>some (pB a,[],s)):=by refine(evE (fn:=ai8) (by kernel_rfl)).trans ?_;generalize evC (W5 L) d=Q;unfold Qw;exact(j5 (by kernel_rfl) ((Vx L Q Y s (H4 0 (I1 (W5 L) Q Y (cd [1,1] Wl) (K6 (W5 L) ai8))) L s0 0).trans (by kernel_rfl)))
noncomputable abbrev DR:Code:=F6 ai7
noncomputable def Bg(L:Nat):Cfg:=D1 L [24] (A5 [(4,[0,0,2,0,0,0])]) [] (A5 [(9,[4]),(5,[0,0,3,0,0]),(8,[0,0,3,0,0]),(7,[0,0,3,1]),(6,[0,0,3,0,0,16]),(4,[0,0,3,0,0,3]),(3,[0,0,3,0,0]),(2,[0,0,3,0]),(1,[0,0,3]),(0,[0,0])]) [] (A5 [(0,[5]),(1,[0,0,3,0,0])]) (some [4]) [] [] []
noncomputable def N5{R:Type}(L n:Nat)(c:By)(d a b:Int)(e:LL)(f:LL->Option R):Option R:=match n with|0=>none|n+1=>cond (not (ltI (c.length:Int) b)) (cond (b==(c.length:Int)) (cond (O2 a b c.length) (cond (F8 (e.length+1)) (N5 L n c d (A2 (b+1)) (A2 (b+1)) (e++[[(SV.str (cut c a b))]]) f) none) none) (cond (inR b c.length) (cond ((bAt c b)==d) (cond (O2 a b c.length) (cond (F8 (e.length+1)) (N5 L n c d (A2 (b+1)) (A2 (b+1)) (e++[[(SV.str (cut c a b))]]) f) none) none) (N5 L n c d a (A2 (b+1)) e f)) none)) (f e)
theorem CI(n s0 at1 from2 i3 l4):E2 1 ((Bg L).keep 4) (bd (Bg L) Q Y (cd [1,1,1,0,1,0,0] DR)) n ⟨gp [(0,pS s0),(0,p8 at1),(3,.fl 0),(0,pI from2),(0,pI i3)] 27,[.arr true 9 1 l4],s⟩ k =
 N5 L n s0 at1 from2 i3 l4 (λb=>k (.exit 0) ⟨gp [(5,.fl 0)] 29,[.arr true 9 1 b],s⟩):=by
 induction n generalizing s0 at1 from2 i3 l4 with
 | zero=>rfl
 | succ n a=>rw[N5];simp only[<-a];kernel_rfl
noncomputable def Uw{R:Type}(L:Nat)(d:By)(a:Int)(c:LL->Option R):Option R:=N5 L L d a 0 0 [] (λb=>c b)
theorem UD(d:Nat)(s0 at1):evC (Bg L) (d+1) W Y 24 [pS s0,p8 at1] [] s=Uw L s0 at1 (λa=>some (.fl 0,[.arr true 9 1 a],s)):=by refine(evE (fn:=ai7) (by kernel_rfl)).trans ?_;generalize evC (Bg L) d=Q;unfold Uw;exact(j5 (by kernel_rfl) ((CI L Q Y s (H4 0 (I1 (Bg L) Q Y (cd [1,1,1,1] DR) (K6 (Bg L) ai7))) L s0 at1 0 0 []).trans (by kernel_rfl)))
noncomputable abbrev Jk:Code:=F6 ag8
noncomputable def Db(L:Nat):Cfg:=D1 L [60] (A5 []) [] (A5 [(7,[2]),(2,[2]),(4,[2]),(6,[2]),(5,[0,23]),(3,[0,12]),(1,[0,2]),(0,[0])]) [] (A5 [(0,[])]) (some [2]) [] [] []
noncomputable def Lw{R:Type}(a:Int)(h:Bool)(f:Int->Option R)(g:Int->Bool->Option R):Option R:=cond h (vl (A2 (wu8 (a-97))) λb=>vl (A2 (b+10)) λc=>f c) (cond (not (ltI a 65)) (cond (not (ltI 70 a)) (vl (A2 (wu8 (a-65))) λd=>vl (A2 (d+10)) λe=>f e) (g a (not (ltI 70 a)))) (g a false))
abbrev Xu(b:Code):Prop:=∀(k:Out->St W->Option R) a c,B2 (Db L) Q Y b ⟨gp [(0,p8 a),(12,pB c)] 21,[],s⟩ k=Lw a c (λn0=>k .ret ⟨gp [(2,pI n0)] 32,[],s⟩) (λa c=>k .normal ⟨gp [(0,p8 a),(23,pB c)] 10,[],s⟩)
theorem MT:Xu (R:=R) L Q Y s (cd [1,0,0,1,1,1] Jk):=by intro k a b;unfold Lw;kernel_rfl
noncomputable def Lx{R:Type}(b:Int)(l:Bool)(f:Int->Option R)(j:Int->Bool->Option R):Option R:=cond l (vl (A2 (wu8 (b-48))) λg=>f g) (cond (not (ltI b 97)) (Lw b (not (ltI 102 b)) (λh=>f h) (λc d=>j c d)) (Lw b false (λi=>f i) (λe a=>j e a)))
abbrev Oo(b:Code):Prop:=∀(k:Out->St W->Option R) a c,B2 (Db L) Q Y b ⟨gp [(0,p8 a),(2,pB c)] 31,[],s⟩ k=Lx a c (λn0=>k .ret ⟨gp [(2,pI n0)] 32,[],s⟩) (λa c=>k .normal ⟨gp [(0,p8 a),(23,pB c)] 10,[],s⟩)
theorem MU(a:Code)(b:Xu (R:=R) L Q Y s a):Oo (R:=R) L Q Y s (cd [1,0,0,1] (O0 [1,0,0,1,1,1] a Jk)):=by intro k c d;unfold Lx;simp only[<-b k];kernel_rfl
theorem MV:Oo (R:=R) L Q Y s (cd [1,0,0,1] Jk):=by intro k a b;exact j5 (by kernel_rfl) (MU L Q Y s (cd [1,0,0,1,1,1] Jk) (MT L Q Y s) k a b)
noncomputable def XS{R:Type}(L:Nat)(c:Int)(d:Int->Option R):Option R:=cond (not (ltI c 48)) (Lx c (not (ltI 57 c)) (λa=>d a) (λe f=>d 99)) (Lx c false (λb=>d b) (λg h=>d 99))
theorem Ae8(b:Code)(a:Oo (R:=PV × List Blk × W) L Q Y s b)(c:Int):B2 (Db L) Q Y (cd [] (O0 [1,0,0,1] b Jk)) ⟨[p8 c]++tps 34,[],s⟩ (K6 (Db L) ag8)=XS L c (λe=>some (pI e,[],s)):=by unfold XS;exact let d:=(H4 0 (I1 (Db L) Q Y (cd [1,1] Jk) (K6 (Db L) ag8)));(j5 (by kernel_rfl) (A1 ((a d c (not (ltI 57 c))).trans (by kernel_rfl)) ((a d c false).trans (by kernel_rfl))))
theorem Ae9(d:Nat)(b0):evC (Db L) (d+1) W Y 60 [p8 b0] [] s=XS L b0 (λa=>some (pI a,[],s)):=
 (evE (fn:=ag8) (by kernel_rfl)).trans (j5 (by kernel_rfl) (Ae8 L (evC (Db L) d) Y s (cd [1,0,0,1] Jk) (MV L (evC (Db L) d) Y s) b0))
noncomputable abbrev W3:Code:=F6 ag6
noncomputable def J4(L:Nat):Cfg:=D1 L [43] (A5 [(10,[0,1,0,0,0,0])]) [(60,VJ)] (A5 [(16,[2,0]),(11,[0,3,0,0]),(15,[0,3,0,0]),(14,[2,0]),(13,[0,3,0,0,0,44]),(12,[0,3,0,0,0]),(10,[0,3,0,0,36]),(9,[0,3,0,0]),(8,[0,3,0]),(5,[0,3]),(7,[0,3]),(6,[0,3,32]),(4,[0,3,22]),(3,[0,3]),(2,[2,0]),(1,[0,8]),(0,[0])]) [60] (A5 [(0,[5]),(1,[0,3,0,0])]) (some [2,0]) [] [] []
noncomputable def Qz{R:Type}(a:By)(c:By->Option R):Option R:=cond (O2 2 (a.length:Int) a.length) (vl (cut a 2 (a.length:Int)) λb=>c b) none
abbrev Xy(b:Code):Prop:=∀(k:Out->St W->Option R) a,B2 (J4 L) Q Y b ⟨gp [(0,pS a),(3,pI (10:Int)),(22,pB true)] 32,[],s⟩ k=Qz a (λa=>k .normal ⟨gp [(0,pS a),(3,pI (16:Int))] 55,[],s⟩)
theorem NN:Xy (R:=R) L Q Y s (cd [1,1,1,0,1] W3):=by intro k a;unfold Qz;kernel_rfl
noncomputable def Ct{R:Type}(L n:Nat)(d:By)(h a:Int)(f:Unit->Option R)(g:Int->Option R):Option R:=match n with|0=>none|n+1=>cond (ltI a (d.length:Int)) (cond (inR a d.length) (cond (inR (bAt d a) 256) (vl (↑(dig (u8n (bAt d a))):Int) λb=>cond (not (ltI b 16)) (f ()) (vl (A2 ((A2 (h*16))+b)) λc=>vl (if ((1099511627776:Int)<c) then (1099511627776:Int) else c) λe=>Ct L n d e (A2 (a+1)) f g)) none) none) (g h)
theorem NS(n s0 n1 i2):E2 0 ((J4 L).keep 10) (bd (J4 L) Q Y (cd [1,1,1,1,1,0,1,0,0] W3)) n ⟨gp [(0,pS s0),(3,pI (16:Int)),(0,pI n1),(0,pI i2)] 53,[],s⟩ k =
 Ct L n s0 n1 i2 (λ_=>k .ret ⟨gp [(2,pI (0:Int)),(0,pB false)] 56,[],s⟩) (λn0=>k (.exit 0) ⟨gp [(5,pI n0)] 54,[],s⟩):=by
 induction n generalizing s0 n1 i2 with
 | zero=>rfl
 | succ n a=>rw[Ct];simp only[<-a];kernel_rfl
noncomputable def Ra{R:Type}(L:Nat)(c:By)(b:Int->Bool->Option R):Option R:=Ct L L c 0 0 (λ_=>b 0 false) (λa=>b a true)
abbrev Xz(b:Code):Prop:=∀(k:Out->St W->Option R) s0,B2 (J4 L) Q Y b ⟨gp [(0,pS s0),(3,pI (16:Int))] 55,[],s⟩ k=Ra L s0 (λn0 a=>k .ret ⟨gp [(2,pI n0),(0,pB a)] 56,[],s⟩)
theorem NO:Xz (R:=R) L Q Y s (cd [1,1,1,1] W3):=by intro k a;unfold Ra;exact(j5 (by kernel_rfl) ((NS L Q Y s (H4 0 (I1 (J4 L) Q Y (cd [1,1,1,1,1,1] W3) k)) L a 0 0).trans (by kernel_rfl)))
noncomputable def Ii{R:Type}(a:By)(f:Bool)(d:By->Int->Option R)(e:By->Bool->Option R):Option R:=cond f (cond (O2 2 (a.length:Int) a.length) (vl (cut a 2 (a.length:Int)) λc=>d c 16) none) (cond (not (ltI (a.length:Int) (2:Int))) (cond (inR 0 a.length) (cond ((bAt a (0:Int))==48) (cond (O2 1 (a.length:Int) a.length) (vl (cut a 1 (a.length:Int)) λb=>d b 8) none) (e a ((bAt a (0:Int))==48))) none) (e a false))
abbrev Ya(b:Code):Prop:=∀(k:Out->St W->Option R) c d,B2 (J4 L) Q Y b ⟨gp [(0,pS c),(3,pI (10:Int)),(22,pB d)] 32,[],s⟩ k=Ii c d (λc a=>k .normal ⟨gp [(0,pS c),(3,pI a)] 55,[],s⟩) (λc d=>k .normal ⟨gp [(0,pS c),(3,pI (10:Int)),(32,pB d)] 22,[],s⟩)
theorem NP:Ya (R:=R) L Q Y s (cd [1,1,1,0,1] W3):=by intro k b a;unfold Ii;kernel_rfl
noncomputable def Am{R:Type}(L n:Nat)(f:By)(a i d:Int)(g:Unit->Option R)(h:Int->Option R):Option R:=match n with|0=>none|n+1=>cond (ltI d (f.length:Int)) (cond (inR d f.length) (cond (inR (bAt f d) 256) (vl (↑(dig (u8n (bAt f d))):Int) λb=>cond (not (ltI b a)) (g ()) (vl (A2 ((A2 (i*a))+b)) λc=>vl (if ((1099511627776:Int)<c) then (1099511627776:Int) else c) λe=>Am L n f a e (A2 (d+1)) g h)) none) none) (h i)
theorem Uu(n s0 base1 n2 i3):E2 0 ((J4 L).keep 10) (bd (J4 L) Q Y (cd [1,1,1,1,1,0,1,0,0] W3)) n ⟨gp [(0,pS s0),(3,pI base1),(0,pI n2),(0,pI i3)] 53,[],s⟩ k =
 Am L n s0 base1 n2 i3 (λ_=>k .ret ⟨gp [(2,pI (0:Int)),(0,pB false)] 56,[],s⟩) (λn0=>k (.exit 0) ⟨gp [(5,pI n0)] 54,[],s⟩):=by
 induction n generalizing s0 base1 n2 i3 with
 | zero=>rfl
 | succ n a=>rw[Am];simp only[<-a];kernel_rfl
noncomputable def Ij{R:Type}(L:Nat)(d:By)(a:Int)(c:Int->Bool->Option R):Option R:=Am L L d a 0 0 (λ_=>c 0 false) (λb=>c b true)
abbrev Yb(b:Code):Prop:=∀(k:Out->St W->Option R) s0 base1,B2 (J4 L) Q Y b ⟨gp [(0,pS s0),(3,pI base1)] 55,[],s⟩ k=Ij L s0 base1 (λn0 a=>k .ret ⟨gp [(2,pI n0),(0,pB a)] 56,[],s⟩)
theorem NQ:Yb (R:=R) L Q Y s (cd [1,1,1,1] W3):=by intro k b a;unfold Ij;exact(j5 (by kernel_rfl) ((Uu L Q Y s (H4 0 (I1 (J4 L) Q Y (cd [1,1,1,1,1,1] W3) k)) L b a 0 0).trans (by kernel_rfl)))
noncomputable def Ik{R:Type}(L:Nat)(c:By)(b:Int->Bool->Option R):Option R:=Am L L c 10 0 0 (λ_=>b 0 false) (λa=>b a true)
abbrev Yc(b:Code):Prop:=∀(k:Out->St W->Option R) s0 a,B2 (J4 L) Q Y b ⟨gp [(0,pS s0),(3,pI (10:Int)),(32,pB a)] 22,[],s⟩ k=Ik L s0 (λn0 a=>k .ret ⟨gp [(2,pI n0),(0,pB a)] 56,[],s⟩)
theorem NR:Yc (R:=R) L Q Y s (cd [1,1,1,1] W3):=by intro k a b;unfold Ik;exact(j5 (by kernel_rfl) ((Uu L Q Y s (H4 0 (I1 (J4 L) Q Y (cd [1,1,1,1,1,1] W3) k)) L a 10 0 0).trans (by kernel_rfl)))
noncomputable def XZ{R:Type}(L:Nat)(a:By)(e:Int->Bool->Option R):Option R:=cond (a==[]) (e 0 false) (cond (not (ltI (a.length:Int) (2:Int))) (cond (inR 0 a.length) (cond ((bAt a (0:Int))==48) (cond (inR 1 a.length) (cond ((bAt a (1:Int))==120) (Qz a (λB=>Ra L B (λA z=>e A z))) (cond (inR 1 a.length) (Ii a ((bAt a (1:Int))==88) (λt b=>Ij L t b (λm f=>e m f)) (λu C=>Ik L u (λn g=>e n g))) none)) none) (Ii a false (λv c=>Ij L v c (λo h=>e o h)) (λw D=>Ik L w (λp i=>e p i)))) none) (Ii a false (λx d=>Ij L x d (λq j=>e q j)) (λy F=>Ik L y (λr l=>e r l))))
theorem Af6(e:Code)(f:Xy (R:=PV × List Blk × W) L Q Y s e)(a:Ya (R:=PV × List Blk × W) L Q Y s e)(d:Code)(g:Xz (R:=PV × List Blk × W) L Q Y s d)(b:Yb (R:=PV × List Blk × W) L Q Y s d)(c:Yc (R:=PV × List Blk × W) L Q Y s d)(m:By):B2 (J4 L) Q Y (cd [] (O0 [1,1,1,1] d (O0 [1,1,1,0,1] e W3))) ⟨[pS m]++tps 59,[],s⟩ (K6 (J4 L) ag6)=XZ L m (λz A=>some (.tup [pI z,pB A],[],s)):=by unfold XZ;exact let l:=(K6 (J4 L) ag6);let x:=(I1 (J4 L) Q Y d l);(j5 (by kernel_rfl) (A1 rfl (A1 (A1 (A1 (A1 (A1 ((f x m).trans (congr rfl (fx1 λy=>(j5 (by kernel_rfl) ((g l y).trans (by kernel_rfl)))))) (A1 ((a x m ((bAt m (1:Int))==88)).trans (congr (congr rfl (fx2 λq h=>(j5 (by kernel_rfl) ((b l q h).trans (by kernel_rfl))))) (fx2 λr n=>(j5 (by kernel_rfl) ((c l r n).trans (by kernel_rfl)))))) rfl)) rfl) ((a x m false).trans (congr (congr rfl (fx2 λt i=>(j5 (by kernel_rfl) ((b l t i).trans (by kernel_rfl))))) (fx2 λu o=>(j5 (by kernel_rfl) ((c l u o).trans (by kernel_rfl))))))) rfl) ((a x m false).trans (congr (congr rfl (fx2 λv j=>(j5 (by kernel_rfl) ((b l v j).trans (by kernel_rfl))))) (fx2 λw p=>(j5 (by kernel_rfl) ((c l w p).trans (by kernel_rfl)))))))))
theorem Af7(d:Nat)(s0):evC (J4 L) (d+1) W Y 43 [pS s0] [] s=XZ L s0 (λa b=>some (.tup [pI a,pB b],[],s)):=
 (evE (fn:=ag6) (by kernel_rfl)).trans (j5 (by kernel_rfl) (Af6 L (evC (J4 L) d) Y s (cd [1,1,1,0,1] W3) (NN L (evC (J4 L) d) Y s) (NP L (evC (J4 L) d) Y s) (cd [1,1,1,1] W3) (NO L (evC (J4 L) d) Y s) (NQ L (evC (J4 L) d) Y s) (NR L (evC (J4 L) d) Y s) s0))
noncomputable def Sl(L:Nat):Cfg:=D1 L [41] (A5 []) [(24,Kg)] (A5 [(4,[2]),(3,[3]),(2,[3,13]),(1,[3]),(0,[0])]) [] (A5 []) (some [2]) [] [] []
noncomputable def CG{R:Type}(L:Nat)(f:By)(d:LL->Option R):Option R:=cond (A7 f.length) (vl (G8 (pcs (u8n (46:Int)) f)) λa=>cond (ltI 1 (a.length:Int)) (vl (A2 ((a.length:Int)-1)) λb=>cond (inR b a.length) (cond (okE Iq a (h9 b) 0) (vl (gX a (h9 b) 0) λe=>cond (e==[]) (vl (A2 ((a.length:Int)-1)) λc=>cond (O2 0 c a.length) (d (cut a 0 c)) none) (d a)) none) none) (d a)) none
theorem UB(d:Nat)(s0):evC (Sl L) (d+1) W Y 41 [pS s0] [] s=CG L s0 (λa=>some (.s (.sl false false 1 a),[],s)):=by refine(evE (fn:=Tryz.f41) (by kernel_rfl)).trans ?_;generalize evC (Sl L) d=Q;unfold CG;kernel_rfl
noncomputable def Jo(L:Nat):Cfg:=D1 L [23] (A5 []) [(41,DI),(42,Wf),(43,VL)] (A5 [(6,[2]),(5,[4,1]),(4,[2]),(3,[4,11]),(2,[4]),(1,[3]),(0,[0])]) [42,43] (A5 []) (some [2]) [] [] []
noncomputable def Ma{R:Type}(L:Nat)(d:By)(c:Bool->Option R):Option R:=cond (A7 d.length) (vl (A2 ((↑(b7 (G8 (E1 d))):Int)-1)) λb=>cond (inR b (b7 (G8 (E1 d)))) (cond (okE Iq (G8 (E1 d)) (h9 b) 0) (vl (gX (G8 (E1 d)) (h9 b) 0) λa=>cond (A7 a.length) (cond ((not (u4 a))&&(o0 (D7 10 0 a))) (c true) (cond (A7 a.length) (vl (↑(Jt (Bu a)):Int) λe=>cond (o0 (Bu a)) (cond (not (ltI (a.length:Int) (2:Int))) (cond (inR 1 a.length) (cond ((bAt a (1:Int))==120) (c true) (cond (inR 1 a.length) (c ((bAt a (1:Int))==88)) none)) none) (c false)) (c false)) none)) none) none) none) none
theorem GP(d:Nat)(s0):evC (Jo L) (d+1) W Y 23 [pS s0] [] s=Ma L s0 (λa=>some (pB a,[],s)):=by refine(evE (fn:=Tryz.f23) (by kernel_rfl)).trans ?_;generalize evC (Jo L) d=Q;unfold Ma;kernel_rfl
end
end
section
open Go
theorem Nu(b:UInt8):(48<=b.toNat/\b.toNat<=57/\dig b=b.toNat-48)\/(97<=b.toNat/\b.toNat<=102/\dig b=b.toNat-87)\/(65<=b.toNat/\b.toNat<=70/\dig b=b.toNat-55)\/(¬(48<=b.toNat/\b.toNat<=57)/\¬(97<=b.toNat/\b.toNat<=102)/\¬(65<=b.toNat/\b.toNat<=70)/\dig b=99):=by
 unfold dig;split
 ·rename_i h;exact .inl ⟨h.1,h.2,rfl⟩
 ·split
  ·rename_i h;exact .inr (.inl ⟨h.1,h.2,rfl⟩)
  ·split
   ·rename_i h;exact .inr (.inr (.inl ⟨h.1,h.2,rfl⟩))
   ·exact .inr (.inr (.inr ⟨by assumption,by assumption,by assumption,rfl⟩))
theorem YH(m:Nat):(if (1099511627776:Int)<(m:Int) then (1099511627776:Int) else (m:Int))=((min m Ip:Nat):Int):=by unfold Ip;split<;>omega
theorem Lq{c:UInt8}{s:By}(h:c∉s):pcs c s=[s]:=by unfold pcs;rw[Ap c s [] h];rfl
theorem BS{c:UInt8}{p r:By}(h:c∉p):pcs c (p++c::r)=p::pcs c r:=by unfold pcs;rw[Qa c p [] r h];rfl
theorem Fc(c:UInt8)(s:By):(pcs c s).length=s.count c+1:=Cv c s []
theorem BT(c:UInt8)(s:By):pcs c s≠[]:=OP c s []
theorem Qv{c:UInt8}{s x:By}(h:x∈pcs c s):c∉x/\x.length<=s.length:=by have:=Hi c s [] (by simp) x h;simpa using this
theorem Gp(c:UInt8)(s:By):s.count c<=s.length:=List.count_le_length
theorem Cw(c:UInt8):∀s:By,c∉s\/∃p r,s=p++c::r/\c∉p
 | []=>.inl (by simp)
 | b::s=>by
  by_cases h:b=c
  ·subst h;exact .inr ⟨[],s,rfl,by simp⟩
  ·rcases Cw c s with a|⟨p,r,rfl,d⟩
   ·exact .inl (by simp[a,ah7 h])
   ·exact .inr ⟨b::p,r,rfl,by simp[d,ah7 h]⟩
theorem Ti{c:UInt8}{s:By}(h:c∉s):ab6 s [c]=-1:=by
 rcases af9 s [c] with a|⟨i,a,e,b,f⟩
 ·exact a.1
 ·exfalso;simp only[ae8,v7] at b;obtain⟨t,d⟩:=b;have:c∈s.drop i:=by rw[<-d];simp
  exact h (ad2 this)
theorem Xb{c:UInt8}{p r:By}(h:c∉p):ab6 (p++c::r) [c]=(p.length:Int):=by
 rcases af9 (p++c::r) [c] with d|⟨i,d,m,f,g⟩
 ·exfalso;have:=d.2 p.length (by simp);simp[ae8] at this
 ·rw[d];have n:¬p.length<i:=by
   intro a;have:=g p.length a;simp[ae8] at this
  have k:¬i<p.length:=by
   intro a;simp only[ae8,v7] at f;obtain⟨t,b⟩:=f;have j:(p++c::r).drop i=p.drop i++c::r:=by rw[y7 (by omega)]
   rw[j] at b;cases e:p.drop i with
   | nil=>have:=List.length_drop (i:=i) (l:=p);rw[e] at this;simp at this;omega
   | cons x y=>
    rw[e] at b;simp at b;have:x∈p:=ad2 (i:=i) (by rw[e];simp);rw[<-b.1] at this;exact h this
  omega
theorem TH(s:By):E1 s≠[]:=by
 unfold E1;split
 ·rename_i h;intro e;have:=congrArg b7 e;simp at this;omega
 ·exact BT _ _
theorem Uj{s x:By}(h:x∈E1 s):x.length<=s.length:=by
 unfold E1 at h;split at h
 ·exact(Qv ((List.dropLast_sublist _).subset h)).2
 ·exact(Qv h).2
theorem Ju(s:By):1<=(E1 s).length/\(E1 s).length<=s.length+1:=by
 have a:=aa2.2 (TH s);have b:=Fc 46 s;have c:=Gp 46 s;refine⟨a,?_⟩;unfold E1;split
 ·rw[List.length_dropLast];omega
 ·omega
theorem Oj(s:By):(E1 s).getD ((E1 s).length-1) []=Du s:=by unfold Du;rw[List.getLastD_eq_getLast?,List.getLast?_eq_getElem?,j2]
theorem Xf(s:By):Du s∈E1 s:=by have h:=(Ju s).1;rw[<-Oj,j2,a7 (by omega)];exact j6 _
theorem Df{base:Nat}:∀{s:By} {n i:Nat},i<s.length->base<=dig (s.getD i 0)->D7 base n s=none
 | [],n,i,h,_=>by simp at h
 | b::r,n,0,h,a=>by
  simp only[s7] at a;simp only[D7];rw[V8]
 | b::r,n,i+1,h,a=>by
  simp only[ad5] at a;simp only[D7];split
  ·exact Df (i:=i) (by simpa using h) a
  ·rfl
theorem Oh(s:By):U3 s=true↔s.getD 0 0=48/\(s.getD 1 0=120\/s.getD 1 0=88):=by simp[U3]
theorem Hv{s:By}(h:U3 s=true):2<=s.length:=by
 rw[Oh] at h
 match s with
 | []=>simp at h
 | [a]=>simp at h
 | a::b::r=>simp
theorem XJ(l:By):(if U3 l then (D7 16 0 (l.drop 2)).isSome else !l.isEmpty&&(D7 10 0 l).isSome) =
  (if (!l.isEmpty&&(D7 10 0 l).isSome)=true then true else (if (Bu l).isSome=true then decide (2<=l.length)&&(l.getD 1 0==120||l.getD 1 0==88) else false)):=by
 by_cases b:U3 l=true
 ·have g:=Hv b;have j:=(Oh l).1 b;have f:D7 10 0 l=none:=Df (i:=1) (by omega) (by rcases j.2 with h|h<;>rw[h]<;>decide);have d:Bu l=D7 16 0 (l.drop 2):=by
   unfold Bu;rw[if_neg (by intro e;rw[e] at g;simp at g),if_pos b]
  rw[if_pos b,f,d];have c:(l.getD 1 0==120||l.getD 1 0==88)=true:=by simpa using j.2
  rw[c];simp[g]
 ·rw[if_neg b];cases n:(!l.isEmpty&&(D7 10 0 l).isSome) with
  | true=>rfl
  | false=>
   rw[if_neg (by simp)];cases d:Bu l with
   | none=>rfl
   | some v=>
    rw[show(some v).isSome=true from rfl,if_pos rfl]
    symm
    rw[Bool.and_eq_false_iff];by_cases c:2<=l.length
    ·right
     apply aa8;intro a;have a:l.getD 1 0=120\/l.getD 1 0=88:=by
      cases k:(l.getD 1 0==120||l.getD 1 0==88) with
      | false=>exact absurd k a
      | true=>simpa using k
     have m:¬l.getD 0 0=48:=λh=>b ((Oh l).2 ⟨h,a⟩)
     have f:D7 10 0 l=none:=Df (i:=1) (by omega) (by rcases a with h|h<;>rw[h]<;>decide);unfold Bu at d;rw[if_neg (by intro e;rw[e] at c;simp at c),if_neg b,if_neg (by intro h;exact m h.2),f] at d;cases d
    ·left;simpa using c
end
section
open Go Go.Proofs
theorem SX{R:Type}{a:Bool->Option R}(s p:By)(b:A7 s.length=true):Ac4 LF s p a=a (p.isPrefixOf s):=by
 have:=Z8 b;unfold Ac4;rw[Fu];by_cases h:p.length<=s.length
 ·simp_all
 ·simp (disch:=omega) [h]
theorem SM{R:Type}{a:Bool->Option R}(s p:By)(b:A7 s.length=true):EX LF s p a=a (p.isPrefixOf s):=by unfold EX;rw[b];rfl
theorem LA{R:Type}{b:By->Bool->Option R}(s p:By)(a:A7 s.length=true):QI LF s p b=b (Su s p) (p.isPrefixOf s):=by
 have:=Z8 a;unfold QI Su;rw[a];cases h:p.isPrefixOf s with
 | false=>simp
 | true=>
  have:p.length<=s.length:=by rw[Fu] at h;simp at h;exact h.1
  simp_all
theorem RU{R:Type}{a:By->Bool->Option R}(s p:By)(b:A7 s.length=true):Aa2 LF s p a=a (Su s p) (p.isPrefixOf s):=by unfold Aa2;rw[b];rfl
theorem HV{R:Type}{a:LL->Option R}(s p:By)(b:A7 s.length=true)(c:(p.length==1)=true):CN LF s p a=a (G8 (pcs (p.getD 0 0) s)):=by unfold CN;rw[b,c];rfl
theorem SL{R:Type}{c:Bool->Option R}(s:By)(d:A7 s.length=true):Ab7 LF s c=c (U3 s):=by
 unfold Ab7;have key:U3 s=(([48,120]:By).isPrefixOf s||([48,88]:By).isPrefixOf s):=by
  match s with
  | []=>rfl
  | [a]=>simp[U3,k9]
  | a::b::r=>
   simp only[U3,k9,s7,ad5,Bool.and_true];rw[ah9 (a:=(48:UInt8)),ah9 (a:=(120:UInt8)),ah9 (a:=(88:UInt8))];cases (a==48)<;>simp
 grind
theorem RX{R:Type}{k0:Unit->Option R}{k1:Int->Option R}(s:By)(C:s.length<=1000000000)(base:Nat)(B:base<=16):∀(r i a n:Nat),i+r=s.length->r<n->a<=Ip->
  Ck LF n s (base:Int) (a:Int) (s.length:Int) (i:Int) k0 k1=match D7 base a (s.drop i) with|some v=>k1 (v:Int)|none=>k0 ():=by
 intro r
 induction r with
 | zero=>
  intro i a n u w q;obtain⟨n,rfl⟩:∃m,n=m+1:=⟨n-1,by omega⟩
  rw[Ck];rw[A4,u3 (by omega)];rfl
 | succ r l=>
  intro i a n u w q;obtain⟨n,rfl⟩:∃m,n=m+1:=⟨n-1,by omega⟩
  rw[Ck,K2 s i (by omega)];rw[L5];have t:=(s.getD i 0).toNat_lt;generalize s.getD i 0=b at *;have k:((i:Int)+1)=((i+1:Nat):Int):=by omega
  have o:Ip=1099511627776:=rfl;have step:∀d:Nat,d<base->(a*base+d<100000000000000/\A2 (A2 ((a:Int)*(base:Int))+(d:Int))=((a*base+d:Nat):Int)):=by
   intro d c;have h:a*base<=1099511627776*16:=ag5 (by omega) (by omega);refine⟨by omega,?_⟩;have p:A2 ((a*base:Nat):Int)=((a*base:Nat):Int):=A3;rw[<-af4,p,A3];rfl
  simp (disch:=omega) only[C6,M5,cond_true,vl,G6,Kq,Kp,Ko];rw[k];simp only[D7];rcases Nu b with⟨h,j,e⟩|⟨h,j,e⟩|⟨h,j,e⟩|⟨h,j,A,e⟩
  ·have f:wu8 ((b.toNat:Int)-48)=((dig b:Nat):Int):=by rw[W0];omega
   simp (disch:=omega) only[C6,F3,j3,j0,cond_false,cond_true,f,G6];by_cases c:dig b<base
   ·rw[if_pos c,A8,(step _ c).2,YH];exact l (i+1) _ n (by omega) (by omega) (by omega)
   ·rw[if_neg c,A4];rfl
  ·have f:wu8 ((b.toNat:Int)-97)+10=((dig b:Nat):Int):=by rw[W0];omega
   have g:wu8 ((b.toNat:Int)-97)=((b.toNat:Int)-97):=W0;rw[g] at f;simp (disch:=omega) only[C6,F3,j3,j0,cond_false,cond_true,g,G6,f];by_cases c:dig b<base
   ·rw[if_pos c,A8,(step _ c).2,YH];exact l (i+1) _ n (by omega) (by omega) (by omega)
   ·rw[if_neg c,A4];rfl
  ·have f:wu8 ((b.toNat:Int)-65)+10=((dig b:Nat):Int):=by rw[W0];omega
   have g:wu8 ((b.toNat:Int)-65)=((b.toNat:Int)-65):=W0;rw[g] at f;simp (disch:=omega) only[C6,F3,j3,j0,cond_false,cond_true,g,G6,f];by_cases c:dig b<base
   ·rw[if_pos c,A8,(step _ c).2,YH];exact l (i+1) _ n (by omega) (by omega) (by omega)
   ·rw[if_neg c,A4];rfl
  ·rw[if_neg (show ¬dig b<base by omega)];by_cases x:b.toNat<48
   ·simp (disch:=omega) only[C6,F3,j3,j0,cond_false,cond_true]
   ·by_cases y:b.toNat<65
    ·simp (disch:=omega) only[C6,F3,j3,j0,cond_false,cond_true]
    ·by_cases z:b.toNat<97
     ·simp (disch:=omega) only[C6,F3,j3,j0,cond_false,cond_true]
     ·simp (disch:=omega) only[C6,F3,j3,j0,cond_false,cond_true]
theorem RY{R:Type}{k0:Int->Bool->Option R}(s:By)(base:Int)(c:A7 s.length=true)(d:ltN base 17=true):WI LF s base k0=k0 (Jt (D7 base.toNat 0 s):Int) (D7 base.toNat 0 s).isSome:=by have f:=Z8 c;have:=G7;obtain⟨a,e⟩:=J7.1 d;obtain⟨b,rfl⟩:=j8 a;unfold WI;have:=RX (k0:=λ_=>k0 0 false) (k1:=λn=>k0 n true) s f b (by omega) s.length 0 0 LF (by omega) (by omega) (by unfold Ip;omega);refine j5 this ?_;rw[u9,j7];cases D7 b 0 s<;>rfl
theorem XI{R:Type}{f:Int->Bool->Option R}(s:By)(d:A7 s.length=true):num LF s f=f (Jt (Bu s):Int) (Bu s).isSome:=by
 have k:=Z8 d;unfold num Bu;rw[d];by_cases a:s=[]
 ·subst a;rfl
 have c:(s==([]:By))=false:=by simpa using a
 have j:0<s.length:=aa2.2 a;rw[if_neg a,c];simp only[cond_true,cond_false,vl];cases h:U3 s with
 | true=>
  have:=Hv h;simp (disch:=first|omega|(simp;omega)) only[cond_true,if_true,P3,Af,Q0,QN];rfl
 | false=>
  simp only[cond_false,u0,if_false];have i:(D7 10 0 s)=D7 10 0 s:=rfl;by_cases g:1<s.length
  ·simp (disch:=omega) only[C6,M5,cond_true,Gi,g,true_and];have e:=R9 (s.getD 0 0) 48 (by omega);rw[show((48:Nat):Int)=48 from rfl] at e;rw[e];by_cases b:s.getD 0 0=48
   ·rw[if_pos b,b,show((48:UInt8)==p5 48)=true from rfl];simp (disch:=first|omega|(simp;omega)) only[P3,Af,Q0,QN,cond_true];rfl
   ·rw[if_neg b,show(s.getD 0 0==p5 48)=false from beq_eq_false_iff_ne.2 b];rfl
  ·rw[A4,V8];rfl
theorem BI{R:Type}{b:Bool->Option R}(s:By)(a:A7 s.length=true):Qt LF s b=b (P0 s):=by
 have i:=Z8 a;have h:=Ju s;have g:=Uj (Xf s);have d:=Oj s;have c:((E1 s).length:Int)-1=(((E1 s).length-1:Nat):Int):=by omega
 unfold Qt P0;rw[a];simp (disch:=omega) only[cond_true,vl,L3,c,G6,M5,j7,Bw,Ew,d,Q0];cases f:U3 (Du s) with
 | true=>
  have:=Hv f;have e:Bu (Du s)=D7 16 0 ((Du s).drop 2):=by
   unfold Bu;grind
  simp[e]
 | false=>
  simp only[cond_false,u0,if_false];cases D7 10 0 (Du s) with
  | none=>simp
  | some v=>cases Du s<;>rfl
theorem Vy{R:Type}{c:Bool->Option R}(s:By)(a:A7 s.length=true):Ma LF s c=c (P0 s):=by
 have j:=Z8 a;have i:=Ju s;have h:=Uj (Xf s);have e:=Oj s;have d:((E1 s).length:Int)-1=(((E1 s).length-1:Nat):Int):=by omega
 unfold Ma P0;rw[a,XJ];simp (disch:=omega) only[cond_true,vl,L3,d,G6,M5,j7,Bw,Ew,e,Q0];generalize Du s=l at *;cases (!l.isEmpty&&(D7 10 0 l).isSome) with
 | true=>rfl
 | false=>
  simp only[cond_false,u0,if_false];cases Bu l with
  | none=>rfl
  | some v=>
   simp only[Option.isSome_some,cond_true,if_true,PT];by_cases b:2<=l.length
   ·simp (disch:=omega) only[F3,M5,j0,cond_true,b,decide_true,ad8];have f:=R9 (l.getD 1 0) 120 (by omega);have g:=R9 (l.getD 1 0) 88 (by omega);grind
   ·rw[A8];simp[b]
theorem At7(s:By)(a b:Nat)(h:a<=b)(c:b<s.length):cut s (a:Int) ((b+1:Nat):Int)=cut s (a:Int) (b:Int)++[s.getD b 0]:=by rw[Kn,Kn,UP s b c,y7 (by rw[List.length_take];omega)]
theorem WH(s:By)(a:Nat):cut s (a:Int) (a:Int)=[]:=by rw[Kn];grind
theorem HB{R:Type}{k0:LL->Option R}(s:By)(o:s.length<=1000000000)(c:UInt8):∀(r i fr n:Nat) (l:List By),i+r=s.length->r+1<n->fr<=i->l.length<=i->
  N5 LF n s (c.toNat:Int) (fr:Int) (i:Int) (G8 l) k0=k0 (G8 (l++G4 c (cut s (fr:Int) (i:Int)) (s.drop i))):=by
 intro r
 induction r with
 | zero=>
  intro i fr n l g k e j;obtain⟨n,rfl⟩:∃m,n=m+1:=⟨n-1,by omega⟩
  obtain⟨n,rfl⟩:∃m,n=m+1:=⟨n-1,by omega⟩
  have a:i=s.length:=by omega
  subst a;rw[N5];simp (disch:=omega) only[F3,j0,cond_true,beq_self_eq_true,P3,L3,E9,G6];rw[N5];rw[A8,List.drop_length];simp only[j3,cond_false,G4,Ve];rfl
 | succ r f=>
  intro i fr n l g k e j;obtain⟨n,rfl⟩:∃m,n=m+1:=⟨n-1,by omega⟩
  rw[N5];have b:((i:Int)+1)=((i+1:Nat):Int):=by omega
  have d:((i:Int)==(s.length:Int))=false:=by rw[beq_eq_false_iff_ne];omega
  simp (disch:=omega) only[F3,j0,cond_true,cond_false,d,M5,L5,Al3,P3,L3,E9,G6];rw[b,K2 s i (by omega)];simp only[G4];by_cases h:s.getD i 0=c
  ·rw[show(s.getD i 0==c)=true by simpa using h,if_pos h,cond_true];have:=f (i+1) (i+1) n (l++[cut s (fr:Int) (i:Int)]) (by omega) (by omega) (by omega) (by simp<;>omega);rw[Ve] at this;refine j5 this ?_;rw[WH];simp
  ·rw[show(s.getD i 0==c)=false from beq_eq_false_iff_ne.2 h,if_neg h,cond_false];rw[f (i+1) fr n l (by omega) (by omega) (by omega) (by omega),At7 s fr i e (by omega)]
theorem OF{R:Type}{k0:LL->Option R}(s:By)(c:Int)(a:A7 s.length=true)(d:inR c 256=true):Uw LF s c k0=k0 (G8 (pcs (u8n c) s)):=by
 have f:=Z8 a;have:=G7;simp only[inR,j4,decide_eq_true_eq] at d;have e:c=((u8n c).toNat:Int):=by
  unfold u8n;simp;omega
 unfold Uw;generalize u8n c=b at *;subst e;have:=HB (k0:=k0) s f b s.length 0 0 LF [] (by omega) (by omega) (by omega) (by simp);refine j5 this ?_;rw[WH];rfl
theorem HZ(c:UInt8)(s:By):(G8 (pcs c s)).isEmpty=false:=by
 cases h:pcs c s with
 | nil=>exact absurd h (BT c s)
 | cons a r=>rfl
theorem HD(s:By)(c:Int)(a:A7 s.length=true)(b:inR c 256=true):∃r H,Uw LF s c (λl=>rv (.fl 0) [.arr true 9 1 l])=rv r H/\r.stab [1] H = .s (.sl false false 1 (G8 (pcs (u8n c) s))):=by refine⟨_,_,OF s c a b,?_⟩;simp[PV.stab,Qh,PV.snap,HZ]
theorem YI(d:List By)(x:By)(m:Nat):ad3 (G8 (d++j1 (m+1) [])) d.length (E3 (o8 (G8 (d++j1 (m+1) [])) d.length []) 0 [SV.str x])=G8 ((d++[x])++j1 m []):=by
 have a:o8 (G8 (d++j1 (m+1) [])) d.length []=[SV.str []]:=by
  unfold G8;grind
 rw[a];simp only[E3,List.set_cons_zero,Ve];rw[show d.length=(G8 d).length by simp,List.set_append_right _ _ (by omega),Nat.sub_self,ad7];simp[G8]
theorem EV{R:Type}{k0:By->Int->LL->Option R}(c:UInt8):∀(m n:Nat) (s:By) (d:List By),s.length<=1000000000->m=s.count c->d.length+m<=1000000000->m<n->
  ∃(f:List By) (e:By),pcs c s=f++[e]/\e.length<=s.length/\T0 LF n s [c] 0 ((d.length+m:Nat):Int) (d.length:Int) (G8 (d++j1 (m+1) [])) k0=k0 e ((d.length+m:Nat):Int) (G8 ((d++f)++[[]])):=by
 intro m
 induction m with
 | zero=>
  intro n s d k b x y;obtain⟨n,rfl⟩:∃m,n=m+1:=⟨n-1,by omega⟩
  have a:c∉s:=aa6.1 b.symm;refine⟨[],s,Lq a,o3 _,?_⟩;rw[T0];rw[A4];simp
 | succ m z=>
  intro n s d k b x y;obtain⟨n,rfl⟩:∃m,n=m+1:=⟨n-1,by omega⟩
  rcases Cw c s with a|⟨p,r,rfl,a⟩
  ·rw[aa6.2 a] at b;omega
  ·have i:m=r.count c:=by
    rw[List.count_append,af5,aa6.2 a] at b;simp at b;omega
   simp only[aa7,x8] at k;obtain⟨f,e,w,B,j⟩:=z n r (d++[p]) (by omega) i (by simp<;>omega) (by omega);refine⟨p::f,e,by rw[BS a,w];rfl,by simp<;>omega,?_⟩;rw[T0];have l:((p.length:Int)+1)=((p.length+1:Nat):Int):=by omega
   have o:(d.length:Int)+1=((d.length+1:Nat):Int):=by omega
   have q:((p.length+1:Nat):Int).toNat=p.length+1:=by omega
   have A:(((p++c::r).length:Nat):Int)=((p.length+(r.length+1):Nat):Int):=by simp
   have t:(p++c::r).take p.length=p:=List.take_left' rfl;have u:(p++c::r).drop (p.length+1)=r:=by
    rw[show p++c::r=(p++[c])++r by simp,List.drop_left' (by simp)]
   rw[Xb a];have v:(G8 (d++j1 (m+1+1) [])).length=d.length+(m+2):=by simp<;>omega
   simp (disch:=first|omega|(simp;omega)) only[C6,F3,Q0,cond_true,cond_false,vl,Int.add_zero,G6,P3,M5,v,j7,ac8,Af,Bk,t,YI];rw[decide_eq_true (show d.length<d.length+(m+2) by omega),cond_true,show((1:Nat):Int)=1 from rfl,l];simp (disch:=first|omega|(simp;omega)) only[G6,P3,cond_true,Af,q,u,o];have g:((((d++[p]).length+m:Nat):Int))=((d.length+(m+1):Nat):Int):=by simp<;>omega
   have h:(((d++[p]).length:Nat):Int)=((d.length+1:Nat):Int):=by simp
   rw[g,h] at j;rw[j];simp
theorem KR{R:Type}{k0:Unit->Option R}{g:Nat->LL->Option R}(s p:By)(v n:Int)(w:A7 s.length=true)(x:(p.length==1)=true)(y:(v==0)=true)(z:(n==(-1))=true) :
  Tf LF s p v n k0 g=g (pcs (p.getD 0 0) s).length (G8 (pcs (p.getD 0 0) s)):=by
 have C:=Z8 w;have:=G7;obtain⟨c,rfl⟩:∃c,p=[c]:=by
  match p,x with
  | [c],_=>exact⟨c,rfl⟩
 have:v=0:=by simpa using y
 subst this;have:n=-1:=by simpa using z
 subst this;have G:=Gp c s;have B:=Fc c s;obtain⟨d,D,u,F,h⟩:=EV (R:=R) (k0:=λf a b=>cond (inR a (b7 b))
     (cond (decide ((h9 a)<(b7 b)))
      (vl (A2 (a+(1))) λe=>
      cond (O2 (0) e (b7 (ad3 b (h9 a) (E3 (o8 b (h9 a) []) 0 [(SV.str f)]))))
       (g ((h9 e)-0) (ad3 b (h9 a) (E3 (o8 b (h9 a) []) 0 [(SV.str f)])))
       (none))
      (none))
     (none)) c (s.count c) LF s [] C rfl (by simp<;>omega) (by omega)
 unfold Tf;have i:A2 ((s.count c:Int)+1)=((s.count c+1:Nat):Int):=A3;have j:A2 ((s.length:Int)+1)=((s.length+1:Nat):Int):=A3;have k:(if ((s.length+1:Nat):Int)<((s.count c+1:Nat):Int) then ((s.length+1:Nat):Int) else ((s.count c+1:Nat):Int))=((s.count c+1:Nat):Int):=V8;have l:((s.count c+1:Nat):Int)-1=(s.count c:Int):=by omega
 have m:(j1 (s.count c+1) [SV.str ([]:By)])=G8 ([]++j1 (s.count c+1) []):=by simp[G8]
 simp only[s7,vl,ac8,i,j,k,j7,m];rw[show((-1:Int)==0)=false from rfl,show([c]==([]:By))=false from rfl,show ltI (-1) 0=true from rfl,decide_eq_true (show(0:Int)<=((s.count c+1:Nat):Int) by omega),decide_eq_true (show((s.count c+1:Nat):Int)<=((s.count c+1:Nat):Int) by omega),E9 (by omega),l,A3];simp only[cond_true,cond_false,beq_self_eq_true,Bool.and_self];simp only[af6,ah5] at h;refine j5 h ?_;have o:(G8 ((([]:List By)++d)++[[]]))=G8 (d++j1 (0+1) []):=by simp
 have A:d.length=s.count c:=by grind
 have q:=YI d D 0;rw[<-A,o];have t:(G8 (d++j1 (0+1) ([]:By))).length=d.length+1:=by simp
 have r:A2 ((d.length:Int)+1)=((d.length+1:Nat):Int):=A3;simp only[j7,q,t,vl,r];rw[K7,decide_eq_true (show d.length<d.length+1 by omega),P3 (by omega) (by omega) (by simp),u];simp
theorem EW(s p:By)(v n:Int)(a:A7 s.length=true)(b:(p.length==1)=true)(c:(v==0)=true)(d:(n==(-1))=true) :
  ∃r H,Tf LF s p v n (λ_=>rv (.fl 0) [.arr true 9 1 []]) (λi l=>rv (.vw 0 0 i) [.arr false 9 1 l])=rv r H/\r.stab [1] H = .s (.sl false false 1 (G8 (pcs (p.getD 0 0) s))):=by
 refine⟨_,_,KR s p v n a b c d,?_⟩;simp[PV.stab,Qh,PV.snap,x6]
theorem MA{R:Type}{d:LL->Option R}(s:By)(b:A7 s.length=true):parts LF s d=d (G8 (E1 s)):=by
 have j:=Z8 b;have g:=Fc 46 s;have i:=Gp 46 s;unfold parts;rw[b];have e:A2 (((pcs 46 s).length:Int)-1)=(((pcs 46 s).length-1:Nat):Int):=by rw[A3];omega
 simp only[cond_true,vl,s7,show((1:Nat)==1)=true from rfl,L3,e,j7];by_cases c:1<(pcs 46 s).length
 ·rw[A8,K7,Bw (by omega),Ew];have f:(pcs 46 s).getD ((pcs 46 s).length-1) []=(pcs 46 s).getLastD []:=by grind
  rw[f];by_cases a:(pcs 46 s).getLastD []=[]
  ·rw[a,show(([]:By)==[])=true from rfl,Kb];have:E1 s=(pcs 46 s).dropLast:=by unfold E1;rw[if_pos ⟨c,a⟩]
   rw[this,ac7,Bk,j7];simp[G8]
  ·rw[show((pcs 46 s).getLastD []==[])=false from beq_eq_false_iff_ne.2 a];have:E1 s=pcs 46 s:=by unfold E1;rw[if_neg (λh=>a h.2)]
   grind
 ·rw[A4];have:E1 s=pcs 46 s:=by unfold E1;rw[if_neg (λh=>c h.1)]
  grind
theorem GQ{R:Type}{d:LL->Option R}(s:By)(b:A7 s.length=true):CG LF s d=d (G8 (E1 s)):=by
 have j:=Z8 b;have g:=Fc 46 s;have i:=Gp 46 s;unfold CG;rw[b];have e:A2 (((pcs 46 s).length:Int)-1)=(((pcs 46 s).length-1:Nat):Int):=by rw[A3];omega
 simp only[cond_true,vl,show u8n 46=46 from rfl,L3,e,j7];by_cases c:1<(pcs 46 s).length
 ·rw[A8,K7,Bw (by omega),Ew];have f:(pcs 46 s).getD ((pcs 46 s).length-1) []=(pcs 46 s).getLastD []:=by grind
  rw[f];by_cases a:(pcs 46 s).getLastD []=[]
  ·rw[a,show(([]:By)==[])=true from rfl,Kb];have:E1 s=(pcs 46 s).dropLast:=by unfold E1;rw[if_pos ⟨c,a⟩]
   rw[this,ac7,Bk,j7];simp[G8]
  ·rw[show((pcs 46 s).getLastD []==[])=false from beq_eq_false_iff_ne.2 a];have:E1 s=pcs 46 s:=by unfold E1;rw[if_neg (λh=>a h.2)]
   grind
 ·rw[A4];have:E1 s=pcs 46 s:=by unfold E1;rw[if_neg (λh=>c h.1)]
  grind
theorem Aw7(s:By):oct s=match D7 10 0 s with|some n=>(if n<=255 then (if ab2 n=s then some n else none) else none)|none=>none:=by unfold oct;grind
theorem BZ{R:Type}{g:Unit->Option R}{h:By->Option R}(s:By)(q:s.length<=1000000000):∀(r i n v:Nat),i+r=s.length->r<n->R4 LF n s (i:Int) g h=if (D7 10 v (s.drop i)).isSome then h s else g ():=by
 intro r
 induction r with
 | zero=>
  intro i n v k l;obtain⟨n,rfl⟩:∃m,n=m+1:=⟨n-1,by omega⟩
  rw[R4];rw[A4,u3 (by omega)];rfl
 | succ r o=>
  intro i n v k l;obtain⟨n,rfl⟩:∃m,n=m+1:=⟨n-1,by omega⟩
  rw[R4,K2 s i (by omega)];rw[L5];have j:=(s.getD i 0).toNat_lt;generalize s.getD i 0=b at *;have f:((i:Int)+1)=((i+1:Nat):Int):=by omega
  simp (disch:=omega) only[C6,M5,cond_true,G6];simp only[D7];rw[f,o (i+1) n (min (v*10+dig b) Ip) (by omega) (by omega)];rcases Nu b with⟨a,d,e⟩|⟨a,d,e⟩|⟨a,d,e⟩|⟨a,d,p,e⟩
  ·simp only[if_pos (show dig b<10 by omega)];rw[A4,A4];rfl
  ·simp only[if_neg (show ¬dig b<10 by omega)];rw[A4,A8];rfl
  ·simp only[if_neg (show ¬dig b<10 by omega)];rw[A4,A8];rfl
  ·simp only[if_neg (show ¬dig b<10 by omega)];by_cases c:b.toNat<48
   ·rw[A8];rfl
   ·rw[A4,A8];rfl
theorem CA{R:Type}{a:Bool->Option R}(s:By)(b:A7 s.length=true):Qw LF s a=a (!s.isEmpty&&(D7 10 0 s).isSome):=by
 have c:=Z8 b;have:=G7;unfold Qw;refine j5 (BZ s c s.length 0 LF 0 (by omega) (by omega)) ?_;rw[u9];cases d:D7 10 0 s with
 | none=>simp
 | some v=>cases s<;>rfl
theorem TS{R:Type}{g:Int->Option R}(b:Int)(h:inR b 256=true):XS LF b g=g (dig (u8n b):Int):=by
 simp only[inR,j4,decide_eq_true_eq] at h;have j:b=((u8n b).toNat:Int):=by
  unfold u8n;simp;omega
 generalize u8n b=c at *;subst j;have i:=c.toNat_lt;unfold XS;simp only[Lx,Lw,vl];rcases Nu c with⟨d,f,e⟩|⟨d,f,e⟩|⟨d,f,e⟩|⟨d,f,o,e⟩
 ·have a:A2 (wu8 ((c.toNat:Int)-48))=((dig c:Nat):Int):=by
   rw[W0,A3];omega
  simp (disch:=omega) only[C6,F3,j3,j0,cond_false,cond_true,a]
 ·have a:A2 (A2 (wu8 ((c.toNat:Int)-97))+10)=((dig c:Nat):Int):=by
   rw[W0,G6 (n:=(c.toNat:Int)-97) (by omega) (by omega),A3];omega
  simp (disch:=omega) only[C6,F3,j3,j0,cond_false,cond_true,a]
 ·have a:A2 (A2 (wu8 ((c.toNat:Int)-65))+10)=((dig c:Nat):Int):=by
   rw[W0,G6 (n:=(c.toNat:Int)-65) (by omega) (by omega),A3];omega
  simp (disch:=omega) only[C6,F3,j3,j0,cond_false,cond_true,a]
 ·rw[e];by_cases k:c.toNat<48
  ·simp (disch:=omega) only[C6,F3,j3,j0,cond_false,cond_true];rfl
  ·by_cases l:c.toNat<65
   ·simp (disch:=omega) only[C6,F3,j3,j0,cond_false,cond_true];rfl
   ·by_cases m:c.toNat<97
    ·simp (disch:=omega) only[C6,F3,j3,j0,cond_false,cond_true];rfl
    ·simp (disch:=omega) only[C6,F3,j3,j0,cond_false,cond_true];rfl
theorem GO{R:Type}{g:Unit->Option R}{h:Int->Option R}(s:By)(p:s.length<=1000000000):∀(r i a n:Nat),i+r=s.length->r<n->a<=Ip->
  Ct LF n s (a:Int) (i:Int) g h=match D7 16 a (s.drop i) with|some v=>h (v:Int)|none=>g ():=by
 intro r
 induction r with
 | zero=>
  intro i a n k l j;obtain⟨n,rfl⟩:∃m,n=m+1:=⟨n-1,by omega⟩
  rw[Ct];rw[A4,u3 (by omega)];rfl
 | succ r o=>
  intro i a n k l j;obtain⟨n,rfl⟩:∃m,n=m+1:=⟨n-1,by omega⟩
  rw[Ct,K2 s i (by omega)];rw[L5,Rc,YW];generalize s.getD i 0=b at *;have c:((i:Int)+1)=((i+1:Nat):Int):=by omega
  have f:Ip=1099511627776:=rfl;simp (disch:=omega) only[C6,M5,cond_true,vl,G6];simp only[D7];rw[c];by_cases e:dig b<16
  ·have d:A2 (A2 ((a:Int)*16)+(dig b:Int))=((a*16+dig b:Nat):Int):=by
    rw[G6 (n:=(a:Int)*16) (by omega) (by omega),A3];simp
   rw[if_pos e,A8];simp (disch:=omega) only[G6,j3,cond_false] at d ⊢;rw[d,YH];exact o (i+1) _ n (by omega) (by omega) (by omega)
  ·rw[if_neg e,A4];rfl
theorem NT{R:Type}{f:Unit->Option R}{g:Int->Option R}(s:By)(u:s.length<=1000000000)(base:Nat)(t:base<=16):∀(r i a n:Nat),i+r=s.length->r<n->a<=Ip->
  Am LF n s (base:Int) (a:Int) (i:Int) f g=match D7 base a (s.drop i) with|some v=>g (v:Int)|none=>f ():=by
 intro r
 induction r with
 | zero=>
  intro i a n l o k;obtain⟨n,rfl⟩:∃m,n=m+1:=⟨n-1,by omega⟩
  rw[Am];rw[A4,u3 (by omega)];rfl
 | succ r p=>
  intro i a n l o k;obtain⟨n,rfl⟩:∃m,n=m+1:=⟨n-1,by omega⟩
  rw[Am,K2 s i (by omega)];rw[L5,Rc,YW];generalize s.getD i 0=b at *;have c:((i:Int)+1)=((i+1:Nat):Int):=by omega
  have e:Ip=1099511627776:=rfl;simp only[D7,vl];rw[A8,K7,c,G6 (n:=((i+1:Nat):Int)) (by omega) (by omega)];simp only[cond_true];by_cases d:dig b<base
  ·have q:a*base<=1099511627776*16:=ag5 (by omega) (by omega);have h:A2 ((a:Int)*(base:Int))=((a*base:Nat):Int):=by
    rw[<-af4];exact A3
   have j:A2 (((a*base:Nat):Int)+(dig b:Int))=((a*base+dig b:Nat):Int):=by
    rw[A3];rfl
   rw[if_pos d,A8,h,j,YH];exact p (i+1) _ n (by omega) (by omega) (by omega)
  ·rw[if_neg d,A4];rfl
theorem TY{R:Type}{a:Int->Bool->Option R}(s:By)(p:A7 s.length=true):XZ LF s a=a (Jt (Bu s):Int) (Bu s).isSome:=by
 have u:=Z8 p;have:=G7;have o:∀x:By,x.length<=1000000000->Ct LF LF x 0 0 (λ_=>a 0 false) (λn=>a n true)=a (Jt (D7 16 0 x):Int) (D7 16 0 x).isSome:=by
  intro x f;refine j5 (GO x f x.length 0 0 LF (by omega) (by omega) (by unfold Ip;omega)) ?_;rw[u9];cases D7 16 0 x<;>rfl
 have c:∀(x:By) (b:Nat),b<=16->x.length<=1000000000->Am LF LF x (b:Int) 0 0 (λ_=>a 0 false) (λn=>a n true)=a (Jt (D7 b 0 x):Int) (D7 b 0 x).isSome:=by
  intro x b q f;refine j5 (NT x f b q x.length 0 0 LF (by omega) (by omega) (by unfold Ip;omega)) ?_;rw[u9];cases D7 b 0 x<;>rfl
 have d:=λx=>c x 10 (by omega)
 have g:=λx=>c x 8 (by omega)
 have i:=λx=>c x 16 (by omega)
 rw[show((10:Nat):Int)=10 from rfl] at d;rw[show((8:Nat):Int)=8 from rfl] at g;rw[show((16:Nat):Int)=16 from rfl] at i;unfold XZ Bu;by_cases e:s=[]
 ·subst e;rfl
 have j:(s==([]:By))=false:=by simpa using e
 have t:0<s.length:=aa2.2 e;rw[if_neg e,j];simp only[cond_false,Qz,Ra,Ii,Ij,Ik,vl];have k:=R9 (s.getD 0 0) 48 (by omega);have l:=R9 (s.getD 1 0) 120 (by omega);have m:=R9 (s.getD 1 0) 88 (by omega);rw[show((48:Nat):Int)=48 from rfl] at k;rw[show((120:Nat):Int)=120 from rfl] at l;rw[show((88:Nat):Int)=88 from rfl] at m;simp only[Gi,PT,k,l,m,show p5 48=(48:UInt8) from rfl,show p5 120=(120:UInt8) from rfl,show p5 88=(88:UInt8) from rfl];by_cases r:2<=s.length
 ·simp (disch:=omega) only[F3,M5,P3,j0,cond_true,Af,show 1<s.length by omega,true_and];unfold U3;grind
 ·rw[A8];have f:U3 s=false:=by
   cases h:U3 s with
   | false=>rfl
   | true=>have:=Hv h;omega
  grind
def r8(n:Nat):LL:=j1 n [SV.int .u16 0]
theorem Fe(n:Nat):ptI (n:Int)=Bq n:=rfl
theorem FW{R:Type}{a:Bool->Option R}(n:Int):BW LF n a=a (ptI n):=by
 unfold BW;by_cases h:n<0
 ·rw[C6 h];have:ptI n=false:=by
   cases n with
   | ofNat m=>exact absurd h (by simp)
   | negSucc m=>rfl
  grind
 ·obtain⟨m,rfl⟩:=j8 (show 0<=n by omega);rw[A4,Fe];unfold Bq;by_cases b:1114111<m
  ·rw[A8];have:s6 m 1114111=false:=by rw[ae1,ne_eq,ag3];omega
   grind
  ·rw[A4];have:s6 m 1114111=true:=by rw[ag3];omega
   rw[this];by_cases c:m<55296
   ·rw[A8];have:ae4 m 55296=true:=by rw[ag4];omega
    grind
   ·rw[A4];have e:ae4 m 55296=false:=by rw[ae1,ne_eq,ag4];omega
    rw[e];simp only[j0,cond_true,cond_false,ab1,ad8]
    congr 1
theorem Ry{d k:Nat}(h:455<d):Ni d k=Ni (d / 35) (k+36):=by rw[Ni,dif_pos h]
theorem Jg{d k:Nat}(h:¬ 455<d):Ni d k=k+36*d / (d+38):=by rw[Ni,dif_neg h]
theorem FS{R:Type}{k0:Int->Int->Option R}:∀(d n k:Nat),d<2305843009213693952->d<n->k+d<=4611686018427387904->
  ∃a b,a<=455/\b<=k+d/\Ni d k=b+36*a / (a+38)/\Az LF n (d:Int) (k:Int) k0=k0 (a:Int) (b:Int):=by
 intro d
 induction d using Nat.strongRecOn with
 | _ d l=>
  intro n k p r q;obtain⟨n,rfl⟩:∃m,n=m+1:=⟨n-1,by omega⟩
  rw[Az];by_cases h:455<d
  ·obtain⟨a,b,g,o,i,j⟩:=l (d / 35) (by omega) n (k+36) (by omega) (by omega) (by omega);refine⟨a,b,g,by omega,by rw[Ry h];exact i,?_⟩;have e:u6 (d:Int) 35=((d / 35:Nat):Int):=I6 d 35;have c:A2 ((d / 35:Nat):Int)=((d / 35:Nat):Int):=A3;have f:A2 ((k:Int)+36)=((k+36:Nat):Int):=by rw[A3];rfl
   rw[A8];simp only[cond_true,vl,e,c,f];exact j
  ·refine⟨d,k,by omega,by omega,Jg h,?_⟩;rw[A4];rfl
theorem FT{R:Type}{k0:Int->Option R}(d c:Int)(f:Bool)(z:ltN d 1152921504606846976=true)(A:ltN c 1000000=true)(B:ltI 0 c=true):Ui LF d c f k0=k0 (K3 d.toNat c.toNat f:Nat):=by
 obtain⟨k,F⟩:=J7.1 z;obtain⟨j,D⟩:=J7.1 A;obtain⟨d,rfl⟩:=j8 k;obtain⟨c,rfl⟩:=j8 j;have J:=QM.1 B;have C:=G7;have key:∀x:Nat,x<1152921504606846976->Ay LF (x:Int) (c:Int) k0=k0 ((Ni (x+x / c) 0:Nat):Int):=by
  intro x L;have G:x / c<=x:=ac3 _ _;unfold Ay;have g:u6 (x:Int) (c:Int)=((x / c:Nat):Int):=I6 x c;generalize x / c=q at *;have h:A2 (q:Int)=(q:Int):=A3;have o:A2 ((x:Int)+(q:Int))=((x+q:Nat):Int):=by rw[A3];rfl
  rw[show((c:Int)!=0)=true by simp;omega];simp only[cond_true,vl,g,h,o];obtain⟨a,n,H,I,w,y⟩:=FS (R:=R) (k0:=λb l=>vl (A2 ((36)*b)) λm=>vl (A2 (b+(38))) λe=>cond (e !=(0)) (vl (A2 (u6 m e)) λi=>k0 (A2 (l+i))) none) (x+q) LF 0 (by omega) (by omega) (by omega);refine j5 y ?_;have K:36*a / (a+38)<=36*a:=ac3 _ _;have p:A2 (36*(a:Int))=((36*a:Nat):Int):=by rw[A3];rfl
  have r:A2 ((a:Int)+38)=((a+38:Nat):Int):=by rw[A3];rfl
  have t:u6 ((36*a:Nat):Int) ((a+38:Nat):Int)=((36*a / (a+38):Nat):Int):=I6 _ _;have u:A2 ((36*a / (a+38):Nat):Int)=((36*a / (a+38):Nat):Int):=A3;have v:A2 ((n:Int)+((36*a / (a+38):Nat):Int))=((n+36*a / (a+38):Nat):Int):=by rw[A3];rfl
  simp only[vl,p,r,t,u,v];rw[show(((a+38:Nat):Int)!=0)=true by simp;omega,w];rfl
 unfold Ui K3;rw[j7,j7];cases f with
 | true=>
  have g:u6 (d:Int) 700=((d / 700:Nat):Int):=I6 d 700;have h:A2 ((d / 700:Nat):Int)=((d / 700:Nat):Int):=A3;simp only[cond_true,vl,g,h,if_true];exact key _ (by omega)
 | false=>
  have g:u6 (d:Int) 2=((d / 2:Nat):Int):=I6 d 2;have h:A2 ((d / 2:Nat):Int)=((d / 2:Nat):Int):=A3;simp only[cond_false,vl,g,h,u0,if_false];exact key _ (by omega)
theorem Ws{d:Nat}(h:d<36):(Q5 d).toNat=if d<26 then 97+d else 22+d:=by unfold Q5;split<;>simp<;>omega
theorem TL{R:Type}{b:Int->Option R}(d:Int)(c:ltN d 36=true):Ad8 LF d b=b ((Q5 d.toNat).toNat:Nat):=by
 obtain⟨a,e⟩:=J7.1 c;obtain⟨d,rfl⟩:=j8 a;unfold Ad8;rw[j7,Ws (by omega)];by_cases h:d<26
 ·rw[A8,if_pos h];simp only[cond_true,vl]
  congr 1
  rw[A3,W0];rfl
 ·rw[A4,if_neg h];simp only[cond_false,vl]
  congr 1
  rw[G6 (n:=48+(d:Int)) (by omega) (by omega),A3,W0];omega
theorem Qc(b:UInt8):(97<=b.toNat/\b.toNat<=122/\Ga b=some (b.toNat-97))\/(65<=b.toNat/\b.toNat<=90/\Ga b=some (b.toNat-65))\/(48<=b.toNat/\b.toNat<=57/\Ga b=some (b.toNat-22))\/(¬(97<=b.toNat/\b.toNat<=122)/\¬(65<=b.toNat/\b.toNat<=90)/\¬(48<=b.toNat/\b.toNat<=57)/\Ga b=none):=by unfold Ga;grind
theorem TO{R:Type}{g:Int->Option R}(b:Int)(h:inR b 256=true):XP LF b g=g (C2 (u8n b)):=by
 simp only[inR,j4,decide_eq_true_eq] at h;have j:b=((u8n b).toNat:Int):=by
  unfold u8n;simp;omega
 generalize u8n b=c at *;subst j;have i:=c.toNat_lt;unfold XP C2;simp only[Lt,Ls,vl];rcases Qc c with⟨d,f,e⟩|⟨d,f,e⟩|⟨d,f,e⟩|⟨d,f,o,e⟩
 ·have a:A2 (wu8 ((c.toNat:Int)-97))=((c.toNat-97:Nat):Int):=by
   rw[W0,A3];omega
  simp (disch:=omega) only[C6,F3,j3,j0,cond_false,cond_true,a,e]
 ·have a:A2 (wu8 ((c.toNat:Int)-65))=((c.toNat-65:Nat):Int):=by
   rw[W0,A3];omega
  simp (disch:=omega) only[C6,F3,j3,j0,cond_false,cond_true,a,e]
 ·have a:A2 (A2 (wu8 ((c.toNat:Int)-48))+26)=((c.toNat-22:Nat):Int):=by
   rw[W0,G6 (n:=(c.toNat:Int)-48) (by omega) (by omega),A3];omega
  simp (disch:=omega) only[C6,F3,j3,j0,cond_false,cond_true,a,e]
 ·rw[e];by_cases k:c.toNat<48
  ·simp (disch:=omega) only[C6,F3,j3,j0,cond_false,cond_true]
  ·by_cases l:c.toNat<65
   ·simp (disch:=omega) only[C6,F3,j3,j0,cond_false,cond_true]
   ·by_cases m:c.toNat<97
    ·simp (disch:=omega) only[C6,F3,j3,j0,cond_false,cond_true]
    ·simp (disch:=omega) only[C6,F3,j3,j0,cond_false,cond_true]
end
section
open Go
theorem KX(x y:By)(r:List By)(p:By):ad0 (x::y::r) p=x++(p++ad0 (y::r) p):=by simp[ad0,List.intercalate]
theorem FH(c:UInt8):∀(n:Nat) (s:By),s.length<=n->ad0 (pcs c s) [c]=s
 | n,s,a=>by
  rcases Cw c s with h|⟨p,r,rfl,h⟩
  ·rw[Lq h,Lib.join_one]
  ·rw[BS h];cases n with
   | zero=>simp at a
   | succ n=>
    have d:=FH c n r (by simp at a;omega);cases b:pcs c r with
    | nil=>exact absurd b (BT c r)
    | cons y q=>
     rw[KX,<-b,d];rfl
theorem Xd(c:UInt8)(s:By):ad0 (pcs c s) [c]=s:=FH c _ s (o3 _)
theorem Pn(b:UInt8):P8 b=true↔(97<=b.toNat/\b.toNat<=122)\/(48<=b.toNat/\b.toNat<=57)\/b=45\/b=95:=by simp[P8,or_assoc]
def sh(n:Nat)(i:Int):Int:=if i=-1 then -1 else i+n
end
section
open Go Go.Op
abbrev Ent:=By × Bool
abbrev Al7:=By × Bool × Int
def Nx(e:Ent):List SV:=[.str e.1,.bool e.2]
def Ax2(p:Al7):List SV:=[.str p.1,.bool p.2.1,.int .i64 p.2.2]
def F1(l:List Ent):LL:=l.map Nx
def Ax3(l:List Al7):LL:=l.map Ax2
def La:List SV->Bool|[.str _,.bool _]=>true|_=>false
def S9(a:List SV):Ent:=((a.getD 0 .nilp).gS,(a.getD 1 .nilp).gB)
theorem Xj{b c:Type}(f:c->b)(g:b->c):∀l:List b,(∀x∈l,f (g x)=x)->l=(l.map g).map f
 | [],_=>rfl
 | a::r,h=>by
  rw[ad9,ad9,h a (by simp),<-Xj f g r λx d=>h x (by simp[d])]
theorem QD{l:LL}(h:l.all La=true):l=F1 (l.map S9):=Xj Nx S9 l λx a=>by
 have:=o7.1 h x a;unfold La at this;split at this
 ·rfl
 ·cases this
theorem Ab0(l:List Ent):(F1 l).map S9=l:=by unfold F1;rw[ac1];exact List.map_id'' (λ_=>rfl) l
@[simp] theorem D4(l:List Ent):(F1 l).length=l.length:=p6 ..
@[simp] theorem Av0(l:List Al7):(Ax3 l).length=l.length:=p6 ..
def noE:Ent:=([],false)
theorem Gq{l:List Ent}{i:Nat}(h:i<l.length):(F1 l).getD i []=Nx (l.getD i noE):=by unfold F1;simp[j2,a7 h]
theorem U0:∀x y:By,bytesLess x y=decide (x<y)
 | [],[]=>by simp[bytesLess]
 | _::_,[]=>by simp[bytesLess]
 | [],_::_=>by simp[bytesLess]
 | a::x,b::y=>by
  rw[bytesLess,U0 x y];simp only[ac5];by_cases c:a<b<;>by_cases d:a=b<;>by_cases e:x<y<;>simp[c,d,e]
def rl(s:By):List By:=(pcs 46 s).reverse
def Tx:List By->List By->Bool
 | _,[]=>false
 | [],_::_=>true
 | x::r,y::q=>bytesLess x y||(x==y&&Tx r q)
theorem Qr:∀x y:List By,Tx x y=decide (x<y)
 | [],[]=>by simp[Tx]
 | _::_,[]=>by simp[Tx]
 | [],_::_=>by simp[Tx]
 | a::x,b::y=>by
  rw[Tx,Qr x y,U0];simp only[ac5];by_cases c:a<b<;>by_cases d:a=b<;>by_cases e:x<y<;>simp[c,d,e]
def O9(a b:By):Bool:=Tx (rl a) (rl b)
def Gb(a b:By):Int:=cond (bytesLess a b) (-1) (cond (bytesLess b a) 1 0)
def Aa0(a b:Int):Int:=cond (ltI a b) (-1) (cond (ltI b a) 1 0)
def Bj(a b:By):Int:=cond (O9 a b) (-1) (cond (O9 b a) 1 0)
theorem Ao7{a b:By}(h:rl a=rl b):a=b:=by rw[<-Xd 46 a,<-Xd 46 b,List.reverse_inj.1 h]
theorem Gy(a:By):O9 a a=false:=by unfold O9;rw[Qr];simp
theorem Jq{a b c:By}(h:O9 a b=true)(g:O9 b c=true):O9 a c=true:=by unfold O9 at *;rw[Qr] at *;exact decide_eq_true (List.lt_trans (of_decide_eq_true h) (of_decide_eq_true g))
theorem FO{a b:By}(h:O9 a b=false)(g:O9 b a=false):a=b:=by unfold O9 at *;rw[Qr] at *;exact Ao7 (List.le_antisymm (ai3.1 (of_decide_eq_false g)) (ai3.1 (of_decide_eq_false h)))
theorem LU{a b:By}(h:O9 a b=true):O9 b a=false:=by
 cases e:O9 b a with
 | false=>rfl
 | true=>exact absurd (Jq h e) (by rw[Gy];simp)
theorem Ps{a b c:By}(h:O9 a b=false)(g:O9 b c=false):O9 a c=false:=by
 cases e:O9 a c with
 | false=>rfl
 | true=>
  cases d:O9 b a with
  | true=>rw[Jq d e] at g;cases g
  | false=>
   obtain rfl:=FO h d;rw[e] at g;cases g
theorem Gn(a b:By):decide (Bj a b<0)=O9 a b:=by
 unfold Bj;cases O9 a b with
 | true=>rfl
 | false=>cases O9 b a<;>rfl
theorem IB{a:Type}[Inhabited a](f:a->By):Sort.SWO (s8 λx y:a=>Bj (f x) (f y)) where
 irrefl x:=by unfold s8;rw[Gn,Gy]
 trans x y z h g:=by unfold s8 at *;rw[Gn] at *;exact Jq h g
 ntrans x y z h g:=by unfold s8 at *;rw[Gn] at *;exact Ps h g
def asc(h:List By):Bool:=match h with
 | []=>true
 | [_]=>true
 | a::b::r=>O9 a b&&asc (b::r)
theorem Fk(c:UInt8):∀(p a s:By),G4 c a (p++c::s)=G4 c a p++G4 c [] s
 | [],a,s=>by simp[G4]
 | b::r,a,s=>by
  simp only[v8,G4];split
  ·rw[Fk c r [] s];rfl
  ·exact Fk c r _ s
def smE(a:List SV):Bool:=A7 (elS a).length
def Au8(z:Bool)(l:LL):Bool:=!z||l.isEmpty
def ixE(l:List Ent):Int:=match l.findIdx? (λe=>!K5 e.1) with|some j=>(j:Int)|none=>-1
def VQ(l:List Ent):Bool:=l.any λe=>!K5 e.1
def KM:List By->Bool
 | []=>false
 | a::r=>r.contains a||KM r
def Of(e:Ent):List Ent->List Ent
 | []=>[e]
 | a::r=>if O9 a.1 e.1 then a::Of e r else e::a::r
def isE(l:List Ent):List Ent:=l.foldl (λa e=>Of e a) []
def Ua(l:List Ent):Nat:=if 1000<l.length then 3 else if VQ l then 14 else if KM (l.map ai6) then 17 else 0
abbrev Jc:={e:Ent // e.1.length<=1000000000}
instance:Inhabited Jc:=⟨⟨noE,by decide⟩⟩
def mkS(e:Ent):Jc:=if h:e.1.length<=1000000000 then ⟨e,h⟩ else default
def Fl(d:Array Jc):Array Jc:=Sort.pdq (s8 λx y:Jc=>Bj x.1.1 y.1.1) d 0 d.size (Lib.bitLen d.size) true true
def Hh(l:List Ent):List Ent:=(Fl (l.map mkS).toArray).toList.map (·.1)
theorem Oc{l:List Ent}{i:Nat}(h:i<l.length):gX (F1 l) i 0=(l.getD i noE).1:=by unfold gX gC;rw[Gq h];rfl
theorem An3{l:List Ent}{i:Nat}(h:i<l.length):gY (F1 l) i 1=(l.getD i noE).2:=by unfold gY gC;rw[Gq h];rfl
theorem Ad3{l:List Ent}{i:Nat}(h:i<l.length):okE ⟨true,true,[.str,.bool]⟩ (F1 l) i 0=true:=by unfold okE;rw[Gq h];simp[h,okS,Nx,SV.has]
theorem CM{l:List Ent}(h:(F1 l).all smE=true){i:Nat}(a:i<l.length):A7 (l.getD i noE).1.length=true:=by
 have:=o7.1 h ((F1 l).getD i []) (by
  rw[j2,a7 (by simpa using a)];exact j6 _)
 rw[Gq a] at this;exact this
abbrev leE(a b:Ent):Prop:=O9 b.1 a.1=false
theorem HQ(d:Array Jc):(Fl d).toList.Perm d.toList/\(Fl d).size=d.size/\∀i j,i<j->j<d.size->O9 ((Fl d)[j]!).1.1 ((Fl d)[i]!).1.1=false:=by
 obtain⟨⟨e,_,a⟩,f⟩:=Sort.pdq_sorts (s8 λx y:Jc=>Bj x.1.1 y.1.1) (IB λx:Jc=>x.1.1) d 0 d.size (Lib.bitLen d.size) true true (af1 _) (o3 _) (.inl rfl);have c:(Fl d).size=d.size:=e;refine⟨?_,c,λi j b g=>?_⟩
 ·have a:((Fl d).extract 0 d.size).toList.Perm (d.extract 0 d.size).toList:=a;rw[<-c] at a;rw[ae0,c,ae0] at a;exact a
 ·have:=f i j (af1 _) b g;unfold s8 at this;rw[Gn] at this;exact this
theorem QQ{e:Ent}(h:e.1.length<=1000000000):(mkS e).1=e:=by unfold mkS;rw[dif_pos h]
theorem ON{l:List Ent}(b:∀e∈l,e.1.length<=1000000000):(Hh l).Perm l:=by have h:=((HQ (l.map mkS).toArray).1).map (·.1);unfold Hh;refine h.trans ?_;simp only[ac1];rw[show y8 ((λx:Jc=>x.1) ∘ mkS) l=l from(List.map_congr_left (g:=id) λe a=>QQ (b e a)).trans (ai2 l)]
theorem Og(e:Ent):∀l:List Ent,(Of e l).Perm (e::l)
 | []=>.refl _
 | a::r=>by
  unfold Of;split
  ·exact((Og e r).cons a).trans (.swap e a r)
  ·exact .refl _
theorem Pm(e:Ent):∀{l:List Ent},l.Pairwise leE->(Of e l).Pairwise leE
 | [],_=>by simp[Of]
 | a::r,h=>by
  rw[u5] at h;unfold Of;split
  ·rename_i c;rw[u5];refine⟨λb d=>?_,Pm e h.2⟩;rcases p9.1 ((Og e r).mem_iff.1 d) with rfl|d
   ·exact LU c
   ·exact h.1 b d
  ·rename_i c;have c:O9 a.1 e.1=false:=by simpa using c
   rw[u5];refine⟨λb d=>?_,u5.2 h⟩;rcases p9.1 d with rfl|d
   ·exact c
   ·exact Ps (h.1 b d) c
theorem KV:∀(l a:List Ent),(l.foldl (λa e=>Of e a) a).Perm (l++a)/\(a.Pairwise leE->(l.foldl (λa e=>Of e a) a).Pairwise leE)
 | [],a=>⟨.refl _,id⟩
 | e::r,a=>by
  obtain⟨b,c⟩:=KV r (Of e a);exact⟨b.trans (((Og e a).append_left r).trans List.perm_middle),λh=>c (Pm e h)⟩
theorem Tn(l:List Ent):(isE l).Perm l:=by simpa[isE] using(KV l []).1
theorem KW(l:List Ent):(isE l).Pairwise leE:=(KV l []).2 .nil
theorem Sx:∀{l:List By},KM l=false↔l.Nodup
 | []=>by simp[KM]
 | a::r=>by
  unfold KM;rw[Bool.or_eq_false_iff,Sx,ac2];simp
theorem Ac0{E:List Ent}{e:Ent}:e∈isE E↔e∈E:=(Tn E).mem_iff
def kE(e:Ent)(l:List Ent):Nat:=(l.takeWhile λa=>O9 a.1 e.1).length
theorem Tj(e:Ent):∀l:List Ent,Of e l=l.take (kE e l)++e::l.drop (kE e l)
 | []=>rfl
 | a::r=>by
  unfold Of kE;rw[aa3];cases h:O9 a.1 e.1 with
  | true=>
   simp only[if_true,x8,List.take_succ_cons,List.drop_succ_cons,v8];rw[Tj e r];rfl
  | false=>simp
theorem Ak9(e:Ent):∀l:List Ent,kE e l<=l.length
 | []=>o3 _
 | a::r=>by
  unfold kE;rw[aa3];have:=Ak9 e r;unfold kE at this;split
  ·simp;exact this
  ·simp
theorem WT{e:Ent}:∀{l:List Ent},l.Pairwise leE->((decide (kE e l<l.length)&&(l.getD (kE e l) noE).1==e.1)=(l.map ai6).contains e.1)
 | [],_=>rfl
 | a::r,f=>by
  rw[u5] at f;have g:=WT (e:=e) f.2;unfold kE at g ⊢;rw[aa3,ad9,List.contains_cons];cases h:O9 a.1 e.1 with
  | true=>
   have d:(e.1==a.1)=false:=by
    rw[beq_eq_false_iff_ne];intro q;rw[q,Gy] at h;cases h
   rw[d,ab1,<-g];simp
  | false=>
   simp only[u0,if_false,af6,x8,Nat.zero_lt_succ,decide_true,ad8,s7];cases q:(a.1==e.1) with
   | true=>rw[show(e.1==a.1)=true by rw[beq_iff_eq] at q ⊢;exact q.symm];rfl
   | false=>
    rw[show(e.1==a.1)=false by rw[beq_eq_false_iff_ne] at q ⊢;exact ah7 q,ab1];cases b:(r.map ai6).contains e.1 with
    | false=>rfl
    | true=>
     obtain⟨c,b,i⟩:=ah4.1 (ac6.1 b);have:=f.1 c b;have this:O9 c.1 a.1=false:=this;rw[i] at this;have:=FO h this;rw[this] at q;simp at q
end
end Go.Proofs.YtigcfngmhpofjaaGreatDoor.E
